/-
  No cell of these rows narrows 'for every input' (looked for: loops, veiled, ifaces, maps, wideKeys, modest, calm, conditions, laid).
  DERIVED. THE GIVEN ROWS OF THIS SEAT. 12 by the template 'for every input the law returns true; each argument reads behind the call as it read before'; 0 by the template 'total and deterministic' (their statements: YtabjkjbclpokeaaTotals.lean).
  GIVEN WITH THE SEED: the statements are not yours to turn. If you find one false, say at which input.
  Laid BY PROGRAM, IN A SANDBOX (cutbox-rows.mjs): the forced cells as the released guide's own fill.sh prints them over the translation 9a09f3c3039f034c… (all of the seat's roots in one cut). By AI agents, Wed Nov 11 2026. No macro, syntax, notation, axiom, sorry.
-/
import Derived.Test.YtabjkjbclpokeaaChecked
import GoSem.Claim
import GoSem.ClaimJoined
import GoSem.ClaimMapViews
import Derived.JoinedTies
import Derived.KernelRfl
namespace Go.Proofs.Ytabjkjbclpokeaa
/- THE CELL 'sum', in the pinned program and in every row, IS THE sha256 OF THE DUMP (.gsa) THAT YtabjkjbclpokeaaProg.lean LOADS. Nothing in Lean hashes anything: it is a label: what it is worth is what the hold of that sum in a sandbox is worth. -/
noncomputable def Try.pinned : Pinned := { name := "ytabjkjbclpokeaa", sum := "9a09f3c3039f034c9a1ad5d9a4dc1c64a6752da735694431052c7eb53647e423", checked := Try.checked }
namespace Rows
def none {H : Type} : Left H := { results := [], args := [] }

/-- 'laws.FnExactPieceValid': WHATEVER THE INPUT: true; the input reads as it did. -/
def fnExactPieceValidSpec : ChangeSpec := { name := "fnExactPieceValid", fn := fun _ => fun
  | [d] => { results := [.lit (.bool true)], args := [d] }
  | _ => none }
def fnExactPieceValidRow : OpenClaim := { program := "ytabjkjbclpokeaa", sum := "9a09f3c3039f034c9a1ad5d9a4dc1c64a6752da735694431052c7eb53647e423", func := "loop.example/capkernel/laws.FnExactPieceValid", spec := "fnExactPieceValid", apart := false }
def FnExactPieceValidSaid : Prop := fnExactPieceValidRow.holds Try.pinned (OpenSpec.ofChange fnExactPieceValidSpec)

/-- ITS FALSE NEIGHBOUR: 'it returns false'. Refute it at one input. -/
def fnExactPieceValidWrong : ChangeSpec := { name := "fnExactPieceValid", fn := fun _ => fun
  | [d] => { results := [.lit (.bool false)], args := [d] }
  | _ => none }
def FnExactPieceValidWrongFalsely : Prop := fnExactPieceValidRow.holds Try.pinned (OpenSpec.ofChange fnExactPieceValidWrong)

/-- 'laws.FnExactObjectBits': WHATEVER THE INPUT: true; the input reads as it did. -/
def fnExactObjectBitsSpec : ChangeSpec := { name := "fnExactObjectBits", fn := fun _ => fun
  | [d] => { results := [.lit (.bool true)], args := [d] }
  | _ => none }
def fnExactObjectBitsRow : OpenClaim := { program := "ytabjkjbclpokeaa", sum := "9a09f3c3039f034c9a1ad5d9a4dc1c64a6752da735694431052c7eb53647e423", func := "loop.example/capkernel/laws.FnExactObjectBits", spec := "fnExactObjectBits", apart := false }
def FnExactObjectBitsSaid : Prop := fnExactObjectBitsRow.holds Try.pinned (OpenSpec.ofChange fnExactObjectBitsSpec)

/-- ITS FALSE NEIGHBOUR: 'it returns false'. Refute it at one input. -/
def fnExactObjectBitsWrong : ChangeSpec := { name := "fnExactObjectBits", fn := fun _ => fun
  | [d] => { results := [.lit (.bool false)], args := [d] }
  | _ => none }
def FnExactObjectBitsWrongFalsely : Prop := fnExactObjectBitsRow.holds Try.pinned (OpenSpec.ofChange fnExactObjectBitsWrong)

/-- 'laws.FnExactPieceRoom': WHATEVER THE INPUT: true; the input reads as it did. -/
def fnExactPieceRoomSpec : ChangeSpec := { name := "fnExactPieceRoom", fn := fun _ => fun
  | [d1, d2] => { results := [.lit (.bool true)], args := [d1, d2] }
  | _ => none }
def fnExactPieceRoomRow : OpenClaim := { program := "ytabjkjbclpokeaa", sum := "9a09f3c3039f034c9a1ad5d9a4dc1c64a6752da735694431052c7eb53647e423", func := "loop.example/capkernel/laws.FnExactPieceRoom", spec := "fnExactPieceRoom", apart := false }
def FnExactPieceRoomSaid : Prop := fnExactPieceRoomRow.holds Try.pinned (OpenSpec.ofChange fnExactPieceRoomSpec)

/-- ITS FALSE NEIGHBOUR: 'it returns false'. Refute it at one input. -/
def fnExactPieceRoomWrong : ChangeSpec := { name := "fnExactPieceRoom", fn := fun _ => fun
  | [d1, d2] => { results := [.lit (.bool false)], args := [d1, d2] }
  | _ => none }
def FnExactPieceRoomWrongFalsely : Prop := fnExactPieceRoomRow.holds Try.pinned (OpenSpec.ofChange fnExactPieceRoomWrong)

/-- 'laws.FnExactSplitPiece': WHATEVER THE INPUT: true; the input reads as it did. -/
def fnExactSplitPieceSpec : ChangeSpec := { name := "fnExactSplitPiece", fn := fun _ => fun
  | [d] => { results := [.lit (.bool true)], args := [d] }
  | _ => none }
def fnExactSplitPieceRow : OpenClaim := { program := "ytabjkjbclpokeaa", sum := "9a09f3c3039f034c9a1ad5d9a4dc1c64a6752da735694431052c7eb53647e423", func := "loop.example/capkernel/laws.FnExactSplitPiece", spec := "fnExactSplitPiece", apart := false }
def FnExactSplitPieceSaid : Prop := fnExactSplitPieceRow.holds Try.pinned (OpenSpec.ofChange fnExactSplitPieceSpec)

/-- ITS FALSE NEIGHBOUR: 'it returns false'. Refute it at one input. -/
def fnExactSplitPieceWrong : ChangeSpec := { name := "fnExactSplitPiece", fn := fun _ => fun
  | [d] => { results := [.lit (.bool false)], args := [d] }
  | _ => none }
def FnExactSplitPieceWrongFalsely : Prop := fnExactSplitPieceRow.holds Try.pinned (OpenSpec.ofChange fnExactSplitPieceWrong)

/-- 'laws.FnExactRetypePiece': WHATEVER THE INPUT: true; the input reads as it did. -/
def fnExactRetypePieceSpec : ChangeSpec := { name := "fnExactRetypePiece", fn := fun _ => fun
  | [d1, d2, d3] => { results := [.lit (.bool true)], args := [d1, d2, d3] }
  | _ => none }
def fnExactRetypePieceRow : OpenClaim := { program := "ytabjkjbclpokeaa", sum := "9a09f3c3039f034c9a1ad5d9a4dc1c64a6752da735694431052c7eb53647e423", func := "loop.example/capkernel/laws.FnExactRetypePiece", spec := "fnExactRetypePiece", apart := false }
def FnExactRetypePieceSaid : Prop := fnExactRetypePieceRow.holds Try.pinned (OpenSpec.ofChange fnExactRetypePieceSpec)

/-- ITS FALSE NEIGHBOUR: 'it returns false'. Refute it at one input. -/
def fnExactRetypePieceWrong : ChangeSpec := { name := "fnExactRetypePiece", fn := fun _ => fun
  | [d1, d2, d3] => { results := [.lit (.bool false)], args := [d1, d2, d3] }
  | _ => none }
def FnExactRetypePieceWrongFalsely : Prop := fnExactRetypePieceRow.holds Try.pinned (OpenSpec.ofChange fnExactRetypePieceWrong)

/-- 'laws.FnObjectBits': WHATEVER THE INPUT: true; the input reads as it did. -/
def fnObjectBitsSpec : ChangeSpec := { name := "fnObjectBits", fn := fun _ => fun
  | [d] => { results := [.lit (.bool true)], args := [d] }
  | _ => none }
def fnObjectBitsRow : OpenClaim := { program := "ytabjkjbclpokeaa", sum := "9a09f3c3039f034c9a1ad5d9a4dc1c64a6752da735694431052c7eb53647e423", func := "loop.example/capkernel/laws.FnObjectBits", spec := "fnObjectBits", inPlace := ["internal/abi.NoEscape"], apart := false }
def FnObjectBitsSaid : Prop := fnObjectBitsRow.holds Try.pinned (OpenSpec.ofChange fnObjectBitsSpec)

/-- ITS FALSE NEIGHBOUR: 'it returns false'. Refute it at one input. -/
def fnObjectBitsWrong : ChangeSpec := { name := "fnObjectBits", fn := fun _ => fun
  | [d] => { results := [.lit (.bool false)], args := [d] }
  | _ => none }
def FnObjectBitsWrongFalsely : Prop := fnObjectBitsRow.holds Try.pinned (OpenSpec.ofChange fnObjectBitsWrong)

/-- 'laws.FnPieceValid': WHATEVER THE INPUT: true; the input reads as it did. -/
def fnPieceValidSpec : ChangeSpec := { name := "fnPieceValid", fn := fun _ => fun
  | [d] => { results := [.lit (.bool true)], args := [d] }
  | _ => none }
def fnPieceValidRow : OpenClaim := { program := "ytabjkjbclpokeaa", sum := "9a09f3c3039f034c9a1ad5d9a4dc1c64a6752da735694431052c7eb53647e423", func := "loop.example/capkernel/laws.FnPieceValid", spec := "fnPieceValid", inPlace := ["internal/abi.NoEscape"], apart := false }
def FnPieceValidSaid : Prop := fnPieceValidRow.holds Try.pinned (OpenSpec.ofChange fnPieceValidSpec)

/-- ITS FALSE NEIGHBOUR: 'it returns false'. Refute it at one input. -/
def fnPieceValidWrong : ChangeSpec := { name := "fnPieceValid", fn := fun _ => fun
  | [d] => { results := [.lit (.bool false)], args := [d] }
  | _ => none }
def FnPieceValidWrongFalsely : Prop := fnPieceValidRow.holds Try.pinned (OpenSpec.ofChange fnPieceValidWrong)

/-- 'laws.FnSplitPiece': WHATEVER THE INPUT: true; the input reads as it did. -/
def fnSplitPieceSpec : ChangeSpec := { name := "fnSplitPiece", fn := fun _ => fun
  | [d] => { results := [.lit (.bool true)], args := [d] }
  | _ => none }
def fnSplitPieceRow : OpenClaim := { program := "ytabjkjbclpokeaa", sum := "9a09f3c3039f034c9a1ad5d9a4dc1c64a6752da735694431052c7eb53647e423", func := "loop.example/capkernel/laws.FnSplitPiece", spec := "fnSplitPiece", inPlace := ["internal/abi.NoEscape"], apart := false }
def FnSplitPieceSaid : Prop := fnSplitPieceRow.holds Try.pinned (OpenSpec.ofChange fnSplitPieceSpec)

/-- ITS FALSE NEIGHBOUR: 'it returns false'. Refute it at one input. -/
def fnSplitPieceWrong : ChangeSpec := { name := "fnSplitPiece", fn := fun _ => fun
  | [d] => { results := [.lit (.bool false)], args := [d] }
  | _ => none }
def FnSplitPieceWrongFalsely : Prop := fnSplitPieceRow.holds Try.pinned (OpenSpec.ofChange fnSplitPieceWrong)

/-- 'laws.FnPieceHalves': WHATEVER THE INPUT: true; the input reads as it did. -/
def fnPieceHalvesSpec : ChangeSpec := { name := "fnPieceHalves", fn := fun _ => fun
  | [d1, d2] => { results := [.lit (.bool true)], args := [d1, d2] }
  | _ => none }
def fnPieceHalvesRow : OpenClaim := { program := "ytabjkjbclpokeaa", sum := "9a09f3c3039f034c9a1ad5d9a4dc1c64a6752da735694431052c7eb53647e423", func := "loop.example/capkernel/laws.FnPieceHalves", spec := "fnPieceHalves", inPlace := ["internal/abi.NoEscape"], apart := false }
def FnPieceHalvesSaid : Prop := fnPieceHalvesRow.holds Try.pinned (OpenSpec.ofChange fnPieceHalvesSpec)

/-- ITS FALSE NEIGHBOUR: 'it returns false'. Refute it at one input. -/
def fnPieceHalvesWrong : ChangeSpec := { name := "fnPieceHalves", fn := fun _ => fun
  | [d1, d2] => { results := [.lit (.bool false)], args := [d1, d2] }
  | _ => none }
def FnPieceHalvesWrongFalsely : Prop := fnPieceHalvesRow.holds Try.pinned (OpenSpec.ofChange fnPieceHalvesWrong)

/-- 'laws.FnPieceWhole': WHATEVER THE INPUT: true; the input reads as it did. -/
def fnPieceWholeSpec : ChangeSpec := { name := "fnPieceWhole", fn := fun _ => fun
  | [d] => { results := [.lit (.bool true)], args := [d] }
  | _ => none }
def fnPieceWholeRow : OpenClaim := { program := "ytabjkjbclpokeaa", sum := "9a09f3c3039f034c9a1ad5d9a4dc1c64a6752da735694431052c7eb53647e423", func := "loop.example/capkernel/laws.FnPieceWhole", spec := "fnPieceWhole", inPlace := ["internal/abi.NoEscape"], apart := false }
def FnPieceWholeSaid : Prop := fnPieceWholeRow.holds Try.pinned (OpenSpec.ofChange fnPieceWholeSpec)

/-- ITS FALSE NEIGHBOUR: 'it returns false'. Refute it at one input. -/
def fnPieceWholeWrong : ChangeSpec := { name := "fnPieceWhole", fn := fun _ => fun
  | [d] => { results := [.lit (.bool false)], args := [d] }
  | _ => none }
def FnPieceWholeWrongFalsely : Prop := fnPieceWholeRow.holds Try.pinned (OpenSpec.ofChange fnPieceWholeWrong)

/-- 'laws.FnPieceRoom': WHATEVER THE INPUT: true; the input reads as it did. -/
def fnPieceRoomSpec : ChangeSpec := { name := "fnPieceRoom", fn := fun _ => fun
  | [d] => { results := [.lit (.bool true)], args := [d] }
  | _ => none }
def fnPieceRoomRow : OpenClaim := { program := "ytabjkjbclpokeaa", sum := "9a09f3c3039f034c9a1ad5d9a4dc1c64a6752da735694431052c7eb53647e423", func := "loop.example/capkernel/laws.FnPieceRoom", spec := "fnPieceRoom", inPlace := ["internal/abi.NoEscape"], apart := false }
def FnPieceRoomSaid : Prop := fnPieceRoomRow.holds Try.pinned (OpenSpec.ofChange fnPieceRoomSpec)

/-- ITS FALSE NEIGHBOUR: 'it returns false'. Refute it at one input. -/
def fnPieceRoomWrong : ChangeSpec := { name := "fnPieceRoom", fn := fun _ => fun
  | [d] => { results := [.lit (.bool false)], args := [d] }
  | _ => none }
def FnPieceRoomWrongFalsely : Prop := fnPieceRoomRow.holds Try.pinned (OpenSpec.ofChange fnPieceRoomWrong)

/-- 'laws.FnRetypePiece': WHATEVER THE INPUT: true; the input reads as it did. -/
def fnRetypePieceSpec : ChangeSpec := { name := "fnRetypePiece", fn := fun _ => fun
  | [d] => { results := [.lit (.bool true)], args := [d] }
  | _ => none }
def fnRetypePieceRow : OpenClaim := { program := "ytabjkjbclpokeaa", sum := "9a09f3c3039f034c9a1ad5d9a4dc1c64a6752da735694431052c7eb53647e423", func := "loop.example/capkernel/laws.FnRetypePiece", spec := "fnRetypePiece", inPlace := ["internal/abi.NoEscape"], apart := false }
def FnRetypePieceSaid : Prop := fnRetypePieceRow.holds Try.pinned (OpenSpec.ofChange fnRetypePieceSpec)

/-- ITS FALSE NEIGHBOUR: 'it returns false'. Refute it at one input. -/
def fnRetypePieceWrong : ChangeSpec := { name := "fnRetypePiece", fn := fun _ => fun
  | [d] => { results := [.lit (.bool false)], args := [d] }
  | _ => none }
def FnRetypePieceWrongFalsely : Prop := fnRetypePieceRow.holds Try.pinned (OpenSpec.ofChange fnRetypePieceWrong)

/- THE SECOND FORM. 'bulk': how many values and letters a reading holds, each counted each time it is reached (what is shared counts as often as it is met; a slice's spare places count too). A statement '..UptoSaid' is the law's where the arguments, and the package variables that the reading takes, are together of bulk at most 1048576: NARROWER than '..Said'. Prove '..Said' where nothing that the law and all that it calls make is longer than what came in: it says more and counts as full. Else prove '..UptoSaid'. A law counts once. -/
mutual
def uptoBulk {H : Type} : DataW H → Nat
  | .lit (.string bytes) => bytes.length + 1
  | .lit _ => 1
  | .nil => 1
  | .ptr d => uptoBulk d + 1
  | .slice elems spare => uptoBulkAll elems + uptoBulkAll spare + 1
  | .agg parts => uptoBulkAll parts + 1
  | .iface _ d => uptoBulk d + 1
  | .map entries => uptoBulkEntries entries + 1
  | .held _ => 1
def uptoBulkAll {H : Type} : List (DataW H) → Nat
  | [] => 0
  | d :: r => uptoBulk d + uptoBulkAll r
def uptoBulkEntries {H : Type} : List (Lit × DataW H) → Nat
  | [] => 0
  | x :: r => uptoBulkEntry x + uptoBulkEntries r
def uptoBulkEntry {H : Type} : Lit × DataW H → Nat
  | (.string bytes, d) => bytes.length + uptoBulk d + 1
  | (_, d) => uptoBulk d + 1
 end
def uptoSmall : (H : Type) → List (DataW H) → Bool := fun _ ds => decide (uptoBulkAll ds ≤ 1048576)
def OpenSpec.upto (s : _root_.Go.ChangeSpec) : _root_.Go.OpenSpec := { _root_.Go.OpenSpec.ofChange s with cond := some uptoSmall }

/-- 'laws.FnExactPieceValid', WHERE WHAT IT READS IS OF BULK AT MOST 1048576: true; the input reads as it did. -/
def fnExactPieceValidUptoRow : OpenClaim := { program := "ytabjkjbclpokeaa", sum := "9a09f3c3039f034c9a1ad5d9a4dc1c64a6752da735694431052c7eb53647e423", func := "loop.example/capkernel/laws.FnExactPieceValid", spec := "fnExactPieceValid", apart := false, narrowed := true }
def FnExactPieceValidUptoSaid : Prop := fnExactPieceValidUptoRow.holds Try.pinned (OpenSpec.upto fnExactPieceValidSpec)

/-- 'laws.FnExactObjectBits', WHERE WHAT IT READS IS OF BULK AT MOST 1048576: true; the input reads as it did. -/
def fnExactObjectBitsUptoRow : OpenClaim := { program := "ytabjkjbclpokeaa", sum := "9a09f3c3039f034c9a1ad5d9a4dc1c64a6752da735694431052c7eb53647e423", func := "loop.example/capkernel/laws.FnExactObjectBits", spec := "fnExactObjectBits", apart := false, narrowed := true }
def FnExactObjectBitsUptoSaid : Prop := fnExactObjectBitsUptoRow.holds Try.pinned (OpenSpec.upto fnExactObjectBitsSpec)

/-- 'laws.FnExactPieceRoom', WHERE WHAT IT READS IS OF BULK AT MOST 1048576: true; the input reads as it did. -/
def fnExactPieceRoomUptoRow : OpenClaim := { program := "ytabjkjbclpokeaa", sum := "9a09f3c3039f034c9a1ad5d9a4dc1c64a6752da735694431052c7eb53647e423", func := "loop.example/capkernel/laws.FnExactPieceRoom", spec := "fnExactPieceRoom", apart := false, narrowed := true }
def FnExactPieceRoomUptoSaid : Prop := fnExactPieceRoomUptoRow.holds Try.pinned (OpenSpec.upto fnExactPieceRoomSpec)

/-- 'laws.FnExactSplitPiece', WHERE WHAT IT READS IS OF BULK AT MOST 1048576: true; the input reads as it did. -/
def fnExactSplitPieceUptoRow : OpenClaim := { program := "ytabjkjbclpokeaa", sum := "9a09f3c3039f034c9a1ad5d9a4dc1c64a6752da735694431052c7eb53647e423", func := "loop.example/capkernel/laws.FnExactSplitPiece", spec := "fnExactSplitPiece", apart := false, narrowed := true }
def FnExactSplitPieceUptoSaid : Prop := fnExactSplitPieceUptoRow.holds Try.pinned (OpenSpec.upto fnExactSplitPieceSpec)

/-- 'laws.FnExactRetypePiece', WHERE WHAT IT READS IS OF BULK AT MOST 1048576: true; the input reads as it did. -/
def fnExactRetypePieceUptoRow : OpenClaim := { program := "ytabjkjbclpokeaa", sum := "9a09f3c3039f034c9a1ad5d9a4dc1c64a6752da735694431052c7eb53647e423", func := "loop.example/capkernel/laws.FnExactRetypePiece", spec := "fnExactRetypePiece", apart := false, narrowed := true }
def FnExactRetypePieceUptoSaid : Prop := fnExactRetypePieceUptoRow.holds Try.pinned (OpenSpec.upto fnExactRetypePieceSpec)

/-- 'laws.FnObjectBits', WHERE WHAT IT READS IS OF BULK AT MOST 1048576: true; the input reads as it did. -/
def fnObjectBitsUptoRow : OpenClaim := { program := "ytabjkjbclpokeaa", sum := "9a09f3c3039f034c9a1ad5d9a4dc1c64a6752da735694431052c7eb53647e423", func := "loop.example/capkernel/laws.FnObjectBits", spec := "fnObjectBits", inPlace := ["internal/abi.NoEscape"], apart := false, narrowed := true }
def FnObjectBitsUptoSaid : Prop := fnObjectBitsUptoRow.holds Try.pinned (OpenSpec.upto fnObjectBitsSpec)

/-- 'laws.FnPieceValid', WHERE WHAT IT READS IS OF BULK AT MOST 1048576: true; the input reads as it did. -/
def fnPieceValidUptoRow : OpenClaim := { program := "ytabjkjbclpokeaa", sum := "9a09f3c3039f034c9a1ad5d9a4dc1c64a6752da735694431052c7eb53647e423", func := "loop.example/capkernel/laws.FnPieceValid", spec := "fnPieceValid", inPlace := ["internal/abi.NoEscape"], apart := false, narrowed := true }
def FnPieceValidUptoSaid : Prop := fnPieceValidUptoRow.holds Try.pinned (OpenSpec.upto fnPieceValidSpec)

/-- 'laws.FnSplitPiece', WHERE WHAT IT READS IS OF BULK AT MOST 1048576: true; the input reads as it did. -/
def fnSplitPieceUptoRow : OpenClaim := { program := "ytabjkjbclpokeaa", sum := "9a09f3c3039f034c9a1ad5d9a4dc1c64a6752da735694431052c7eb53647e423", func := "loop.example/capkernel/laws.FnSplitPiece", spec := "fnSplitPiece", inPlace := ["internal/abi.NoEscape"], apart := false, narrowed := true }
def FnSplitPieceUptoSaid : Prop := fnSplitPieceUptoRow.holds Try.pinned (OpenSpec.upto fnSplitPieceSpec)

/-- 'laws.FnPieceHalves', WHERE WHAT IT READS IS OF BULK AT MOST 1048576: true; the input reads as it did. -/
def fnPieceHalvesUptoRow : OpenClaim := { program := "ytabjkjbclpokeaa", sum := "9a09f3c3039f034c9a1ad5d9a4dc1c64a6752da735694431052c7eb53647e423", func := "loop.example/capkernel/laws.FnPieceHalves", spec := "fnPieceHalves", inPlace := ["internal/abi.NoEscape"], apart := false, narrowed := true }
def FnPieceHalvesUptoSaid : Prop := fnPieceHalvesUptoRow.holds Try.pinned (OpenSpec.upto fnPieceHalvesSpec)

/-- 'laws.FnPieceWhole', WHERE WHAT IT READS IS OF BULK AT MOST 1048576: true; the input reads as it did. -/
def fnPieceWholeUptoRow : OpenClaim := { program := "ytabjkjbclpokeaa", sum := "9a09f3c3039f034c9a1ad5d9a4dc1c64a6752da735694431052c7eb53647e423", func := "loop.example/capkernel/laws.FnPieceWhole", spec := "fnPieceWhole", inPlace := ["internal/abi.NoEscape"], apart := false, narrowed := true }
def FnPieceWholeUptoSaid : Prop := fnPieceWholeUptoRow.holds Try.pinned (OpenSpec.upto fnPieceWholeSpec)

/-- 'laws.FnPieceRoom', WHERE WHAT IT READS IS OF BULK AT MOST 1048576: true; the input reads as it did. -/
def fnPieceRoomUptoRow : OpenClaim := { program := "ytabjkjbclpokeaa", sum := "9a09f3c3039f034c9a1ad5d9a4dc1c64a6752da735694431052c7eb53647e423", func := "loop.example/capkernel/laws.FnPieceRoom", spec := "fnPieceRoom", inPlace := ["internal/abi.NoEscape"], apart := false, narrowed := true }
def FnPieceRoomUptoSaid : Prop := fnPieceRoomUptoRow.holds Try.pinned (OpenSpec.upto fnPieceRoomSpec)

/-- 'laws.FnRetypePiece', WHERE WHAT IT READS IS OF BULK AT MOST 1048576: true; the input reads as it did. -/
def fnRetypePieceUptoRow : OpenClaim := { program := "ytabjkjbclpokeaa", sum := "9a09f3c3039f034c9a1ad5d9a4dc1c64a6752da735694431052c7eb53647e423", func := "loop.example/capkernel/laws.FnRetypePiece", spec := "fnRetypePiece", inPlace := ["internal/abi.NoEscape"], apart := false, narrowed := true }
def FnRetypePieceUptoSaid : Prop := fnRetypePieceUptoRow.holds Try.pinned (OpenSpec.upto fnRetypePieceSpec)

end Rows
end Go.Proofs.Ytabjkjbclpokeaa
