/-
  No cell of these rows narrows 'for every input' (looked for: loops, veiled, ifaces, maps, wideKeys, modest, calm, conditions, laid).
  DERIVED. THE GIVEN ROWS OF THIS SEAT. 12 by the template 'for every input the law returns true; each argument reads behind the call as it read before'; 0 by the template 'total and deterministic' (their statements: YtejijkblkopoaaaTotals.lean).
  GIVEN WITH THE SEED: the statements are not yours to turn. If you find one false, say at which input.
  Laid BY PROGRAM, IN A SANDBOX (cutbox-rows.mjs): the forced cells as the released guide's own fill.sh prints them over the translation 3f6b8ca8699307c4… (all of the seat's roots in one cut). By AI agents, Wed Nov 11 2026. No macro, syntax, notation, axiom, sorry.
-/
import Derived.Test.YtejijkblkopoaaaChecked
import GoSem.Claim
import GoSem.ClaimJoined
import GoSem.ClaimMapViews
import Derived.JoinedTies
import Derived.KernelRfl
namespace Go.Proofs.Ytejijkblkopoaaa
/- THE CELL 'sum', in the pinned program and in every row, IS THE sha256 OF THE DUMP (.gsa) THAT YtejijkblkopoaaaProg.lean LOADS. Nothing in Lean hashes anything: it is a label: what it is worth is what the hold of that sum in a sandbox is worth. -/
noncomputable def Try.pinned : Pinned := { name := "ytejijkblkopoaaa", sum := "3f6b8ca8699307c4154a4a80ee5629e2bd89d431abc646df66f82f743e0628c8", checked := Try.checked }
namespace Rows
def none {H : Type} : Left H := { results := [], args := [] }

/-- 'laws.FnExactConstants': WHATEVER THE INPUT: true; the input reads as it did. -/
def fnExactConstantsSpec : ChangeSpec := { name := "fnExactConstants", fn := fun _ => fun
  | [] => { results := [.lit (.bool true)], args := [] }
  | _ => none }
def fnExactConstantsRow : OpenClaim := { program := "ytejijkblkopoaaa", sum := "3f6b8ca8699307c4154a4a80ee5629e2bd89d431abc646df66f82f743e0628c8", func := "loop.example/capkernel/laws.FnExactConstants", spec := "fnExactConstants", apart := false }
def FnExactConstantsSaid : Prop := fnExactConstantsRow.holds Try.pinned (OpenSpec.ofChange fnExactConstantsSpec)

/-- ITS FALSE NEIGHBOUR: 'it returns false'. Refute it at one input. -/
def fnExactConstantsWrong : ChangeSpec := { name := "fnExactConstants", fn := fun _ => fun
  | [] => { results := [.lit (.bool false)], args := [] }
  | _ => none }
def FnExactConstantsWrongFalsely : Prop := fnExactConstantsRow.holds Try.pinned (OpenSpec.ofChange fnExactConstantsWrong)

/-- 'laws.FnExactRightsValid': WHATEVER THE INPUT: true; the input reads as it did. -/
def fnExactRightsValidSpec : ChangeSpec := { name := "fnExactRightsValid", fn := fun _ => fun
  | [d] => { results := [.lit (.bool true)], args := [d] }
  | _ => none }
def fnExactRightsValidRow : OpenClaim := { program := "ytejijkblkopoaaa", sum := "3f6b8ca8699307c4154a4a80ee5629e2bd89d431abc646df66f82f743e0628c8", func := "loop.example/capkernel/laws.FnExactRightsValid", spec := "fnExactRightsValid", apart := false }
def FnExactRightsValidSaid : Prop := fnExactRightsValidRow.holds Try.pinned (OpenSpec.ofChange fnExactRightsValidSpec)

/-- ITS FALSE NEIGHBOUR: 'it returns false'. Refute it at one input. -/
def fnExactRightsValidWrong : ChangeSpec := { name := "fnExactRightsValid", fn := fun _ => fun
  | [d] => { results := [.lit (.bool false)], args := [d] }
  | _ => none }
def FnExactRightsValidWrongFalsely : Prop := fnExactRightsValidRow.holds Try.pinned (OpenSpec.ofChange fnExactRightsValidWrong)

/-- 'laws.FnExactRightsWithin': WHATEVER THE INPUT: true; the input reads as it did. -/
def fnExactRightsWithinSpec : ChangeSpec := { name := "fnExactRightsWithin", fn := fun _ => fun
  | [d1, d2] => { results := [.lit (.bool true)], args := [d1, d2] }
  | _ => none }
def fnExactRightsWithinRow : OpenClaim := { program := "ytejijkblkopoaaa", sum := "3f6b8ca8699307c4154a4a80ee5629e2bd89d431abc646df66f82f743e0628c8", func := "loop.example/capkernel/laws.FnExactRightsWithin", spec := "fnExactRightsWithin", apart := false }
def FnExactRightsWithinSaid : Prop := fnExactRightsWithinRow.holds Try.pinned (OpenSpec.ofChange fnExactRightsWithinSpec)

/-- ITS FALSE NEIGHBOUR: 'it returns false'. Refute it at one input. -/
def fnExactRightsWithinWrong : ChangeSpec := { name := "fnExactRightsWithin", fn := fun _ => fun
  | [d1, d2] => { results := [.lit (.bool false)], args := [d1, d2] }
  | _ => none }
def FnExactRightsWithinWrongFalsely : Prop := fnExactRightsWithinRow.holds Try.pinned (OpenSpec.ofChange fnExactRightsWithinWrong)

/-- 'laws.FnExactRightsMeet': WHATEVER THE INPUT: true; the input reads as it did. -/
def fnExactRightsMeetSpec : ChangeSpec := { name := "fnExactRightsMeet", fn := fun _ => fun
  | [d1, d2] => { results := [.lit (.bool true)], args := [d1, d2] }
  | _ => none }
def fnExactRightsMeetRow : OpenClaim := { program := "ytejijkblkopoaaa", sum := "3f6b8ca8699307c4154a4a80ee5629e2bd89d431abc646df66f82f743e0628c8", func := "loop.example/capkernel/laws.FnExactRightsMeet", spec := "fnExactRightsMeet", apart := false }
def FnExactRightsMeetSaid : Prop := fnExactRightsMeetRow.holds Try.pinned (OpenSpec.ofChange fnExactRightsMeetSpec)

/-- ITS FALSE NEIGHBOUR: 'it returns false'. Refute it at one input. -/
def fnExactRightsMeetWrong : ChangeSpec := { name := "fnExactRightsMeet", fn := fun _ => fun
  | [d1, d2] => { results := [.lit (.bool false)], args := [d1, d2] }
  | _ => none }
def FnExactRightsMeetWrongFalsely : Prop := fnExactRightsMeetRow.holds Try.pinned (OpenSpec.ofChange fnExactRightsMeetWrong)

/-- 'laws.FnExactRightsText': WHATEVER THE INPUT: true; the input reads as it did. -/
def fnExactRightsTextSpec : ChangeSpec := { name := "fnExactRightsText", fn := fun _ => fun
  | [d] => { results := [.lit (.bool true)], args := [d] }
  | _ => none }
def fnExactRightsTextRow : OpenClaim := { program := "ytejijkblkopoaaa", sum := "3f6b8ca8699307c4154a4a80ee5629e2bd89d431abc646df66f82f743e0628c8", func := "loop.example/capkernel/laws.FnExactRightsText", spec := "fnExactRightsText", inPlace := ["internal/abi.NoEscape"], apart := false }
def FnExactRightsTextSaid : Prop := fnExactRightsTextRow.holds Try.pinned (OpenSpec.ofChange fnExactRightsTextSpec)

/-- ITS FALSE NEIGHBOUR: 'it returns false'. Refute it at one input. -/
def fnExactRightsTextWrong : ChangeSpec := { name := "fnExactRightsText", fn := fun _ => fun
  | [d] => { results := [.lit (.bool false)], args := [d] }
  | _ => none }
def FnExactRightsTextWrongFalsely : Prop := fnExactRightsTextRow.holds Try.pinned (OpenSpec.ofChange fnExactRightsTextWrong)

/-- 'laws.FnExactReadRights': WHATEVER THE INPUT: true; the input reads as it did. -/
def fnExactReadRightsSpec : ChangeSpec := { name := "fnExactReadRights", fn := fun _ => fun
  | [d] => { results := [.lit (.bool true)], args := [d] }
  | _ => none }
def fnExactReadRightsRow : OpenClaim := { program := "ytejijkblkopoaaa", sum := "3f6b8ca8699307c4154a4a80ee5629e2bd89d431abc646df66f82f743e0628c8", func := "loop.example/capkernel/laws.FnExactReadRights", spec := "fnExactReadRights", inPlace := ["internal/abi.NoEscape"], apart := false }
def FnExactReadRightsSaid : Prop := fnExactReadRightsRow.holds Try.pinned (OpenSpec.ofChange fnExactReadRightsSpec)

/-- ITS FALSE NEIGHBOUR: 'it returns false'. Refute it at one input. -/
def fnExactReadRightsWrong : ChangeSpec := { name := "fnExactReadRights", fn := fun _ => fun
  | [d] => { results := [.lit (.bool false)], args := [d] }
  | _ => none }
def FnExactReadRightsWrongFalsely : Prop := fnExactReadRightsRow.holds Try.pinned (OpenSpec.ofChange fnExactReadRightsWrong)

/-- 'laws.FnRightsValid': WHATEVER THE INPUT: true; the input reads as it did. -/
def fnRightsValidSpec : ChangeSpec := { name := "fnRightsValid", fn := fun _ => fun
  | [d] => { results := [.lit (.bool true)], args := [d] }
  | _ => none }
def fnRightsValidRow : OpenClaim := { program := "ytejijkblkopoaaa", sum := "3f6b8ca8699307c4154a4a80ee5629e2bd89d431abc646df66f82f743e0628c8", func := "loop.example/capkernel/laws.FnRightsValid", spec := "fnRightsValid", inPlace := ["internal/abi.NoEscape"], apart := false }
def FnRightsValidSaid : Prop := fnRightsValidRow.holds Try.pinned (OpenSpec.ofChange fnRightsValidSpec)

/-- ITS FALSE NEIGHBOUR: 'it returns false'. Refute it at one input. -/
def fnRightsValidWrong : ChangeSpec := { name := "fnRightsValid", fn := fun _ => fun
  | [d] => { results := [.lit (.bool false)], args := [d] }
  | _ => none }
def FnRightsValidWrongFalsely : Prop := fnRightsValidRow.holds Try.pinned (OpenSpec.ofChange fnRightsValidWrong)

/-- 'laws.FnRightsMeet': WHATEVER THE INPUT: true; the input reads as it did. -/
def fnRightsMeetSpec : ChangeSpec := { name := "fnRightsMeet", fn := fun _ => fun
  | [d] => { results := [.lit (.bool true)], args := [d] }
  | _ => none }
def fnRightsMeetRow : OpenClaim := { program := "ytejijkblkopoaaa", sum := "3f6b8ca8699307c4154a4a80ee5629e2bd89d431abc646df66f82f743e0628c8", func := "loop.example/capkernel/laws.FnRightsMeet", spec := "fnRightsMeet", inPlace := ["internal/abi.NoEscape"], apart := false }
def FnRightsMeetSaid : Prop := fnRightsMeetRow.holds Try.pinned (OpenSpec.ofChange fnRightsMeetSpec)

/-- ITS FALSE NEIGHBOUR: 'it returns false'. Refute it at one input. -/
def fnRightsMeetWrong : ChangeSpec := { name := "fnRightsMeet", fn := fun _ => fun
  | [d] => { results := [.lit (.bool false)], args := [d] }
  | _ => none }
def FnRightsMeetWrongFalsely : Prop := fnRightsMeetRow.holds Try.pinned (OpenSpec.ofChange fnRightsMeetWrong)

/-- 'laws.FnRightsWithin': WHATEVER THE INPUT: true; the input reads as it did. -/
def fnRightsWithinSpec : ChangeSpec := { name := "fnRightsWithin", fn := fun _ => fun
  | [d] => { results := [.lit (.bool true)], args := [d] }
  | _ => none }
def fnRightsWithinRow : OpenClaim := { program := "ytejijkblkopoaaa", sum := "3f6b8ca8699307c4154a4a80ee5629e2bd89d431abc646df66f82f743e0628c8", func := "loop.example/capkernel/laws.FnRightsWithin", spec := "fnRightsWithin", inPlace := ["internal/abi.NoEscape"], apart := false }
def FnRightsWithinSaid : Prop := fnRightsWithinRow.holds Try.pinned (OpenSpec.ofChange fnRightsWithinSpec)

/-- ITS FALSE NEIGHBOUR: 'it returns false'. Refute it at one input. -/
def fnRightsWithinWrong : ChangeSpec := { name := "fnRightsWithin", fn := fun _ => fun
  | [d] => { results := [.lit (.bool false)], args := [d] }
  | _ => none }
def FnRightsWithinWrongFalsely : Prop := fnRightsWithinRow.holds Try.pinned (OpenSpec.ofChange fnRightsWithinWrong)

/-- 'laws.FnRightsChain': WHATEVER THE INPUT: true; the input reads as it did. -/
def fnRightsChainSpec : ChangeSpec := { name := "fnRightsChain", fn := fun _ => fun
  | [d1, d2] => { results := [.lit (.bool true)], args := [d1, d2] }
  | _ => none }
def fnRightsChainRow : OpenClaim := { program := "ytejijkblkopoaaa", sum := "3f6b8ca8699307c4154a4a80ee5629e2bd89d431abc646df66f82f743e0628c8", func := "loop.example/capkernel/laws.FnRightsChain", spec := "fnRightsChain", inPlace := ["internal/abi.NoEscape"], apart := false }
def FnRightsChainSaid : Prop := fnRightsChainRow.holds Try.pinned (OpenSpec.ofChange fnRightsChainSpec)

/-- ITS FALSE NEIGHBOUR: 'it returns false'. Refute it at one input. -/
def fnRightsChainWrong : ChangeSpec := { name := "fnRightsChain", fn := fun _ => fun
  | [d1, d2] => { results := [.lit (.bool false)], args := [d1, d2] }
  | _ => none }
def FnRightsChainWrongFalsely : Prop := fnRightsChainRow.holds Try.pinned (OpenSpec.ofChange fnRightsChainWrong)

/-- 'laws.FnRightsText': WHATEVER THE INPUT: true; the input reads as it did. -/
def fnRightsTextSpec : ChangeSpec := { name := "fnRightsText", fn := fun _ => fun
  | [d] => { results := [.lit (.bool true)], args := [d] }
  | _ => none }
def fnRightsTextRow : OpenClaim := { program := "ytejijkblkopoaaa", sum := "3f6b8ca8699307c4154a4a80ee5629e2bd89d431abc646df66f82f743e0628c8", func := "loop.example/capkernel/laws.FnRightsText", spec := "fnRightsText", inPlace := ["internal/abi.NoEscape"], apart := false }
def FnRightsTextSaid : Prop := fnRightsTextRow.holds Try.pinned (OpenSpec.ofChange fnRightsTextSpec)

/-- ITS FALSE NEIGHBOUR: 'it returns false'. Refute it at one input. -/
def fnRightsTextWrong : ChangeSpec := { name := "fnRightsText", fn := fun _ => fun
  | [d] => { results := [.lit (.bool false)], args := [d] }
  | _ => none }
def FnRightsTextWrongFalsely : Prop := fnRightsTextRow.holds Try.pinned (OpenSpec.ofChange fnRightsTextWrong)

/-- 'laws.FnReadRights': WHATEVER THE INPUT: true; the input reads as it did. -/
def fnReadRightsSpec : ChangeSpec := { name := "fnReadRights", fn := fun _ => fun
  | [d] => { results := [.lit (.bool true)], args := [d] }
  | _ => none }
def fnReadRightsRow : OpenClaim := { program := "ytejijkblkopoaaa", sum := "3f6b8ca8699307c4154a4a80ee5629e2bd89d431abc646df66f82f743e0628c8", func := "loop.example/capkernel/laws.FnReadRights", spec := "fnReadRights", inPlace := ["internal/abi.NoEscape"], apart := false }
def FnReadRightsSaid : Prop := fnReadRightsRow.holds Try.pinned (OpenSpec.ofChange fnReadRightsSpec)

/-- ITS FALSE NEIGHBOUR: 'it returns false'. Refute it at one input. -/
def fnReadRightsWrong : ChangeSpec := { name := "fnReadRights", fn := fun _ => fun
  | [d] => { results := [.lit (.bool false)], args := [d] }
  | _ => none }
def FnReadRightsWrongFalsely : Prop := fnReadRightsRow.holds Try.pinned (OpenSpec.ofChange fnReadRightsWrong)

/- THE SECOND FORM. 'bulk': how many values and letters a reading holds, each counted each time it is reached (what is shared counts as often as it is met; a slice's spare places count too). A statement '..UptoSaid' is the law's where the arguments, and the package variables that the reading takes, are together of bulk at most 1048576: NARROWER than '..Said'. Prove '..Said' where nothing that the law and all that it calls make is longer than what came in: it says more and counts as full. Else prove '..UptoSaid'. A law counts once. -/
mutual
def uptoBulk {H : Type} : DataW H → Nat
  | .lit (.string bytes) => bytes.length + 1
  | .lit _ => 1
  | .nil => 1
  | .ptr d => uptoBulk d + 1
  | .slice elems spare => uptoBulkAll elems + uptoBulkAll spare + 1
  | .agg parts => uptoBulkAll parts + 1
  | .iface _ d => uptoBulk d + 1
  | .map entries => uptoBulkEntries entries + 1
  | .held _ => 1
def uptoBulkAll {H : Type} : List (DataW H) → Nat
  | [] => 0
  | d :: r => uptoBulk d + uptoBulkAll r
def uptoBulkEntries {H : Type} : List (Lit × DataW H) → Nat
  | [] => 0
  | x :: r => uptoBulkEntry x + uptoBulkEntries r
def uptoBulkEntry {H : Type} : Lit × DataW H → Nat
  | (.string bytes, d) => bytes.length + uptoBulk d + 1
  | (_, d) => uptoBulk d + 1
 end
def uptoSmall : (H : Type) → List (DataW H) → Bool := fun _ ds => decide (uptoBulkAll ds ≤ 1048576)
def OpenSpec.upto (s : _root_.Go.ChangeSpec) : _root_.Go.OpenSpec := { _root_.Go.OpenSpec.ofChange s with cond := some uptoSmall }

/-- 'laws.FnExactConstants', WHERE WHAT IT READS IS OF BULK AT MOST 1048576: true; the input reads as it did. -/
def fnExactConstantsUptoRow : OpenClaim := { program := "ytejijkblkopoaaa", sum := "3f6b8ca8699307c4154a4a80ee5629e2bd89d431abc646df66f82f743e0628c8", func := "loop.example/capkernel/laws.FnExactConstants", spec := "fnExactConstants", apart := false, narrowed := true }
def FnExactConstantsUptoSaid : Prop := fnExactConstantsUptoRow.holds Try.pinned (OpenSpec.upto fnExactConstantsSpec)

/-- 'laws.FnExactRightsValid', WHERE WHAT IT READS IS OF BULK AT MOST 1048576: true; the input reads as it did. -/
def fnExactRightsValidUptoRow : OpenClaim := { program := "ytejijkblkopoaaa", sum := "3f6b8ca8699307c4154a4a80ee5629e2bd89d431abc646df66f82f743e0628c8", func := "loop.example/capkernel/laws.FnExactRightsValid", spec := "fnExactRightsValid", apart := false, narrowed := true }
def FnExactRightsValidUptoSaid : Prop := fnExactRightsValidUptoRow.holds Try.pinned (OpenSpec.upto fnExactRightsValidSpec)

/-- 'laws.FnExactRightsWithin', WHERE WHAT IT READS IS OF BULK AT MOST 1048576: true; the input reads as it did. -/
def fnExactRightsWithinUptoRow : OpenClaim := { program := "ytejijkblkopoaaa", sum := "3f6b8ca8699307c4154a4a80ee5629e2bd89d431abc646df66f82f743e0628c8", func := "loop.example/capkernel/laws.FnExactRightsWithin", spec := "fnExactRightsWithin", apart := false, narrowed := true }
def FnExactRightsWithinUptoSaid : Prop := fnExactRightsWithinUptoRow.holds Try.pinned (OpenSpec.upto fnExactRightsWithinSpec)

/-- 'laws.FnExactRightsMeet', WHERE WHAT IT READS IS OF BULK AT MOST 1048576: true; the input reads as it did. -/
def fnExactRightsMeetUptoRow : OpenClaim := { program := "ytejijkblkopoaaa", sum := "3f6b8ca8699307c4154a4a80ee5629e2bd89d431abc646df66f82f743e0628c8", func := "loop.example/capkernel/laws.FnExactRightsMeet", spec := "fnExactRightsMeet", apart := false, narrowed := true }
def FnExactRightsMeetUptoSaid : Prop := fnExactRightsMeetUptoRow.holds Try.pinned (OpenSpec.upto fnExactRightsMeetSpec)

/-- 'laws.FnExactRightsText', WHERE WHAT IT READS IS OF BULK AT MOST 1048576: true; the input reads as it did. -/
def fnExactRightsTextUptoRow : OpenClaim := { program := "ytejijkblkopoaaa", sum := "3f6b8ca8699307c4154a4a80ee5629e2bd89d431abc646df66f82f743e0628c8", func := "loop.example/capkernel/laws.FnExactRightsText", spec := "fnExactRightsText", inPlace := ["internal/abi.NoEscape"], apart := false, narrowed := true }
def FnExactRightsTextUptoSaid : Prop := fnExactRightsTextUptoRow.holds Try.pinned (OpenSpec.upto fnExactRightsTextSpec)

/-- 'laws.FnExactReadRights', WHERE WHAT IT READS IS OF BULK AT MOST 1048576: true; the input reads as it did. -/
def fnExactReadRightsUptoRow : OpenClaim := { program := "ytejijkblkopoaaa", sum := "3f6b8ca8699307c4154a4a80ee5629e2bd89d431abc646df66f82f743e0628c8", func := "loop.example/capkernel/laws.FnExactReadRights", spec := "fnExactReadRights", inPlace := ["internal/abi.NoEscape"], apart := false, narrowed := true }
def FnExactReadRightsUptoSaid : Prop := fnExactReadRightsUptoRow.holds Try.pinned (OpenSpec.upto fnExactReadRightsSpec)

/-- 'laws.FnRightsValid', WHERE WHAT IT READS IS OF BULK AT MOST 1048576: true; the input reads as it did. -/
def fnRightsValidUptoRow : OpenClaim := { program := "ytejijkblkopoaaa", sum := "3f6b8ca8699307c4154a4a80ee5629e2bd89d431abc646df66f82f743e0628c8", func := "loop.example/capkernel/laws.FnRightsValid", spec := "fnRightsValid", inPlace := ["internal/abi.NoEscape"], apart := false, narrowed := true }
def FnRightsValidUptoSaid : Prop := fnRightsValidUptoRow.holds Try.pinned (OpenSpec.upto fnRightsValidSpec)

/-- 'laws.FnRightsMeet', WHERE WHAT IT READS IS OF BULK AT MOST 1048576: true; the input reads as it did. -/
def fnRightsMeetUptoRow : OpenClaim := { program := "ytejijkblkopoaaa", sum := "3f6b8ca8699307c4154a4a80ee5629e2bd89d431abc646df66f82f743e0628c8", func := "loop.example/capkernel/laws.FnRightsMeet", spec := "fnRightsMeet", inPlace := ["internal/abi.NoEscape"], apart := false, narrowed := true }
def FnRightsMeetUptoSaid : Prop := fnRightsMeetUptoRow.holds Try.pinned (OpenSpec.upto fnRightsMeetSpec)

/-- 'laws.FnRightsWithin', WHERE WHAT IT READS IS OF BULK AT MOST 1048576: true; the input reads as it did. -/
def fnRightsWithinUptoRow : OpenClaim := { program := "ytejijkblkopoaaa", sum := "3f6b8ca8699307c4154a4a80ee5629e2bd89d431abc646df66f82f743e0628c8", func := "loop.example/capkernel/laws.FnRightsWithin", spec := "fnRightsWithin", inPlace := ["internal/abi.NoEscape"], apart := false, narrowed := true }
def FnRightsWithinUptoSaid : Prop := fnRightsWithinUptoRow.holds Try.pinned (OpenSpec.upto fnRightsWithinSpec)

/-- 'laws.FnRightsChain', WHERE WHAT IT READS IS OF BULK AT MOST 1048576: true; the input reads as it did. -/
def fnRightsChainUptoRow : OpenClaim := { program := "ytejijkblkopoaaa", sum := "3f6b8ca8699307c4154a4a80ee5629e2bd89d431abc646df66f82f743e0628c8", func := "loop.example/capkernel/laws.FnRightsChain", spec := "fnRightsChain", inPlace := ["internal/abi.NoEscape"], apart := false, narrowed := true }
def FnRightsChainUptoSaid : Prop := fnRightsChainUptoRow.holds Try.pinned (OpenSpec.upto fnRightsChainSpec)

/-- 'laws.FnRightsText', WHERE WHAT IT READS IS OF BULK AT MOST 1048576: true; the input reads as it did. -/
def fnRightsTextUptoRow : OpenClaim := { program := "ytejijkblkopoaaa", sum := "3f6b8ca8699307c4154a4a80ee5629e2bd89d431abc646df66f82f743e0628c8", func := "loop.example/capkernel/laws.FnRightsText", spec := "fnRightsText", inPlace := ["internal/abi.NoEscape"], apart := false, narrowed := true }
def FnRightsTextUptoSaid : Prop := fnRightsTextUptoRow.holds Try.pinned (OpenSpec.upto fnRightsTextSpec)

/-- 'laws.FnReadRights', WHERE WHAT IT READS IS OF BULK AT MOST 1048576: true; the input reads as it did. -/
def fnReadRightsUptoRow : OpenClaim := { program := "ytejijkblkopoaaa", sum := "3f6b8ca8699307c4154a4a80ee5629e2bd89d431abc646df66f82f743e0628c8", func := "loop.example/capkernel/laws.FnReadRights", spec := "fnReadRights", inPlace := ["internal/abi.NoEscape"], apart := false, narrowed := true }
def FnReadRightsUptoSaid : Prop := fnReadRightsUptoRow.holds Try.pinned (OpenSpec.upto fnReadRightsSpec)

end Rows
end Go.Proofs.Ytejijkblkopoaaa
