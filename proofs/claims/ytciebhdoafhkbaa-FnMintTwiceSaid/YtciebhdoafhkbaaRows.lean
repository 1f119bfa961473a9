/-
  No cell of these rows narrows 'for every input' (looked for: loops, veiled, ifaces, maps, wideKeys, modest, calm, conditions, laid).
  DERIVED. THE GIVEN ROWS OF THIS SEAT. 12 by the template 'for every input the law returns true; each argument reads behind the call as it read before'; 0 by the template 'total and deterministic' (their statements: YtciebhdoafhkbaaTotals.lean).
  GIVEN WITH THE SEED: the statements are not yours to turn. If you find one false, say at which input.
  Laid BY PROGRAM, IN A SANDBOX (cutbox-rows.mjs): the forced cells as the released guide's own fill.sh prints them over the translation 08774db1392d94c3… (all of the seat's roots in one cut). By AI agents, Wed Nov 11 2026. No macro, syntax, notation, axiom, sorry.
-/
import Derived.Test.YtciebhdoafhkbaaChecked
import GoSem.Claim
import GoSem.ClaimJoined
import GoSem.ClaimMapViews
import Derived.JoinedTies
import Derived.KernelRfl
namespace Go.Proofs.Ytciebhdoafhkbaa
/- THE CELL 'sum', in the pinned program and in every row, IS THE sha256 OF THE DUMP (.gsa) THAT YtciebhdoafhkbaaProg.lean LOADS. Nothing in Lean hashes anything: it is a label: what it is worth is what the hold of that sum in a sandbox is worth. -/
noncomputable def Try.pinned : Pinned := { name := "ytciebhdoafhkbaa", sum := "08774db1392d94c31d2c30f59524de352af5e8568404d14db17b10eadc15b350", checked := Try.checked }
namespace Rows
def none {H : Type} : Left H := { results := [], args := [] }

/-- 'laws.FnExactCapValid': WHATEVER THE INPUT: true; the input reads as it did. -/
def fnExactCapValidSpec : ChangeSpec := { name := "fnExactCapValid", fn := fun _ => fun
  | [d] => { results := [.lit (.bool true)], args := [d] }
  | _ => none }
def fnExactCapValidRow : OpenClaim := { program := "ytciebhdoafhkbaa", sum := "08774db1392d94c31d2c30f59524de352af5e8568404d14db17b10eadc15b350", func := "loop.example/capkernel/laws.FnExactCapValid", spec := "fnExactCapValid", apart := false }
def FnExactCapValidSaid : Prop := fnExactCapValidRow.holds Try.pinned (OpenSpec.ofChange fnExactCapValidSpec)

/-- ITS FALSE NEIGHBOUR: 'it returns false'. Refute it at one input. -/
def fnExactCapValidWrong : ChangeSpec := { name := "fnExactCapValid", fn := fun _ => fun
  | [d] => { results := [.lit (.bool false)], args := [d] }
  | _ => none }
def FnExactCapValidWrongFalsely : Prop := fnExactCapValidRow.holds Try.pinned (OpenSpec.ofChange fnExactCapValidWrong)

/-- 'laws.FnExactCapWithin': WHATEVER THE INPUT: true; the input reads as it did. -/
def fnExactCapWithinSpec : ChangeSpec := { name := "fnExactCapWithin", fn := fun _ => fun
  | [d1, d2] => { results := [.lit (.bool true)], args := [d1, d2] }
  | _ => none }
def fnExactCapWithinRow : OpenClaim := { program := "ytciebhdoafhkbaa", sum := "08774db1392d94c31d2c30f59524de352af5e8568404d14db17b10eadc15b350", func := "loop.example/capkernel/laws.FnExactCapWithin", spec := "fnExactCapWithin", apart := false }
def FnExactCapWithinSaid : Prop := fnExactCapWithinRow.holds Try.pinned (OpenSpec.ofChange fnExactCapWithinSpec)

/-- ITS FALSE NEIGHBOUR: 'it returns false'. Refute it at one input. -/
def fnExactCapWithinWrong : ChangeSpec := { name := "fnExactCapWithin", fn := fun _ => fun
  | [d1, d2] => { results := [.lit (.bool false)], args := [d1, d2] }
  | _ => none }
def FnExactCapWithinWrongFalsely : Prop := fnExactCapWithinRow.holds Try.pinned (OpenSpec.ofChange fnExactCapWithinWrong)

/-- 'laws.FnExactPackCap': WHATEVER THE INPUT: true; the input reads as it did. -/
def fnExactPackCapSpec : ChangeSpec := { name := "fnExactPackCap", fn := fun _ => fun
  | [d] => { results := [.lit (.bool true)], args := [d] }
  | _ => none }
def fnExactPackCapRow : OpenClaim := { program := "ytciebhdoafhkbaa", sum := "08774db1392d94c31d2c30f59524de352af5e8568404d14db17b10eadc15b350", func := "loop.example/capkernel/laws.FnExactPackCap", spec := "fnExactPackCap", apart := false }
def FnExactPackCapSaid : Prop := fnExactPackCapRow.holds Try.pinned (OpenSpec.ofChange fnExactPackCapSpec)

/-- ITS FALSE NEIGHBOUR: 'it returns false'. Refute it at one input. -/
def fnExactPackCapWrong : ChangeSpec := { name := "fnExactPackCap", fn := fun _ => fun
  | [d] => { results := [.lit (.bool false)], args := [d] }
  | _ => none }
def FnExactPackCapWrongFalsely : Prop := fnExactPackCapRow.holds Try.pinned (OpenSpec.ofChange fnExactPackCapWrong)

/-- 'laws.FnExactUnpackCap': WHATEVER THE INPUT: true; the input reads as it did. -/
def fnExactUnpackCapSpec : ChangeSpec := { name := "fnExactUnpackCap", fn := fun _ => fun
  | [d] => { results := [.lit (.bool true)], args := [d] }
  | _ => none }
def fnExactUnpackCapRow : OpenClaim := { program := "ytciebhdoafhkbaa", sum := "08774db1392d94c31d2c30f59524de352af5e8568404d14db17b10eadc15b350", func := "loop.example/capkernel/laws.FnExactUnpackCap", spec := "fnExactUnpackCap", apart := false }
def FnExactUnpackCapSaid : Prop := fnExactUnpackCapRow.holds Try.pinned (OpenSpec.ofChange fnExactUnpackCapSpec)

/-- ITS FALSE NEIGHBOUR: 'it returns false'. Refute it at one input. -/
def fnExactUnpackCapWrong : ChangeSpec := { name := "fnExactUnpackCap", fn := fun _ => fun
  | [d] => { results := [.lit (.bool false)], args := [d] }
  | _ => none }
def FnExactUnpackCapWrongFalsely : Prop := fnExactUnpackCapRow.holds Try.pinned (OpenSpec.ofChange fnExactUnpackCapWrong)

/-- 'laws.FnExactMintCap': WHATEVER THE INPUT: true; the input reads as it did. -/
def fnExactMintCapSpec : ChangeSpec := { name := "fnExactMintCap", fn := fun _ => fun
  | [d1, d2, d3] => { results := [.lit (.bool true)], args := [d1, d2, d3] }
  | _ => none }
def fnExactMintCapRow : OpenClaim := { program := "ytciebhdoafhkbaa", sum := "08774db1392d94c31d2c30f59524de352af5e8568404d14db17b10eadc15b350", func := "loop.example/capkernel/laws.FnExactMintCap", spec := "fnExactMintCap", apart := false }
def FnExactMintCapSaid : Prop := fnExactMintCapRow.holds Try.pinned (OpenSpec.ofChange fnExactMintCapSpec)

/-- ITS FALSE NEIGHBOUR: 'it returns false'. Refute it at one input. -/
def fnExactMintCapWrong : ChangeSpec := { name := "fnExactMintCap", fn := fun _ => fun
  | [d1, d2, d3] => { results := [.lit (.bool false)], args := [d1, d2, d3] }
  | _ => none }
def FnExactMintCapWrongFalsely : Prop := fnExactMintCapRow.holds Try.pinned (OpenSpec.ofChange fnExactMintCapWrong)

/-- 'laws.FnCapValid': WHATEVER THE INPUT: true; the input reads as it did. -/
def fnCapValidSpec : ChangeSpec := { name := "fnCapValid", fn := fun _ => fun
  | [d] => { results := [.lit (.bool true)], args := [d] }
  | _ => none }
def fnCapValidRow : OpenClaim := { program := "ytciebhdoafhkbaa", sum := "08774db1392d94c31d2c30f59524de352af5e8568404d14db17b10eadc15b350", func := "loop.example/capkernel/laws.FnCapValid", spec := "fnCapValid", inPlace := ["internal/abi.NoEscape"], apart := false }
def FnCapValidSaid : Prop := fnCapValidRow.holds Try.pinned (OpenSpec.ofChange fnCapValidSpec)

/-- ITS FALSE NEIGHBOUR: 'it returns false'. Refute it at one input. -/
def fnCapValidWrong : ChangeSpec := { name := "fnCapValid", fn := fun _ => fun
  | [d] => { results := [.lit (.bool false)], args := [d] }
  | _ => none }
def FnCapValidWrongFalsely : Prop := fnCapValidRow.holds Try.pinned (OpenSpec.ofChange fnCapValidWrong)

/-- 'laws.FnPackCap': WHATEVER THE INPUT: true; the input reads as it did. -/
def fnPackCapSpec : ChangeSpec := { name := "fnPackCap", fn := fun _ => fun
  | [d1, d2] => { results := [.lit (.bool true)], args := [d1, d2] }
  | _ => none }
def fnPackCapRow : OpenClaim := { program := "ytciebhdoafhkbaa", sum := "08774db1392d94c31d2c30f59524de352af5e8568404d14db17b10eadc15b350", func := "loop.example/capkernel/laws.FnPackCap", spec := "fnPackCap", inPlace := ["internal/abi.NoEscape"], apart := false }
def FnPackCapSaid : Prop := fnPackCapRow.holds Try.pinned (OpenSpec.ofChange fnPackCapSpec)

/-- ITS FALSE NEIGHBOUR: 'it returns false'. Refute it at one input. -/
def fnPackCapWrong : ChangeSpec := { name := "fnPackCap", fn := fun _ => fun
  | [d1, d2] => { results := [.lit (.bool false)], args := [d1, d2] }
  | _ => none }
def FnPackCapWrongFalsely : Prop := fnPackCapRow.holds Try.pinned (OpenSpec.ofChange fnPackCapWrong)

/-- 'laws.FnMintCap': WHATEVER THE INPUT: true; the input reads as it did. -/
def fnMintCapSpec : ChangeSpec := { name := "fnMintCap", fn := fun _ => fun
  | [d] => { results := [.lit (.bool true)], args := [d] }
  | _ => none }
def fnMintCapRow : OpenClaim := { program := "ytciebhdoafhkbaa", sum := "08774db1392d94c31d2c30f59524de352af5e8568404d14db17b10eadc15b350", func := "loop.example/capkernel/laws.FnMintCap", spec := "fnMintCap", inPlace := ["internal/abi.NoEscape"], apart := false }
def FnMintCapSaid : Prop := fnMintCapRow.holds Try.pinned (OpenSpec.ofChange fnMintCapSpec)

/-- ITS FALSE NEIGHBOUR: 'it returns false'. Refute it at one input. -/
def fnMintCapWrong : ChangeSpec := { name := "fnMintCap", fn := fun _ => fun
  | [d] => { results := [.lit (.bool false)], args := [d] }
  | _ => none }
def FnMintCapWrongFalsely : Prop := fnMintCapRow.holds Try.pinned (OpenSpec.ofChange fnMintCapWrong)

/-- 'laws.FnUnpackCap': WHATEVER THE INPUT: true; the input reads as it did. -/
def fnUnpackCapSpec : ChangeSpec := { name := "fnUnpackCap", fn := fun _ => fun
  | [d] => { results := [.lit (.bool true)], args := [d] }
  | _ => none }
def fnUnpackCapRow : OpenClaim := { program := "ytciebhdoafhkbaa", sum := "08774db1392d94c31d2c30f59524de352af5e8568404d14db17b10eadc15b350", func := "loop.example/capkernel/laws.FnUnpackCap", spec := "fnUnpackCap", inPlace := ["internal/abi.NoEscape"], apart := false }
def FnUnpackCapSaid : Prop := fnUnpackCapRow.holds Try.pinned (OpenSpec.ofChange fnUnpackCapSpec)

/-- ITS FALSE NEIGHBOUR: 'it returns false'. Refute it at one input. -/
def fnUnpackCapWrong : ChangeSpec := { name := "fnUnpackCap", fn := fun _ => fun
  | [d] => { results := [.lit (.bool false)], args := [d] }
  | _ => none }
def FnUnpackCapWrongFalsely : Prop := fnUnpackCapRow.holds Try.pinned (OpenSpec.ofChange fnUnpackCapWrong)

/-- 'laws.FnMintTwice': WHATEVER THE INPUT: true; the input reads as it did. -/
def fnMintTwiceSpec : ChangeSpec := { name := "fnMintTwice", fn := fun _ => fun
  | [d1, d2] => { results := [.lit (.bool true)], args := [d1, d2] }
  | _ => none }
def fnMintTwiceRow : OpenClaim := { program := "ytciebhdoafhkbaa", sum := "08774db1392d94c31d2c30f59524de352af5e8568404d14db17b10eadc15b350", func := "loop.example/capkernel/laws.FnMintTwice", spec := "fnMintTwice", inPlace := ["internal/abi.NoEscape"], apart := false }
def FnMintTwiceSaid : Prop := fnMintTwiceRow.holds Try.pinned (OpenSpec.ofChange fnMintTwiceSpec)

/-- ITS FALSE NEIGHBOUR: 'it returns false'. Refute it at one input. -/
def fnMintTwiceWrong : ChangeSpec := { name := "fnMintTwice", fn := fun _ => fun
  | [d1, d2] => { results := [.lit (.bool false)], args := [d1, d2] }
  | _ => none }
def FnMintTwiceWrongFalsely : Prop := fnMintTwiceRow.holds Try.pinned (OpenSpec.ofChange fnMintTwiceWrong)

/-- 'laws.FnCapChain': WHATEVER THE INPUT: true; the input reads as it did. -/
def fnCapChainSpec : ChangeSpec := { name := "fnCapChain", fn := fun _ => fun
  | [d1, d2] => { results := [.lit (.bool true)], args := [d1, d2] }
  | _ => none }
def fnCapChainRow : OpenClaim := { program := "ytciebhdoafhkbaa", sum := "08774db1392d94c31d2c30f59524de352af5e8568404d14db17b10eadc15b350", func := "loop.example/capkernel/laws.FnCapChain", spec := "fnCapChain", inPlace := ["internal/abi.NoEscape"], apart := false }
def FnCapChainSaid : Prop := fnCapChainRow.holds Try.pinned (OpenSpec.ofChange fnCapChainSpec)

/-- ITS FALSE NEIGHBOUR: 'it returns false'. Refute it at one input. -/
def fnCapChainWrong : ChangeSpec := { name := "fnCapChain", fn := fun _ => fun
  | [d1, d2] => { results := [.lit (.bool false)], args := [d1, d2] }
  | _ => none }
def FnCapChainWrongFalsely : Prop := fnCapChainRow.holds Try.pinned (OpenSpec.ofChange fnCapChainWrong)

/-- 'laws.FnCapWithin': WHATEVER THE INPUT: true; the input reads as it did. -/
def fnCapWithinSpec : ChangeSpec := { name := "fnCapWithin", fn := fun _ => fun
  | [d] => { results := [.lit (.bool true)], args := [d] }
  | _ => none }
def fnCapWithinRow : OpenClaim := { program := "ytciebhdoafhkbaa", sum := "08774db1392d94c31d2c30f59524de352af5e8568404d14db17b10eadc15b350", func := "loop.example/capkernel/laws.FnCapWithin", spec := "fnCapWithin", inPlace := ["internal/abi.NoEscape"], apart := false }
def FnCapWithinSaid : Prop := fnCapWithinRow.holds Try.pinned (OpenSpec.ofChange fnCapWithinSpec)

/-- ITS FALSE NEIGHBOUR: 'it returns false'. Refute it at one input. -/
def fnCapWithinWrong : ChangeSpec := { name := "fnCapWithin", fn := fun _ => fun
  | [d] => { results := [.lit (.bool false)], args := [d] }
  | _ => none }
def FnCapWithinWrongFalsely : Prop := fnCapWithinRow.holds Try.pinned (OpenSpec.ofChange fnCapWithinWrong)

/- THE SECOND FORM. 'bulk': how many values and letters a reading holds, each counted each time it is reached (what is shared counts as often as it is met; a slice's spare places count too). A statement '..UptoSaid' is the law's where the arguments, and the package variables that the reading takes, are together of bulk at most 1048576: NARROWER than '..Said'. Prove '..Said' where nothing that the law and all that it calls make is longer than what came in: it says more and counts as full. Else prove '..UptoSaid'. A law counts once. -/
mutual
def uptoBulk {H : Type} : DataW H → Nat
  | .lit (.string bytes) => bytes.length + 1
  | .lit _ => 1
  | .nil => 1
  | .ptr d => uptoBulk d + 1
  | .slice elems spare => uptoBulkAll elems + uptoBulkAll spare + 1
  | .agg parts => uptoBulkAll parts + 1
  | .iface _ d => uptoBulk d + 1
  | .map entries => uptoBulkEntries entries + 1
  | .held _ => 1
def uptoBulkAll {H : Type} : List (DataW H) → Nat
  | [] => 0
  | d :: r => uptoBulk d + uptoBulkAll r
def uptoBulkEntries {H : Type} : List (Lit × DataW H) → Nat
  | [] => 0
  | x :: r => uptoBulkEntry x + uptoBulkEntries r
def uptoBulkEntry {H : Type} : Lit × DataW H → Nat
  | (.string bytes, d) => bytes.length + uptoBulk d + 1
  | (_, d) => uptoBulk d + 1
 end
def uptoSmall : (H : Type) → List (DataW H) → Bool := fun _ ds => decide (uptoBulkAll ds ≤ 1048576)
def OpenSpec.upto (s : _root_.Go.ChangeSpec) : _root_.Go.OpenSpec := { _root_.Go.OpenSpec.ofChange s with cond := some uptoSmall }

/-- 'laws.FnExactCapValid', WHERE WHAT IT READS IS OF BULK AT MOST 1048576: true; the input reads as it did. -/
def fnExactCapValidUptoRow : OpenClaim := { program := "ytciebhdoafhkbaa", sum := "08774db1392d94c31d2c30f59524de352af5e8568404d14db17b10eadc15b350", func := "loop.example/capkernel/laws.FnExactCapValid", spec := "fnExactCapValid", apart := false, narrowed := true }
def FnExactCapValidUptoSaid : Prop := fnExactCapValidUptoRow.holds Try.pinned (OpenSpec.upto fnExactCapValidSpec)

/-- 'laws.FnExactCapWithin', WHERE WHAT IT READS IS OF BULK AT MOST 1048576: true; the input reads as it did. -/
def fnExactCapWithinUptoRow : OpenClaim := { program := "ytciebhdoafhkbaa", sum := "08774db1392d94c31d2c30f59524de352af5e8568404d14db17b10eadc15b350", func := "loop.example/capkernel/laws.FnExactCapWithin", spec := "fnExactCapWithin", apart := false, narrowed := true }
def FnExactCapWithinUptoSaid : Prop := fnExactCapWithinUptoRow.holds Try.pinned (OpenSpec.upto fnExactCapWithinSpec)

/-- 'laws.FnExactPackCap', WHERE WHAT IT READS IS OF BULK AT MOST 1048576: true; the input reads as it did. -/
def fnExactPackCapUptoRow : OpenClaim := { program := "ytciebhdoafhkbaa", sum := "08774db1392d94c31d2c30f59524de352af5e8568404d14db17b10eadc15b350", func := "loop.example/capkernel/laws.FnExactPackCap", spec := "fnExactPackCap", apart := false, narrowed := true }
def FnExactPackCapUptoSaid : Prop := fnExactPackCapUptoRow.holds Try.pinned (OpenSpec.upto fnExactPackCapSpec)

/-- 'laws.FnExactUnpackCap', WHERE WHAT IT READS IS OF BULK AT MOST 1048576: true; the input reads as it did. -/
def fnExactUnpackCapUptoRow : OpenClaim := { program := "ytciebhdoafhkbaa", sum := "08774db1392d94c31d2c30f59524de352af5e8568404d14db17b10eadc15b350", func := "loop.example/capkernel/laws.FnExactUnpackCap", spec := "fnExactUnpackCap", apart := false, narrowed := true }
def FnExactUnpackCapUptoSaid : Prop := fnExactUnpackCapUptoRow.holds Try.pinned (OpenSpec.upto fnExactUnpackCapSpec)

/-- 'laws.FnExactMintCap', WHERE WHAT IT READS IS OF BULK AT MOST 1048576: true; the input reads as it did. -/
def fnExactMintCapUptoRow : OpenClaim := { program := "ytciebhdoafhkbaa", sum := "08774db1392d94c31d2c30f59524de352af5e8568404d14db17b10eadc15b350", func := "loop.example/capkernel/laws.FnExactMintCap", spec := "fnExactMintCap", apart := false, narrowed := true }
def FnExactMintCapUptoSaid : Prop := fnExactMintCapUptoRow.holds Try.pinned (OpenSpec.upto fnExactMintCapSpec)

/-- 'laws.FnCapValid', WHERE WHAT IT READS IS OF BULK AT MOST 1048576: true; the input reads as it did. -/
def fnCapValidUptoRow : OpenClaim := { program := "ytciebhdoafhkbaa", sum := "08774db1392d94c31d2c30f59524de352af5e8568404d14db17b10eadc15b350", func := "loop.example/capkernel/laws.FnCapValid", spec := "fnCapValid", inPlace := ["internal/abi.NoEscape"], apart := false, narrowed := true }
def FnCapValidUptoSaid : Prop := fnCapValidUptoRow.holds Try.pinned (OpenSpec.upto fnCapValidSpec)

/-- 'laws.FnPackCap', WHERE WHAT IT READS IS OF BULK AT MOST 1048576: true; the input reads as it did. -/
def fnPackCapUptoRow : OpenClaim := { program := "ytciebhdoafhkbaa", sum := "08774db1392d94c31d2c30f59524de352af5e8568404d14db17b10eadc15b350", func := "loop.example/capkernel/laws.FnPackCap", spec := "fnPackCap", inPlace := ["internal/abi.NoEscape"], apart := false, narrowed := true }
def FnPackCapUptoSaid : Prop := fnPackCapUptoRow.holds Try.pinned (OpenSpec.upto fnPackCapSpec)

/-- 'laws.FnMintCap', WHERE WHAT IT READS IS OF BULK AT MOST 1048576: true; the input reads as it did. -/
def fnMintCapUptoRow : OpenClaim := { program := "ytciebhdoafhkbaa", sum := "08774db1392d94c31d2c30f59524de352af5e8568404d14db17b10eadc15b350", func := "loop.example/capkernel/laws.FnMintCap", spec := "fnMintCap", inPlace := ["internal/abi.NoEscape"], apart := false, narrowed := true }
def FnMintCapUptoSaid : Prop := fnMintCapUptoRow.holds Try.pinned (OpenSpec.upto fnMintCapSpec)

/-- 'laws.FnUnpackCap', WHERE WHAT IT READS IS OF BULK AT MOST 1048576: true; the input reads as it did. -/
def fnUnpackCapUptoRow : OpenClaim := { program := "ytciebhdoafhkbaa", sum := "08774db1392d94c31d2c30f59524de352af5e8568404d14db17b10eadc15b350", func := "loop.example/capkernel/laws.FnUnpackCap", spec := "fnUnpackCap", inPlace := ["internal/abi.NoEscape"], apart := false, narrowed := true }
def FnUnpackCapUptoSaid : Prop := fnUnpackCapUptoRow.holds Try.pinned (OpenSpec.upto fnUnpackCapSpec)

/-- 'laws.FnMintTwice', WHERE WHAT IT READS IS OF BULK AT MOST 1048576: true; the input reads as it did. -/
def fnMintTwiceUptoRow : OpenClaim := { program := "ytciebhdoafhkbaa", sum := "08774db1392d94c31d2c30f59524de352af5e8568404d14db17b10eadc15b350", func := "loop.example/capkernel/laws.FnMintTwice", spec := "fnMintTwice", inPlace := ["internal/abi.NoEscape"], apart := false, narrowed := true }
def FnMintTwiceUptoSaid : Prop := fnMintTwiceUptoRow.holds Try.pinned (OpenSpec.upto fnMintTwiceSpec)

/-- 'laws.FnCapChain', WHERE WHAT IT READS IS OF BULK AT MOST 1048576: true; the input reads as it did. -/
def fnCapChainUptoRow : OpenClaim := { program := "ytciebhdoafhkbaa", sum := "08774db1392d94c31d2c30f59524de352af5e8568404d14db17b10eadc15b350", func := "loop.example/capkernel/laws.FnCapChain", spec := "fnCapChain", inPlace := ["internal/abi.NoEscape"], apart := false, narrowed := true }
def FnCapChainUptoSaid : Prop := fnCapChainUptoRow.holds Try.pinned (OpenSpec.upto fnCapChainSpec)

/-- 'laws.FnCapWithin', WHERE WHAT IT READS IS OF BULK AT MOST 1048576: true; the input reads as it did. -/
def fnCapWithinUptoRow : OpenClaim := { program := "ytciebhdoafhkbaa", sum := "08774db1392d94c31d2c30f59524de352af5e8568404d14db17b10eadc15b350", func := "loop.example/capkernel/laws.FnCapWithin", spec := "fnCapWithin", inPlace := ["internal/abi.NoEscape"], apart := false, narrowed := true }
def FnCapWithinUptoSaid : Prop := fnCapWithinUptoRow.holds Try.pinned (OpenSpec.upto fnCapWithinSpec)

end Rows
end Go.Proofs.Ytciebhdoafhkbaa
