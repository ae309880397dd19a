/-
  No cell of these rows narrows 'for every input' (looked for: loops, veiled, ifaces, maps, wideKeys, modest, calm, conditions, laid).
  DERIVED. THE GIVEN ROWS OF THIS SEAT. 12 by the template 'for every input the law returns true; each argument reads behind the call as it read before'; 0 by the template 'total and deterministic' (their statements: YtdpekaejklmomaaTotals.lean).
  GIVEN WITH THE SEED: the statements are not yours to turn. If you find one false, say at which input.
  Laid BY PROGRAM, IN A SANDBOX (cutbox-rows.mjs): the forced cells as the released guide's own fill.sh prints them over the translation 38521eb320ca5cbb… (all of the seat's roots in one cut). By AI agents, Wed Nov 11 2026. No macro, syntax, notation, axiom, sorry.
-/
import Derived.Test.YtdpekaejklmomaaChecked
import GoSem.Claim
import GoSem.ClaimJoined
import GoSem.ClaimMapViews
import Derived.JoinedTies
import Derived.KernelRfl
namespace Go.Proofs.Ytdpekaejklmomaa
/- THE CELL 'sum', in the pinned program and in every row, IS THE sha256 OF THE DUMP (.gsa) THAT YtdpekaejklmomaaProg.lean LOADS. Nothing in Lean hashes anything: it is a label: what it is worth is what the hold of that sum in a sandbox is worth. -/
noncomputable def Try.pinned : Pinned := { name := "ytdpekaejklmomaa", sum := "38521eb320ca5cbbb2c02a59120c6c8f172724a0d6e459f89b0058778bb2f7d9", checked := Try.checked }
namespace Rows
def none {H : Type} : Left H := { results := [], args := [] }

/-- 'laws.FnExactModPower': WHATEVER THE INPUT: true; the input reads as it did. -/
def fnExactModPowerSpec : ChangeSpec := { name := "fnExactModPower", fn := fun _ => fun
  | [d1, d2, d3] => { results := [.lit (.bool true)], args := [d1, d2, d3] }
  | _ => none }
def fnExactModPowerRow : OpenClaim := { program := "ytdpekaejklmomaa", sum := "38521eb320ca5cbbb2c02a59120c6c8f172724a0d6e459f89b0058778bb2f7d9", func := "loop.example/fixedmath/laws.FnExactModPower", spec := "fnExactModPower", apart := false }
def FnExactModPowerSaid : Prop := fnExactModPowerRow.holds Try.pinned (OpenSpec.ofChange fnExactModPowerSpec)

/-- ITS FALSE NEIGHBOUR: 'it returns false'. Refute it at one input. -/
def fnExactModPowerWrong : ChangeSpec := { name := "fnExactModPower", fn := fun _ => fun
  | [d1, d2, d3] => { results := [.lit (.bool false)], args := [d1, d2, d3] }
  | _ => none }
def FnExactModPowerWrongFalsely : Prop := fnExactModPowerRow.holds Try.pinned (OpenSpec.ofChange fnExactModPowerWrong)

/-- 'laws.FnModPower': WHATEVER THE INPUT: true; the input reads as it did. -/
def fnModPowerSpec : ChangeSpec := { name := "fnModPower", fn := fun _ => fun
  | [d] => { results := [.lit (.bool true)], args := [d] }
  | _ => none }
def fnModPowerRow : OpenClaim := { program := "ytdpekaejklmomaa", sum := "38521eb320ca5cbbb2c02a59120c6c8f172724a0d6e459f89b0058778bb2f7d9", func := "loop.example/fixedmath/laws.FnModPower", spec := "fnModPower", apart := false }
def FnModPowerSaid : Prop := fnModPowerRow.holds Try.pinned (OpenSpec.ofChange fnModPowerSpec)

/-- ITS FALSE NEIGHBOUR: 'it returns false'. Refute it at one input. -/
def fnModPowerWrong : ChangeSpec := { name := "fnModPower", fn := fun _ => fun
  | [d] => { results := [.lit (.bool false)], args := [d] }
  | _ => none }
def FnModPowerWrongFalsely : Prop := fnModPowerRow.holds Try.pinned (OpenSpec.ofChange fnModPowerWrong)

/-- 'laws.FnExactModInverse': WHATEVER THE INPUT: true; the input reads as it did. -/
def fnExactModInverseSpec : ChangeSpec := { name := "fnExactModInverse", fn := fun _ => fun
  | [d1, d2] => { results := [.lit (.bool true)], args := [d1, d2] }
  | _ => none }
def fnExactModInverseRow : OpenClaim := { program := "ytdpekaejklmomaa", sum := "38521eb320ca5cbbb2c02a59120c6c8f172724a0d6e459f89b0058778bb2f7d9", func := "loop.example/fixedmath/laws.FnExactModInverse", spec := "fnExactModInverse", apart := false }
def FnExactModInverseSaid : Prop := fnExactModInverseRow.holds Try.pinned (OpenSpec.ofChange fnExactModInverseSpec)

/-- ITS FALSE NEIGHBOUR: 'it returns false'. Refute it at one input. -/
def fnExactModInverseWrong : ChangeSpec := { name := "fnExactModInverse", fn := fun _ => fun
  | [d1, d2] => { results := [.lit (.bool false)], args := [d1, d2] }
  | _ => none }
def FnExactModInverseWrongFalsely : Prop := fnExactModInverseRow.holds Try.pinned (OpenSpec.ofChange fnExactModInverseWrong)

/-- 'laws.FnModInverse': WHATEVER THE INPUT: true; the input reads as it did. -/
def fnModInverseSpec : ChangeSpec := { name := "fnModInverse", fn := fun _ => fun
  | [d] => { results := [.lit (.bool true)], args := [d] }
  | _ => none }
def fnModInverseRow : OpenClaim := { program := "ytdpekaejklmomaa", sum := "38521eb320ca5cbbb2c02a59120c6c8f172724a0d6e459f89b0058778bb2f7d9", func := "loop.example/fixedmath/laws.FnModInverse", spec := "fnModInverse", apart := false }
def FnModInverseSaid : Prop := fnModInverseRow.holds Try.pinned (OpenSpec.ofChange fnModInverseSpec)

/-- ITS FALSE NEIGHBOUR: 'it returns false'. Refute it at one input. -/
def fnModInverseWrong : ChangeSpec := { name := "fnModInverse", fn := fun _ => fun
  | [d] => { results := [.lit (.bool false)], args := [d] }
  | _ => none }
def FnModInverseWrongFalsely : Prop := fnModInverseRow.holds Try.pinned (OpenSpec.ofChange fnModInverseWrong)

/-- 'laws.FnExactBothResidues': WHATEVER THE INPUT: true; the input reads as it did. -/
def fnExactBothResiduesSpec : ChangeSpec := { name := "fnExactBothResidues", fn := fun _ => fun
  | [d1, d2, d3, d4] => { results := [.lit (.bool true)], args := [d1, d2, d3, d4] }
  | _ => none }
def fnExactBothResiduesRow : OpenClaim := { program := "ytdpekaejklmomaa", sum := "38521eb320ca5cbbb2c02a59120c6c8f172724a0d6e459f89b0058778bb2f7d9", func := "loop.example/fixedmath/laws.FnExactBothResidues", spec := "fnExactBothResidues", apart := false }
def FnExactBothResiduesSaid : Prop := fnExactBothResiduesRow.holds Try.pinned (OpenSpec.ofChange fnExactBothResiduesSpec)

/-- ITS FALSE NEIGHBOUR: 'it returns false'. Refute it at one input. -/
def fnExactBothResiduesWrong : ChangeSpec := { name := "fnExactBothResidues", fn := fun _ => fun
  | [d1, d2, d3, d4] => { results := [.lit (.bool false)], args := [d1, d2, d3, d4] }
  | _ => none }
def FnExactBothResiduesWrongFalsely : Prop := fnExactBothResiduesRow.holds Try.pinned (OpenSpec.ofChange fnExactBothResiduesWrong)

/-- 'laws.FnBothResidues': WHATEVER THE INPUT: true; the input reads as it did. -/
def fnBothResiduesSpec : ChangeSpec := { name := "fnBothResidues", fn := fun _ => fun
  | [d] => { results := [.lit (.bool true)], args := [d] }
  | _ => none }
def fnBothResiduesRow : OpenClaim := { program := "ytdpekaejklmomaa", sum := "38521eb320ca5cbbb2c02a59120c6c8f172724a0d6e459f89b0058778bb2f7d9", func := "loop.example/fixedmath/laws.FnBothResidues", spec := "fnBothResidues", apart := false }
def FnBothResiduesSaid : Prop := fnBothResiduesRow.holds Try.pinned (OpenSpec.ofChange fnBothResiduesSpec)

/-- ITS FALSE NEIGHBOUR: 'it returns false'. Refute it at one input. -/
def fnBothResiduesWrong : ChangeSpec := { name := "fnBothResidues", fn := fun _ => fun
  | [d] => { results := [.lit (.bool false)], args := [d] }
  | _ => none }
def FnBothResiduesWrongFalsely : Prop := fnBothResiduesRow.holds Try.pinned (OpenSpec.ofChange fnBothResiduesWrong)

/-- 'laws.FnExactChainOf': WHATEVER THE INPUT: true; the input reads as it did. -/
def fnExactChainOfSpec : ChangeSpec := { name := "fnExactChainOf", fn := fun _ => fun
  | [d] => { results := [.lit (.bool true)], args := [d] }
  | _ => none }
def fnExactChainOfRow : OpenClaim := { program := "ytdpekaejklmomaa", sum := "38521eb320ca5cbbb2c02a59120c6c8f172724a0d6e459f89b0058778bb2f7d9", func := "loop.example/fixedmath/laws.FnExactChainOf", spec := "fnExactChainOf", apart := false }
def FnExactChainOfSaid : Prop := fnExactChainOfRow.holds Try.pinned (OpenSpec.ofChange fnExactChainOfSpec)

/-- ITS FALSE NEIGHBOUR: 'it returns false'. Refute it at one input. -/
def fnExactChainOfWrong : ChangeSpec := { name := "fnExactChainOf", fn := fun _ => fun
  | [d] => { results := [.lit (.bool false)], args := [d] }
  | _ => none }
def FnExactChainOfWrongFalsely : Prop := fnExactChainOfRow.holds Try.pinned (OpenSpec.ofChange fnExactChainOfWrong)

/-- 'laws.FnChainOf': WHATEVER THE INPUT: true; the input reads as it did. -/
def fnChainOfSpec : ChangeSpec := { name := "fnChainOf", fn := fun _ => fun
  | [d] => { results := [.lit (.bool true)], args := [d] }
  | _ => none }
def fnChainOfRow : OpenClaim := { program := "ytdpekaejklmomaa", sum := "38521eb320ca5cbbb2c02a59120c6c8f172724a0d6e459f89b0058778bb2f7d9", func := "loop.example/fixedmath/laws.FnChainOf", spec := "fnChainOf", apart := false }
def FnChainOfSaid : Prop := fnChainOfRow.holds Try.pinned (OpenSpec.ofChange fnChainOfSpec)

/-- ITS FALSE NEIGHBOUR: 'it returns false'. Refute it at one input. -/
def fnChainOfWrong : ChangeSpec := { name := "fnChainOf", fn := fun _ => fun
  | [d] => { results := [.lit (.bool false)], args := [d] }
  | _ => none }
def FnChainOfWrongFalsely : Prop := fnChainOfRow.holds Try.pinned (OpenSpec.ofChange fnChainOfWrong)

/-- 'laws.FnExactNearFractions': WHATEVER THE INPUT: true; the input reads as it did. -/
def fnExactNearFractionsSpec : ChangeSpec := { name := "fnExactNearFractions", fn := fun _ => fun
  | [d] => { results := [.lit (.bool true)], args := [d] }
  | _ => none }
def fnExactNearFractionsRow : OpenClaim := { program := "ytdpekaejklmomaa", sum := "38521eb320ca5cbbb2c02a59120c6c8f172724a0d6e459f89b0058778bb2f7d9", func := "loop.example/fixedmath/laws.FnExactNearFractions", spec := "fnExactNearFractions", apart := false }
def FnExactNearFractionsSaid : Prop := fnExactNearFractionsRow.holds Try.pinned (OpenSpec.ofChange fnExactNearFractionsSpec)

/-- ITS FALSE NEIGHBOUR: 'it returns false'. Refute it at one input. -/
def fnExactNearFractionsWrong : ChangeSpec := { name := "fnExactNearFractions", fn := fun _ => fun
  | [d] => { results := [.lit (.bool false)], args := [d] }
  | _ => none }
def FnExactNearFractionsWrongFalsely : Prop := fnExactNearFractionsRow.holds Try.pinned (OpenSpec.ofChange fnExactNearFractionsWrong)

/-- 'laws.FnNearFractions': WHATEVER THE INPUT: true; the input reads as it did. -/
def fnNearFractionsSpec : ChangeSpec := { name := "fnNearFractions", fn := fun _ => fun
  | [d] => { results := [.lit (.bool true)], args := [d] }
  | _ => none }
def fnNearFractionsRow : OpenClaim := { program := "ytdpekaejklmomaa", sum := "38521eb320ca5cbbb2c02a59120c6c8f172724a0d6e459f89b0058778bb2f7d9", func := "loop.example/fixedmath/laws.FnNearFractions", spec := "fnNearFractions", apart := false }
def FnNearFractionsSaid : Prop := fnNearFractionsRow.holds Try.pinned (OpenSpec.ofChange fnNearFractionsSpec)

/-- ITS FALSE NEIGHBOUR: 'it returns false'. Refute it at one input. -/
def fnNearFractionsWrong : ChangeSpec := { name := "fnNearFractions", fn := fun _ => fun
  | [d] => { results := [.lit (.bool false)], args := [d] }
  | _ => none }
def FnNearFractionsWrongFalsely : Prop := fnNearFractionsRow.holds Try.pinned (OpenSpec.ofChange fnNearFractionsWrong)

/-- 'laws.FnExactFromChain': WHATEVER THE INPUT: true; the input reads as it did. -/
def fnExactFromChainSpec : ChangeSpec := { name := "fnExactFromChain", fn := fun _ => fun
  | [d] => { results := [.lit (.bool true)], args := [d] }
  | _ => none }
def fnExactFromChainRow : OpenClaim := { program := "ytdpekaejklmomaa", sum := "38521eb320ca5cbbb2c02a59120c6c8f172724a0d6e459f89b0058778bb2f7d9", func := "loop.example/fixedmath/laws.FnExactFromChain", spec := "fnExactFromChain", apart := false }
def FnExactFromChainSaid : Prop := fnExactFromChainRow.holds Try.pinned (OpenSpec.ofChange fnExactFromChainSpec)

/-- ITS FALSE NEIGHBOUR: 'it returns false'. Refute it at one input. -/
def fnExactFromChainWrong : ChangeSpec := { name := "fnExactFromChain", fn := fun _ => fun
  | [d] => { results := [.lit (.bool false)], args := [d] }
  | _ => none }
def FnExactFromChainWrongFalsely : Prop := fnExactFromChainRow.holds Try.pinned (OpenSpec.ofChange fnExactFromChainWrong)

/-- 'laws.FnFromChain': WHATEVER THE INPUT: true; the input reads as it did. -/
def fnFromChainSpec : ChangeSpec := { name := "fnFromChain", fn := fun _ => fun
  | [d] => { results := [.lit (.bool true)], args := [d] }
  | _ => none }
def fnFromChainRow : OpenClaim := { program := "ytdpekaejklmomaa", sum := "38521eb320ca5cbbb2c02a59120c6c8f172724a0d6e459f89b0058778bb2f7d9", func := "loop.example/fixedmath/laws.FnFromChain", spec := "fnFromChain", apart := false }
def FnFromChainSaid : Prop := fnFromChainRow.holds Try.pinned (OpenSpec.ofChange fnFromChainSpec)

/-- ITS FALSE NEIGHBOUR: 'it returns false'. Refute it at one input. -/
def fnFromChainWrong : ChangeSpec := { name := "fnFromChain", fn := fun _ => fun
  | [d] => { results := [.lit (.bool false)], args := [d] }
  | _ => none }
def FnFromChainWrongFalsely : Prop := fnFromChainRow.holds Try.pinned (OpenSpec.ofChange fnFromChainWrong)

/- THE SECOND FORM. 'bulk': how many values and letters a reading holds, each counted each time it is reached (what is shared counts as often as it is met; a slice's spare places count too). A statement '..UptoSaid' is the law's where the arguments, and the package variables that the reading takes, are together of bulk at most 1048576: NARROWER than '..Said'. Prove '..Said' where nothing that the law and all that it calls make is longer than what came in: it says more and counts as full. Else prove '..UptoSaid'. A law counts once. -/
mutual
def uptoBulk {H : Type} : DataW H → Nat
  | .lit (.string bytes) => bytes.length + 1
  | .lit _ => 1
  | .nil => 1
  | .ptr d => uptoBulk d + 1
  | .slice elems spare => uptoBulkAll elems + uptoBulkAll spare + 1
  | .agg parts => uptoBulkAll parts + 1
  | .iface _ d => uptoBulk d + 1
  | .map entries => uptoBulkEntries entries + 1
  | .held _ => 1
def uptoBulkAll {H : Type} : List (DataW H) → Nat
  | [] => 0
  | d :: r => uptoBulk d + uptoBulkAll r
def uptoBulkEntries {H : Type} : List (Lit × DataW H) → Nat
  | [] => 0
  | x :: r => uptoBulkEntry x + uptoBulkEntries r
def uptoBulkEntry {H : Type} : Lit × DataW H → Nat
  | (.string bytes, d) => bytes.length + uptoBulk d + 1
  | (_, d) => uptoBulk d + 1
 end
def uptoSmall : (H : Type) → List (DataW H) → Bool := fun _ ds => decide (uptoBulkAll ds ≤ 1048576)
def OpenSpec.upto (s : _root_.Go.ChangeSpec) : _root_.Go.OpenSpec := { _root_.Go.OpenSpec.ofChange s with cond := some uptoSmall }

/-- 'laws.FnExactModPower', WHERE WHAT IT READS IS OF BULK AT MOST 1048576: true; the input reads as it did. -/
def fnExactModPowerUptoRow : OpenClaim := { program := "ytdpekaejklmomaa", sum := "38521eb320ca5cbbb2c02a59120c6c8f172724a0d6e459f89b0058778bb2f7d9", func := "loop.example/fixedmath/laws.FnExactModPower", spec := "fnExactModPower", apart := false, narrowed := true }
def FnExactModPowerUptoSaid : Prop := fnExactModPowerUptoRow.holds Try.pinned (OpenSpec.upto fnExactModPowerSpec)

/-- 'laws.FnModPower', WHERE WHAT IT READS IS OF BULK AT MOST 1048576: true; the input reads as it did. -/
def fnModPowerUptoRow : OpenClaim := { program := "ytdpekaejklmomaa", sum := "38521eb320ca5cbbb2c02a59120c6c8f172724a0d6e459f89b0058778bb2f7d9", func := "loop.example/fixedmath/laws.FnModPower", spec := "fnModPower", apart := false, narrowed := true }
def FnModPowerUptoSaid : Prop := fnModPowerUptoRow.holds Try.pinned (OpenSpec.upto fnModPowerSpec)

/-- 'laws.FnExactModInverse', WHERE WHAT IT READS IS OF BULK AT MOST 1048576: true; the input reads as it did. -/
def fnExactModInverseUptoRow : OpenClaim := { program := "ytdpekaejklmomaa", sum := "38521eb320ca5cbbb2c02a59120c6c8f172724a0d6e459f89b0058778bb2f7d9", func := "loop.example/fixedmath/laws.FnExactModInverse", spec := "fnExactModInverse", apart := false, narrowed := true }
def FnExactModInverseUptoSaid : Prop := fnExactModInverseUptoRow.holds Try.pinned (OpenSpec.upto fnExactModInverseSpec)

/-- 'laws.FnModInverse', WHERE WHAT IT READS IS OF BULK AT MOST 1048576: true; the input reads as it did. -/
def fnModInverseUptoRow : OpenClaim := { program := "ytdpekaejklmomaa", sum := "38521eb320ca5cbbb2c02a59120c6c8f172724a0d6e459f89b0058778bb2f7d9", func := "loop.example/fixedmath/laws.FnModInverse", spec := "fnModInverse", apart := false, narrowed := true }
def FnModInverseUptoSaid : Prop := fnModInverseUptoRow.holds Try.pinned (OpenSpec.upto fnModInverseSpec)

/-- 'laws.FnExactBothResidues', WHERE WHAT IT READS IS OF BULK AT MOST 1048576: true; the input reads as it did. -/
def fnExactBothResiduesUptoRow : OpenClaim := { program := "ytdpekaejklmomaa", sum := "38521eb320ca5cbbb2c02a59120c6c8f172724a0d6e459f89b0058778bb2f7d9", func := "loop.example/fixedmath/laws.FnExactBothResidues", spec := "fnExactBothResidues", apart := false, narrowed := true }
def FnExactBothResiduesUptoSaid : Prop := fnExactBothResiduesUptoRow.holds Try.pinned (OpenSpec.upto fnExactBothResiduesSpec)

/-- 'laws.FnBothResidues', WHERE WHAT IT READS IS OF BULK AT MOST 1048576: true; the input reads as it did. -/
def fnBothResiduesUptoRow : OpenClaim := { program := "ytdpekaejklmomaa", sum := "38521eb320ca5cbbb2c02a59120c6c8f172724a0d6e459f89b0058778bb2f7d9", func := "loop.example/fixedmath/laws.FnBothResidues", spec := "fnBothResidues", apart := false, narrowed := true }
def FnBothResiduesUptoSaid : Prop := fnBothResiduesUptoRow.holds Try.pinned (OpenSpec.upto fnBothResiduesSpec)

/-- 'laws.FnExactChainOf', WHERE WHAT IT READS IS OF BULK AT MOST 1048576: true; the input reads as it did. -/
def fnExactChainOfUptoRow : OpenClaim := { program := "ytdpekaejklmomaa", sum := "38521eb320ca5cbbb2c02a59120c6c8f172724a0d6e459f89b0058778bb2f7d9", func := "loop.example/fixedmath/laws.FnExactChainOf", spec := "fnExactChainOf", apart := false, narrowed := true }
def FnExactChainOfUptoSaid : Prop := fnExactChainOfUptoRow.holds Try.pinned (OpenSpec.upto fnExactChainOfSpec)

/-- 'laws.FnChainOf', WHERE WHAT IT READS IS OF BULK AT MOST 1048576: true; the input reads as it did. -/
def fnChainOfUptoRow : OpenClaim := { program := "ytdpekaejklmomaa", sum := "38521eb320ca5cbbb2c02a59120c6c8f172724a0d6e459f89b0058778bb2f7d9", func := "loop.example/fixedmath/laws.FnChainOf", spec := "fnChainOf", apart := false, narrowed := true }
def FnChainOfUptoSaid : Prop := fnChainOfUptoRow.holds Try.pinned (OpenSpec.upto fnChainOfSpec)

/-- 'laws.FnExactNearFractions', WHERE WHAT IT READS IS OF BULK AT MOST 1048576: true; the input reads as it did. -/
def fnExactNearFractionsUptoRow : OpenClaim := { program := "ytdpekaejklmomaa", sum := "38521eb320ca5cbbb2c02a59120c6c8f172724a0d6e459f89b0058778bb2f7d9", func := "loop.example/fixedmath/laws.FnExactNearFractions", spec := "fnExactNearFractions", apart := false, narrowed := true }
def FnExactNearFractionsUptoSaid : Prop := fnExactNearFractionsUptoRow.holds Try.pinned (OpenSpec.upto fnExactNearFractionsSpec)

/-- 'laws.FnNearFractions', WHERE WHAT IT READS IS OF BULK AT MOST 1048576: true; the input reads as it did. -/
def fnNearFractionsUptoRow : OpenClaim := { program := "ytdpekaejklmomaa", sum := "38521eb320ca5cbbb2c02a59120c6c8f172724a0d6e459f89b0058778bb2f7d9", func := "loop.example/fixedmath/laws.FnNearFractions", spec := "fnNearFractions", apart := false, narrowed := true }
def FnNearFractionsUptoSaid : Prop := fnNearFractionsUptoRow.holds Try.pinned (OpenSpec.upto fnNearFractionsSpec)

/-- 'laws.FnExactFromChain', WHERE WHAT IT READS IS OF BULK AT MOST 1048576: true; the input reads as it did. -/
def fnExactFromChainUptoRow : OpenClaim := { program := "ytdpekaejklmomaa", sum := "38521eb320ca5cbbb2c02a59120c6c8f172724a0d6e459f89b0058778bb2f7d9", func := "loop.example/fixedmath/laws.FnExactFromChain", spec := "fnExactFromChain", apart := false, narrowed := true }
def FnExactFromChainUptoSaid : Prop := fnExactFromChainUptoRow.holds Try.pinned (OpenSpec.upto fnExactFromChainSpec)

/-- 'laws.FnFromChain', WHERE WHAT IT READS IS OF BULK AT MOST 1048576: true; the input reads as it did. -/
def fnFromChainUptoRow : OpenClaim := { program := "ytdpekaejklmomaa", sum := "38521eb320ca5cbbb2c02a59120c6c8f172724a0d6e459f89b0058778bb2f7d9", func := "loop.example/fixedmath/laws.FnFromChain", spec := "fnFromChain", apart := false, narrowed := true }
def FnFromChainUptoSaid : Prop := fnFromChainUptoRow.holds Try.pinned (OpenSpec.upto fnFromChainSpec)

end Rows
end Go.Proofs.Ytdpekaejklmomaa
