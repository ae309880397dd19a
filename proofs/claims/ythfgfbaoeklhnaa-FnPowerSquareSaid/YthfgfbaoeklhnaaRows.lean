/-
  No cell of these rows narrows 'for every input' (looked for: loops, veiled, ifaces, maps, wideKeys, modest, calm, conditions, laid).
  DERIVED. THE GIVEN ROWS OF THIS SEAT. 14 by the template 'for every input the law returns true; each argument reads behind the call as it read before'; 0 by the template 'total and deterministic' (their statements: YthfgfbaoeklhnaaTotals.lean).
  GIVEN WITH THE SEED: the statements are not yours to turn. If you find one false, say at which input.
  Laid BY PROGRAM, IN A SANDBOX (cutbox-rows.mjs): the forced cells as the released guide's own fill.sh prints them over the translation 55b2c4a48bfb0e0a… (all of the seat's roots in one cut). By AI agents, Wed Nov 11 2026. No macro, syntax, notation, axiom, sorry.
-/
import Derived.Test.YthfgfbaoeklhnaaChecked
import GoSem.Claim
import GoSem.ClaimJoined
import GoSem.ClaimMapViews
import Derived.JoinedTies
import Derived.KernelRfl
namespace Go.Proofs.Ythfgfbaoeklhnaa
/- THE CELL 'sum', in the pinned program and in every row, IS THE sha256 OF THE DUMP (.gsa) THAT YthfgfbaoeklhnaaProg.lean LOADS. Nothing in Lean hashes anything: it is a label: what it is worth is what the hold of that sum in a sandbox is worth. -/
noncomputable def Try.pinned : Pinned := { name := "ythfgfbaoeklhnaa", sum := "55b2c4a48bfb0e0aec792272855800fd8a8513b1b40be7780e16df5579c94bfe", checked := Try.checked }
namespace Rows
def none {H : Type} : Left H := { results := [], args := [] }

/-- 'laws.FnExactSquareValid': WHATEVER THE INPUT: true; the input reads as it did. -/
def fnExactSquareValidSpec : ChangeSpec := { name := "fnExactSquareValid", fn := fun _ => fun
  | [d] => { results := [.lit (.bool true)], args := [d] }
  | _ => none }
def fnExactSquareValidRow : OpenClaim := { program := "ythfgfbaoeklhnaa", sum := "55b2c4a48bfb0e0aec792272855800fd8a8513b1b40be7780e16df5579c94bfe", func := "loop.example/fixedmath/laws.FnExactSquareValid", spec := "fnExactSquareValid", apart := false }
def FnExactSquareValidSaid : Prop := fnExactSquareValidRow.holds Try.pinned (OpenSpec.ofChange fnExactSquareValidSpec)

/-- ITS FALSE NEIGHBOUR: 'it returns false'. Refute it at one input. -/
def fnExactSquareValidWrong : ChangeSpec := { name := "fnExactSquareValid", fn := fun _ => fun
  | [d] => { results := [.lit (.bool false)], args := [d] }
  | _ => none }
def FnExactSquareValidWrongFalsely : Prop := fnExactSquareValidRow.holds Try.pinned (OpenSpec.ofChange fnExactSquareValidWrong)

/-- 'laws.FnExactEaseStep': WHATEVER THE INPUT: true; the input reads as it did. -/
def fnExactEaseStepSpec : ChangeSpec := { name := "fnExactEaseStep", fn := fun _ => fun
  | [d] => { results := [.lit (.bool true)], args := [d] }
  | _ => none }
def fnExactEaseStepRow : OpenClaim := { program := "ythfgfbaoeklhnaa", sum := "55b2c4a48bfb0e0aec792272855800fd8a8513b1b40be7780e16df5579c94bfe", func := "loop.example/fixedmath/laws.FnExactEaseStep", spec := "fnExactEaseStep", apart := false }
def FnExactEaseStepSaid : Prop := fnExactEaseStepRow.holds Try.pinned (OpenSpec.ofChange fnExactEaseStepSpec)

/-- ITS FALSE NEIGHBOUR: 'it returns false'. Refute it at one input. -/
def fnExactEaseStepWrong : ChangeSpec := { name := "fnExactEaseStep", fn := fun _ => fun
  | [d] => { results := [.lit (.bool false)], args := [d] }
  | _ => none }
def FnExactEaseStepWrongFalsely : Prop := fnExactEaseStepRow.holds Try.pinned (OpenSpec.ofChange fnExactEaseStepWrong)

/-- 'laws.FnExactSquareWeight': WHATEVER THE INPUT: true; the input reads as it did. -/
def fnExactSquareWeightSpec : ChangeSpec := { name := "fnExactSquareWeight", fn := fun _ => fun
  | [d] => { results := [.lit (.bool true)], args := [d] }
  | _ => none }
def fnExactSquareWeightRow : OpenClaim := { program := "ythfgfbaoeklhnaa", sum := "55b2c4a48bfb0e0aec792272855800fd8a8513b1b40be7780e16df5579c94bfe", func := "loop.example/fixedmath/laws.FnExactSquareWeight", spec := "fnExactSquareWeight", apart := false }
def FnExactSquareWeightSaid : Prop := fnExactSquareWeightRow.holds Try.pinned (OpenSpec.ofChange fnExactSquareWeightSpec)

/-- ITS FALSE NEIGHBOUR: 'it returns false'. Refute it at one input. -/
def fnExactSquareWeightWrong : ChangeSpec := { name := "fnExactSquareWeight", fn := fun _ => fun
  | [d] => { results := [.lit (.bool false)], args := [d] }
  | _ => none }
def FnExactSquareWeightWrongFalsely : Prop := fnExactSquareWeightRow.holds Try.pinned (OpenSpec.ofChange fnExactSquareWeightWrong)

/-- 'laws.FnExactMixNumbers': WHATEVER THE INPUT: true; the input reads as it did. -/
def fnExactMixNumbersSpec : ChangeSpec := { name := "fnExactMixNumbers", fn := fun _ => fun
  | [d1, d2, d3] => { results := [.lit (.bool true)], args := [d1, d2, d3] }
  | _ => none }
def fnExactMixNumbersRow : OpenClaim := { program := "ythfgfbaoeklhnaa", sum := "55b2c4a48bfb0e0aec792272855800fd8a8513b1b40be7780e16df5579c94bfe", func := "loop.example/fixedmath/laws.FnExactMixNumbers", spec := "fnExactMixNumbers", apart := false }
def FnExactMixNumbersSaid : Prop := fnExactMixNumbersRow.holds Try.pinned (OpenSpec.ofChange fnExactMixNumbersSpec)

/-- ITS FALSE NEIGHBOUR: 'it returns false'. Refute it at one input. -/
def fnExactMixNumbersWrong : ChangeSpec := { name := "fnExactMixNumbers", fn := fun _ => fun
  | [d1, d2, d3] => { results := [.lit (.bool false)], args := [d1, d2, d3] }
  | _ => none }
def FnExactMixNumbersWrongFalsely : Prop := fnExactMixNumbersRow.holds Try.pinned (OpenSpec.ofChange fnExactMixNumbersWrong)

/-- 'laws.FnExactMulSquares': WHATEVER THE INPUT: true; the input reads as it did. -/
def fnExactMulSquaresSpec : ChangeSpec := { name := "fnExactMulSquares", fn := fun _ => fun
  | [d1, d2] => { results := [.lit (.bool true)], args := [d1, d2] }
  | _ => none }
def fnExactMulSquaresRow : OpenClaim := { program := "ythfgfbaoeklhnaa", sum := "55b2c4a48bfb0e0aec792272855800fd8a8513b1b40be7780e16df5579c94bfe", func := "loop.example/fixedmath/laws.FnExactMulSquares", spec := "fnExactMulSquares", apart := false }
def FnExactMulSquaresSaid : Prop := fnExactMulSquaresRow.holds Try.pinned (OpenSpec.ofChange fnExactMulSquaresSpec)

/-- ITS FALSE NEIGHBOUR: 'it returns false'. Refute it at one input. -/
def fnExactMulSquaresWrong : ChangeSpec := { name := "fnExactMulSquares", fn := fun _ => fun
  | [d1, d2] => { results := [.lit (.bool false)], args := [d1, d2] }
  | _ => none }
def FnExactMulSquaresWrongFalsely : Prop := fnExactMulSquaresRow.holds Try.pinned (OpenSpec.ofChange fnExactMulSquaresWrong)

/-- 'laws.FnExactCurvePoint': WHATEVER THE INPUT: true; the input reads as it did. -/
def fnExactCurvePointSpec : ChangeSpec := { name := "fnExactCurvePoint", fn := fun _ => fun
  | [d1, d2, d3, d4] => { results := [.lit (.bool true)], args := [d1, d2, d3, d4] }
  | _ => none }
def fnExactCurvePointRow : OpenClaim := { program := "ythfgfbaoeklhnaa", sum := "55b2c4a48bfb0e0aec792272855800fd8a8513b1b40be7780e16df5579c94bfe", func := "loop.example/fixedmath/laws.FnExactCurvePoint", spec := "fnExactCurvePoint", apart := false }
def FnExactCurvePointSaid : Prop := fnExactCurvePointRow.holds Try.pinned (OpenSpec.ofChange fnExactCurvePointSpec)

/-- ITS FALSE NEIGHBOUR: 'it returns false'. Refute it at one input. -/
def fnExactCurvePointWrong : ChangeSpec := { name := "fnExactCurvePoint", fn := fun _ => fun
  | [d1, d2, d3, d4] => { results := [.lit (.bool false)], args := [d1, d2, d3, d4] }
  | _ => none }
def FnExactCurvePointWrongFalsely : Prop := fnExactCurvePointRow.holds Try.pinned (OpenSpec.ofChange fnExactCurvePointWrong)

/-- 'laws.FnSquareValid': WHATEVER THE INPUT: true; the input reads as it did. -/
def fnSquareValidSpec : ChangeSpec := { name := "fnSquareValid", fn := fun _ => fun
  | [d] => { results := [.lit (.bool true)], args := [d] }
  | _ => none }
def fnSquareValidRow : OpenClaim := { program := "ythfgfbaoeklhnaa", sum := "55b2c4a48bfb0e0aec792272855800fd8a8513b1b40be7780e16df5579c94bfe", func := "loop.example/fixedmath/laws.FnSquareValid", spec := "fnSquareValid", apart := false }
def FnSquareValidSaid : Prop := fnSquareValidRow.holds Try.pinned (OpenSpec.ofChange fnSquareValidSpec)

/-- ITS FALSE NEIGHBOUR: 'it returns false'. Refute it at one input. -/
def fnSquareValidWrong : ChangeSpec := { name := "fnSquareValid", fn := fun _ => fun
  | [d] => { results := [.lit (.bool false)], args := [d] }
  | _ => none }
def FnSquareValidWrongFalsely : Prop := fnSquareValidRow.holds Try.pinned (OpenSpec.ofChange fnSquareValidWrong)

/-- 'laws.FnEaseStep': WHATEVER THE INPUT: true; the input reads as it did. -/
def fnEaseStepSpec : ChangeSpec := { name := "fnEaseStep", fn := fun _ => fun
  | [d] => { results := [.lit (.bool true)], args := [d] }
  | _ => none }
def fnEaseStepRow : OpenClaim := { program := "ythfgfbaoeklhnaa", sum := "55b2c4a48bfb0e0aec792272855800fd8a8513b1b40be7780e16df5579c94bfe", func := "loop.example/fixedmath/laws.FnEaseStep", spec := "fnEaseStep", apart := false }
def FnEaseStepSaid : Prop := fnEaseStepRow.holds Try.pinned (OpenSpec.ofChange fnEaseStepSpec)

/-- ITS FALSE NEIGHBOUR: 'it returns false'. Refute it at one input. -/
def fnEaseStepWrong : ChangeSpec := { name := "fnEaseStep", fn := fun _ => fun
  | [d] => { results := [.lit (.bool false)], args := [d] }
  | _ => none }
def FnEaseStepWrongFalsely : Prop := fnEaseStepRow.holds Try.pinned (OpenSpec.ofChange fnEaseStepWrong)

/-- 'laws.FnSquareWeight': WHATEVER THE INPUT: true; the input reads as it did. -/
def fnSquareWeightSpec : ChangeSpec := { name := "fnSquareWeight", fn := fun _ => fun
  | [d] => { results := [.lit (.bool true)], args := [d] }
  | _ => none }
def fnSquareWeightRow : OpenClaim := { program := "ythfgfbaoeklhnaa", sum := "55b2c4a48bfb0e0aec792272855800fd8a8513b1b40be7780e16df5579c94bfe", func := "loop.example/fixedmath/laws.FnSquareWeight", spec := "fnSquareWeight", apart := false }
def FnSquareWeightSaid : Prop := fnSquareWeightRow.holds Try.pinned (OpenSpec.ofChange fnSquareWeightSpec)

/-- ITS FALSE NEIGHBOUR: 'it returns false'. Refute it at one input. -/
def fnSquareWeightWrong : ChangeSpec := { name := "fnSquareWeight", fn := fun _ => fun
  | [d] => { results := [.lit (.bool false)], args := [d] }
  | _ => none }
def FnSquareWeightWrongFalsely : Prop := fnSquareWeightRow.holds Try.pinned (OpenSpec.ofChange fnSquareWeightWrong)

/-- 'laws.FnExactPowerSquare': WHATEVER THE INPUT: true; the input reads as it did. -/
def fnExactPowerSquareSpec : ChangeSpec := { name := "fnExactPowerSquare", fn := fun _ => fun
  | [d1, d2] => { results := [.lit (.bool true)], args := [d1, d2] }
  | _ => none }
def fnExactPowerSquareRow : OpenClaim := { program := "ythfgfbaoeklhnaa", sum := "55b2c4a48bfb0e0aec792272855800fd8a8513b1b40be7780e16df5579c94bfe", func := "loop.example/fixedmath/laws.FnExactPowerSquare", spec := "fnExactPowerSquare", apart := false }
def FnExactPowerSquareSaid : Prop := fnExactPowerSquareRow.holds Try.pinned (OpenSpec.ofChange fnExactPowerSquareSpec)

/-- ITS FALSE NEIGHBOUR: 'it returns false'. Refute it at one input. -/
def fnExactPowerSquareWrong : ChangeSpec := { name := "fnExactPowerSquare", fn := fun _ => fun
  | [d1, d2] => { results := [.lit (.bool false)], args := [d1, d2] }
  | _ => none }
def FnExactPowerSquareWrongFalsely : Prop := fnExactPowerSquareRow.holds Try.pinned (OpenSpec.ofChange fnExactPowerSquareWrong)

/-- 'laws.FnMulSquares': WHATEVER THE INPUT: true; the input reads as it did. -/
def fnMulSquaresSpec : ChangeSpec := { name := "fnMulSquares", fn := fun _ => fun
  | [d] => { results := [.lit (.bool true)], args := [d] }
  | _ => none }
def fnMulSquaresRow : OpenClaim := { program := "ythfgfbaoeklhnaa", sum := "55b2c4a48bfb0e0aec792272855800fd8a8513b1b40be7780e16df5579c94bfe", func := "loop.example/fixedmath/laws.FnMulSquares", spec := "fnMulSquares", apart := false }
def FnMulSquaresSaid : Prop := fnMulSquaresRow.holds Try.pinned (OpenSpec.ofChange fnMulSquaresSpec)

/-- ITS FALSE NEIGHBOUR: 'it returns false'. Refute it at one input. -/
def fnMulSquaresWrong : ChangeSpec := { name := "fnMulSquares", fn := fun _ => fun
  | [d] => { results := [.lit (.bool false)], args := [d] }
  | _ => none }
def FnMulSquaresWrongFalsely : Prop := fnMulSquaresRow.holds Try.pinned (OpenSpec.ofChange fnMulSquaresWrong)

/-- 'laws.FnMixNumbers': WHATEVER THE INPUT: true; the input reads as it did. -/
def fnMixNumbersSpec : ChangeSpec := { name := "fnMixNumbers", fn := fun _ => fun
  | [d] => { results := [.lit (.bool true)], args := [d] }
  | _ => none }
def fnMixNumbersRow : OpenClaim := { program := "ythfgfbaoeklhnaa", sum := "55b2c4a48bfb0e0aec792272855800fd8a8513b1b40be7780e16df5579c94bfe", func := "loop.example/fixedmath/laws.FnMixNumbers", spec := "fnMixNumbers", apart := false }
def FnMixNumbersSaid : Prop := fnMixNumbersRow.holds Try.pinned (OpenSpec.ofChange fnMixNumbersSpec)

/-- ITS FALSE NEIGHBOUR: 'it returns false'. Refute it at one input. -/
def fnMixNumbersWrong : ChangeSpec := { name := "fnMixNumbers", fn := fun _ => fun
  | [d] => { results := [.lit (.bool false)], args := [d] }
  | _ => none }
def FnMixNumbersWrongFalsely : Prop := fnMixNumbersRow.holds Try.pinned (OpenSpec.ofChange fnMixNumbersWrong)

/-- 'laws.FnCurvePoint': WHATEVER THE INPUT: true; the input reads as it did. -/
def fnCurvePointSpec : ChangeSpec := { name := "fnCurvePoint", fn := fun _ => fun
  | [d] => { results := [.lit (.bool true)], args := [d] }
  | _ => none }
def fnCurvePointRow : OpenClaim := { program := "ythfgfbaoeklhnaa", sum := "55b2c4a48bfb0e0aec792272855800fd8a8513b1b40be7780e16df5579c94bfe", func := "loop.example/fixedmath/laws.FnCurvePoint", spec := "fnCurvePoint", apart := false }
def FnCurvePointSaid : Prop := fnCurvePointRow.holds Try.pinned (OpenSpec.ofChange fnCurvePointSpec)

/-- ITS FALSE NEIGHBOUR: 'it returns false'. Refute it at one input. -/
def fnCurvePointWrong : ChangeSpec := { name := "fnCurvePoint", fn := fun _ => fun
  | [d] => { results := [.lit (.bool false)], args := [d] }
  | _ => none }
def FnCurvePointWrongFalsely : Prop := fnCurvePointRow.holds Try.pinned (OpenSpec.ofChange fnCurvePointWrong)

/-- 'laws.FnPowerSquare': WHATEVER THE INPUT: true; the input reads as it did. -/
def fnPowerSquareSpec : ChangeSpec := { name := "fnPowerSquare", fn := fun _ => fun
  | [d] => { results := [.lit (.bool true)], args := [d] }
  | _ => none }
def fnPowerSquareRow : OpenClaim := { program := "ythfgfbaoeklhnaa", sum := "55b2c4a48bfb0e0aec792272855800fd8a8513b1b40be7780e16df5579c94bfe", func := "loop.example/fixedmath/laws.FnPowerSquare", spec := "fnPowerSquare", apart := false }
def FnPowerSquareSaid : Prop := fnPowerSquareRow.holds Try.pinned (OpenSpec.ofChange fnPowerSquareSpec)

/-- ITS FALSE NEIGHBOUR: 'it returns false'. Refute it at one input. -/
def fnPowerSquareWrong : ChangeSpec := { name := "fnPowerSquare", fn := fun _ => fun
  | [d] => { results := [.lit (.bool false)], args := [d] }
  | _ => none }
def FnPowerSquareWrongFalsely : Prop := fnPowerSquareRow.holds Try.pinned (OpenSpec.ofChange fnPowerSquareWrong)

/- THE SECOND FORM. 'bulk': how many values and letters a reading holds, each counted each time it is reached (what is shared counts as often as it is met; a slice's spare places count too). A statement '..UptoSaid' is the law's where the arguments, and the package variables that the reading takes, are together of bulk at most 1048576: NARROWER than '..Said'. Prove '..Said' where nothing that the law and all that it calls make is longer than what came in: it says more and counts as full. Else prove '..UptoSaid'. A law counts once. -/
mutual
def uptoBulk {H : Type} : DataW H → Nat
  | .lit (.string bytes) => bytes.length + 1
  | .lit _ => 1
  | .nil => 1
  | .ptr d => uptoBulk d + 1
  | .slice elems spare => uptoBulkAll elems + uptoBulkAll spare + 1
  | .agg parts => uptoBulkAll parts + 1
  | .iface _ d => uptoBulk d + 1
  | .map entries => uptoBulkEntries entries + 1
  | .held _ => 1
def uptoBulkAll {H : Type} : List (DataW H) → Nat
  | [] => 0
  | d :: r => uptoBulk d + uptoBulkAll r
def uptoBulkEntries {H : Type} : List (Lit × DataW H) → Nat
  | [] => 0
  | x :: r => uptoBulkEntry x + uptoBulkEntries r
def uptoBulkEntry {H : Type} : Lit × DataW H → Nat
  | (.string bytes, d) => bytes.length + uptoBulk d + 1
  | (_, d) => uptoBulk d + 1
 end
def uptoSmall : (H : Type) → List (DataW H) → Bool := fun _ ds => decide (uptoBulkAll ds ≤ 1048576)
def OpenSpec.upto (s : _root_.Go.ChangeSpec) : _root_.Go.OpenSpec := { _root_.Go.OpenSpec.ofChange s with cond := some uptoSmall }

/-- 'laws.FnExactSquareValid', WHERE WHAT IT READS IS OF BULK AT MOST 1048576: true; the input reads as it did. -/
def fnExactSquareValidUptoRow : OpenClaim := { program := "ythfgfbaoeklhnaa", sum := "55b2c4a48bfb0e0aec792272855800fd8a8513b1b40be7780e16df5579c94bfe", func := "loop.example/fixedmath/laws.FnExactSquareValid", spec := "fnExactSquareValid", apart := false, narrowed := true }
def FnExactSquareValidUptoSaid : Prop := fnExactSquareValidUptoRow.holds Try.pinned (OpenSpec.upto fnExactSquareValidSpec)

/-- 'laws.FnExactEaseStep', WHERE WHAT IT READS IS OF BULK AT MOST 1048576: true; the input reads as it did. -/
def fnExactEaseStepUptoRow : OpenClaim := { program := "ythfgfbaoeklhnaa", sum := "55b2c4a48bfb0e0aec792272855800fd8a8513b1b40be7780e16df5579c94bfe", func := "loop.example/fixedmath/laws.FnExactEaseStep", spec := "fnExactEaseStep", apart := false, narrowed := true }
def FnExactEaseStepUptoSaid : Prop := fnExactEaseStepUptoRow.holds Try.pinned (OpenSpec.upto fnExactEaseStepSpec)

/-- 'laws.FnExactSquareWeight', WHERE WHAT IT READS IS OF BULK AT MOST 1048576: true; the input reads as it did. -/
def fnExactSquareWeightUptoRow : OpenClaim := { program := "ythfgfbaoeklhnaa", sum := "55b2c4a48bfb0e0aec792272855800fd8a8513b1b40be7780e16df5579c94bfe", func := "loop.example/fixedmath/laws.FnExactSquareWeight", spec := "fnExactSquareWeight", apart := false, narrowed := true }
def FnExactSquareWeightUptoSaid : Prop := fnExactSquareWeightUptoRow.holds Try.pinned (OpenSpec.upto fnExactSquareWeightSpec)

/-- 'laws.FnExactMixNumbers', WHERE WHAT IT READS IS OF BULK AT MOST 1048576: true; the input reads as it did. -/
def fnExactMixNumbersUptoRow : OpenClaim := { program := "ythfgfbaoeklhnaa", sum := "55b2c4a48bfb0e0aec792272855800fd8a8513b1b40be7780e16df5579c94bfe", func := "loop.example/fixedmath/laws.FnExactMixNumbers", spec := "fnExactMixNumbers", apart := false, narrowed := true }
def FnExactMixNumbersUptoSaid : Prop := fnExactMixNumbersUptoRow.holds Try.pinned (OpenSpec.upto fnExactMixNumbersSpec)

/-- 'laws.FnExactMulSquares', WHERE WHAT IT READS IS OF BULK AT MOST 1048576: true; the input reads as it did. -/
def fnExactMulSquaresUptoRow : OpenClaim := { program := "ythfgfbaoeklhnaa", sum := "55b2c4a48bfb0e0aec792272855800fd8a8513b1b40be7780e16df5579c94bfe", func := "loop.example/fixedmath/laws.FnExactMulSquares", spec := "fnExactMulSquares", apart := false, narrowed := true }
def FnExactMulSquaresUptoSaid : Prop := fnExactMulSquaresUptoRow.holds Try.pinned (OpenSpec.upto fnExactMulSquaresSpec)

/-- 'laws.FnExactCurvePoint', WHERE WHAT IT READS IS OF BULK AT MOST 1048576: true; the input reads as it did. -/
def fnExactCurvePointUptoRow : OpenClaim := { program := "ythfgfbaoeklhnaa", sum := "55b2c4a48bfb0e0aec792272855800fd8a8513b1b40be7780e16df5579c94bfe", func := "loop.example/fixedmath/laws.FnExactCurvePoint", spec := "fnExactCurvePoint", apart := false, narrowed := true }
def FnExactCurvePointUptoSaid : Prop := fnExactCurvePointUptoRow.holds Try.pinned (OpenSpec.upto fnExactCurvePointSpec)

/-- 'laws.FnSquareValid', WHERE WHAT IT READS IS OF BULK AT MOST 1048576: true; the input reads as it did. -/
def fnSquareValidUptoRow : OpenClaim := { program := "ythfgfbaoeklhnaa", sum := "55b2c4a48bfb0e0aec792272855800fd8a8513b1b40be7780e16df5579c94bfe", func := "loop.example/fixedmath/laws.FnSquareValid", spec := "fnSquareValid", apart := false, narrowed := true }
def FnSquareValidUptoSaid : Prop := fnSquareValidUptoRow.holds Try.pinned (OpenSpec.upto fnSquareValidSpec)

/-- 'laws.FnEaseStep', WHERE WHAT IT READS IS OF BULK AT MOST 1048576: true; the input reads as it did. -/
def fnEaseStepUptoRow : OpenClaim := { program := "ythfgfbaoeklhnaa", sum := "55b2c4a48bfb0e0aec792272855800fd8a8513b1b40be7780e16df5579c94bfe", func := "loop.example/fixedmath/laws.FnEaseStep", spec := "fnEaseStep", apart := false, narrowed := true }
def FnEaseStepUptoSaid : Prop := fnEaseStepUptoRow.holds Try.pinned (OpenSpec.upto fnEaseStepSpec)

/-- 'laws.FnSquareWeight', WHERE WHAT IT READS IS OF BULK AT MOST 1048576: true; the input reads as it did. -/
def fnSquareWeightUptoRow : OpenClaim := { program := "ythfgfbaoeklhnaa", sum := "55b2c4a48bfb0e0aec792272855800fd8a8513b1b40be7780e16df5579c94bfe", func := "loop.example/fixedmath/laws.FnSquareWeight", spec := "fnSquareWeight", apart := false, narrowed := true }
def FnSquareWeightUptoSaid : Prop := fnSquareWeightUptoRow.holds Try.pinned (OpenSpec.upto fnSquareWeightSpec)

/-- 'laws.FnExactPowerSquare', WHERE WHAT IT READS IS OF BULK AT MOST 1048576: true; the input reads as it did. -/
def fnExactPowerSquareUptoRow : OpenClaim := { program := "ythfgfbaoeklhnaa", sum := "55b2c4a48bfb0e0aec792272855800fd8a8513b1b40be7780e16df5579c94bfe", func := "loop.example/fixedmath/laws.FnExactPowerSquare", spec := "fnExactPowerSquare", apart := false, narrowed := true }
def FnExactPowerSquareUptoSaid : Prop := fnExactPowerSquareUptoRow.holds Try.pinned (OpenSpec.upto fnExactPowerSquareSpec)

/-- 'laws.FnMulSquares', WHERE WHAT IT READS IS OF BULK AT MOST 1048576: true; the input reads as it did. -/
def fnMulSquaresUptoRow : OpenClaim := { program := "ythfgfbaoeklhnaa", sum := "55b2c4a48bfb0e0aec792272855800fd8a8513b1b40be7780e16df5579c94bfe", func := "loop.example/fixedmath/laws.FnMulSquares", spec := "fnMulSquares", apart := false, narrowed := true }
def FnMulSquaresUptoSaid : Prop := fnMulSquaresUptoRow.holds Try.pinned (OpenSpec.upto fnMulSquaresSpec)

/-- 'laws.FnMixNumbers', WHERE WHAT IT READS IS OF BULK AT MOST 1048576: true; the input reads as it did. -/
def fnMixNumbersUptoRow : OpenClaim := { program := "ythfgfbaoeklhnaa", sum := "55b2c4a48bfb0e0aec792272855800fd8a8513b1b40be7780e16df5579c94bfe", func := "loop.example/fixedmath/laws.FnMixNumbers", spec := "fnMixNumbers", apart := false, narrowed := true }
def FnMixNumbersUptoSaid : Prop := fnMixNumbersUptoRow.holds Try.pinned (OpenSpec.upto fnMixNumbersSpec)

/-- 'laws.FnCurvePoint', WHERE WHAT IT READS IS OF BULK AT MOST 1048576: true; the input reads as it did. -/
def fnCurvePointUptoRow : OpenClaim := { program := "ythfgfbaoeklhnaa", sum := "55b2c4a48bfb0e0aec792272855800fd8a8513b1b40be7780e16df5579c94bfe", func := "loop.example/fixedmath/laws.FnCurvePoint", spec := "fnCurvePoint", apart := false, narrowed := true }
def FnCurvePointUptoSaid : Prop := fnCurvePointUptoRow.holds Try.pinned (OpenSpec.upto fnCurvePointSpec)

/-- 'laws.FnPowerSquare', WHERE WHAT IT READS IS OF BULK AT MOST 1048576: true; the input reads as it did. -/
def fnPowerSquareUptoRow : OpenClaim := { program := "ythfgfbaoeklhnaa", sum := "55b2c4a48bfb0e0aec792272855800fd8a8513b1b40be7780e16df5579c94bfe", func := "loop.example/fixedmath/laws.FnPowerSquare", spec := "fnPowerSquare", apart := false, narrowed := true }
def FnPowerSquareUptoSaid : Prop := fnPowerSquareUptoRow.holds Try.pinned (OpenSpec.upto fnPowerSquareSpec)

end Rows
end Go.Proofs.Ythfgfbaoeklhnaa
