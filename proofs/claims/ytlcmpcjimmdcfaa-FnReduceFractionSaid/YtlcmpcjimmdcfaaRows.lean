/-
  No cell of these rows narrows 'for every input' (looked for: loops, veiled, ifaces, maps, wideKeys, modest, calm, conditions, laid).
  DERIVED. THE GIVEN ROWS OF THIS SEAT. 12 by the template 'for every input the law returns true; each argument reads behind the call as it read before'; 0 by the template 'total and deterministic' (their statements: YtlcmpcjimmdcfaaTotals.lean).
  GIVEN WITH THE SEED: the statements are not yours to turn. If you find one false, say at which input.
  Laid BY PROGRAM, IN A SANDBOX (cutbox-rows.mjs): the forced cells as the released guide's own fill.sh prints them over the translation a9434dd90d71414a… (all of the seat's roots in one cut). By AI agents, Wed Nov 11 2026. No macro, syntax, notation, axiom, sorry.
-/
import Derived.Test.YtlcmpcjimmdcfaaChecked
import GoSem.Claim
import GoSem.ClaimJoined
import GoSem.ClaimMapViews
import Derived.JoinedTies
import Derived.KernelRfl
namespace Go.Proofs.Ytlcmpcjimmdcfaa
/- THE CELL 'sum', in the pinned program and in every row, IS THE sha256 OF THE DUMP (.gsa) THAT YtlcmpcjimmdcfaaProg.lean LOADS. Nothing in Lean hashes anything: it is a label: what it is worth is what the hold of that sum in a sandbox is worth. -/
noncomputable def Try.pinned : Pinned := { name := "ytlcmpcjimmdcfaa", sum := "a9434dd90d71414af88bb2650b2c9a22324db3e8bf748c6d63d6c42ccfe7ed12", checked := Try.checked }
namespace Rows
def none {H : Type} : Left H := { results := [], args := [] }

/-- 'laws.FnExactGcdOf': WHATEVER THE INPUT: true; the input reads as it did. -/
def fnExactGcdOfSpec : ChangeSpec := { name := "fnExactGcdOf", fn := fun _ => fun
  | [d1, d2] => { results := [.lit (.bool true)], args := [d1, d2] }
  | _ => none }
def fnExactGcdOfRow : OpenClaim := { program := "ytlcmpcjimmdcfaa", sum := "a9434dd90d71414af88bb2650b2c9a22324db3e8bf748c6d63d6c42ccfe7ed12", func := "loop.example/fixedmath/laws.FnExactGcdOf", spec := "fnExactGcdOf", apart := false }
def FnExactGcdOfSaid : Prop := fnExactGcdOfRow.holds Try.pinned (OpenSpec.ofChange fnExactGcdOfSpec)

/-- ITS FALSE NEIGHBOUR: 'it returns false'. Refute it at one input. -/
def fnExactGcdOfWrong : ChangeSpec := { name := "fnExactGcdOf", fn := fun _ => fun
  | [d1, d2] => { results := [.lit (.bool false)], args := [d1, d2] }
  | _ => none }
def FnExactGcdOfWrongFalsely : Prop := fnExactGcdOfRow.holds Try.pinned (OpenSpec.ofChange fnExactGcdOfWrong)

/-- 'laws.FnGcdOf': WHATEVER THE INPUT: true; the input reads as it did. -/
def fnGcdOfSpec : ChangeSpec := { name := "fnGcdOf", fn := fun _ => fun
  | [d] => { results := [.lit (.bool true)], args := [d] }
  | _ => none }
def fnGcdOfRow : OpenClaim := { program := "ytlcmpcjimmdcfaa", sum := "a9434dd90d71414af88bb2650b2c9a22324db3e8bf748c6d63d6c42ccfe7ed12", func := "loop.example/fixedmath/laws.FnGcdOf", spec := "fnGcdOf", apart := false }
def FnGcdOfSaid : Prop := fnGcdOfRow.holds Try.pinned (OpenSpec.ofChange fnGcdOfSpec)

/-- ITS FALSE NEIGHBOUR: 'it returns false'. Refute it at one input. -/
def fnGcdOfWrong : ChangeSpec := { name := "fnGcdOf", fn := fun _ => fun
  | [d] => { results := [.lit (.bool false)], args := [d] }
  | _ => none }
def FnGcdOfWrongFalsely : Prop := fnGcdOfRow.holds Try.pinned (OpenSpec.ofChange fnGcdOfWrong)

/-- 'laws.FnExactFractionValid': WHATEVER THE INPUT: true; the input reads as it did. -/
def fnExactFractionValidSpec : ChangeSpec := { name := "fnExactFractionValid", fn := fun _ => fun
  | [d] => { results := [.lit (.bool true)], args := [d] }
  | _ => none }
def fnExactFractionValidRow : OpenClaim := { program := "ytlcmpcjimmdcfaa", sum := "a9434dd90d71414af88bb2650b2c9a22324db3e8bf748c6d63d6c42ccfe7ed12", func := "loop.example/fixedmath/laws.FnExactFractionValid", spec := "fnExactFractionValid", apart := false }
def FnExactFractionValidSaid : Prop := fnExactFractionValidRow.holds Try.pinned (OpenSpec.ofChange fnExactFractionValidSpec)

/-- ITS FALSE NEIGHBOUR: 'it returns false'. Refute it at one input. -/
def fnExactFractionValidWrong : ChangeSpec := { name := "fnExactFractionValid", fn := fun _ => fun
  | [d] => { results := [.lit (.bool false)], args := [d] }
  | _ => none }
def FnExactFractionValidWrongFalsely : Prop := fnExactFractionValidRow.holds Try.pinned (OpenSpec.ofChange fnExactFractionValidWrong)

/-- 'laws.FnFractionValid': WHATEVER THE INPUT: true; the input reads as it did. -/
def fnFractionValidSpec : ChangeSpec := { name := "fnFractionValid", fn := fun _ => fun
  | [d] => { results := [.lit (.bool true)], args := [d] }
  | _ => none }
def fnFractionValidRow : OpenClaim := { program := "ytlcmpcjimmdcfaa", sum := "a9434dd90d71414af88bb2650b2c9a22324db3e8bf748c6d63d6c42ccfe7ed12", func := "loop.example/fixedmath/laws.FnFractionValid", spec := "fnFractionValid", apart := false }
def FnFractionValidSaid : Prop := fnFractionValidRow.holds Try.pinned (OpenSpec.ofChange fnFractionValidSpec)

/-- ITS FALSE NEIGHBOUR: 'it returns false'. Refute it at one input. -/
def fnFractionValidWrong : ChangeSpec := { name := "fnFractionValid", fn := fun _ => fun
  | [d] => { results := [.lit (.bool false)], args := [d] }
  | _ => none }
def FnFractionValidWrongFalsely : Prop := fnFractionValidRow.holds Try.pinned (OpenSpec.ofChange fnFractionValidWrong)

/-- 'laws.FnExactReduceFraction': WHATEVER THE INPUT: true; the input reads as it did. -/
def fnExactReduceFractionSpec : ChangeSpec := { name := "fnExactReduceFraction", fn := fun _ => fun
  | [d1, d2] => { results := [.lit (.bool true)], args := [d1, d2] }
  | _ => none }
def fnExactReduceFractionRow : OpenClaim := { program := "ytlcmpcjimmdcfaa", sum := "a9434dd90d71414af88bb2650b2c9a22324db3e8bf748c6d63d6c42ccfe7ed12", func := "loop.example/fixedmath/laws.FnExactReduceFraction", spec := "fnExactReduceFraction", apart := false }
def FnExactReduceFractionSaid : Prop := fnExactReduceFractionRow.holds Try.pinned (OpenSpec.ofChange fnExactReduceFractionSpec)

/-- ITS FALSE NEIGHBOUR: 'it returns false'. Refute it at one input. -/
def fnExactReduceFractionWrong : ChangeSpec := { name := "fnExactReduceFraction", fn := fun _ => fun
  | [d1, d2] => { results := [.lit (.bool false)], args := [d1, d2] }
  | _ => none }
def FnExactReduceFractionWrongFalsely : Prop := fnExactReduceFractionRow.holds Try.pinned (OpenSpec.ofChange fnExactReduceFractionWrong)

/-- 'laws.FnReduceFraction': WHATEVER THE INPUT: true; the input reads as it did. -/
def fnReduceFractionSpec : ChangeSpec := { name := "fnReduceFraction", fn := fun _ => fun
  | [d] => { results := [.lit (.bool true)], args := [d] }
  | _ => none }
def fnReduceFractionRow : OpenClaim := { program := "ytlcmpcjimmdcfaa", sum := "a9434dd90d71414af88bb2650b2c9a22324db3e8bf748c6d63d6c42ccfe7ed12", func := "loop.example/fixedmath/laws.FnReduceFraction", spec := "fnReduceFraction", apart := false }
def FnReduceFractionSaid : Prop := fnReduceFractionRow.holds Try.pinned (OpenSpec.ofChange fnReduceFractionSpec)

/-- ITS FALSE NEIGHBOUR: 'it returns false'. Refute it at one input. -/
def fnReduceFractionWrong : ChangeSpec := { name := "fnReduceFraction", fn := fun _ => fun
  | [d] => { results := [.lit (.bool false)], args := [d] }
  | _ => none }
def FnReduceFractionWrongFalsely : Prop := fnReduceFractionRow.holds Try.pinned (OpenSpec.ofChange fnReduceFractionWrong)

/-- 'laws.FnExactAddFractions': WHATEVER THE INPUT: true; the input reads as it did. -/
def fnExactAddFractionsSpec : ChangeSpec := { name := "fnExactAddFractions", fn := fun _ => fun
  | [d1, d2] => { results := [.lit (.bool true)], args := [d1, d2] }
  | _ => none }
def fnExactAddFractionsRow : OpenClaim := { program := "ytlcmpcjimmdcfaa", sum := "a9434dd90d71414af88bb2650b2c9a22324db3e8bf748c6d63d6c42ccfe7ed12", func := "loop.example/fixedmath/laws.FnExactAddFractions", spec := "fnExactAddFractions", apart := false }
def FnExactAddFractionsSaid : Prop := fnExactAddFractionsRow.holds Try.pinned (OpenSpec.ofChange fnExactAddFractionsSpec)

/-- ITS FALSE NEIGHBOUR: 'it returns false'. Refute it at one input. -/
def fnExactAddFractionsWrong : ChangeSpec := { name := "fnExactAddFractions", fn := fun _ => fun
  | [d1, d2] => { results := [.lit (.bool false)], args := [d1, d2] }
  | _ => none }
def FnExactAddFractionsWrongFalsely : Prop := fnExactAddFractionsRow.holds Try.pinned (OpenSpec.ofChange fnExactAddFractionsWrong)

/-- 'laws.FnAddFractions': WHATEVER THE INPUT: true; the input reads as it did. -/
def fnAddFractionsSpec : ChangeSpec := { name := "fnAddFractions", fn := fun _ => fun
  | [d] => { results := [.lit (.bool true)], args := [d] }
  | _ => none }
def fnAddFractionsRow : OpenClaim := { program := "ytlcmpcjimmdcfaa", sum := "a9434dd90d71414af88bb2650b2c9a22324db3e8bf748c6d63d6c42ccfe7ed12", func := "loop.example/fixedmath/laws.FnAddFractions", spec := "fnAddFractions", apart := false }
def FnAddFractionsSaid : Prop := fnAddFractionsRow.holds Try.pinned (OpenSpec.ofChange fnAddFractionsSpec)

/-- ITS FALSE NEIGHBOUR: 'it returns false'. Refute it at one input. -/
def fnAddFractionsWrong : ChangeSpec := { name := "fnAddFractions", fn := fun _ => fun
  | [d] => { results := [.lit (.bool false)], args := [d] }
  | _ => none }
def FnAddFractionsWrongFalsely : Prop := fnAddFractionsRow.holds Try.pinned (OpenSpec.ofChange fnAddFractionsWrong)

/-- 'laws.FnExactMulFractions': WHATEVER THE INPUT: true; the input reads as it did. -/
def fnExactMulFractionsSpec : ChangeSpec := { name := "fnExactMulFractions", fn := fun _ => fun
  | [d1, d2] => { results := [.lit (.bool true)], args := [d1, d2] }
  | _ => none }
def fnExactMulFractionsRow : OpenClaim := { program := "ytlcmpcjimmdcfaa", sum := "a9434dd90d71414af88bb2650b2c9a22324db3e8bf748c6d63d6c42ccfe7ed12", func := "loop.example/fixedmath/laws.FnExactMulFractions", spec := "fnExactMulFractions", apart := false }
def FnExactMulFractionsSaid : Prop := fnExactMulFractionsRow.holds Try.pinned (OpenSpec.ofChange fnExactMulFractionsSpec)

/-- ITS FALSE NEIGHBOUR: 'it returns false'. Refute it at one input. -/
def fnExactMulFractionsWrong : ChangeSpec := { name := "fnExactMulFractions", fn := fun _ => fun
  | [d1, d2] => { results := [.lit (.bool false)], args := [d1, d2] }
  | _ => none }
def FnExactMulFractionsWrongFalsely : Prop := fnExactMulFractionsRow.holds Try.pinned (OpenSpec.ofChange fnExactMulFractionsWrong)

/-- 'laws.FnMulFractions': WHATEVER THE INPUT: true; the input reads as it did. -/
def fnMulFractionsSpec : ChangeSpec := { name := "fnMulFractions", fn := fun _ => fun
  | [d] => { results := [.lit (.bool true)], args := [d] }
  | _ => none }
def fnMulFractionsRow : OpenClaim := { program := "ytlcmpcjimmdcfaa", sum := "a9434dd90d71414af88bb2650b2c9a22324db3e8bf748c6d63d6c42ccfe7ed12", func := "loop.example/fixedmath/laws.FnMulFractions", spec := "fnMulFractions", apart := false }
def FnMulFractionsSaid : Prop := fnMulFractionsRow.holds Try.pinned (OpenSpec.ofChange fnMulFractionsSpec)

/-- ITS FALSE NEIGHBOUR: 'it returns false'. Refute it at one input. -/
def fnMulFractionsWrong : ChangeSpec := { name := "fnMulFractions", fn := fun _ => fun
  | [d] => { results := [.lit (.bool false)], args := [d] }
  | _ => none }
def FnMulFractionsWrongFalsely : Prop := fnMulFractionsRow.holds Try.pinned (OpenSpec.ofChange fnMulFractionsWrong)

/-- 'laws.FnExactCompareFractions': WHATEVER THE INPUT: true; the input reads as it did. -/
def fnExactCompareFractionsSpec : ChangeSpec := { name := "fnExactCompareFractions", fn := fun _ => fun
  | [d1, d2] => { results := [.lit (.bool true)], args := [d1, d2] }
  | _ => none }
def fnExactCompareFractionsRow : OpenClaim := { program := "ytlcmpcjimmdcfaa", sum := "a9434dd90d71414af88bb2650b2c9a22324db3e8bf748c6d63d6c42ccfe7ed12", func := "loop.example/fixedmath/laws.FnExactCompareFractions", spec := "fnExactCompareFractions", apart := false }
def FnExactCompareFractionsSaid : Prop := fnExactCompareFractionsRow.holds Try.pinned (OpenSpec.ofChange fnExactCompareFractionsSpec)

/-- ITS FALSE NEIGHBOUR: 'it returns false'. Refute it at one input. -/
def fnExactCompareFractionsWrong : ChangeSpec := { name := "fnExactCompareFractions", fn := fun _ => fun
  | [d1, d2] => { results := [.lit (.bool false)], args := [d1, d2] }
  | _ => none }
def FnExactCompareFractionsWrongFalsely : Prop := fnExactCompareFractionsRow.holds Try.pinned (OpenSpec.ofChange fnExactCompareFractionsWrong)

/-- 'laws.FnCompareFractions': WHATEVER THE INPUT: true; the input reads as it did. -/
def fnCompareFractionsSpec : ChangeSpec := { name := "fnCompareFractions", fn := fun _ => fun
  | [d] => { results := [.lit (.bool true)], args := [d] }
  | _ => none }
def fnCompareFractionsRow : OpenClaim := { program := "ytlcmpcjimmdcfaa", sum := "a9434dd90d71414af88bb2650b2c9a22324db3e8bf748c6d63d6c42ccfe7ed12", func := "loop.example/fixedmath/laws.FnCompareFractions", spec := "fnCompareFractions", apart := false }
def FnCompareFractionsSaid : Prop := fnCompareFractionsRow.holds Try.pinned (OpenSpec.ofChange fnCompareFractionsSpec)

/-- ITS FALSE NEIGHBOUR: 'it returns false'. Refute it at one input. -/
def fnCompareFractionsWrong : ChangeSpec := { name := "fnCompareFractions", fn := fun _ => fun
  | [d] => { results := [.lit (.bool false)], args := [d] }
  | _ => none }
def FnCompareFractionsWrongFalsely : Prop := fnCompareFractionsRow.holds Try.pinned (OpenSpec.ofChange fnCompareFractionsWrong)

/- THE SECOND FORM. 'bulk': how many values and letters a reading holds, each counted each time it is reached (what is shared counts as often as it is met; a slice's spare places count too). A statement '..UptoSaid' is the law's where the arguments, and the package variables that the reading takes, are together of bulk at most 1048576: NARROWER than '..Said'. Prove '..Said' where nothing that the law and all that it calls make is longer than what came in: it says more and counts as full. Else prove '..UptoSaid'. A law counts once. -/
mutual
def uptoBulk {H : Type} : DataW H → Nat
  | .lit (.string bytes) => bytes.length + 1
  | .lit _ => 1
  | .nil => 1
  | .ptr d => uptoBulk d + 1
  | .slice elems spare => uptoBulkAll elems + uptoBulkAll spare + 1
  | .agg parts => uptoBulkAll parts + 1
  | .iface _ d => uptoBulk d + 1
  | .map entries => uptoBulkEntries entries + 1
  | .held _ => 1
def uptoBulkAll {H : Type} : List (DataW H) → Nat
  | [] => 0
  | d :: r => uptoBulk d + uptoBulkAll r
def uptoBulkEntries {H : Type} : List (Lit × DataW H) → Nat
  | [] => 0
  | x :: r => uptoBulkEntry x + uptoBulkEntries r
def uptoBulkEntry {H : Type} : Lit × DataW H → Nat
  | (.string bytes, d) => bytes.length + uptoBulk d + 1
  | (_, d) => uptoBulk d + 1
 end
def uptoSmall : (H : Type) → List (DataW H) → Bool := fun _ ds => decide (uptoBulkAll ds ≤ 1048576)
def OpenSpec.upto (s : _root_.Go.ChangeSpec) : _root_.Go.OpenSpec := { _root_.Go.OpenSpec.ofChange s with cond := some uptoSmall }

/-- 'laws.FnExactGcdOf', WHERE WHAT IT READS IS OF BULK AT MOST 1048576: true; the input reads as it did. -/
def fnExactGcdOfUptoRow : OpenClaim := { program := "ytlcmpcjimmdcfaa", sum := "a9434dd90d71414af88bb2650b2c9a22324db3e8bf748c6d63d6c42ccfe7ed12", func := "loop.example/fixedmath/laws.FnExactGcdOf", spec := "fnExactGcdOf", apart := false, narrowed := true }
def FnExactGcdOfUptoSaid : Prop := fnExactGcdOfUptoRow.holds Try.pinned (OpenSpec.upto fnExactGcdOfSpec)

/-- 'laws.FnGcdOf', WHERE WHAT IT READS IS OF BULK AT MOST 1048576: true; the input reads as it did. -/
def fnGcdOfUptoRow : OpenClaim := { program := "ytlcmpcjimmdcfaa", sum := "a9434dd90d71414af88bb2650b2c9a22324db3e8bf748c6d63d6c42ccfe7ed12", func := "loop.example/fixedmath/laws.FnGcdOf", spec := "fnGcdOf", apart := false, narrowed := true }
def FnGcdOfUptoSaid : Prop := fnGcdOfUptoRow.holds Try.pinned (OpenSpec.upto fnGcdOfSpec)

/-- 'laws.FnExactFractionValid', WHERE WHAT IT READS IS OF BULK AT MOST 1048576: true; the input reads as it did. -/
def fnExactFractionValidUptoRow : OpenClaim := { program := "ytlcmpcjimmdcfaa", sum := "a9434dd90d71414af88bb2650b2c9a22324db3e8bf748c6d63d6c42ccfe7ed12", func := "loop.example/fixedmath/laws.FnExactFractionValid", spec := "fnExactFractionValid", apart := false, narrowed := true }
def FnExactFractionValidUptoSaid : Prop := fnExactFractionValidUptoRow.holds Try.pinned (OpenSpec.upto fnExactFractionValidSpec)

/-- 'laws.FnFractionValid', WHERE WHAT IT READS IS OF BULK AT MOST 1048576: true; the input reads as it did. -/
def fnFractionValidUptoRow : OpenClaim := { program := "ytlcmpcjimmdcfaa", sum := "a9434dd90d71414af88bb2650b2c9a22324db3e8bf748c6d63d6c42ccfe7ed12", func := "loop.example/fixedmath/laws.FnFractionValid", spec := "fnFractionValid", apart := false, narrowed := true }
def FnFractionValidUptoSaid : Prop := fnFractionValidUptoRow.holds Try.pinned (OpenSpec.upto fnFractionValidSpec)

/-- 'laws.FnExactReduceFraction', WHERE WHAT IT READS IS OF BULK AT MOST 1048576: true; the input reads as it did. -/
def fnExactReduceFractionUptoRow : OpenClaim := { program := "ytlcmpcjimmdcfaa", sum := "a9434dd90d71414af88bb2650b2c9a22324db3e8bf748c6d63d6c42ccfe7ed12", func := "loop.example/fixedmath/laws.FnExactReduceFraction", spec := "fnExactReduceFraction", apart := false, narrowed := true }
def FnExactReduceFractionUptoSaid : Prop := fnExactReduceFractionUptoRow.holds Try.pinned (OpenSpec.upto fnExactReduceFractionSpec)

/-- 'laws.FnReduceFraction', WHERE WHAT IT READS IS OF BULK AT MOST 1048576: true; the input reads as it did. -/
def fnReduceFractionUptoRow : OpenClaim := { program := "ytlcmpcjimmdcfaa", sum := "a9434dd90d71414af88bb2650b2c9a22324db3e8bf748c6d63d6c42ccfe7ed12", func := "loop.example/fixedmath/laws.FnReduceFraction", spec := "fnReduceFraction", apart := false, narrowed := true }
def FnReduceFractionUptoSaid : Prop := fnReduceFractionUptoRow.holds Try.pinned (OpenSpec.upto fnReduceFractionSpec)

/-- 'laws.FnExactAddFractions', WHERE WHAT IT READS IS OF BULK AT MOST 1048576: true; the input reads as it did. -/
def fnExactAddFractionsUptoRow : OpenClaim := { program := "ytlcmpcjimmdcfaa", sum := "a9434dd90d71414af88bb2650b2c9a22324db3e8bf748c6d63d6c42ccfe7ed12", func := "loop.example/fixedmath/laws.FnExactAddFractions", spec := "fnExactAddFractions", apart := false, narrowed := true }
def FnExactAddFractionsUptoSaid : Prop := fnExactAddFractionsUptoRow.holds Try.pinned (OpenSpec.upto fnExactAddFractionsSpec)

/-- 'laws.FnAddFractions', WHERE WHAT IT READS IS OF BULK AT MOST 1048576: true; the input reads as it did. -/
def fnAddFractionsUptoRow : OpenClaim := { program := "ytlcmpcjimmdcfaa", sum := "a9434dd90d71414af88bb2650b2c9a22324db3e8bf748c6d63d6c42ccfe7ed12", func := "loop.example/fixedmath/laws.FnAddFractions", spec := "fnAddFractions", apart := false, narrowed := true }
def FnAddFractionsUptoSaid : Prop := fnAddFractionsUptoRow.holds Try.pinned (OpenSpec.upto fnAddFractionsSpec)

/-- 'laws.FnExactMulFractions', WHERE WHAT IT READS IS OF BULK AT MOST 1048576: true; the input reads as it did. -/
def fnExactMulFractionsUptoRow : OpenClaim := { program := "ytlcmpcjimmdcfaa", sum := "a9434dd90d71414af88bb2650b2c9a22324db3e8bf748c6d63d6c42ccfe7ed12", func := "loop.example/fixedmath/laws.FnExactMulFractions", spec := "fnExactMulFractions", apart := false, narrowed := true }
def FnExactMulFractionsUptoSaid : Prop := fnExactMulFractionsUptoRow.holds Try.pinned (OpenSpec.upto fnExactMulFractionsSpec)

/-- 'laws.FnMulFractions', WHERE WHAT IT READS IS OF BULK AT MOST 1048576: true; the input reads as it did. -/
def fnMulFractionsUptoRow : OpenClaim := { program := "ytlcmpcjimmdcfaa", sum := "a9434dd90d71414af88bb2650b2c9a22324db3e8bf748c6d63d6c42ccfe7ed12", func := "loop.example/fixedmath/laws.FnMulFractions", spec := "fnMulFractions", apart := false, narrowed := true }
def FnMulFractionsUptoSaid : Prop := fnMulFractionsUptoRow.holds Try.pinned (OpenSpec.upto fnMulFractionsSpec)

/-- 'laws.FnExactCompareFractions', WHERE WHAT IT READS IS OF BULK AT MOST 1048576: true; the input reads as it did. -/
def fnExactCompareFractionsUptoRow : OpenClaim := { program := "ytlcmpcjimmdcfaa", sum := "a9434dd90d71414af88bb2650b2c9a22324db3e8bf748c6d63d6c42ccfe7ed12", func := "loop.example/fixedmath/laws.FnExactCompareFractions", spec := "fnExactCompareFractions", apart := false, narrowed := true }
def FnExactCompareFractionsUptoSaid : Prop := fnExactCompareFractionsUptoRow.holds Try.pinned (OpenSpec.upto fnExactCompareFractionsSpec)

/-- 'laws.FnCompareFractions', WHERE WHAT IT READS IS OF BULK AT MOST 1048576: true; the input reads as it did. -/
def fnCompareFractionsUptoRow : OpenClaim := { program := "ytlcmpcjimmdcfaa", sum := "a9434dd90d71414af88bb2650b2c9a22324db3e8bf748c6d63d6c42ccfe7ed12", func := "loop.example/fixedmath/laws.FnCompareFractions", spec := "fnCompareFractions", apart := false, narrowed := true }
def FnCompareFractionsUptoSaid : Prop := fnCompareFractionsUptoRow.holds Try.pinned (OpenSpec.upto fnCompareFractionsSpec)

end Rows
end Go.Proofs.Ytlcmpcjimmdcfaa
