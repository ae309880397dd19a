/-
  No cell of these rows narrows 'for every input' (looked for: loops, veiled, ifaces, maps, wideKeys, modest, calm, conditions, laid).
  DERIVED. THE GIVEN ROWS OF THIS SEAT. 8 by the template 'for every input the law returns true; each argument reads behind the call as it read before'; 0 by the template 'total and deterministic' (their statements: YtpecffijmamddaaTotals.lean).
  GIVEN WITH THE SEED: the statements are not yours to turn. If you find one false, say at which input.
  Laid BY PROGRAM, IN A SANDBOX (cutbox-rows.mjs): the forced cells as the released guide's own fill.sh prints them over the translation ae018e23478a3124… (all of the seat's roots in one cut). By AI agents, Wed Nov 11 2026. No macro, syntax, notation, axiom, sorry.
-/
import Derived.Test.YtpecffijmamddaaChecked
import GoSem.Claim
import GoSem.ClaimJoined
import GoSem.ClaimMapViews
import Derived.JoinedTies
import Derived.KernelRfl
namespace Go.Proofs.Ytpecffijmamddaa
/- THE CELL 'sum', in the pinned program and in every row, IS THE sha256 OF THE DUMP (.gsa) THAT YtpecffijmamddaaProg.lean LOADS. Nothing in Lean hashes anything: it is a label: what it is worth is what the hold of that sum in a sandbox is worth. -/
noncomputable def Try.pinned : Pinned := { name := "ytpecffijmamddaa", sum := "ae018e23478a31247a0fa1e114fbd4e603d27223f2d571e2d022bc90eddc590f", checked := Try.checked }
namespace Rows
def none {H : Type} : Left H := { results := [], args := [] }

/-- 'laws.FnExactRoundRight': WHATEVER THE INPUT: true; the input reads as it did. -/
def fnExactRoundRightSpec : ChangeSpec := { name := "fnExactRoundRight", fn := fun _ => fun
  | [d1, d2, d3] => { results := [.lit (.bool true)], args := [d1, d2, d3] }
  | _ => none }
def fnExactRoundRightRow : OpenClaim := { program := "ytpecffijmamddaa", sum := "ae018e23478a31247a0fa1e114fbd4e603d27223f2d571e2d022bc90eddc590f", func := "loop.example/fixedmath/laws.FnExactRoundRight", spec := "fnExactRoundRight", apart := false }
def FnExactRoundRightSaid : Prop := fnExactRoundRightRow.holds Try.pinned (OpenSpec.ofChange fnExactRoundRightSpec)

/-- ITS FALSE NEIGHBOUR: 'it returns false'. Refute it at one input. -/
def fnExactRoundRightWrong : ChangeSpec := { name := "fnExactRoundRight", fn := fun _ => fun
  | [d1, d2, d3] => { results := [.lit (.bool false)], args := [d1, d2, d3] }
  | _ => none }
def FnExactRoundRightWrongFalsely : Prop := fnExactRoundRightRow.holds Try.pinned (OpenSpec.ofChange fnExactRoundRightWrong)

/-- 'laws.FnRoundRight': WHATEVER THE INPUT: true; the input reads as it did. -/
def fnRoundRightSpec : ChangeSpec := { name := "fnRoundRight", fn := fun _ => fun
  | [d] => { results := [.lit (.bool true)], args := [d] }
  | _ => none }
def fnRoundRightRow : OpenClaim := { program := "ytpecffijmamddaa", sum := "ae018e23478a31247a0fa1e114fbd4e603d27223f2d571e2d022bc90eddc590f", func := "loop.example/fixedmath/laws.FnRoundRight", spec := "fnRoundRight", apart := false }
def FnRoundRightSaid : Prop := fnRoundRightRow.holds Try.pinned (OpenSpec.ofChange fnRoundRightSpec)

/-- ITS FALSE NEIGHBOUR: 'it returns false'. Refute it at one input. -/
def fnRoundRightWrong : ChangeSpec := { name := "fnRoundRight", fn := fun _ => fun
  | [d] => { results := [.lit (.bool false)], args := [d] }
  | _ => none }
def FnRoundRightWrongFalsely : Prop := fnRoundRightRow.holds Try.pinned (OpenSpec.ofChange fnRoundRightWrong)

/-- 'laws.FnExactSpanProves': WHATEVER THE INPUT: true; the input reads as it did. -/
def fnExactSpanProvesSpec : ChangeSpec := { name := "fnExactSpanProves", fn := fun _ => fun
  | [d1, d2, d3] => { results := [.lit (.bool true)], args := [d1, d2, d3] }
  | _ => none }
def fnExactSpanProvesRow : OpenClaim := { program := "ytpecffijmamddaa", sum := "ae018e23478a31247a0fa1e114fbd4e603d27223f2d571e2d022bc90eddc590f", func := "loop.example/fixedmath/laws.FnExactSpanProves", spec := "fnExactSpanProves", apart := false }
def FnExactSpanProvesSaid : Prop := fnExactSpanProvesRow.holds Try.pinned (OpenSpec.ofChange fnExactSpanProvesSpec)

/-- ITS FALSE NEIGHBOUR: 'it returns false'. Refute it at one input. -/
def fnExactSpanProvesWrong : ChangeSpec := { name := "fnExactSpanProves", fn := fun _ => fun
  | [d1, d2, d3] => { results := [.lit (.bool false)], args := [d1, d2, d3] }
  | _ => none }
def FnExactSpanProvesWrongFalsely : Prop := fnExactSpanProvesRow.holds Try.pinned (OpenSpec.ofChange fnExactSpanProvesWrong)

/-- 'laws.FnSpanProves': WHATEVER THE INPUT: true; the input reads as it did. -/
def fnSpanProvesSpec : ChangeSpec := { name := "fnSpanProves", fn := fun _ => fun
  | [d] => { results := [.lit (.bool true)], args := [d] }
  | _ => none }
def fnSpanProvesRow : OpenClaim := { program := "ytpecffijmamddaa", sum := "ae018e23478a31247a0fa1e114fbd4e603d27223f2d571e2d022bc90eddc590f", func := "loop.example/fixedmath/laws.FnSpanProves", spec := "fnSpanProves", apart := false }
def FnSpanProvesSaid : Prop := fnSpanProvesRow.holds Try.pinned (OpenSpec.ofChange fnSpanProvesSpec)

/-- ITS FALSE NEIGHBOUR: 'it returns false'. Refute it at one input. -/
def fnSpanProvesWrong : ChangeSpec := { name := "fnSpanProves", fn := fun _ => fun
  | [d] => { results := [.lit (.bool false)], args := [d] }
  | _ => none }
def FnSpanProvesWrongFalsely : Prop := fnSpanProvesRow.holds Try.pinned (OpenSpec.ofChange fnSpanProvesWrong)

/-- 'laws.FnSqrtFloor': WHATEVER THE INPUT: true; the input reads as it did. -/
def fnSqrtFloorSpec : ChangeSpec := { name := "fnSqrtFloor", fn := fun _ => fun
  | [d] => { results := [.lit (.bool true)], args := [d] }
  | _ => none }
def fnSqrtFloorRow : OpenClaim := { program := "ytpecffijmamddaa", sum := "ae018e23478a31247a0fa1e114fbd4e603d27223f2d571e2d022bc90eddc590f", func := "loop.example/fixedmath/laws.FnSqrtFloor", spec := "fnSqrtFloor", apart := false }
def FnSqrtFloorSaid : Prop := fnSqrtFloorRow.holds Try.pinned (OpenSpec.ofChange fnSqrtFloorSpec)

/-- ITS FALSE NEIGHBOUR: 'it returns false'. Refute it at one input. -/
def fnSqrtFloorWrong : ChangeSpec := { name := "fnSqrtFloor", fn := fun _ => fun
  | [d] => { results := [.lit (.bool false)], args := [d] }
  | _ => none }
def FnSqrtFloorWrongFalsely : Prop := fnSqrtFloorRow.holds Try.pinned (OpenSpec.ofChange fnSqrtFloorWrong)

/-- 'laws.FnSqrtRight': WHATEVER THE INPUT: true; the input reads as it did. -/
def fnSqrtRightSpec : ChangeSpec := { name := "fnSqrtRight", fn := fun _ => fun
  | [d] => { results := [.lit (.bool true)], args := [d] }
  | _ => none }
def fnSqrtRightRow : OpenClaim := { program := "ytpecffijmamddaa", sum := "ae018e23478a31247a0fa1e114fbd4e603d27223f2d571e2d022bc90eddc590f", func := "loop.example/fixedmath/laws.FnSqrtRight", spec := "fnSqrtRight", apart := false }
def FnSqrtRightSaid : Prop := fnSqrtRightRow.holds Try.pinned (OpenSpec.ofChange fnSqrtRightSpec)

/-- ITS FALSE NEIGHBOUR: 'it returns false'. Refute it at one input. -/
def fnSqrtRightWrong : ChangeSpec := { name := "fnSqrtRight", fn := fun _ => fun
  | [d] => { results := [.lit (.bool false)], args := [d] }
  | _ => none }
def FnSqrtRightWrongFalsely : Prop := fnSqrtRightRow.holds Try.pinned (OpenSpec.ofChange fnSqrtRightWrong)

/-- 'laws.FnStoredSpan': WHATEVER THE INPUT: true; the input reads as it did. -/
def fnStoredSpanSpec : ChangeSpec := { name := "fnStoredSpan", fn := fun _ => fun
  | [d] => { results := [.lit (.bool true)], args := [d] }
  | _ => none }
def fnStoredSpanRow : OpenClaim := { program := "ytpecffijmamddaa", sum := "ae018e23478a31247a0fa1e114fbd4e603d27223f2d571e2d022bc90eddc590f", func := "loop.example/fixedmath/laws.FnStoredSpan", spec := "fnStoredSpan", apart := false }
def FnStoredSpanSaid : Prop := fnStoredSpanRow.holds Try.pinned (OpenSpec.ofChange fnStoredSpanSpec)

/-- ITS FALSE NEIGHBOUR: 'it returns false'. Refute it at one input. -/
def fnStoredSpanWrong : ChangeSpec := { name := "fnStoredSpan", fn := fun _ => fun
  | [d] => { results := [.lit (.bool false)], args := [d] }
  | _ => none }
def FnStoredSpanWrongFalsely : Prop := fnStoredSpanRow.holds Try.pinned (OpenSpec.ofChange fnStoredSpanWrong)

/-- 'laws.FnExactPowersRight': WHATEVER THE INPUT: true; the input reads as it did. -/
def fnExactPowersRightSpec : ChangeSpec := { name := "fnExactPowersRight", fn := fun _ => fun
  | [d1, d2, d3] => { results := [.lit (.bool true)], args := [d1, d2, d3] }
  | _ => none }
def fnExactPowersRightRow : OpenClaim := { program := "ytpecffijmamddaa", sum := "ae018e23478a31247a0fa1e114fbd4e603d27223f2d571e2d022bc90eddc590f", func := "loop.example/fixedmath/laws.FnExactPowersRight", spec := "fnExactPowersRight", apart := false }
def FnExactPowersRightSaid : Prop := fnExactPowersRightRow.holds Try.pinned (OpenSpec.ofChange fnExactPowersRightSpec)

/-- ITS FALSE NEIGHBOUR: 'it returns false'. Refute it at one input. -/
def fnExactPowersRightWrong : ChangeSpec := { name := "fnExactPowersRight", fn := fun _ => fun
  | [d1, d2, d3] => { results := [.lit (.bool false)], args := [d1, d2, d3] }
  | _ => none }
def FnExactPowersRightWrongFalsely : Prop := fnExactPowersRightRow.holds Try.pinned (OpenSpec.ofChange fnExactPowersRightWrong)

/- THE SECOND FORM. 'bulk': how many values and letters a reading holds, each counted each time it is reached (what is shared counts as often as it is met; a slice's spare places count too). A statement '..UptoSaid' is the law's where the arguments, and the package variables that the reading takes, are together of bulk at most 1048576: NARROWER than '..Said'. Prove '..Said' where nothing that the law and all that it calls make is longer than what came in: it says more and counts as full. Else prove '..UptoSaid'. A law counts once. -/
mutual
def uptoBulk {H : Type} : DataW H → Nat
  | .lit (.string bytes) => bytes.length + 1
  | .lit _ => 1
  | .nil => 1
  | .ptr d => uptoBulk d + 1
  | .slice elems spare => uptoBulkAll elems + uptoBulkAll spare + 1
  | .agg parts => uptoBulkAll parts + 1
  | .iface _ d => uptoBulk d + 1
  | .map entries => uptoBulkEntries entries + 1
  | .held _ => 1
def uptoBulkAll {H : Type} : List (DataW H) → Nat
  | [] => 0
  | d :: r => uptoBulk d + uptoBulkAll r
def uptoBulkEntries {H : Type} : List (Lit × DataW H) → Nat
  | [] => 0
  | x :: r => uptoBulkEntry x + uptoBulkEntries r
def uptoBulkEntry {H : Type} : Lit × DataW H → Nat
  | (.string bytes, d) => bytes.length + uptoBulk d + 1
  | (_, d) => uptoBulk d + 1
 end
def uptoSmall : (H : Type) → List (DataW H) → Bool := fun _ ds => decide (uptoBulkAll ds ≤ 1048576)
def OpenSpec.upto (s : _root_.Go.ChangeSpec) : _root_.Go.OpenSpec := { _root_.Go.OpenSpec.ofChange s with cond := some uptoSmall }

/-- 'laws.FnExactRoundRight', WHERE WHAT IT READS IS OF BULK AT MOST 1048576: true; the input reads as it did. -/
def fnExactRoundRightUptoRow : OpenClaim := { program := "ytpecffijmamddaa", sum := "ae018e23478a31247a0fa1e114fbd4e603d27223f2d571e2d022bc90eddc590f", func := "loop.example/fixedmath/laws.FnExactRoundRight", spec := "fnExactRoundRight", apart := false, narrowed := true }
def FnExactRoundRightUptoSaid : Prop := fnExactRoundRightUptoRow.holds Try.pinned (OpenSpec.upto fnExactRoundRightSpec)

/-- 'laws.FnRoundRight', WHERE WHAT IT READS IS OF BULK AT MOST 1048576: true; the input reads as it did. -/
def fnRoundRightUptoRow : OpenClaim := { program := "ytpecffijmamddaa", sum := "ae018e23478a31247a0fa1e114fbd4e603d27223f2d571e2d022bc90eddc590f", func := "loop.example/fixedmath/laws.FnRoundRight", spec := "fnRoundRight", apart := false, narrowed := true }
def FnRoundRightUptoSaid : Prop := fnRoundRightUptoRow.holds Try.pinned (OpenSpec.upto fnRoundRightSpec)

/-- 'laws.FnExactSpanProves', WHERE WHAT IT READS IS OF BULK AT MOST 1048576: true; the input reads as it did. -/
def fnExactSpanProvesUptoRow : OpenClaim := { program := "ytpecffijmamddaa", sum := "ae018e23478a31247a0fa1e114fbd4e603d27223f2d571e2d022bc90eddc590f", func := "loop.example/fixedmath/laws.FnExactSpanProves", spec := "fnExactSpanProves", apart := false, narrowed := true }
def FnExactSpanProvesUptoSaid : Prop := fnExactSpanProvesUptoRow.holds Try.pinned (OpenSpec.upto fnExactSpanProvesSpec)

/-- 'laws.FnSpanProves', WHERE WHAT IT READS IS OF BULK AT MOST 1048576: true; the input reads as it did. -/
def fnSpanProvesUptoRow : OpenClaim := { program := "ytpecffijmamddaa", sum := "ae018e23478a31247a0fa1e114fbd4e603d27223f2d571e2d022bc90eddc590f", func := "loop.example/fixedmath/laws.FnSpanProves", spec := "fnSpanProves", apart := false, narrowed := true }
def FnSpanProvesUptoSaid : Prop := fnSpanProvesUptoRow.holds Try.pinned (OpenSpec.upto fnSpanProvesSpec)

/-- 'laws.FnSqrtFloor', WHERE WHAT IT READS IS OF BULK AT MOST 1048576: true; the input reads as it did. -/
def fnSqrtFloorUptoRow : OpenClaim := { program := "ytpecffijmamddaa", sum := "ae018e23478a31247a0fa1e114fbd4e603d27223f2d571e2d022bc90eddc590f", func := "loop.example/fixedmath/laws.FnSqrtFloor", spec := "fnSqrtFloor", apart := false, narrowed := true }
def FnSqrtFloorUptoSaid : Prop := fnSqrtFloorUptoRow.holds Try.pinned (OpenSpec.upto fnSqrtFloorSpec)

/-- 'laws.FnSqrtRight', WHERE WHAT IT READS IS OF BULK AT MOST 1048576: true; the input reads as it did. -/
def fnSqrtRightUptoRow : OpenClaim := { program := "ytpecffijmamddaa", sum := "ae018e23478a31247a0fa1e114fbd4e603d27223f2d571e2d022bc90eddc590f", func := "loop.example/fixedmath/laws.FnSqrtRight", spec := "fnSqrtRight", apart := false, narrowed := true }
def FnSqrtRightUptoSaid : Prop := fnSqrtRightUptoRow.holds Try.pinned (OpenSpec.upto fnSqrtRightSpec)

/-- 'laws.FnStoredSpan', WHERE WHAT IT READS IS OF BULK AT MOST 1048576: true; the input reads as it did. -/
def fnStoredSpanUptoRow : OpenClaim := { program := "ytpecffijmamddaa", sum := "ae018e23478a31247a0fa1e114fbd4e603d27223f2d571e2d022bc90eddc590f", func := "loop.example/fixedmath/laws.FnStoredSpan", spec := "fnStoredSpan", apart := false, narrowed := true }
def FnStoredSpanUptoSaid : Prop := fnStoredSpanUptoRow.holds Try.pinned (OpenSpec.upto fnStoredSpanSpec)

/-- 'laws.FnExactPowersRight', WHERE WHAT IT READS IS OF BULK AT MOST 1048576: true; the input reads as it did. -/
def fnExactPowersRightUptoRow : OpenClaim := { program := "ytpecffijmamddaa", sum := "ae018e23478a31247a0fa1e114fbd4e603d27223f2d571e2d022bc90eddc590f", func := "loop.example/fixedmath/laws.FnExactPowersRight", spec := "fnExactPowersRight", apart := false, narrowed := true }
def FnExactPowersRightUptoSaid : Prop := fnExactPowersRightUptoRow.holds Try.pinned (OpenSpec.upto fnExactPowersRightSpec)

end Rows
end Go.Proofs.Ytpecffijmamddaa
