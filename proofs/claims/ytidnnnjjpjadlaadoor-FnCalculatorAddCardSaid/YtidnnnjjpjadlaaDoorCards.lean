/-
  DERIVED. GIVEN WITH THE SEED: THE CARDS: each row of YtidnnnjjpjadlaaDoorRows.lean that lists a variable, with what it lists TIED to the program's text (the seventh form; the later family's looks); each row that meets fmt, with fmt's text TOLD by the authors' own Lean function (tested against real Go, not proved from fmt's source: count such statements apart). THE CARD IS WHAT COUNTS. Prove the row's statement (the work); the ties are given (YtidnnnjjpjadlaaDoorTie.lean); close each card by the builder's one call (the guide's Derived/Test/ToyasCard.lean, 'card_holds'). Laid BY PROGRAM, IN A SANDBOX (cutbox-door.mjs). By AI agents, Wed Nov 11 2026. No macro, syntax, notation, axiom, sorry.
-/
import Derived.Test.YtidnnnjjpjadlaaDoorRows
import GoSem.ClaimSeven
namespace Go.Proofs.YtidnnnjjpjadlaaDoor
namespace Rows

/-- THE TIED CARD OF 'laws.FnCalculatorAdd'. -/
def fnCalculatorAddCard : Claim7 := { stood := { row := fnCalculatorAddRow, standIns := [], harness := (true, "dfe920c41e7aaa74e1ae381ea258ff06dbb14d6f7d816d0b543ab0b95b5e3cfa"), looks := false }, kinds := [], alts := [], laidByText := true, laidKinds := [.data, .data, .data], laidTests := true, laidLooks := .later }
def FnCalculatorAddCardSaid : Prop := Claim7.holds Tryd.pinned (.plain (OpenSpec.ofChange fnCalculatorAddSpec)) fnCalculatorAddCard

/-- THE SECOND FORM's CARD OF 'laws.FnCalculatorAdd'. -/
def fnCalculatorAddUptoCard : Claim7 := { stood := { row := fnCalculatorAddUptoRow, standIns := [], harness := (true, "dfe920c41e7aaa74e1ae381ea258ff06dbb14d6f7d816d0b543ab0b95b5e3cfa"), looks := false }, kinds := [], alts := [], laidByText := true, laidKinds := [.data, .data, .data], laidTests := true, laidLooks := .later }
def FnCalculatorAddUptoCardSaid : Prop := Claim7.holds Tryd.pinned (.plain (OpenSpec.upto fnCalculatorAddSpec)) fnCalculatorAddUptoCard
end Rows
end Go.Proofs.YtidnnnjjpjadlaaDoor
