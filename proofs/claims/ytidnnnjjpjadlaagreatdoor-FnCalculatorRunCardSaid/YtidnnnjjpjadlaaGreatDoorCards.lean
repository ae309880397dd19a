/-
  DERIVED. GIVEN WITH THE SEED: THE CARDS: each row of YtidnnnjjpjadlaaGreatDoorRows.lean that lists a variable, with what it lists TIED to the program's text (the seventh form; the later family's looks); each row that meets fmt, with fmt's text TOLD by the authors' own Lean function (tested against real Go, not proved from fmt's source: count such statements apart). THE CARD IS WHAT COUNTS. Prove the row's statement (the work); the ties are given (YtidnnnjjpjadlaaGreatDoorTie.lean); close each card by the builder's one call (the guide's Derived/Test/ToyasCard.lean, 'card_holds'). Laid BY PROGRAM, IN A SANDBOX (cutbox-door.mjs). By AI agents, Wed Nov 11 2026. No macro, syntax, notation, axiom, sorry.
-/
import Derived.Test.YtidnnnjjpjadlaaGreatDoorRows
import GoSem.ClaimSeven
namespace Go.Proofs.YtidnnnjjpjadlaaGreatDoor
namespace Rows

/-- THE TIED CARD OF 'laws.FnCalculatorLine'. -/
def fnCalculatorLineCard : Claim7 := { stood := { row := fnCalculatorLineRow, standIns := [], harness := (true, "1b26b71e2ff34ab6bfb8ee81e9d7d1ad12fe5b526e5b3b12fe711356b4a70b95"), looks := false }, kinds := [], alts := [], laidByText := true, laidKinds := [.data, .data, .data], laidTests := true, laidLooks := .later }
def FnCalculatorLineCardSaid : Prop := Claim7.holds Tryz.pinned (.plain (OpenSpec.ofChange fnCalculatorLineSpec)) fnCalculatorLineCard

/-- THE TIED CARD OF 'laws.FnCalculatorRun'. -/
def fnCalculatorRunCard : Claim7 := { stood := { row := fnCalculatorRunRow, standIns := [], harness := (true, "1b26b71e2ff34ab6bfb8ee81e9d7d1ad12fe5b526e5b3b12fe711356b4a70b95"), looks := false }, kinds := [], alts := [], laidByText := true, laidKinds := [.data, .data, .data], laidTests := true, laidLooks := .later }
def FnCalculatorRunCardSaid : Prop := Claim7.holds Tryz.pinned (.plain (OpenSpec.ofChange fnCalculatorRunSpec)) fnCalculatorRunCard

/-- THE TIED CARD OF 'laws.FnExactCalculatorRun'. -/
def fnExactCalculatorRunCard : Claim7 := { stood := { row := fnExactCalculatorRunRow, standIns := [], harness := (true, "1b26b71e2ff34ab6bfb8ee81e9d7d1ad12fe5b526e5b3b12fe711356b4a70b95"), looks := false }, kinds := [], alts := [], laidByText := true, laidKinds := [.data, .data, .data], laidTests := true, laidLooks := .later }
def FnExactCalculatorRunCardSaid : Prop := Claim7.holds Tryz.pinned (.plain (OpenSpec.ofChange fnExactCalculatorRunSpec)) fnExactCalculatorRunCard

/-- THE TIED CARD OF 'laws.FnExactCalculatorLine'. -/
def fnExactCalculatorLineCard : Claim7 := { stood := { row := fnExactCalculatorLineRow, standIns := [], harness := (true, "1b26b71e2ff34ab6bfb8ee81e9d7d1ad12fe5b526e5b3b12fe711356b4a70b95"), looks := false }, kinds := [], alts := [], laidByText := true, laidKinds := [.data, .data, .data], laidTests := true, laidLooks := .later }
def FnExactCalculatorLineCardSaid : Prop := Claim7.holds Tryz.pinned (.plain (OpenSpec.ofChange fnExactCalculatorLineSpec)) fnExactCalculatorLineCard

/-- THE SECOND FORM's CARD OF 'laws.FnCalculatorLine'. -/
def fnCalculatorLineUptoCard : Claim7 := { stood := { row := fnCalculatorLineUptoRow, standIns := [], harness := (true, "1b26b71e2ff34ab6bfb8ee81e9d7d1ad12fe5b526e5b3b12fe711356b4a70b95"), looks := false }, kinds := [], alts := [], laidByText := true, laidKinds := [.data, .data, .data], laidTests := true, laidLooks := .later }
def FnCalculatorLineUptoCardSaid : Prop := Claim7.holds Tryz.pinned (.plain (OpenSpec.upto fnCalculatorLineSpec)) fnCalculatorLineUptoCard

/-- THE SECOND FORM's CARD OF 'laws.FnCalculatorRun'. -/
def fnCalculatorRunUptoCard : Claim7 := { stood := { row := fnCalculatorRunUptoRow, standIns := [], harness := (true, "1b26b71e2ff34ab6bfb8ee81e9d7d1ad12fe5b526e5b3b12fe711356b4a70b95"), looks := false }, kinds := [], alts := [], laidByText := true, laidKinds := [.data, .data, .data], laidTests := true, laidLooks := .later }
def FnCalculatorRunUptoCardSaid : Prop := Claim7.holds Tryz.pinned (.plain (OpenSpec.upto fnCalculatorRunSpec)) fnCalculatorRunUptoCard

/-- THE SECOND FORM's CARD OF 'laws.FnExactCalculatorRun'. -/
def fnExactCalculatorRunUptoCard : Claim7 := { stood := { row := fnExactCalculatorRunUptoRow, standIns := [], harness := (true, "1b26b71e2ff34ab6bfb8ee81e9d7d1ad12fe5b526e5b3b12fe711356b4a70b95"), looks := false }, kinds := [], alts := [], laidByText := true, laidKinds := [.data, .data, .data], laidTests := true, laidLooks := .later }
def FnExactCalculatorRunUptoCardSaid : Prop := Claim7.holds Tryz.pinned (.plain (OpenSpec.upto fnExactCalculatorRunSpec)) fnExactCalculatorRunUptoCard

/-- THE SECOND FORM's CARD OF 'laws.FnExactCalculatorLine'. -/
def fnExactCalculatorLineUptoCard : Claim7 := { stood := { row := fnExactCalculatorLineUptoRow, standIns := [], harness := (true, "1b26b71e2ff34ab6bfb8ee81e9d7d1ad12fe5b526e5b3b12fe711356b4a70b95"), looks := false }, kinds := [], alts := [], laidByText := true, laidKinds := [.data, .data, .data], laidTests := true, laidLooks := .later }
def FnExactCalculatorLineUptoCardSaid : Prop := Claim7.holds Tryz.pinned (.plain (OpenSpec.upto fnExactCalculatorLineSpec)) fnExactCalculatorLineUptoCard
end Rows
end Go.Proofs.YtidnnnjjpjadlaaGreatDoor
