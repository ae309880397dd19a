/-
  DERIVED. GIVEN WITH THE SEED: THE CARDS: each row of YtcgbbbcanmkcbaaDoorRows.lean that lists a variable, with what it lists TIED to the program's text (the seventh form; the later family's looks); each row that meets fmt, with fmt's text TOLD by the authors' own Lean function (tested against real Go, not proved from fmt's source: count such statements apart). THE CARD IS WHAT COUNTS. Prove the row's statement (the work); the ties are given (YtcgbbbcanmkcbaaDoorTie.lean); close each card by the builder's one call (the guide's Derived/Test/ToyasCard.lean, 'card_holds'). Laid BY PROGRAM, IN A SANDBOX (cutbox-door.mjs). By AI agents, Wed Nov 11 2026. No macro, syntax, notation, axiom, sorry.
-/
import Derived.Test.YtcgbbbcanmkcbaaDoorRows
import GoSem.ClaimSeven
namespace Go.Proofs.YtcgbbbcanmkcbaaDoor
namespace Rows

/-- THE TIED CARD OF 'laws.FnExactFormatText'. -/
def fnExactFormatTextCard : Claim7 := { stood := { row := fnExactFormatTextRow, standIns := [], harness := (true, "ca76194b342dd8b08f82ca9f97823a4f201714b7eb6032d9ed9159e616dc785b"), looks := false }, kinds := [], alts := [], laidByText := true, laidKinds := [.data, .data, .data], laidTests := true, laidLooks := .later }
def FnExactFormatTextCardSaid : Prop := Claim7.holds Tryd.pinned (.plain (OpenSpec.ofChange fnExactFormatTextSpec)) fnExactFormatTextCard

/-- THE TIED CARD OF 'laws.FnFormatText'. -/
def fnFormatTextCard : Claim7 := { stood := { row := fnFormatTextRow, standIns := [], harness := (true, "ca76194b342dd8b08f82ca9f97823a4f201714b7eb6032d9ed9159e616dc785b"), looks := false }, kinds := [], alts := [], laidByText := true, laidKinds := [.data, .data, .data], laidTests := true, laidLooks := .later }
def FnFormatTextCardSaid : Prop := Claim7.holds Tryd.pinned (.plain (OpenSpec.ofChange fnFormatTextSpec)) fnFormatTextCard

/-- THE TIED CARD OF 'laws.FnExactStoredText'. -/
def fnExactStoredTextCard : Claim7 := { stood := { row := fnExactStoredTextRow, standIns := [], harness := (true, "ca76194b342dd8b08f82ca9f97823a4f201714b7eb6032d9ed9159e616dc785b"), looks := false }, kinds := [], alts := [], laidByText := true, laidKinds := [.data, .data, .data], laidTests := true, laidLooks := .later }
def FnExactStoredTextCardSaid : Prop := Claim7.holds Tryd.pinned (.plain (OpenSpec.ofChange fnExactStoredTextSpec)) fnExactStoredTextCard

/-- THE TIED CARD OF 'laws.FnStoredText'. -/
def fnStoredTextCard : Claim7 := { stood := { row := fnStoredTextRow, standIns := [], harness := (true, "ca76194b342dd8b08f82ca9f97823a4f201714b7eb6032d9ed9159e616dc785b"), looks := false }, kinds := [], alts := [], laidByText := true, laidKinds := [.data, .data, .data], laidTests := true, laidLooks := .later }
def FnStoredTextCardSaid : Prop := Claim7.holds Tryd.pinned (.plain (OpenSpec.ofChange fnStoredTextSpec)) fnStoredTextCard

/-- THE TIED CARD OF 'laws.FnExactReadFormat'. -/
def fnExactReadFormatCard : Claim7 := { stood := { row := fnExactReadFormatRow, standIns := [], harness := (true, "ca76194b342dd8b08f82ca9f97823a4f201714b7eb6032d9ed9159e616dc785b"), looks := false }, kinds := [], alts := [], laidByText := true, laidKinds := [.data, .data, .data], laidTests := true, laidLooks := .later }
def FnExactReadFormatCardSaid : Prop := Claim7.holds Tryd.pinned (.plain (OpenSpec.ofChange fnExactReadFormatSpec)) fnExactReadFormatCard

/-- THE TIED CARD OF 'laws.FnReadFormat'. -/
def fnReadFormatCard : Claim7 := { stood := { row := fnReadFormatRow, standIns := [], harness := (true, "ca76194b342dd8b08f82ca9f97823a4f201714b7eb6032d9ed9159e616dc785b"), looks := false }, kinds := [], alts := [], laidByText := true, laidKinds := [.data, .data, .data], laidTests := true, laidLooks := .later }
def FnReadFormatCardSaid : Prop := Claim7.holds Tryd.pinned (.plain (OpenSpec.ofChange fnReadFormatSpec)) fnReadFormatCard

/-- THE TIED CARD OF 'laws.FnExactReadStored'. -/
def fnExactReadStoredCard : Claim7 := { stood := { row := fnExactReadStoredRow, standIns := [], harness := (true, "ca76194b342dd8b08f82ca9f97823a4f201714b7eb6032d9ed9159e616dc785b"), looks := false }, kinds := [], alts := [], laidByText := true, laidKinds := [.data, .data, .data], laidTests := true, laidLooks := .later }
def FnExactReadStoredCardSaid : Prop := Claim7.holds Tryd.pinned (.plain (OpenSpec.ofChange fnExactReadStoredSpec)) fnExactReadStoredCard

/-- THE TIED CARD OF 'laws.FnReadStored'. -/
def fnReadStoredCard : Claim7 := { stood := { row := fnReadStoredRow, standIns := [], harness := (true, "ca76194b342dd8b08f82ca9f97823a4f201714b7eb6032d9ed9159e616dc785b"), looks := false }, kinds := [], alts := [], laidByText := true, laidKinds := [.data, .data, .data], laidTests := true, laidLooks := .later }
def FnReadStoredCardSaid : Prop := Claim7.holds Tryd.pinned (.plain (OpenSpec.ofChange fnReadStoredSpec)) fnReadStoredCard

/-- THE TIED CARD OF 'laws.FnTextFormat'. -/
def fnTextFormatCard : Claim7 := { stood := { row := fnTextFormatRow, standIns := [], harness := (true, "ca76194b342dd8b08f82ca9f97823a4f201714b7eb6032d9ed9159e616dc785b"), looks := false }, kinds := [], alts := [], laidByText := true, laidKinds := [.data, .data, .data], laidTests := true, laidLooks := .later }
def FnTextFormatCardSaid : Prop := Claim7.holds Tryd.pinned (.plain (OpenSpec.ofChange fnTextFormatSpec)) fnTextFormatCard

/-- THE SECOND FORM's CARD OF 'laws.FnExactFormatText'. -/
def fnExactFormatTextUptoCard : Claim7 := { stood := { row := fnExactFormatTextUptoRow, standIns := [], harness := (true, "ca76194b342dd8b08f82ca9f97823a4f201714b7eb6032d9ed9159e616dc785b"), looks := false }, kinds := [], alts := [], laidByText := true, laidKinds := [.data, .data, .data], laidTests := true, laidLooks := .later }
def FnExactFormatTextUptoCardSaid : Prop := Claim7.holds Tryd.pinned (.plain (OpenSpec.upto fnExactFormatTextSpec)) fnExactFormatTextUptoCard

/-- THE SECOND FORM's CARD OF 'laws.FnFormatText'. -/
def fnFormatTextUptoCard : Claim7 := { stood := { row := fnFormatTextUptoRow, standIns := [], harness := (true, "ca76194b342dd8b08f82ca9f97823a4f201714b7eb6032d9ed9159e616dc785b"), looks := false }, kinds := [], alts := [], laidByText := true, laidKinds := [.data, .data, .data], laidTests := true, laidLooks := .later }
def FnFormatTextUptoCardSaid : Prop := Claim7.holds Tryd.pinned (.plain (OpenSpec.upto fnFormatTextSpec)) fnFormatTextUptoCard

/-- THE SECOND FORM's CARD OF 'laws.FnExactStoredText'. -/
def fnExactStoredTextUptoCard : Claim7 := { stood := { row := fnExactStoredTextUptoRow, standIns := [], harness := (true, "ca76194b342dd8b08f82ca9f97823a4f201714b7eb6032d9ed9159e616dc785b"), looks := false }, kinds := [], alts := [], laidByText := true, laidKinds := [.data, .data, .data], laidTests := true, laidLooks := .later }
def FnExactStoredTextUptoCardSaid : Prop := Claim7.holds Tryd.pinned (.plain (OpenSpec.upto fnExactStoredTextSpec)) fnExactStoredTextUptoCard

/-- THE SECOND FORM's CARD OF 'laws.FnStoredText'. -/
def fnStoredTextUptoCard : Claim7 := { stood := { row := fnStoredTextUptoRow, standIns := [], harness := (true, "ca76194b342dd8b08f82ca9f97823a4f201714b7eb6032d9ed9159e616dc785b"), looks := false }, kinds := [], alts := [], laidByText := true, laidKinds := [.data, .data, .data], laidTests := true, laidLooks := .later }
def FnStoredTextUptoCardSaid : Prop := Claim7.holds Tryd.pinned (.plain (OpenSpec.upto fnStoredTextSpec)) fnStoredTextUptoCard

/-- THE SECOND FORM's CARD OF 'laws.FnExactReadFormat'. -/
def fnExactReadFormatUptoCard : Claim7 := { stood := { row := fnExactReadFormatUptoRow, standIns := [], harness := (true, "ca76194b342dd8b08f82ca9f97823a4f201714b7eb6032d9ed9159e616dc785b"), looks := false }, kinds := [], alts := [], laidByText := true, laidKinds := [.data, .data, .data], laidTests := true, laidLooks := .later }
def FnExactReadFormatUptoCardSaid : Prop := Claim7.holds Tryd.pinned (.plain (OpenSpec.upto fnExactReadFormatSpec)) fnExactReadFormatUptoCard

/-- THE SECOND FORM's CARD OF 'laws.FnReadFormat'. -/
def fnReadFormatUptoCard : Claim7 := { stood := { row := fnReadFormatUptoRow, standIns := [], harness := (true, "ca76194b342dd8b08f82ca9f97823a4f201714b7eb6032d9ed9159e616dc785b"), looks := false }, kinds := [], alts := [], laidByText := true, laidKinds := [.data, .data, .data], laidTests := true, laidLooks := .later }
def FnReadFormatUptoCardSaid : Prop := Claim7.holds Tryd.pinned (.plain (OpenSpec.upto fnReadFormatSpec)) fnReadFormatUptoCard

/-- THE SECOND FORM's CARD OF 'laws.FnExactReadStored'. -/
def fnExactReadStoredUptoCard : Claim7 := { stood := { row := fnExactReadStoredUptoRow, standIns := [], harness := (true, "ca76194b342dd8b08f82ca9f97823a4f201714b7eb6032d9ed9159e616dc785b"), looks := false }, kinds := [], alts := [], laidByText := true, laidKinds := [.data, .data, .data], laidTests := true, laidLooks := .later }
def FnExactReadStoredUptoCardSaid : Prop := Claim7.holds Tryd.pinned (.plain (OpenSpec.upto fnExactReadStoredSpec)) fnExactReadStoredUptoCard

/-- THE SECOND FORM's CARD OF 'laws.FnReadStored'. -/
def fnReadStoredUptoCard : Claim7 := { stood := { row := fnReadStoredUptoRow, standIns := [], harness := (true, "ca76194b342dd8b08f82ca9f97823a4f201714b7eb6032d9ed9159e616dc785b"), looks := false }, kinds := [], alts := [], laidByText := true, laidKinds := [.data, .data, .data], laidTests := true, laidLooks := .later }
def FnReadStoredUptoCardSaid : Prop := Claim7.holds Tryd.pinned (.plain (OpenSpec.upto fnReadStoredSpec)) fnReadStoredUptoCard

/-- THE SECOND FORM's CARD OF 'laws.FnTextFormat'. -/
def fnTextFormatUptoCard : Claim7 := { stood := { row := fnTextFormatUptoRow, standIns := [], harness := (true, "ca76194b342dd8b08f82ca9f97823a4f201714b7eb6032d9ed9159e616dc785b"), looks := false }, kinds := [], alts := [], laidByText := true, laidKinds := [.data, .data, .data], laidTests := true, laidLooks := .later }
def FnTextFormatUptoCardSaid : Prop := Claim7.holds Tryd.pinned (.plain (OpenSpec.upto fnTextFormatSpec)) fnTextFormatUptoCard
end Rows
end Go.Proofs.YtcgbbbcanmkcbaaDoor
