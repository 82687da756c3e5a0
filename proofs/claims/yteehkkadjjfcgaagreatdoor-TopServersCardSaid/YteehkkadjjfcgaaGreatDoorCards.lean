/-
  DERIVED. GIVEN WITH THE SEED: THE CARDS: each row of YteehkkadjjfcgaaGreatDoorRows.lean that lists a variable, with what it lists TIED to the program's text (the seventh form; the later family's looks); each row that meets fmt, with fmt's text TOLD by the authors' own Lean function (tested against real Go, not proved from fmt's source: count such statements apart). THE CARD IS WHAT COUNTS. Prove the row's statement (the work); the ties are given (YteehkkadjjfcgaaGreatDoorTie.lean); close each card by the builder's one call (the guide's Derived/Test/ToyasCard.lean, 'card_holds'). Laid BY PROGRAM, IN A SANDBOX (cutbox-door.mjs). By AI agents, Wed Nov 11 2026. No macro, syntax, notation, axiom, sorry.
-/
import Derived.Test.YteehkkadjjfcgaaGreatDoorRows
import GoSem.ClaimSeven
namespace Go.Proofs.YteehkkadjjfcgaaGreatDoor
namespace Rows

/-- THE TIED CARD OF 'detenttop.TopHeaps'. -/
def topHeapsCard : Claim7 := { stood := { row := topHeapsRow, standIns := [], harness := (true, "acfa4f03b06b25bbd340a9d0ed200cf447042b4687dd7751a7d60d146079cddc"), looks := false }, kinds := [], alts := [], laidByText := true, laidKinds := [.data], laidTests := true, laidLooks := .later }
def TopHeapsCardSaid : Prop := Claim7.holds Tryz.pinned (.plain (OpenSpec.ofChange topHeapsSpec)) topHeapsCard

/-- THE TIED CARD OF 'detenttop.TopRounds'. -/
def topRoundsCard : Claim7 := { stood := { row := topRoundsRow, standIns := [], harness := (true, "acfa4f03b06b25bbd340a9d0ed200cf447042b4687dd7751a7d60d146079cddc"), looks := false }, kinds := [], alts := [], laidByText := true, laidKinds := [.data], laidTests := true, laidLooks := .later }
def TopRoundsCardSaid : Prop := Claim7.holds Tryz.pinned (.plain (OpenSpec.ofChange topRoundsSpec)) topRoundsCard

/-- THE TIED CARD OF 'detenttop.TopBudgets'. -/
def topBudgetsCard : Claim7 := { stood := { row := topBudgetsRow, standIns := [], harness := (true, "acfa4f03b06b25bbd340a9d0ed200cf447042b4687dd7751a7d60d146079cddc"), looks := false }, kinds := [], alts := [], laidByText := true, laidKinds := [.data], laidTests := true, laidLooks := .later }
def TopBudgetsCardSaid : Prop := Claim7.holds Tryz.pinned (.plain (OpenSpec.ofChange topBudgetsSpec)) topBudgetsCard

/-- THE TIED CARD OF 'detenttop.TopServers'. -/
def topServersCard : Claim7 := { stood := { row := topServersRow, standIns := [], harness := (true, "acfa4f03b06b25bbd340a9d0ed200cf447042b4687dd7751a7d60d146079cddc"), looks := false }, kinds := [], alts := [], laidByText := true, laidKinds := [.data], laidTests := true, laidLooks := .later }
def TopServersCardSaid : Prop := Claim7.holds Tryz.pinned (.plain (OpenSpec.ofChange topServersSpec)) topServersCard

/-- THE TIED CARD OF 'detenttop.TopLetters'. -/
def topLettersCard : Claim7 := { stood := { row := topLettersRow, standIns := [], harness := (true, "acfa4f03b06b25bbd340a9d0ed200cf447042b4687dd7751a7d60d146079cddc"), looks := false }, kinds := [], alts := [], laidByText := true, laidKinds := [.data], laidTests := true, laidLooks := .later }
def TopLettersCardSaid : Prop := Claim7.holds Tryz.pinned (.plain (OpenSpec.ofChange topLettersSpec)) topLettersCard

/-- THE SECOND FORM's CARD OF 'detenttop.TopHeaps'. -/
def topHeapsUptoCard : Claim7 := { stood := { row := topHeapsUptoRow, standIns := [], harness := (true, "acfa4f03b06b25bbd340a9d0ed200cf447042b4687dd7751a7d60d146079cddc"), looks := false }, kinds := [], alts := [], laidByText := true, laidKinds := [.data], laidTests := true, laidLooks := .later }
def TopHeapsUptoCardSaid : Prop := Claim7.holds Tryz.pinned (.plain (OpenSpec.upto topHeapsSpec)) topHeapsUptoCard

/-- THE SECOND FORM's CARD OF 'detenttop.TopRounds'. -/
def topRoundsUptoCard : Claim7 := { stood := { row := topRoundsUptoRow, standIns := [], harness := (true, "acfa4f03b06b25bbd340a9d0ed200cf447042b4687dd7751a7d60d146079cddc"), looks := false }, kinds := [], alts := [], laidByText := true, laidKinds := [.data], laidTests := true, laidLooks := .later }
def TopRoundsUptoCardSaid : Prop := Claim7.holds Tryz.pinned (.plain (OpenSpec.upto topRoundsSpec)) topRoundsUptoCard

/-- THE SECOND FORM's CARD OF 'detenttop.TopBudgets'. -/
def topBudgetsUptoCard : Claim7 := { stood := { row := topBudgetsUptoRow, standIns := [], harness := (true, "acfa4f03b06b25bbd340a9d0ed200cf447042b4687dd7751a7d60d146079cddc"), looks := false }, kinds := [], alts := [], laidByText := true, laidKinds := [.data], laidTests := true, laidLooks := .later }
def TopBudgetsUptoCardSaid : Prop := Claim7.holds Tryz.pinned (.plain (OpenSpec.upto topBudgetsSpec)) topBudgetsUptoCard

/-- THE SECOND FORM's CARD OF 'detenttop.TopServers'. -/
def topServersUptoCard : Claim7 := { stood := { row := topServersUptoRow, standIns := [], harness := (true, "acfa4f03b06b25bbd340a9d0ed200cf447042b4687dd7751a7d60d146079cddc"), looks := false }, kinds := [], alts := [], laidByText := true, laidKinds := [.data], laidTests := true, laidLooks := .later }
def TopServersUptoCardSaid : Prop := Claim7.holds Tryz.pinned (.plain (OpenSpec.upto topServersSpec)) topServersUptoCard

/-- THE SECOND FORM's CARD OF 'detenttop.TopLetters'. -/
def topLettersUptoCard : Claim7 := { stood := { row := topLettersUptoRow, standIns := [], harness := (true, "acfa4f03b06b25bbd340a9d0ed200cf447042b4687dd7751a7d60d146079cddc"), looks := false }, kinds := [], alts := [], laidByText := true, laidKinds := [.data], laidTests := true, laidLooks := .later }
def TopLettersUptoCardSaid : Prop := Claim7.holds Tryz.pinned (.plain (OpenSpec.upto topLettersSpec)) topLettersUptoCard
end Rows
end Go.Proofs.YteehkkadjjfcgaaGreatDoor
