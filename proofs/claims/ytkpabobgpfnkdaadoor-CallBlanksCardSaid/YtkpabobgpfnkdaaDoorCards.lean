/-
  DERIVED. GIVEN WITH THE SEED: THE CARDS: each row of YtkpabobgpfnkdaaDoorRows.lean that lists a variable, with what it lists TIED to the program's text (the seventh form; the later family's looks); each row that meets fmt, with fmt's text TOLD by the authors' own Lean function (tested against real Go, not proved from fmt's source: count such statements apart). THE CARD IS WHAT COUNTS. Prove the row's statement (the work); the ties are given (YtkpabobgpfnkdaaDoorTie.lean); close each card by the builder's one call (the guide's Derived/Test/ToyasCard.lean, 'card_holds'). Laid BY PROGRAM, IN A SANDBOX (cutbox-door.mjs). By AI agents, Wed Nov 11 2026. No macro, syntax, notation, axiom, sorry.
-/
import Derived.Test.YtkpabobgpfnkdaaDoorRows
import GoSem.ClaimSeven
namespace Go.Proofs.YtkpabobgpfnkdaaDoor
namespace Rows

/-- THE TIED CARD OF 'detentlaw25.CallNumbers'. -/
def callNumbersCard : Claim7 := { stood := { row := callNumbersRow, standIns := [], harness := (true, "b8ebc62cb5852ffca0b3144cc3daee5e88ceec92c2b3fe0af9ac7d214e5d5bd5"), looks := true }, kinds := [], alts := [], laidByText := true, laidKinds := [.data, .data, .data, .data, .sentinel, .sentinel, .pinned], laidTests := true, laidLooks := .later }
def CallNumbersCardSaid : Prop := Claim7.holds Tryd.pinned (.plain (OpenSpec.ofChange callNumbersSpec)) callNumbersCard

/-- THE TIED CARD OF 'detentlaw25.CallMakes'. -/
def callMakesCard : Claim7 := { stood := { row := callMakesRow, standIns := [], harness := (true, "b8ebc62cb5852ffca0b3144cc3daee5e88ceec92c2b3fe0af9ac7d214e5d5bd5"), looks := true }, kinds := [], alts := [], laidByText := true, laidKinds := [.data, .data, .data, .data, .sentinel, .sentinel, .pinned], laidTests := true, laidLooks := .later }
def CallMakesCardSaid : Prop := Claim7.holds Tryd.pinned (.plain (OpenSpec.ofChange callMakesSpec)) callMakesCard

/-- THE TIED CARD OF 'detentlaw25.CallTexts'. -/
def callTextsCard : Claim7 := { stood := { row := callTextsRow, standIns := [], harness := (true, "b8ebc62cb5852ffca0b3144cc3daee5e88ceec92c2b3fe0af9ac7d214e5d5bd5"), looks := true }, kinds := [], alts := [], laidByText := true, laidKinds := [.data, .data, .data, .data, .sentinel, .sentinel, .pinned], laidTests := true, laidLooks := .later }
def CallTextsCardSaid : Prop := Claim7.holds Tryd.pinned (.plain (OpenSpec.ofChange callTextsSpec)) callTextsCard

/-- THE TIED CARD OF 'detentlaw25.CallBack'. -/
def callBackCard : Claim7 := { stood := { row := callBackRow, standIns := [], harness := (true, "b8ebc62cb5852ffca0b3144cc3daee5e88ceec92c2b3fe0af9ac7d214e5d5bd5"), looks := true }, kinds := [], alts := [], laidByText := true, laidKinds := [.data, .data, .data, .data, .sentinel, .sentinel, .pinned], laidTests := true, laidLooks := .later }
def CallBackCardSaid : Prop := Claim7.holds Tryd.pinned (.plain (OpenSpec.ofChange callBackSpec)) callBackCard

/-- THE TIED CARD OF 'detentlaw25.CallNames'. -/
def callNamesCard : Claim7 := { stood := { row := callNamesRow, standIns := [], harness := (true, "b8ebc62cb5852ffca0b3144cc3daee5e88ceec92c2b3fe0af9ac7d214e5d5bd5"), looks := true }, kinds := [], alts := [], laidByText := true, laidKinds := [.data, .data, .data, .data, .sentinel, .sentinel, .pinned], laidTests := true, laidLooks := .later }
def CallNamesCardSaid : Prop := Claim7.holds Tryd.pinned (.plain (OpenSpec.ofChange callNamesSpec)) callNamesCard

/-- THE TIED CARD OF 'detentlaw25.CallBlanks'. -/
def callBlanksCard : Claim7 := { stood := { row := callBlanksRow, standIns := [], harness := (true, "b8ebc62cb5852ffca0b3144cc3daee5e88ceec92c2b3fe0af9ac7d214e5d5bd5"), looks := true }, kinds := [], alts := [], laidByText := true, laidKinds := [.data, .data, .data, .data, .sentinel, .sentinel, .pinned], laidTests := true, laidLooks := .later }
def CallBlanksCardSaid : Prop := Claim7.holds Tryd.pinned (.plain (OpenSpec.ofChange callBlanksSpec)) callBlanksCard

/-- THE TIED CARD OF 'detentlaw25.CallWords'. -/
def callWordsCard : Claim7 := { stood := { row := callWordsRow, standIns := [], harness := (true, "b8ebc62cb5852ffca0b3144cc3daee5e88ceec92c2b3fe0af9ac7d214e5d5bd5"), looks := true }, kinds := [], alts := [], laidByText := true, laidKinds := [.data, .data, .data, .data, .sentinel, .sentinel, .pinned], laidTests := true, laidLooks := .later }
def CallWordsCardSaid : Prop := Claim7.holds Tryd.pinned (.plain (OpenSpec.ofChange callWordsSpec)) callWordsCard

/-- THE SECOND FORM's CARD OF 'detentlaw25.CallNumbers'. -/
def callNumbersUptoCard : Claim7 := { stood := { row := callNumbersUptoRow, standIns := [], harness := (true, "b8ebc62cb5852ffca0b3144cc3daee5e88ceec92c2b3fe0af9ac7d214e5d5bd5"), looks := true }, kinds := [], alts := [], laidByText := true, laidKinds := [.data, .data, .data, .data, .sentinel, .sentinel, .pinned], laidTests := true, laidLooks := .later }
def CallNumbersUptoCardSaid : Prop := Claim7.holds Tryd.pinned (.plain (OpenSpec.upto callNumbersSpec)) callNumbersUptoCard

/-- THE SECOND FORM's CARD OF 'detentlaw25.CallMakes'. -/
def callMakesUptoCard : Claim7 := { stood := { row := callMakesUptoRow, standIns := [], harness := (true, "b8ebc62cb5852ffca0b3144cc3daee5e88ceec92c2b3fe0af9ac7d214e5d5bd5"), looks := true }, kinds := [], alts := [], laidByText := true, laidKinds := [.data, .data, .data, .data, .sentinel, .sentinel, .pinned], laidTests := true, laidLooks := .later }
def CallMakesUptoCardSaid : Prop := Claim7.holds Tryd.pinned (.plain (OpenSpec.upto callMakesSpec)) callMakesUptoCard

/-- THE SECOND FORM's CARD OF 'detentlaw25.CallTexts'. -/
def callTextsUptoCard : Claim7 := { stood := { row := callTextsUptoRow, standIns := [], harness := (true, "b8ebc62cb5852ffca0b3144cc3daee5e88ceec92c2b3fe0af9ac7d214e5d5bd5"), looks := true }, kinds := [], alts := [], laidByText := true, laidKinds := [.data, .data, .data, .data, .sentinel, .sentinel, .pinned], laidTests := true, laidLooks := .later }
def CallTextsUptoCardSaid : Prop := Claim7.holds Tryd.pinned (.plain (OpenSpec.upto callTextsSpec)) callTextsUptoCard

/-- THE SECOND FORM's CARD OF 'detentlaw25.CallBack'. -/
def callBackUptoCard : Claim7 := { stood := { row := callBackUptoRow, standIns := [], harness := (true, "b8ebc62cb5852ffca0b3144cc3daee5e88ceec92c2b3fe0af9ac7d214e5d5bd5"), looks := true }, kinds := [], alts := [], laidByText := true, laidKinds := [.data, .data, .data, .data, .sentinel, .sentinel, .pinned], laidTests := true, laidLooks := .later }
def CallBackUptoCardSaid : Prop := Claim7.holds Tryd.pinned (.plain (OpenSpec.upto callBackSpec)) callBackUptoCard

/-- THE SECOND FORM's CARD OF 'detentlaw25.CallNames'. -/
def callNamesUptoCard : Claim7 := { stood := { row := callNamesUptoRow, standIns := [], harness := (true, "b8ebc62cb5852ffca0b3144cc3daee5e88ceec92c2b3fe0af9ac7d214e5d5bd5"), looks := true }, kinds := [], alts := [], laidByText := true, laidKinds := [.data, .data, .data, .data, .sentinel, .sentinel, .pinned], laidTests := true, laidLooks := .later }
def CallNamesUptoCardSaid : Prop := Claim7.holds Tryd.pinned (.plain (OpenSpec.upto callNamesSpec)) callNamesUptoCard

/-- THE SECOND FORM's CARD OF 'detentlaw25.CallBlanks'. -/
def callBlanksUptoCard : Claim7 := { stood := { row := callBlanksUptoRow, standIns := [], harness := (true, "b8ebc62cb5852ffca0b3144cc3daee5e88ceec92c2b3fe0af9ac7d214e5d5bd5"), looks := true }, kinds := [], alts := [], laidByText := true, laidKinds := [.data, .data, .data, .data, .sentinel, .sentinel, .pinned], laidTests := true, laidLooks := .later }
def CallBlanksUptoCardSaid : Prop := Claim7.holds Tryd.pinned (.plain (OpenSpec.upto callBlanksSpec)) callBlanksUptoCard

/-- THE SECOND FORM's CARD OF 'detentlaw25.CallWords'. -/
def callWordsUptoCard : Claim7 := { stood := { row := callWordsUptoRow, standIns := [], harness := (true, "b8ebc62cb5852ffca0b3144cc3daee5e88ceec92c2b3fe0af9ac7d214e5d5bd5"), looks := true }, kinds := [], alts := [], laidByText := true, laidKinds := [.data, .data, .data, .data, .sentinel, .sentinel, .pinned], laidTests := true, laidLooks := .later }
def CallWordsUptoCardSaid : Prop := Claim7.holds Tryd.pinned (.plain (OpenSpec.upto callWordsSpec)) callWordsUptoCard
end Rows
end Go.Proofs.YtkpabobgpfnkdaaDoor
