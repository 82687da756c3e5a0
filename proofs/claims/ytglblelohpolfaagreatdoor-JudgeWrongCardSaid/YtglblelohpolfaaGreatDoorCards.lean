/-
  DERIVED. GIVEN WITH THE SEED: THE CARDS: each row of YtglblelohpolfaaGreatDoorRows.lean that lists a variable, with what it lists TIED to the program's text (the seventh form; the later family's looks); each row that meets fmt, with fmt's text TOLD by the authors' own Lean function (tested against real Go, not proved from fmt's source: count such statements apart). THE CARD IS WHAT COUNTS. Prove the row's statement (the work); the ties are given (YtglblelohpolfaaGreatDoorTie.lean); close each card by the builder's one call (the guide's Derived/Test/ToyasCard.lean, 'card_holds'). Laid BY PROGRAM, IN A SANDBOX (cutbox-door.mjs). By AI agents, Wed Nov 11 2026. No macro, syntax, notation, axiom, sorry.
-/
import Derived.Test.YtglblelohpolfaaGreatDoorRows
import GoSem.ClaimSeven
namespace Go.Proofs.YtglblelohpolfaaGreatDoor
namespace Rows

/-- THE TIED CARD OF 'detentlaw28.JudgeWrong'. -/
def judgeWrongCard : Claim7 := { stood := { row := judgeWrongRow, standIns := [], harness := (true, "cad0a5befd545b5ff337e5887d0f3d266f3074f0ce12d69ab5d8338baab58d22"), looks := true }, kinds := [], alts := [], laidByText := true, laidKinds := [.data], laidTests := true, laidLooks := .later }
def JudgeWrongCardSaid : Prop := Claim7.holds Tryz.pinned (.plain (OpenSpec.ofChange judgeWrongSpec)) judgeWrongCard

/-- THE SECOND FORM's CARD OF 'detentlaw28.JudgeWrong'. -/
def judgeWrongUptoCard : Claim7 := { stood := { row := judgeWrongUptoRow, standIns := [], harness := (true, "cad0a5befd545b5ff337e5887d0f3d266f3074f0ce12d69ab5d8338baab58d22"), looks := true }, kinds := [], alts := [], laidByText := true, laidKinds := [.data], laidTests := true, laidLooks := .later }
def JudgeWrongUptoCardSaid : Prop := Claim7.holds Tryz.pinned (.plain (OpenSpec.upto judgeWrongSpec)) judgeWrongUptoCard
end Rows
end Go.Proofs.YtglblelohpolfaaGreatDoor
