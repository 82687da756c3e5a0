/-
  DERIVED. GIVEN WITH THE SEED: THE CARDS: each row of YtklobjegoankjaaGreatDoorRows.lean that lists a variable, with what it lists TIED to the program's text (the seventh form; the later family's looks); each row that meets fmt, with fmt's text TOLD by the authors' own Lean function (tested against real Go, not proved from fmt's source: count such statements apart). THE CARD IS WHAT COUNTS. Prove the row's statement (the work); the ties are given (YtklobjegoankjaaGreatDoorTie.lean); close each card by the builder's one call (the guide's Derived/Test/ToyasCard.lean, 'card_holds'). Laid BY PROGRAM, IN A SANDBOX (cutbox-door.mjs). By AI agents, Wed Nov 11 2026. No macro, syntax, notation, axiom, sorry.
-/
import Derived.Test.YtklobjegoankjaaGreatDoorRows
import GoSem.ClaimSeven
namespace Go.Proofs.YtklobjegoankjaaGreatDoor
namespace Rows

/-- THE TIED CARD OF 'detenttop.TopRounds'. -/
def topRoundsCard : Claim7 := { stood := { row := topRoundsRow, standIns := [], harness := (true, "cf3b95af066a0a15cfeb69689420e227c63306eea9557035236f92f6762e28d1"), looks := false }, kinds := [], alts := [], laidByText := true, laidKinds := [.data], laidTests := true, laidLooks := .later }
def TopRoundsCardSaid : Prop := Claim7.holds Tryz.pinned (.plain (OpenSpec.ofChange topRoundsSpec)) topRoundsCard

/-- THE TIED CARD OF 'detenttop.TopReleases'. -/
def topReleasesCard : Claim7 := { stood := { row := topReleasesRow, standIns := [], harness := (true, "cf3b95af066a0a15cfeb69689420e227c63306eea9557035236f92f6762e28d1"), looks := false }, kinds := [], alts := [], laidByText := true, laidKinds := [.data], laidTests := true, laidLooks := .later }
def TopReleasesCardSaid : Prop := Claim7.holds Tryz.pinned (.plain (OpenSpec.ofChange topReleasesSpec)) topReleasesCard

/-- THE SECOND FORM's CARD OF 'detenttop.TopRounds'. -/
def topRoundsUptoCard : Claim7 := { stood := { row := topRoundsUptoRow, standIns := [], harness := (true, "cf3b95af066a0a15cfeb69689420e227c63306eea9557035236f92f6762e28d1"), looks := false }, kinds := [], alts := [], laidByText := true, laidKinds := [.data], laidTests := true, laidLooks := .later }
def TopRoundsUptoCardSaid : Prop := Claim7.holds Tryz.pinned (.plain (OpenSpec.upto topRoundsSpec)) topRoundsUptoCard

/-- THE SECOND FORM's CARD OF 'detenttop.TopReleases'. -/
def topReleasesUptoCard : Claim7 := { stood := { row := topReleasesUptoRow, standIns := [], harness := (true, "cf3b95af066a0a15cfeb69689420e227c63306eea9557035236f92f6762e28d1"), looks := false }, kinds := [], alts := [], laidByText := true, laidKinds := [.data], laidTests := true, laidLooks := .later }
def TopReleasesUptoCardSaid : Prop := Claim7.holds Tryz.pinned (.plain (OpenSpec.upto topReleasesSpec)) topReleasesUptoCard
end Rows
end Go.Proofs.YtklobjegoankjaaGreatDoor
