/-
  DERIVED. GIVEN WITH THE SEED: THE CARDS: each row of YtineacililniiaaGreatDoorRows.lean that lists a variable, with what it lists TIED to the program's text (the seventh form; the later family's looks); each row that meets fmt, with fmt's text TOLD by the authors' own Lean function (tested against real Go, not proved from fmt's source: count such statements apart). THE CARD IS WHAT COUNTS. Prove the row's statement (the work); the ties are given (YtineacililniiaaGreatDoorTie.lean); close each card by the builder's one call (the guide's Derived/Test/ToyasCard.lean, 'card_holds'). Laid BY PROGRAM, IN A SANDBOX (cutbox-door.mjs). By AI agents, Wed Nov 11 2026. No macro, syntax, notation, axiom, sorry.
-/
import Derived.Test.YtineacililniiaaGreatDoorRows
import GoSem.ClaimSeven
namespace Go.Proofs.YtineacililniiaaGreatDoor
namespace Rows

/-- THE TIED CARD OF 'detentlaw26.KernelStates'. -/
def kernelStatesCard : Claim7 := { stood := { row := kernelStatesRow, standIns := [], harness := (true, "a97546114815fb18b137e7d339f8fe558a37752df50c56c532b4162c9d98db96"), looks := false }, kinds := [], alts := [], laidByText := true, laidKinds := [.data], laidTests := true, laidLooks := .later }
def KernelStatesCardSaid : Prop := Claim7.holds Tryz.pinned (.plain (OpenSpec.ofChange kernelStatesSpec)) kernelStatesCard

/-- THE TIED CARD OF 'detentlaw26.KernelGives'. -/
def kernelGivesCard : Claim7 := { stood := { row := kernelGivesRow, standIns := [], harness := (true, "a97546114815fb18b137e7d339f8fe558a37752df50c56c532b4162c9d98db96"), looks := false }, kinds := [], alts := [], laidByText := true, laidKinds := [.data], laidTests := true, laidLooks := .later }
def KernelGivesCardSaid : Prop := Claim7.holds Tryz.pinned (.plain (OpenSpec.ofChange kernelGivesSpec)) kernelGivesCard

/-- THE TIED CARD OF 'detentlaw26.KernelCeils'. -/
def kernelCeilsCard : Claim7 := { stood := { row := kernelCeilsRow, standIns := [], harness := (true, "a97546114815fb18b137e7d339f8fe558a37752df50c56c532b4162c9d98db96"), looks := false }, kinds := [], alts := [], laidByText := true, laidKinds := [.data], laidTests := true, laidLooks := .later }
def KernelCeilsCardSaid : Prop := Claim7.holds Tryz.pinned (.plain (OpenSpec.ofChange kernelCeilsSpec)) kernelCeilsCard

/-- THE TIED CARD OF 'detentlaw26.KernelForces'. -/
def kernelForcesCard : Claim7 := { stood := { row := kernelForcesRow, standIns := [], harness := (true, "a97546114815fb18b137e7d339f8fe558a37752df50c56c532b4162c9d98db96"), looks := false }, kinds := [], alts := [], laidByText := true, laidKinds := [.data], laidTests := true, laidLooks := .later }
def KernelForcesCardSaid : Prop := Claim7.holds Tryz.pinned (.plain (OpenSpec.ofChange kernelForcesSpec)) kernelForcesCard

/-- THE TIED CARD OF 'detentlaw26.KernelIdle'. -/
def kernelIdleCard : Claim7 := { stood := { row := kernelIdleRow, standIns := [], harness := (true, "a97546114815fb18b137e7d339f8fe558a37752df50c56c532b4162c9d98db96"), looks := false }, kinds := [], alts := [], laidByText := true, laidKinds := [.data], laidTests := true, laidLooks := .later }
def KernelIdleCardSaid : Prop := Claim7.holds Tryz.pinned (.plain (OpenSpec.ofChange kernelIdleSpec)) kernelIdleCard

/-- THE TIED CARD OF 'detentlaw26.KernelWaits'. -/
def kernelWaitsCard : Claim7 := { stood := { row := kernelWaitsRow, standIns := [], harness := (true, "a97546114815fb18b137e7d339f8fe558a37752df50c56c532b4162c9d98db96"), looks := false }, kinds := [], alts := [], laidByText := true, laidKinds := [.data], laidTests := true, laidLooks := .later }
def KernelWaitsCardSaid : Prop := Claim7.holds Tryz.pinned (.plain (OpenSpec.ofChange kernelWaitsSpec)) kernelWaitsCard

/-- THE SECOND FORM's CARD OF 'detentlaw26.KernelStates'. -/
def kernelStatesUptoCard : Claim7 := { stood := { row := kernelStatesUptoRow, standIns := [], harness := (true, "a97546114815fb18b137e7d339f8fe558a37752df50c56c532b4162c9d98db96"), looks := false }, kinds := [], alts := [], laidByText := true, laidKinds := [.data], laidTests := true, laidLooks := .later }
def KernelStatesUptoCardSaid : Prop := Claim7.holds Tryz.pinned (.plain (OpenSpec.upto kernelStatesSpec)) kernelStatesUptoCard

/-- THE SECOND FORM's CARD OF 'detentlaw26.KernelGives'. -/
def kernelGivesUptoCard : Claim7 := { stood := { row := kernelGivesUptoRow, standIns := [], harness := (true, "a97546114815fb18b137e7d339f8fe558a37752df50c56c532b4162c9d98db96"), looks := false }, kinds := [], alts := [], laidByText := true, laidKinds := [.data], laidTests := true, laidLooks := .later }
def KernelGivesUptoCardSaid : Prop := Claim7.holds Tryz.pinned (.plain (OpenSpec.upto kernelGivesSpec)) kernelGivesUptoCard

/-- THE SECOND FORM's CARD OF 'detentlaw26.KernelCeils'. -/
def kernelCeilsUptoCard : Claim7 := { stood := { row := kernelCeilsUptoRow, standIns := [], harness := (true, "a97546114815fb18b137e7d339f8fe558a37752df50c56c532b4162c9d98db96"), looks := false }, kinds := [], alts := [], laidByText := true, laidKinds := [.data], laidTests := true, laidLooks := .later }
def KernelCeilsUptoCardSaid : Prop := Claim7.holds Tryz.pinned (.plain (OpenSpec.upto kernelCeilsSpec)) kernelCeilsUptoCard

/-- THE SECOND FORM's CARD OF 'detentlaw26.KernelForces'. -/
def kernelForcesUptoCard : Claim7 := { stood := { row := kernelForcesUptoRow, standIns := [], harness := (true, "a97546114815fb18b137e7d339f8fe558a37752df50c56c532b4162c9d98db96"), looks := false }, kinds := [], alts := [], laidByText := true, laidKinds := [.data], laidTests := true, laidLooks := .later }
def KernelForcesUptoCardSaid : Prop := Claim7.holds Tryz.pinned (.plain (OpenSpec.upto kernelForcesSpec)) kernelForcesUptoCard

/-- THE SECOND FORM's CARD OF 'detentlaw26.KernelIdle'. -/
def kernelIdleUptoCard : Claim7 := { stood := { row := kernelIdleUptoRow, standIns := [], harness := (true, "a97546114815fb18b137e7d339f8fe558a37752df50c56c532b4162c9d98db96"), looks := false }, kinds := [], alts := [], laidByText := true, laidKinds := [.data], laidTests := true, laidLooks := .later }
def KernelIdleUptoCardSaid : Prop := Claim7.holds Tryz.pinned (.plain (OpenSpec.upto kernelIdleSpec)) kernelIdleUptoCard

/-- THE SECOND FORM's CARD OF 'detentlaw26.KernelWaits'. -/
def kernelWaitsUptoCard : Claim7 := { stood := { row := kernelWaitsUptoRow, standIns := [], harness := (true, "a97546114815fb18b137e7d339f8fe558a37752df50c56c532b4162c9d98db96"), looks := false }, kinds := [], alts := [], laidByText := true, laidKinds := [.data], laidTests := true, laidLooks := .later }
def KernelWaitsUptoCardSaid : Prop := Claim7.holds Tryz.pinned (.plain (OpenSpec.upto kernelWaitsSpec)) kernelWaitsUptoCard
end Rows
end Go.Proofs.YtineacililniiaaGreatDoor
