/-
  TopServers: closed facts of its row.
-/
import Derived.Test.YteehkkadjjfcgaaGreatDoorRows
import Derived.WalkKit
import Derived.ProofKit
import Derived.OpenShut
import Derived.SevenTiedAt
import Derived.Test.YteehkkadjjfcgaaGreatDoorProg
import Derived.KernelRfl
namespace Go.Proofs.YteehkkadjjfcgaaGreatDoor.topServers
open Go.ChangeShapes Go.WideShapes Go.ChangeAt Go.RowKit

theorem jf1 : (Rows.topServersRow.wf (OpenSpec.ofChange Rows.topServersSpec)) = true := by kernel_rfl
theorem jf2 : (laidOutB Tryz.prog) = true := by kernel_rfl
theorem jf3 : (mapsRowed Tryz.prog) = true := by kernel_rfl
theorem jf10 : ((Rows.topServersRow.inPlace == Tryz.prog.inPlace 6)) = true := by kernel_rfl
theorem jf11 : ((Rows.topServersRow.unfollowed == Tryz.prog.unfollowed 6)) = true := by kernel_rfl
theorem jf12 : ((Rows.topServersRow.recurses == Tryz.prog.recurses 6)) = true := by kernel_rfl
theorem jf13 : ((Rows.topServersRow.named == Tryz.prog.varsNamed 6)) = true := by kernel_rfl
theorem jf23 : ((Rows.topServersRow.plainKeys == Tryz.prog.plainKeys)) = true := by kernel_rfl
theorem jf25 : (Tryz.prog.stopsHeard) = true := by kernel_rfl
theorem jf26 : (Tryz.prog.mayEnter) = true := by kernel_rfl
theorem jf27 : ((Rows.topServersRow.lifted == Tryz.prog.liftsFinal)) = true := by kernel_rfl
theorem and_tt {a b : Bool} (h1 : a = true) (h2 : b = true) : (a && b) = true := by rw [h1, h2]; rfl
theorem closed : joinedFacts Tryz.prog 6 Tryz.f6 Rows.topServersSpec Rows.topServersRow = true := (and_tt (and_tt (and_tt (and_tt (and_tt (and_tt (and_tt (and_tt (and_tt (and_tt (and_tt (and_tt (and_tt (and_tt (and_tt (and_tt (and_tt (and_tt (and_tt (and_tt (and_tt (and_tt (and_tt (and_tt (and_tt (and_tt (and_tt (and_tt (and_tt (and_tt (and_tt jf1 jf2) jf3) (by kernel_rfl)) (by kernel_rfl)) (by kernel_rfl)) (by kernel_rfl)) (by kernel_rfl)) (by kernel_rfl)) jf10) jf11) jf12) jf13) (by kernel_rfl)) (by kernel_rfl)) (by kernel_rfl)) (by kernel_rfl)) (by kernel_rfl)) (by kernel_rfl)) (by kernel_rfl)) (by kernel_rfl)) (by kernel_rfl)) jf23) (by kernel_rfl)) jf25) jf26) jf27) (by kernel_rfl)) (by kernel_rfl)) (by kernel_rfl)) (by kernel_rfl)) (by kernel_rfl))

end Go.Proofs.YteehkkadjjfcgaaGreatDoor.topServers
