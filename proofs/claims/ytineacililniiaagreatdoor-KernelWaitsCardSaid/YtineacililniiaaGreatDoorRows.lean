/-
  NARROWER THAN 'FOR EVERY INPUT', by the rows' own cells (each row's printed sentence says how): KernelStates: laid · KernelGives: laid · KernelCeils: laid · KernelForces: laid · KernelIdle: laid · KernelWaits: laid.
  DERIVED. THE GIVEN ROWS OF THIS SEAT. 6 by the template 'for every input the law returns true; each argument reads behind the call as it read before'; 0 by the template 'total and deterministic' (their statements: YtineacililniiaaGreatDoorTotals.lean).
  GIVEN WITH THE SEED: the statements are not yours to turn. If you find one false, say at which input.
  Laid BY PROGRAM, IN A SANDBOX (cutbox-rows.mjs): the forced cells as the released guide's own fill.sh prints them over the translation 078c5b2df0096491… (all of the seat's roots in one cut). By AI agents, Wed Nov 11 2026. No macro, syntax, notation, axiom, sorry.
-/
import Derived.Test.YtineacililniiaaGreatDoorChecked
import GoSem.Claim
import GoSem.ClaimJoined
import GoSem.ClaimMapViews
import Derived.JoinedTies
import Derived.KernelRfl
namespace Go.Proofs.YtineacililniiaaGreatDoor
/- THE CELL 'sum', in the pinned program and in every row, IS THE sha256 OF THE DUMP (.gsa) THAT YtineacililniiaaGreatDoorProg.lean LOADS. Nothing in Lean hashes anything: it is a label: what it is worth is what the hold of that sum in a sandbox is worth. -/
noncomputable def Tryz.pinned : Pinned := { name := "ytineacililniiaagreatdoor", sum := "078c5b2df00964911a1d55d68edc16540d7ea86c515268475be6867232062c01", checked := Tryz.checked }
namespace Rows
def none {H : Type} : Left H := { results := [], args := [] }

/- WHAT THE LISTED PACKAGE-LEVEL VARIABLES READ AS WHEN THE CALL BEGINS. Each datum BY PROGRAM (the guide's laid-datum.mjs) off the statement by which the dump's own 'gosem.cut.vars' lays the variable. In a bare row this is a premise. The card (YtineacililniiaaGreatDoorCards.lean) ties it to the program's text. -/
def laid_math_bits_deBruijn64tab {H : Type} : DataW H := .agg [.lit (.int .u8 0), .lit (.int .u8 1), .lit (.int .u8 56), .lit (.int .u8 2), .lit (.int .u8 57), .lit (.int .u8 49), .lit (.int .u8 28), .lit (.int .u8 3), .lit (.int .u8 61), .lit (.int .u8 58), .lit (.int .u8 42), .lit (.int .u8 50), .lit (.int .u8 38), .lit (.int .u8 29), .lit (.int .u8 17), .lit (.int .u8 4), .lit (.int .u8 62), .lit (.int .u8 47), .lit (.int .u8 59), .lit (.int .u8 36), .lit (.int .u8 45), .lit (.int .u8 43), .lit (.int .u8 51), .lit (.int .u8 22), .lit (.int .u8 53), .lit (.int .u8 39), .lit (.int .u8 33), .lit (.int .u8 30), .lit (.int .u8 24), .lit (.int .u8 18), .lit (.int .u8 12), .lit (.int .u8 5), .lit (.int .u8 63), .lit (.int .u8 55), .lit (.int .u8 48), .lit (.int .u8 27), .lit (.int .u8 60), .lit (.int .u8 41), .lit (.int .u8 37), .lit (.int .u8 16), .lit (.int .u8 46), .lit (.int .u8 35), .lit (.int .u8 44), .lit (.int .u8 21), .lit (.int .u8 52), .lit (.int .u8 32), .lit (.int .u8 23), .lit (.int .u8 11), .lit (.int .u8 54), .lit (.int .u8 26), .lit (.int .u8 40), .lit (.int .u8 15), .lit (.int .u8 34), .lit (.int .u8 20), .lit (.int .u8 31), .lit (.int .u8 10), .lit (.int .u8 25), .lit (.int .u8 14), .lit (.int .u8 19), .lit (.int .u8 9), .lit (.int .u8 13), .lit (.int .u8 8), .lit (.int .u8 7), .lit (.int .u8 6)]

/-- 'detentlaw26.KernelStates': WHATEVER THE INPUT: true; the input reads as it did. -/
def kernelStatesSpec : ChangeSpec := { name := "kernelStates", fn := fun _ => fun
  | [d] => { results := [.lit (.bool true)], args := [d] }
  | _ => none }
def kernelStatesRow : OpenClaim := { program := "ytineacililniiaagreatdoor", sum := "078c5b2df00964911a1d55d68edc16540d7ea86c515268475be6867232062c01", func := "detent/detentlaw26.KernelStates", spec := "kernelStates", inPlace := ["slices.overlaps[int]", "slices.overlaps[detent/order.Item]"], unfollowed := true, recurses := true, named := ["math/bits.deBruijn64tab"], apart := false, laid := [("math/bits.deBruijn64tab", laid_math_bits_deBruijn64tab)] }
def KernelStatesSaid : Prop := kernelStatesRow.holds Tryz.pinned (OpenSpec.ofChange kernelStatesSpec)

/-- ITS FALSE NEIGHBOUR: 'it returns false'. Refute it at one input. -/
def kernelStatesWrong : ChangeSpec := { name := "kernelStates", fn := fun _ => fun
  | [d] => { results := [.lit (.bool false)], args := [d] }
  | _ => none }
def KernelStatesWrongFalsely : Prop := kernelStatesRow.holds Tryz.pinned (OpenSpec.ofChange kernelStatesWrong)

/-- 'detentlaw26.KernelGives': WHATEVER THE INPUT: true; the input reads as it did. -/
def kernelGivesSpec : ChangeSpec := { name := "kernelGives", fn := fun _ => fun
  | [d1, d2] => { results := [.lit (.bool true)], args := [d1, d2] }
  | _ => none }
def kernelGivesRow : OpenClaim := { program := "ytineacililniiaagreatdoor", sum := "078c5b2df00964911a1d55d68edc16540d7ea86c515268475be6867232062c01", func := "detent/detentlaw26.KernelGives", spec := "kernelGives", inPlace := ["slices.overlaps[int]", "slices.overlaps[detent/order.Item]"], unfollowed := true, recurses := true, named := ["math/bits.deBruijn64tab"], apart := false, laid := [("math/bits.deBruijn64tab", laid_math_bits_deBruijn64tab)] }
def KernelGivesSaid : Prop := kernelGivesRow.holds Tryz.pinned (OpenSpec.ofChange kernelGivesSpec)

/-- ITS FALSE NEIGHBOUR: 'it returns false'. Refute it at one input. -/
def kernelGivesWrong : ChangeSpec := { name := "kernelGives", fn := fun _ => fun
  | [d1, d2] => { results := [.lit (.bool false)], args := [d1, d2] }
  | _ => none }
def KernelGivesWrongFalsely : Prop := kernelGivesRow.holds Tryz.pinned (OpenSpec.ofChange kernelGivesWrong)

/-- 'detentlaw26.KernelCeils': WHATEVER THE INPUT: true; the input reads as it did. -/
def kernelCeilsSpec : ChangeSpec := { name := "kernelCeils", fn := fun _ => fun
  | [d] => { results := [.lit (.bool true)], args := [d] }
  | _ => none }
def kernelCeilsRow : OpenClaim := { program := "ytineacililniiaagreatdoor", sum := "078c5b2df00964911a1d55d68edc16540d7ea86c515268475be6867232062c01", func := "detent/detentlaw26.KernelCeils", spec := "kernelCeils", inPlace := ["slices.overlaps[int]", "slices.overlaps[detent/order.Item]"], unfollowed := true, recurses := true, named := ["math/bits.deBruijn64tab"], apart := false, laid := [("math/bits.deBruijn64tab", laid_math_bits_deBruijn64tab)] }
def KernelCeilsSaid : Prop := kernelCeilsRow.holds Tryz.pinned (OpenSpec.ofChange kernelCeilsSpec)

/-- ITS FALSE NEIGHBOUR: 'it returns false'. Refute it at one input. -/
def kernelCeilsWrong : ChangeSpec := { name := "kernelCeils", fn := fun _ => fun
  | [d] => { results := [.lit (.bool false)], args := [d] }
  | _ => none }
def KernelCeilsWrongFalsely : Prop := kernelCeilsRow.holds Tryz.pinned (OpenSpec.ofChange kernelCeilsWrong)

/-- 'detentlaw26.KernelForces': WHATEVER THE INPUT: true; the input reads as it did. -/
def kernelForcesSpec : ChangeSpec := { name := "kernelForces", fn := fun _ => fun
  | [d1, d2, d3] => { results := [.lit (.bool true)], args := [d1, d2, d3] }
  | _ => none }
def kernelForcesRow : OpenClaim := { program := "ytineacililniiaagreatdoor", sum := "078c5b2df00964911a1d55d68edc16540d7ea86c515268475be6867232062c01", func := "detent/detentlaw26.KernelForces", spec := "kernelForces", inPlace := ["slices.overlaps[int]", "slices.overlaps[detent/order.Item]"], unfollowed := true, recurses := true, named := ["math/bits.deBruijn64tab"], apart := false, laid := [("math/bits.deBruijn64tab", laid_math_bits_deBruijn64tab)] }
def KernelForcesSaid : Prop := kernelForcesRow.holds Tryz.pinned (OpenSpec.ofChange kernelForcesSpec)

/-- ITS FALSE NEIGHBOUR: 'it returns false'. Refute it at one input. -/
def kernelForcesWrong : ChangeSpec := { name := "kernelForces", fn := fun _ => fun
  | [d1, d2, d3] => { results := [.lit (.bool false)], args := [d1, d2, d3] }
  | _ => none }
def KernelForcesWrongFalsely : Prop := kernelForcesRow.holds Tryz.pinned (OpenSpec.ofChange kernelForcesWrong)

/-- 'detentlaw26.KernelIdle': WHATEVER THE INPUT: true; the input reads as it did. -/
def kernelIdleSpec : ChangeSpec := { name := "kernelIdle", fn := fun _ => fun
  | [d1, d2] => { results := [.lit (.bool true)], args := [d1, d2] }
  | _ => none }
def kernelIdleRow : OpenClaim := { program := "ytineacililniiaagreatdoor", sum := "078c5b2df00964911a1d55d68edc16540d7ea86c515268475be6867232062c01", func := "detent/detentlaw26.KernelIdle", spec := "kernelIdle", inPlace := ["slices.overlaps[int]", "slices.overlaps[detent/order.Item]"], unfollowed := true, recurses := true, named := ["math/bits.deBruijn64tab"], apart := false, laid := [("math/bits.deBruijn64tab", laid_math_bits_deBruijn64tab)] }
def KernelIdleSaid : Prop := kernelIdleRow.holds Tryz.pinned (OpenSpec.ofChange kernelIdleSpec)

/-- ITS FALSE NEIGHBOUR: 'it returns false'. Refute it at one input. -/
def kernelIdleWrong : ChangeSpec := { name := "kernelIdle", fn := fun _ => fun
  | [d1, d2] => { results := [.lit (.bool false)], args := [d1, d2] }
  | _ => none }
def KernelIdleWrongFalsely : Prop := kernelIdleRow.holds Tryz.pinned (OpenSpec.ofChange kernelIdleWrong)

/-- 'detentlaw26.KernelWaits': WHATEVER THE INPUT: true; the input reads as it did. -/
def kernelWaitsSpec : ChangeSpec := { name := "kernelWaits", fn := fun _ => fun
  | [d1, d2, d3] => { results := [.lit (.bool true)], args := [d1, d2, d3] }
  | _ => none }
def kernelWaitsRow : OpenClaim := { program := "ytineacililniiaagreatdoor", sum := "078c5b2df00964911a1d55d68edc16540d7ea86c515268475be6867232062c01", func := "detent/detentlaw26.KernelWaits", spec := "kernelWaits", inPlace := ["slices.overlaps[int]", "slices.overlaps[detent/order.Item]"], unfollowed := true, recurses := true, named := ["math/bits.deBruijn64tab"], apart := false, laid := [("math/bits.deBruijn64tab", laid_math_bits_deBruijn64tab)] }
def KernelWaitsSaid : Prop := kernelWaitsRow.holds Tryz.pinned (OpenSpec.ofChange kernelWaitsSpec)

/-- ITS FALSE NEIGHBOUR: 'it returns false'. Refute it at one input. -/
def kernelWaitsWrong : ChangeSpec := { name := "kernelWaits", fn := fun _ => fun
  | [d1, d2, d3] => { results := [.lit (.bool false)], args := [d1, d2, d3] }
  | _ => none }
def KernelWaitsWrongFalsely : Prop := kernelWaitsRow.holds Tryz.pinned (OpenSpec.ofChange kernelWaitsWrong)

/- THE SECOND FORM. 'bulk': how many values and letters a reading holds, each counted each time it is reached (what is shared counts as often as it is met; a slice's spare places count too). A statement '..UptoSaid' is the law's where the arguments, and the package variables that the reading takes, are together of bulk at most 1048576: NARROWER than '..Said'. Prove '..Said' where nothing that the law and all that it calls make is longer than what came in: it says more and counts as full. Else prove '..UptoSaid'. A law counts once. -/
mutual
def uptoBulk {H : Type} : DataW H → Nat
  | .lit (.string bytes) => bytes.length + 1
  | .lit _ => 1
  | .nil => 1
  | .ptr d => uptoBulk d + 1
  | .slice elems spare => uptoBulkAll elems + uptoBulkAll spare + 1
  | .agg parts => uptoBulkAll parts + 1
  | .iface _ d => uptoBulk d + 1
  | .map entries => uptoBulkEntries entries + 1
  | .held _ => 1
def uptoBulkAll {H : Type} : List (DataW H) → Nat
  | [] => 0
  | d :: r => uptoBulk d + uptoBulkAll r
def uptoBulkEntries {H : Type} : List (Lit × DataW H) → Nat
  | [] => 0
  | x :: r => uptoBulkEntry x + uptoBulkEntries r
def uptoBulkEntry {H : Type} : Lit × DataW H → Nat
  | (.string bytes, d) => bytes.length + uptoBulk d + 1
  | (_, d) => uptoBulk d + 1
 end
def uptoSmall : (H : Type) → List (DataW H) → Bool := fun _ ds => decide (uptoBulkAll ds ≤ 1048576)
def OpenSpec.upto (s : _root_.Go.ChangeSpec) : _root_.Go.OpenSpec := { _root_.Go.OpenSpec.ofChange s with cond := some uptoSmall }

/-- 'detentlaw26.KernelStates', WHERE WHAT IT READS IS OF BULK AT MOST 1048576: true; the input reads as it did. -/
def kernelStatesUptoRow : OpenClaim := { program := "ytineacililniiaagreatdoor", sum := "078c5b2df00964911a1d55d68edc16540d7ea86c515268475be6867232062c01", func := "detent/detentlaw26.KernelStates", spec := "kernelStates", inPlace := ["slices.overlaps[int]", "slices.overlaps[detent/order.Item]"], unfollowed := true, recurses := true, named := ["math/bits.deBruijn64tab"], apart := false, laid := [("math/bits.deBruijn64tab", laid_math_bits_deBruijn64tab)], narrowed := true }
def KernelStatesUptoSaid : Prop := kernelStatesUptoRow.holds Tryz.pinned (OpenSpec.upto kernelStatesSpec)

/-- 'detentlaw26.KernelGives', WHERE WHAT IT READS IS OF BULK AT MOST 1048576: true; the input reads as it did. -/
def kernelGivesUptoRow : OpenClaim := { program := "ytineacililniiaagreatdoor", sum := "078c5b2df00964911a1d55d68edc16540d7ea86c515268475be6867232062c01", func := "detent/detentlaw26.KernelGives", spec := "kernelGives", inPlace := ["slices.overlaps[int]", "slices.overlaps[detent/order.Item]"], unfollowed := true, recurses := true, named := ["math/bits.deBruijn64tab"], apart := false, laid := [("math/bits.deBruijn64tab", laid_math_bits_deBruijn64tab)], narrowed := true }
def KernelGivesUptoSaid : Prop := kernelGivesUptoRow.holds Tryz.pinned (OpenSpec.upto kernelGivesSpec)

/-- 'detentlaw26.KernelCeils', WHERE WHAT IT READS IS OF BULK AT MOST 1048576: true; the input reads as it did. -/
def kernelCeilsUptoRow : OpenClaim := { program := "ytineacililniiaagreatdoor", sum := "078c5b2df00964911a1d55d68edc16540d7ea86c515268475be6867232062c01", func := "detent/detentlaw26.KernelCeils", spec := "kernelCeils", inPlace := ["slices.overlaps[int]", "slices.overlaps[detent/order.Item]"], unfollowed := true, recurses := true, named := ["math/bits.deBruijn64tab"], apart := false, laid := [("math/bits.deBruijn64tab", laid_math_bits_deBruijn64tab)], narrowed := true }
def KernelCeilsUptoSaid : Prop := kernelCeilsUptoRow.holds Tryz.pinned (OpenSpec.upto kernelCeilsSpec)

/-- 'detentlaw26.KernelForces', WHERE WHAT IT READS IS OF BULK AT MOST 1048576: true; the input reads as it did. -/
def kernelForcesUptoRow : OpenClaim := { program := "ytineacililniiaagreatdoor", sum := "078c5b2df00964911a1d55d68edc16540d7ea86c515268475be6867232062c01", func := "detent/detentlaw26.KernelForces", spec := "kernelForces", inPlace := ["slices.overlaps[int]", "slices.overlaps[detent/order.Item]"], unfollowed := true, recurses := true, named := ["math/bits.deBruijn64tab"], apart := false, laid := [("math/bits.deBruijn64tab", laid_math_bits_deBruijn64tab)], narrowed := true }
def KernelForcesUptoSaid : Prop := kernelForcesUptoRow.holds Tryz.pinned (OpenSpec.upto kernelForcesSpec)

/-- 'detentlaw26.KernelIdle', WHERE WHAT IT READS IS OF BULK AT MOST 1048576: true; the input reads as it did. -/
def kernelIdleUptoRow : OpenClaim := { program := "ytineacililniiaagreatdoor", sum := "078c5b2df00964911a1d55d68edc16540d7ea86c515268475be6867232062c01", func := "detent/detentlaw26.KernelIdle", spec := "kernelIdle", inPlace := ["slices.overlaps[int]", "slices.overlaps[detent/order.Item]"], unfollowed := true, recurses := true, named := ["math/bits.deBruijn64tab"], apart := false, laid := [("math/bits.deBruijn64tab", laid_math_bits_deBruijn64tab)], narrowed := true }
def KernelIdleUptoSaid : Prop := kernelIdleUptoRow.holds Tryz.pinned (OpenSpec.upto kernelIdleSpec)

/-- 'detentlaw26.KernelWaits', WHERE WHAT IT READS IS OF BULK AT MOST 1048576: true; the input reads as it did. -/
def kernelWaitsUptoRow : OpenClaim := { program := "ytineacililniiaagreatdoor", sum := "078c5b2df00964911a1d55d68edc16540d7ea86c515268475be6867232062c01", func := "detent/detentlaw26.KernelWaits", spec := "kernelWaits", inPlace := ["slices.overlaps[int]", "slices.overlaps[detent/order.Item]"], unfollowed := true, recurses := true, named := ["math/bits.deBruijn64tab"], apart := false, laid := [("math/bits.deBruijn64tab", laid_math_bits_deBruijn64tab)], narrowed := true }
def KernelWaitsUptoSaid : Prop := kernelWaitsUptoRow.holds Tryz.pinned (OpenSpec.upto kernelWaitsSpec)

end Rows
end Go.Proofs.YtineacililniiaaGreatDoor
