/-
  No cell of these rows narrows 'for every input' (looked for: loops, veiled, ifaces, maps, wideKeys, modest, calm, conditions, laid).
  DERIVED. THE GIVEN ROWS OF THIS SEAT. 6 by the template 'for every input the law returns true; each argument reads behind the call as it read before'; 0 by the template 'total and deterministic' (their statements: YtbihokcagceoaaaTotals.lean).
  GIVEN WITH THE SEED: the statements are not yours to turn. If you find one false, say at which input.
  Laid BY PROGRAM, IN A SANDBOX (cutbox-rows.mjs): the forced cells as the released guide's own fill.sh prints them over the translation e79b2d87832069bb… (all of the seat's roots in one cut). By AI agents, Wed Nov 11 2026. No macro, syntax, notation, axiom, sorry.
-/
import Derived.Test.YtbihokcagceoaaaChecked
import GoSem.Claim
import GoSem.ClaimJoined
import GoSem.ClaimMapViews
import Derived.JoinedTies
import Derived.KernelRfl
namespace Go.Proofs.Ytbihokcagceoaaa
/- THE CELL 'sum', in the pinned program and in every row, IS THE sha256 OF THE DUMP (.gsa) THAT YtbihokcagceoaaaProg.lean LOADS. Nothing in Lean hashes anything: it is a label: what it is worth is what the hold of that sum in a sandbox is worth. -/
noncomputable def Try.pinned : Pinned := { name := "ytbihokcagceoaaa", sum := "e79b2d87832069bb25ef522c9a529411ef5685d9f31601e4151717fb9c4b03b4", checked := Try.checked }
namespace Rows
def none {H : Type} : Left H := { results := [], args := [] }

/-- 'detentlaw20.HandCycles': WHATEVER THE INPUT: true; the input reads as it did. -/
def handCyclesSpec : ChangeSpec := { name := "handCycles", fn := fun _ => fun
  | [d1, d2, d3, d4] => { results := [.lit (.bool true)], args := [d1, d2, d3, d4] }
  | _ => none }
def handCyclesRow : OpenClaim := { program := "ytbihokcagceoaaa", sum := "e79b2d87832069bb25ef522c9a529411ef5685d9f31601e4151717fb9c4b03b4", func := "detent/detentlaw20.HandCycles", spec := "handCycles", unfollowed := true, recurses := true, apart := false }
def HandCyclesSaid : Prop := handCyclesRow.holds Try.pinned (OpenSpec.ofChange handCyclesSpec)

/-- ITS FALSE NEIGHBOUR: 'it returns false'. Refute it at one input. -/
def handCyclesWrong : ChangeSpec := { name := "handCycles", fn := fun _ => fun
  | [d1, d2, d3, d4] => { results := [.lit (.bool false)], args := [d1, d2, d3, d4] }
  | _ => none }
def HandCyclesWrongFalsely : Prop := handCyclesRow.holds Try.pinned (OpenSpec.ofChange handCyclesWrong)

/-- 'detentlaw20.HandOrder': WHATEVER THE INPUT: true; the input reads as it did. -/
def handOrderSpec : ChangeSpec := { name := "handOrder", fn := fun _ => fun
  | [d1, d2] => { results := [.lit (.bool true)], args := [d1, d2] }
  | _ => none }
def handOrderRow : OpenClaim := { program := "ytbihokcagceoaaa", sum := "e79b2d87832069bb25ef522c9a529411ef5685d9f31601e4151717fb9c4b03b4", func := "detent/detentlaw20.HandOrder", spec := "handOrder", unfollowed := true, recurses := true, apart := false }
def HandOrderSaid : Prop := handOrderRow.holds Try.pinned (OpenSpec.ofChange handOrderSpec)

/-- ITS FALSE NEIGHBOUR: 'it returns false'. Refute it at one input. -/
def handOrderWrong : ChangeSpec := { name := "handOrder", fn := fun _ => fun
  | [d1, d2] => { results := [.lit (.bool false)], args := [d1, d2] }
  | _ => none }
def HandOrderWrongFalsely : Prop := handOrderRow.holds Try.pinned (OpenSpec.ofChange handOrderWrong)

/-- 'detentlaw20.HandRefuses': WHATEVER THE INPUT: true; the input reads as it did. -/
def handRefusesSpec : ChangeSpec := { name := "handRefuses", fn := fun _ => fun
  | [d1, d2, d3, d4] => { results := [.lit (.bool true)], args := [d1, d2, d3, d4] }
  | _ => none }
def handRefusesRow : OpenClaim := { program := "ytbihokcagceoaaa", sum := "e79b2d87832069bb25ef522c9a529411ef5685d9f31601e4151717fb9c4b03b4", func := "detent/detentlaw20.HandRefuses", spec := "handRefuses", unfollowed := true, recurses := true, apart := false }
def HandRefusesSaid : Prop := handRefusesRow.holds Try.pinned (OpenSpec.ofChange handRefusesSpec)

/-- ITS FALSE NEIGHBOUR: 'it returns false'. Refute it at one input. -/
def handRefusesWrong : ChangeSpec := { name := "handRefuses", fn := fun _ => fun
  | [d1, d2, d3, d4] => { results := [.lit (.bool false)], args := [d1, d2, d3, d4] }
  | _ => none }
def HandRefusesWrongFalsely : Prop := handRefusesRow.holds Try.pinned (OpenSpec.ofChange handRefusesWrong)

/-- 'detentlaw20.HandAlarms': WHATEVER THE INPUT: true; the input reads as it did. -/
def handAlarmsSpec : ChangeSpec := { name := "handAlarms", fn := fun _ => fun
  | [d1, d2, d3, d4, d5] => { results := [.lit (.bool true)], args := [d1, d2, d3, d4, d5] }
  | _ => none }
def handAlarmsRow : OpenClaim := { program := "ytbihokcagceoaaa", sum := "e79b2d87832069bb25ef522c9a529411ef5685d9f31601e4151717fb9c4b03b4", func := "detent/detentlaw20.HandAlarms", spec := "handAlarms", unfollowed := true, recurses := true, apart := false }
def HandAlarmsSaid : Prop := handAlarmsRow.holds Try.pinned (OpenSpec.ofChange handAlarmsSpec)

/-- ITS FALSE NEIGHBOUR: 'it returns false'. Refute it at one input. -/
def handAlarmsWrong : ChangeSpec := { name := "handAlarms", fn := fun _ => fun
  | [d1, d2, d3, d4, d5] => { results := [.lit (.bool false)], args := [d1, d2, d3, d4, d5] }
  | _ => none }
def HandAlarmsWrongFalsely : Prop := handAlarmsRow.holds Try.pinned (OpenSpec.ofChange handAlarmsWrong)

/-- 'detentlaw20.HandKeeps': WHATEVER THE INPUT: true; the input reads as it did. -/
def handKeepsSpec : ChangeSpec := { name := "handKeeps", fn := fun _ => fun
  | [d1, d2, d3, d4] => { results := [.lit (.bool true)], args := [d1, d2, d3, d4] }
  | _ => none }
def handKeepsRow : OpenClaim := { program := "ytbihokcagceoaaa", sum := "e79b2d87832069bb25ef522c9a529411ef5685d9f31601e4151717fb9c4b03b4", func := "detent/detentlaw20.HandKeeps", spec := "handKeeps", unfollowed := true, recurses := true, apart := false }
def HandKeepsSaid : Prop := handKeepsRow.holds Try.pinned (OpenSpec.ofChange handKeepsSpec)

/-- ITS FALSE NEIGHBOUR: 'it returns false'. Refute it at one input. -/
def handKeepsWrong : ChangeSpec := { name := "handKeeps", fn := fun _ => fun
  | [d1, d2, d3, d4] => { results := [.lit (.bool false)], args := [d1, d2, d3, d4] }
  | _ => none }
def HandKeepsWrongFalsely : Prop := handKeepsRow.holds Try.pinned (OpenSpec.ofChange handKeepsWrong)

/-- 'detentlaw20.HandPlays': WHATEVER THE INPUT: true; the input reads as it did. -/
def handPlaysSpec : ChangeSpec := { name := "handPlays", fn := fun _ => fun
  | [d1, d2] => { results := [.lit (.bool true)], args := [d1, d2] }
  | _ => none }
def handPlaysRow : OpenClaim := { program := "ytbihokcagceoaaa", sum := "e79b2d87832069bb25ef522c9a529411ef5685d9f31601e4151717fb9c4b03b4", func := "detent/detentlaw20.HandPlays", spec := "handPlays", unfollowed := true, recurses := true, apart := false }
def HandPlaysSaid : Prop := handPlaysRow.holds Try.pinned (OpenSpec.ofChange handPlaysSpec)

/-- ITS FALSE NEIGHBOUR: 'it returns false'. Refute it at one input. -/
def handPlaysWrong : ChangeSpec := { name := "handPlays", fn := fun _ => fun
  | [d1, d2] => { results := [.lit (.bool false)], args := [d1, d2] }
  | _ => none }
def HandPlaysWrongFalsely : Prop := handPlaysRow.holds Try.pinned (OpenSpec.ofChange handPlaysWrong)

/- THE SECOND FORM. 'bulk': how many values and letters a reading holds, each counted each time it is reached (what is shared counts as often as it is met; a slice's spare places count too). A statement '..UptoSaid' is the law's where the arguments, and the package variables that the reading takes, are together of bulk at most 1048576: NARROWER than '..Said'. Prove '..Said' where nothing that the law and all that it calls make is longer than what came in: it says more and counts as full. Else prove '..UptoSaid'. A law counts once. -/
mutual
def uptoBulk {H : Type} : DataW H → Nat
  | .lit (.string bytes) => bytes.length + 1
  | .lit _ => 1
  | .nil => 1
  | .ptr d => uptoBulk d + 1
  | .slice elems spare => uptoBulkAll elems + uptoBulkAll spare + 1
  | .agg parts => uptoBulkAll parts + 1
  | .iface _ d => uptoBulk d + 1
  | .map entries => uptoBulkEntries entries + 1
  | .held _ => 1
def uptoBulkAll {H : Type} : List (DataW H) → Nat
  | [] => 0
  | d :: r => uptoBulk d + uptoBulkAll r
def uptoBulkEntries {H : Type} : List (Lit × DataW H) → Nat
  | [] => 0
  | x :: r => uptoBulkEntry x + uptoBulkEntries r
def uptoBulkEntry {H : Type} : Lit × DataW H → Nat
  | (.string bytes, d) => bytes.length + uptoBulk d + 1
  | (_, d) => uptoBulk d + 1
 end
def uptoSmall : (H : Type) → List (DataW H) → Bool := fun _ ds => decide (uptoBulkAll ds ≤ 1048576)
def OpenSpec.upto (s : _root_.Go.ChangeSpec) : _root_.Go.OpenSpec := { _root_.Go.OpenSpec.ofChange s with cond := some uptoSmall }

/-- 'detentlaw20.HandCycles', WHERE WHAT IT READS IS OF BULK AT MOST 1048576: true; the input reads as it did. -/
def handCyclesUptoRow : OpenClaim := { program := "ytbihokcagceoaaa", sum := "e79b2d87832069bb25ef522c9a529411ef5685d9f31601e4151717fb9c4b03b4", func := "detent/detentlaw20.HandCycles", spec := "handCycles", unfollowed := true, recurses := true, apart := false, narrowed := true }
def HandCyclesUptoSaid : Prop := handCyclesUptoRow.holds Try.pinned (OpenSpec.upto handCyclesSpec)

/-- 'detentlaw20.HandOrder', WHERE WHAT IT READS IS OF BULK AT MOST 1048576: true; the input reads as it did. -/
def handOrderUptoRow : OpenClaim := { program := "ytbihokcagceoaaa", sum := "e79b2d87832069bb25ef522c9a529411ef5685d9f31601e4151717fb9c4b03b4", func := "detent/detentlaw20.HandOrder", spec := "handOrder", unfollowed := true, recurses := true, apart := false, narrowed := true }
def HandOrderUptoSaid : Prop := handOrderUptoRow.holds Try.pinned (OpenSpec.upto handOrderSpec)

/-- 'detentlaw20.HandRefuses', WHERE WHAT IT READS IS OF BULK AT MOST 1048576: true; the input reads as it did. -/
def handRefusesUptoRow : OpenClaim := { program := "ytbihokcagceoaaa", sum := "e79b2d87832069bb25ef522c9a529411ef5685d9f31601e4151717fb9c4b03b4", func := "detent/detentlaw20.HandRefuses", spec := "handRefuses", unfollowed := true, recurses := true, apart := false, narrowed := true }
def HandRefusesUptoSaid : Prop := handRefusesUptoRow.holds Try.pinned (OpenSpec.upto handRefusesSpec)

/-- 'detentlaw20.HandAlarms', WHERE WHAT IT READS IS OF BULK AT MOST 1048576: true; the input reads as it did. -/
def handAlarmsUptoRow : OpenClaim := { program := "ytbihokcagceoaaa", sum := "e79b2d87832069bb25ef522c9a529411ef5685d9f31601e4151717fb9c4b03b4", func := "detent/detentlaw20.HandAlarms", spec := "handAlarms", unfollowed := true, recurses := true, apart := false, narrowed := true }
def HandAlarmsUptoSaid : Prop := handAlarmsUptoRow.holds Try.pinned (OpenSpec.upto handAlarmsSpec)

/-- 'detentlaw20.HandKeeps', WHERE WHAT IT READS IS OF BULK AT MOST 1048576: true; the input reads as it did. -/
def handKeepsUptoRow : OpenClaim := { program := "ytbihokcagceoaaa", sum := "e79b2d87832069bb25ef522c9a529411ef5685d9f31601e4151717fb9c4b03b4", func := "detent/detentlaw20.HandKeeps", spec := "handKeeps", unfollowed := true, recurses := true, apart := false, narrowed := true }
def HandKeepsUptoSaid : Prop := handKeepsUptoRow.holds Try.pinned (OpenSpec.upto handKeepsSpec)

/-- 'detentlaw20.HandPlays', WHERE WHAT IT READS IS OF BULK AT MOST 1048576: true; the input reads as it did. -/
def handPlaysUptoRow : OpenClaim := { program := "ytbihokcagceoaaa", sum := "e79b2d87832069bb25ef522c9a529411ef5685d9f31601e4151717fb9c4b03b4", func := "detent/detentlaw20.HandPlays", spec := "handPlays", unfollowed := true, recurses := true, apart := false, narrowed := true }
def HandPlaysUptoSaid : Prop := handPlaysUptoRow.holds Try.pinned (OpenSpec.upto handPlaysSpec)

end Rows
end Go.Proofs.Ytbihokcagceoaaa
