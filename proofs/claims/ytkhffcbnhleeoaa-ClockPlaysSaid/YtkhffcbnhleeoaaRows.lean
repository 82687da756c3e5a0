/-
  No cell of these rows narrows 'for every input' (looked for: loops, veiled, ifaces, maps, wideKeys, modest, calm, conditions, laid).
  DERIVED. THE GIVEN ROWS OF THIS SEAT. 11 by the template 'for every input the law returns true; each argument reads behind the call as it read before'; 0 by the template 'total and deterministic' (their statements: YtkhffcbnhleeoaaTotals.lean).
  GIVEN WITH THE SEED: the statements are not yours to turn. If you find one false, say at which input.
  Laid BY PROGRAM, IN A SANDBOX (cutbox-rows.mjs): the forced cells as the released guide's own fill.sh prints them over the translation 73e421dfcf30530b… (all of the seat's roots in one cut). By AI agents, Wed Nov 11 2026. No macro, syntax, notation, axiom, sorry.
-/
import Derived.Test.YtkhffcbnhleeoaaChecked
import GoSem.Claim
import GoSem.ClaimJoined
import GoSem.ClaimMapViews
import Derived.JoinedTies
import Derived.KernelRfl
namespace Go.Proofs.Ytkhffcbnhleeoaa
/- THE CELL 'sum', in the pinned program and in every row, IS THE sha256 OF THE DUMP (.gsa) THAT YtkhffcbnhleeoaaProg.lean LOADS. Nothing in Lean hashes anything: it is a label: what it is worth is what the hold of that sum in a sandbox is worth. -/
noncomputable def Try.pinned : Pinned := { name := "ytkhffcbnhleeoaa", sum := "73e421dfcf30530ba0c5fdfb3a8b3ec2fb3918e706381760c3c5ae0c786790c9", checked := Try.checked }
namespace Rows
def none {H : Type} : Left H := { results := [], args := [] }

/-- 'detentlaw8.ClockWaits': WHATEVER THE INPUT: true; the input reads as it did. -/
def clockWaitsSpec : ChangeSpec := { name := "clockWaits", fn := fun _ => fun
  | [d1, d2, d3, d4] => { results := [.lit (.bool true)], args := [d1, d2, d3, d4] }
  | _ => none }
def clockWaitsRow : OpenClaim := { program := "ytkhffcbnhleeoaa", sum := "73e421dfcf30530ba0c5fdfb3a8b3ec2fb3918e706381760c3c5ae0c786790c9", func := "detent/detentlaw8.ClockWaits", spec := "clockWaits", apart := false }
def ClockWaitsSaid : Prop := clockWaitsRow.holds Try.pinned (OpenSpec.ofChange clockWaitsSpec)

/-- ITS FALSE NEIGHBOUR: 'it returns false'. Refute it at one input. -/
def clockWaitsWrong : ChangeSpec := { name := "clockWaits", fn := fun _ => fun
  | [d1, d2, d3, d4] => { results := [.lit (.bool false)], args := [d1, d2, d3, d4] }
  | _ => none }
def ClockWaitsWrongFalsely : Prop := clockWaitsRow.holds Try.pinned (OpenSpec.ofChange clockWaitsWrong)

/-- 'detentlaw8.ClockRounds': WHATEVER THE INPUT: true; the input reads as it did. -/
def clockRoundsSpec : ChangeSpec := { name := "clockRounds", fn := fun _ => fun
  | [d1, d2, d3] => { results := [.lit (.bool true)], args := [d1, d2, d3] }
  | _ => none }
def clockRoundsRow : OpenClaim := { program := "ytkhffcbnhleeoaa", sum := "73e421dfcf30530ba0c5fdfb3a8b3ec2fb3918e706381760c3c5ae0c786790c9", func := "detent/detentlaw8.ClockRounds", spec := "clockRounds", apart := false }
def ClockRoundsSaid : Prop := clockRoundsRow.holds Try.pinned (OpenSpec.ofChange clockRoundsSpec)

/-- ITS FALSE NEIGHBOUR: 'it returns false'. Refute it at one input. -/
def clockRoundsWrong : ChangeSpec := { name := "clockRounds", fn := fun _ => fun
  | [d1, d2, d3] => { results := [.lit (.bool false)], args := [d1, d2, d3] }
  | _ => none }
def ClockRoundsWrongFalsely : Prop := clockRoundsRow.holds Try.pinned (OpenSpec.ofChange clockRoundsWrong)

/-- 'detentlaw8.ClockSets': WHATEVER THE INPUT: true; the input reads as it did. -/
def clockSetsSpec : ChangeSpec := { name := "clockSets", fn := fun _ => fun
  | [d1, d2, d3] => { results := [.lit (.bool true)], args := [d1, d2, d3] }
  | _ => none }
def clockSetsRow : OpenClaim := { program := "ytkhffcbnhleeoaa", sum := "73e421dfcf30530ba0c5fdfb3a8b3ec2fb3918e706381760c3c5ae0c786790c9", func := "detent/detentlaw8.ClockSets", spec := "clockSets", apart := false }
def ClockSetsSaid : Prop := clockSetsRow.holds Try.pinned (OpenSpec.ofChange clockSetsSpec)

/-- ITS FALSE NEIGHBOUR: 'it returns false'. Refute it at one input. -/
def clockSetsWrong : ChangeSpec := { name := "clockSets", fn := fun _ => fun
  | [d1, d2, d3] => { results := [.lit (.bool false)], args := [d1, d2, d3] }
  | _ => none }
def ClockSetsWrongFalsely : Prop := clockSetsRow.holds Try.pinned (OpenSpec.ofChange clockSetsWrong)

/-- 'detentlaw8.ClockOrder': WHATEVER THE INPUT: true; the input reads as it did. -/
def clockOrderSpec : ChangeSpec := { name := "clockOrder", fn := fun _ => fun
  | [d] => { results := [.lit (.bool true)], args := [d] }
  | _ => none }
def clockOrderRow : OpenClaim := { program := "ytkhffcbnhleeoaa", sum := "73e421dfcf30530ba0c5fdfb3a8b3ec2fb3918e706381760c3c5ae0c786790c9", func := "detent/detentlaw8.ClockOrder", spec := "clockOrder", apart := false }
def ClockOrderSaid : Prop := clockOrderRow.holds Try.pinned (OpenSpec.ofChange clockOrderSpec)

/-- ITS FALSE NEIGHBOUR: 'it returns false'. Refute it at one input. -/
def clockOrderWrong : ChangeSpec := { name := "clockOrder", fn := fun _ => fun
  | [d] => { results := [.lit (.bool false)], args := [d] }
  | _ => none }
def ClockOrderWrongFalsely : Prop := clockOrderRow.holds Try.pinned (OpenSpec.ofChange clockOrderWrong)

/-- 'detentlaw7.TimerFull': WHATEVER THE INPUT: true; the input reads as it did. -/
def timerFullSpec : ChangeSpec := { name := "timerFull", fn := fun _ => fun
  | [d1, d2] => { results := [.lit (.bool true)], args := [d1, d2] }
  | _ => none }
def timerFullRow : OpenClaim := { program := "ytkhffcbnhleeoaa", sum := "73e421dfcf30530ba0c5fdfb3a8b3ec2fb3918e706381760c3c5ae0c786790c9", func := "detent/detentlaw7.TimerFull", spec := "timerFull", unfollowed := true, recurses := true, apart := false }
def TimerFullSaid : Prop := timerFullRow.holds Try.pinned (OpenSpec.ofChange timerFullSpec)

/-- ITS FALSE NEIGHBOUR: 'it returns false'. Refute it at one input. -/
def timerFullWrong : ChangeSpec := { name := "timerFull", fn := fun _ => fun
  | [d1, d2] => { results := [.lit (.bool false)], args := [d1, d2] }
  | _ => none }
def TimerFullWrongFalsely : Prop := timerFullRow.holds Try.pinned (OpenSpec.ofChange timerFullWrong)

/-- 'detentlaw7.TimerSorts': WHATEVER THE INPUT: true; the input reads as it did. -/
def timerSortsSpec : ChangeSpec := { name := "timerSorts", fn := fun _ => fun
  | [d] => { results := [.lit (.bool true)], args := [d] }
  | _ => none }
def timerSortsRow : OpenClaim := { program := "ytkhffcbnhleeoaa", sum := "73e421dfcf30530ba0c5fdfb3a8b3ec2fb3918e706381760c3c5ae0c786790c9", func := "detent/detentlaw7.TimerSorts", spec := "timerSorts", unfollowed := true, recurses := true, apart := false }
def TimerSortsSaid : Prop := timerSortsRow.holds Try.pinned (OpenSpec.ofChange timerSortsSpec)

/-- ITS FALSE NEIGHBOUR: 'it returns false'. Refute it at one input. -/
def timerSortsWrong : ChangeSpec := { name := "timerSorts", fn := fun _ => fun
  | [d] => { results := [.lit (.bool false)], args := [d] }
  | _ => none }
def TimerSortsWrongFalsely : Prop := timerSortsRow.holds Try.pinned (OpenSpec.ofChange timerSortsWrong)

/-- 'detentlaw7.TimerLeft': WHATEVER THE INPUT: true; the input reads as it did. -/
def timerLeftSpec : ChangeSpec := { name := "timerLeft", fn := fun _ => fun
  | [d1, d2, d3] => { results := [.lit (.bool true)], args := [d1, d2, d3] }
  | _ => none }
def timerLeftRow : OpenClaim := { program := "ytkhffcbnhleeoaa", sum := "73e421dfcf30530ba0c5fdfb3a8b3ec2fb3918e706381760c3c5ae0c786790c9", func := "detent/detentlaw7.TimerLeft", spec := "timerLeft", unfollowed := true, recurses := true, apart := false }
def TimerLeftSaid : Prop := timerLeftRow.holds Try.pinned (OpenSpec.ofChange timerLeftSpec)

/-- ITS FALSE NEIGHBOUR: 'it returns false'. Refute it at one input. -/
def timerLeftWrong : ChangeSpec := { name := "timerLeft", fn := fun _ => fun
  | [d1, d2, d3] => { results := [.lit (.bool false)], args := [d1, d2, d3] }
  | _ => none }
def TimerLeftWrongFalsely : Prop := timerLeftRow.holds Try.pinned (OpenSpec.ofChange timerLeftWrong)

/-- 'detentlaw7.TimerOnce': WHATEVER THE INPUT: true; the input reads as it did. -/
def timerOnceSpec : ChangeSpec := { name := "timerOnce", fn := fun _ => fun
  | [d1, d2] => { results := [.lit (.bool true)], args := [d1, d2] }
  | _ => none }
def timerOnceRow : OpenClaim := { program := "ytkhffcbnhleeoaa", sum := "73e421dfcf30530ba0c5fdfb3a8b3ec2fb3918e706381760c3c5ae0c786790c9", func := "detent/detentlaw7.TimerOnce", spec := "timerOnce", unfollowed := true, recurses := true, apart := false }
def TimerOnceSaid : Prop := timerOnceRow.holds Try.pinned (OpenSpec.ofChange timerOnceSpec)

/-- ITS FALSE NEIGHBOUR: 'it returns false'. Refute it at one input. -/
def timerOnceWrong : ChangeSpec := { name := "timerOnce", fn := fun _ => fun
  | [d1, d2] => { results := [.lit (.bool false)], args := [d1, d2] }
  | _ => none }
def TimerOnceWrongFalsely : Prop := timerOnceRow.holds Try.pinned (OpenSpec.ofChange timerOnceWrong)

/-- 'detentlaw7.TimerNext': WHATEVER THE INPUT: true; the input reads as it did. -/
def timerNextSpec : ChangeSpec := { name := "timerNext", fn := fun _ => fun
  | [d] => { results := [.lit (.bool true)], args := [d] }
  | _ => none }
def timerNextRow : OpenClaim := { program := "ytkhffcbnhleeoaa", sum := "73e421dfcf30530ba0c5fdfb3a8b3ec2fb3918e706381760c3c5ae0c786790c9", func := "detent/detentlaw7.TimerNext", spec := "timerNext", unfollowed := true, recurses := true, apart := false }
def TimerNextSaid : Prop := timerNextRow.holds Try.pinned (OpenSpec.ofChange timerNextSpec)

/-- ITS FALSE NEIGHBOUR: 'it returns false'. Refute it at one input. -/
def timerNextWrong : ChangeSpec := { name := "timerNext", fn := fun _ => fun
  | [d] => { results := [.lit (.bool false)], args := [d] }
  | _ => none }
def TimerNextWrongFalsely : Prop := timerNextRow.holds Try.pinned (OpenSpec.ofChange timerNextWrong)

/-- 'detentlaw7.TimerPlays': WHATEVER THE INPUT: true; the input reads as it did. -/
def timerPlaysSpec : ChangeSpec := { name := "timerPlays", fn := fun _ => fun
  | [d1, d2] => { results := [.lit (.bool true)], args := [d1, d2] }
  | _ => none }
def timerPlaysRow : OpenClaim := { program := "ytkhffcbnhleeoaa", sum := "73e421dfcf30530ba0c5fdfb3a8b3ec2fb3918e706381760c3c5ae0c786790c9", func := "detent/detentlaw7.TimerPlays", spec := "timerPlays", unfollowed := true, recurses := true, apart := false }
def TimerPlaysSaid : Prop := timerPlaysRow.holds Try.pinned (OpenSpec.ofChange timerPlaysSpec)

/-- ITS FALSE NEIGHBOUR: 'it returns false'. Refute it at one input. -/
def timerPlaysWrong : ChangeSpec := { name := "timerPlays", fn := fun _ => fun
  | [d1, d2] => { results := [.lit (.bool false)], args := [d1, d2] }
  | _ => none }
def TimerPlaysWrongFalsely : Prop := timerPlaysRow.holds Try.pinned (OpenSpec.ofChange timerPlaysWrong)

/-- 'detentlaw8.ClockPlays': WHATEVER THE INPUT: true; the input reads as it did. -/
def clockPlaysSpec : ChangeSpec := { name := "clockPlays", fn := fun _ => fun
  | [d1, d2] => { results := [.lit (.bool true)], args := [d1, d2] }
  | _ => none }
def clockPlaysRow : OpenClaim := { program := "ytkhffcbnhleeoaa", sum := "73e421dfcf30530ba0c5fdfb3a8b3ec2fb3918e706381760c3c5ae0c786790c9", func := "detent/detentlaw8.ClockPlays", spec := "clockPlays", unfollowed := true, recurses := true, apart := false }
def ClockPlaysSaid : Prop := clockPlaysRow.holds Try.pinned (OpenSpec.ofChange clockPlaysSpec)

/-- ITS FALSE NEIGHBOUR: 'it returns false'. Refute it at one input. -/
def clockPlaysWrong : ChangeSpec := { name := "clockPlays", fn := fun _ => fun
  | [d1, d2] => { results := [.lit (.bool false)], args := [d1, d2] }
  | _ => none }
def ClockPlaysWrongFalsely : Prop := clockPlaysRow.holds Try.pinned (OpenSpec.ofChange clockPlaysWrong)

/- THE SECOND FORM. 'bulk': how many values and letters a reading holds, each counted each time it is reached (what is shared counts as often as it is met; a slice's spare places count too). A statement '..UptoSaid' is the law's where the arguments, and the package variables that the reading takes, are together of bulk at most 1048576: NARROWER than '..Said'. Prove '..Said' where nothing that the law and all that it calls make is longer than what came in: it says more and counts as full. Else prove '..UptoSaid'. A law counts once. -/
mutual
def uptoBulk {H : Type} : DataW H → Nat
  | .lit (.string bytes) => bytes.length + 1
  | .lit _ => 1
  | .nil => 1
  | .ptr d => uptoBulk d + 1
  | .slice elems spare => uptoBulkAll elems + uptoBulkAll spare + 1
  | .agg parts => uptoBulkAll parts + 1
  | .iface _ d => uptoBulk d + 1
  | .map entries => uptoBulkEntries entries + 1
  | .held _ => 1
def uptoBulkAll {H : Type} : List (DataW H) → Nat
  | [] => 0
  | d :: r => uptoBulk d + uptoBulkAll r
def uptoBulkEntries {H : Type} : List (Lit × DataW H) → Nat
  | [] => 0
  | x :: r => uptoBulkEntry x + uptoBulkEntries r
def uptoBulkEntry {H : Type} : Lit × DataW H → Nat
  | (.string bytes, d) => bytes.length + uptoBulk d + 1
  | (_, d) => uptoBulk d + 1
 end
def uptoSmall : (H : Type) → List (DataW H) → Bool := fun _ ds => decide (uptoBulkAll ds ≤ 1048576)
def OpenSpec.upto (s : _root_.Go.ChangeSpec) : _root_.Go.OpenSpec := { _root_.Go.OpenSpec.ofChange s with cond := some uptoSmall }

/-- 'detentlaw8.ClockWaits', WHERE WHAT IT READS IS OF BULK AT MOST 1048576: true; the input reads as it did. -/
def clockWaitsUptoRow : OpenClaim := { program := "ytkhffcbnhleeoaa", sum := "73e421dfcf30530ba0c5fdfb3a8b3ec2fb3918e706381760c3c5ae0c786790c9", func := "detent/detentlaw8.ClockWaits", spec := "clockWaits", apart := false, narrowed := true }
def ClockWaitsUptoSaid : Prop := clockWaitsUptoRow.holds Try.pinned (OpenSpec.upto clockWaitsSpec)

/-- 'detentlaw8.ClockRounds', WHERE WHAT IT READS IS OF BULK AT MOST 1048576: true; the input reads as it did. -/
def clockRoundsUptoRow : OpenClaim := { program := "ytkhffcbnhleeoaa", sum := "73e421dfcf30530ba0c5fdfb3a8b3ec2fb3918e706381760c3c5ae0c786790c9", func := "detent/detentlaw8.ClockRounds", spec := "clockRounds", apart := false, narrowed := true }
def ClockRoundsUptoSaid : Prop := clockRoundsUptoRow.holds Try.pinned (OpenSpec.upto clockRoundsSpec)

/-- 'detentlaw8.ClockSets', WHERE WHAT IT READS IS OF BULK AT MOST 1048576: true; the input reads as it did. -/
def clockSetsUptoRow : OpenClaim := { program := "ytkhffcbnhleeoaa", sum := "73e421dfcf30530ba0c5fdfb3a8b3ec2fb3918e706381760c3c5ae0c786790c9", func := "detent/detentlaw8.ClockSets", spec := "clockSets", apart := false, narrowed := true }
def ClockSetsUptoSaid : Prop := clockSetsUptoRow.holds Try.pinned (OpenSpec.upto clockSetsSpec)

/-- 'detentlaw8.ClockOrder', WHERE WHAT IT READS IS OF BULK AT MOST 1048576: true; the input reads as it did. -/
def clockOrderUptoRow : OpenClaim := { program := "ytkhffcbnhleeoaa", sum := "73e421dfcf30530ba0c5fdfb3a8b3ec2fb3918e706381760c3c5ae0c786790c9", func := "detent/detentlaw8.ClockOrder", spec := "clockOrder", apart := false, narrowed := true }
def ClockOrderUptoSaid : Prop := clockOrderUptoRow.holds Try.pinned (OpenSpec.upto clockOrderSpec)

/-- 'detentlaw7.TimerFull', WHERE WHAT IT READS IS OF BULK AT MOST 1048576: true; the input reads as it did. -/
def timerFullUptoRow : OpenClaim := { program := "ytkhffcbnhleeoaa", sum := "73e421dfcf30530ba0c5fdfb3a8b3ec2fb3918e706381760c3c5ae0c786790c9", func := "detent/detentlaw7.TimerFull", spec := "timerFull", unfollowed := true, recurses := true, apart := false, narrowed := true }
def TimerFullUptoSaid : Prop := timerFullUptoRow.holds Try.pinned (OpenSpec.upto timerFullSpec)

/-- 'detentlaw7.TimerSorts', WHERE WHAT IT READS IS OF BULK AT MOST 1048576: true; the input reads as it did. -/
def timerSortsUptoRow : OpenClaim := { program := "ytkhffcbnhleeoaa", sum := "73e421dfcf30530ba0c5fdfb3a8b3ec2fb3918e706381760c3c5ae0c786790c9", func := "detent/detentlaw7.TimerSorts", spec := "timerSorts", unfollowed := true, recurses := true, apart := false, narrowed := true }
def TimerSortsUptoSaid : Prop := timerSortsUptoRow.holds Try.pinned (OpenSpec.upto timerSortsSpec)

/-- 'detentlaw7.TimerLeft', WHERE WHAT IT READS IS OF BULK AT MOST 1048576: true; the input reads as it did. -/
def timerLeftUptoRow : OpenClaim := { program := "ytkhffcbnhleeoaa", sum := "73e421dfcf30530ba0c5fdfb3a8b3ec2fb3918e706381760c3c5ae0c786790c9", func := "detent/detentlaw7.TimerLeft", spec := "timerLeft", unfollowed := true, recurses := true, apart := false, narrowed := true }
def TimerLeftUptoSaid : Prop := timerLeftUptoRow.holds Try.pinned (OpenSpec.upto timerLeftSpec)

/-- 'detentlaw7.TimerOnce', WHERE WHAT IT READS IS OF BULK AT MOST 1048576: true; the input reads as it did. -/
def timerOnceUptoRow : OpenClaim := { program := "ytkhffcbnhleeoaa", sum := "73e421dfcf30530ba0c5fdfb3a8b3ec2fb3918e706381760c3c5ae0c786790c9", func := "detent/detentlaw7.TimerOnce", spec := "timerOnce", unfollowed := true, recurses := true, apart := false, narrowed := true }
def TimerOnceUptoSaid : Prop := timerOnceUptoRow.holds Try.pinned (OpenSpec.upto timerOnceSpec)

/-- 'detentlaw7.TimerNext', WHERE WHAT IT READS IS OF BULK AT MOST 1048576: true; the input reads as it did. -/
def timerNextUptoRow : OpenClaim := { program := "ytkhffcbnhleeoaa", sum := "73e421dfcf30530ba0c5fdfb3a8b3ec2fb3918e706381760c3c5ae0c786790c9", func := "detent/detentlaw7.TimerNext", spec := "timerNext", unfollowed := true, recurses := true, apart := false, narrowed := true }
def TimerNextUptoSaid : Prop := timerNextUptoRow.holds Try.pinned (OpenSpec.upto timerNextSpec)

/-- 'detentlaw7.TimerPlays', WHERE WHAT IT READS IS OF BULK AT MOST 1048576: true; the input reads as it did. -/
def timerPlaysUptoRow : OpenClaim := { program := "ytkhffcbnhleeoaa", sum := "73e421dfcf30530ba0c5fdfb3a8b3ec2fb3918e706381760c3c5ae0c786790c9", func := "detent/detentlaw7.TimerPlays", spec := "timerPlays", unfollowed := true, recurses := true, apart := false, narrowed := true }
def TimerPlaysUptoSaid : Prop := timerPlaysUptoRow.holds Try.pinned (OpenSpec.upto timerPlaysSpec)

/-- 'detentlaw8.ClockPlays', WHERE WHAT IT READS IS OF BULK AT MOST 1048576: true; the input reads as it did. -/
def clockPlaysUptoRow : OpenClaim := { program := "ytkhffcbnhleeoaa", sum := "73e421dfcf30530ba0c5fdfb3a8b3ec2fb3918e706381760c3c5ae0c786790c9", func := "detent/detentlaw8.ClockPlays", spec := "clockPlays", unfollowed := true, recurses := true, apart := false, narrowed := true }
def ClockPlaysUptoSaid : Prop := clockPlaysUptoRow.holds Try.pinned (OpenSpec.upto clockPlaysSpec)

end Rows
end Go.Proofs.Ytkhffcbnhleeoaa
