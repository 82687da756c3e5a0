/-
  No cell of these rows narrows 'for every input' (looked for: loops, veiled, ifaces, maps, wideKeys, modest, calm, conditions, laid).
  DERIVED. THE GIVEN ROWS OF THIS SEAT. 7 by the template 'for every input the law returns true; each argument reads behind the call as it read before'; 0 by the template 'total and deterministic' (their statements: YtinlhpgfoojneaaTotals.lean).
  GIVEN WITH THE SEED: the statements are not yours to turn. If you find one false, say at which input.
  Laid BY PROGRAM, IN A SANDBOX (cutbox-rows.mjs): the forced cells as the released guide's own fill.sh prints them over the translation 1f96196cd51c3c0c… (all of the seat's roots in one cut). By AI agents, Wed Nov 11 2026. No macro, syntax, notation, axiom, sorry.
-/
import Derived.Test.YtinlhpgfoojneaaChecked
import GoSem.Claim
import GoSem.ClaimJoined
import GoSem.ClaimMapViews
import Derived.JoinedTies
import Derived.KernelRfl
namespace Go.Proofs.Ytinlhpgfoojneaa
/- THE CELL 'sum', in the pinned program and in every row, IS THE sha256 OF THE DUMP (.gsa) THAT YtinlhpgfoojneaaProg.lean LOADS. Nothing in Lean hashes anything: it is a label: what it is worth is what the hold of that sum in a sandbox is worth. -/
noncomputable def Try.pinned : Pinned := { name := "ytinlhpgfoojneaa", sum := "1f96196cd51c3c0cfde3f5788e7a343715ebbea12b5be09fa9041c5530d2c930", checked := Try.checked }
namespace Rows
def none {H : Type} : Left H := { results := [], args := [] }

/-- 'detentlaw15.MutexChain': WHATEVER THE INPUT: true; the input reads as it did. -/
def mutexChainSpec : ChangeSpec := { name := "mutexChain", fn := fun _ => fun
  | [d] => { results := [.lit (.bool true)], args := [d] }
  | _ => none }
def mutexChainRow : OpenClaim := { program := "ytinlhpgfoojneaa", sum := "1f96196cd51c3c0cfde3f5788e7a343715ebbea12b5be09fa9041c5530d2c930", func := "detent/detentlaw15.MutexChain", spec := "mutexChain", inPlace := ["slices.overlaps[int]"], unfollowed := true, recurses := true, apart := false }
def MutexChainSaid : Prop := mutexChainRow.holds Try.pinned (OpenSpec.ofChange mutexChainSpec)

/-- ITS FALSE NEIGHBOUR: 'it returns false'. Refute it at one input. -/
def mutexChainWrong : ChangeSpec := { name := "mutexChain", fn := fun _ => fun
  | [d] => { results := [.lit (.bool false)], args := [d] }
  | _ => none }
def MutexChainWrongFalsely : Prop := mutexChainRow.holds Try.pinned (OpenSpec.ofChange mutexChainWrong)

/-- 'detentlaw15.MutexPasses': WHATEVER THE INPUT: true; the input reads as it did. -/
def mutexPassesSpec : ChangeSpec := { name := "mutexPasses", fn := fun _ => fun
  | [d1, d2] => { results := [.lit (.bool true)], args := [d1, d2] }
  | _ => none }
def mutexPassesRow : OpenClaim := { program := "ytinlhpgfoojneaa", sum := "1f96196cd51c3c0cfde3f5788e7a343715ebbea12b5be09fa9041c5530d2c930", func := "detent/detentlaw15.MutexPasses", spec := "mutexPasses", inPlace := ["slices.overlaps[int]"], unfollowed := true, recurses := true, apart := false }
def MutexPassesSaid : Prop := mutexPassesRow.holds Try.pinned (OpenSpec.ofChange mutexPassesSpec)

/-- ITS FALSE NEIGHBOUR: 'it returns false'. Refute it at one input. -/
def mutexPassesWrong : ChangeSpec := { name := "mutexPasses", fn := fun _ => fun
  | [d1, d2] => { results := [.lit (.bool false)], args := [d1, d2] }
  | _ => none }
def MutexPassesWrongFalsely : Prop := mutexPassesRow.holds Try.pinned (OpenSpec.ofChange mutexPassesWrong)

/-- 'detentlaw15.MutexRing': WHATEVER THE INPUT: true; the input reads as it did. -/
def mutexRingSpec : ChangeSpec := { name := "mutexRing", fn := fun _ => fun
  | [d1, d2] => { results := [.lit (.bool true)], args := [d1, d2] }
  | _ => none }
def mutexRingRow : OpenClaim := { program := "ytinlhpgfoojneaa", sum := "1f96196cd51c3c0cfde3f5788e7a343715ebbea12b5be09fa9041c5530d2c930", func := "detent/detentlaw15.MutexRing", spec := "mutexRing", inPlace := ["slices.overlaps[int]"], unfollowed := true, recurses := true, apart := false }
def MutexRingSaid : Prop := mutexRingRow.holds Try.pinned (OpenSpec.ofChange mutexRingSpec)

/-- ITS FALSE NEIGHBOUR: 'it returns false'. Refute it at one input. -/
def mutexRingWrong : ChangeSpec := { name := "mutexRing", fn := fun _ => fun
  | [d1, d2] => { results := [.lit (.bool false)], args := [d1, d2] }
  | _ => none }
def MutexRingWrongFalsely : Prop := mutexRingRow.holds Try.pinned (OpenSpec.ofChange mutexRingWrong)

/-- 'detentlaw15.MutexOwns': WHATEVER THE INPUT: true; the input reads as it did. -/
def mutexOwnsSpec : ChangeSpec := { name := "mutexOwns", fn := fun _ => fun
  | [d1, d2, d3] => { results := [.lit (.bool true)], args := [d1, d2, d3] }
  | _ => none }
def mutexOwnsRow : OpenClaim := { program := "ytinlhpgfoojneaa", sum := "1f96196cd51c3c0cfde3f5788e7a343715ebbea12b5be09fa9041c5530d2c930", func := "detent/detentlaw15.MutexOwns", spec := "mutexOwns", inPlace := ["slices.overlaps[int]"], unfollowed := true, recurses := true, apart := false }
def MutexOwnsSaid : Prop := mutexOwnsRow.holds Try.pinned (OpenSpec.ofChange mutexOwnsSpec)

/-- ITS FALSE NEIGHBOUR: 'it returns false'. Refute it at one input. -/
def mutexOwnsWrong : ChangeSpec := { name := "mutexOwns", fn := fun _ => fun
  | [d1, d2, d3] => { results := [.lit (.bool false)], args := [d1, d2, d3] }
  | _ => none }
def MutexOwnsWrongFalsely : Prop := mutexOwnsRow.holds Try.pinned (OpenSpec.ofChange mutexOwnsWrong)

/-- 'detentlaw15.MutexCeilings': WHATEVER THE INPUT: true; the input reads as it did. -/
def mutexCeilingsSpec : ChangeSpec := { name := "mutexCeilings", fn := fun _ => fun
  | [d1, d2] => { results := [.lit (.bool true)], args := [d1, d2] }
  | _ => none }
def mutexCeilingsRow : OpenClaim := { program := "ytinlhpgfoojneaa", sum := "1f96196cd51c3c0cfde3f5788e7a343715ebbea12b5be09fa9041c5530d2c930", func := "detent/detentlaw15.MutexCeilings", spec := "mutexCeilings", inPlace := ["slices.overlaps[int]"], unfollowed := true, recurses := true, apart := false }
def MutexCeilingsSaid : Prop := mutexCeilingsRow.holds Try.pinned (OpenSpec.ofChange mutexCeilingsSpec)

/-- ITS FALSE NEIGHBOUR: 'it returns false'. Refute it at one input. -/
def mutexCeilingsWrong : ChangeSpec := { name := "mutexCeilings", fn := fun _ => fun
  | [d1, d2] => { results := [.lit (.bool false)], args := [d1, d2] }
  | _ => none }
def MutexCeilingsWrongFalsely : Prop := mutexCeilingsRow.holds Try.pinned (OpenSpec.ofChange mutexCeilingsWrong)

/-- 'detentlaw15.MutexFrees': WHATEVER THE INPUT: true; the input reads as it did. -/
def mutexFreesSpec : ChangeSpec := { name := "mutexFrees", fn := fun _ => fun
  | [d] => { results := [.lit (.bool true)], args := [d] }
  | _ => none }
def mutexFreesRow : OpenClaim := { program := "ytinlhpgfoojneaa", sum := "1f96196cd51c3c0cfde3f5788e7a343715ebbea12b5be09fa9041c5530d2c930", func := "detent/detentlaw15.MutexFrees", spec := "mutexFrees", inPlace := ["slices.overlaps[int]"], unfollowed := true, recurses := true, apart := false }
def MutexFreesSaid : Prop := mutexFreesRow.holds Try.pinned (OpenSpec.ofChange mutexFreesSpec)

/-- ITS FALSE NEIGHBOUR: 'it returns false'. Refute it at one input. -/
def mutexFreesWrong : ChangeSpec := { name := "mutexFrees", fn := fun _ => fun
  | [d] => { results := [.lit (.bool false)], args := [d] }
  | _ => none }
def MutexFreesWrongFalsely : Prop := mutexFreesRow.holds Try.pinned (OpenSpec.ofChange mutexFreesWrong)

/-- 'detentlaw15.MutexPlays': WHATEVER THE INPUT: true; the input reads as it did. -/
def mutexPlaysSpec : ChangeSpec := { name := "mutexPlays", fn := fun _ => fun
  | [d1, d2] => { results := [.lit (.bool true)], args := [d1, d2] }
  | _ => none }
def mutexPlaysRow : OpenClaim := { program := "ytinlhpgfoojneaa", sum := "1f96196cd51c3c0cfde3f5788e7a343715ebbea12b5be09fa9041c5530d2c930", func := "detent/detentlaw15.MutexPlays", spec := "mutexPlays", inPlace := ["slices.overlaps[int]"], unfollowed := true, recurses := true, apart := false }
def MutexPlaysSaid : Prop := mutexPlaysRow.holds Try.pinned (OpenSpec.ofChange mutexPlaysSpec)

/-- ITS FALSE NEIGHBOUR: 'it returns false'. Refute it at one input. -/
def mutexPlaysWrong : ChangeSpec := { name := "mutexPlays", fn := fun _ => fun
  | [d1, d2] => { results := [.lit (.bool false)], args := [d1, d2] }
  | _ => none }
def MutexPlaysWrongFalsely : Prop := mutexPlaysRow.holds Try.pinned (OpenSpec.ofChange mutexPlaysWrong)

/- THE SECOND FORM. 'bulk': how many values and letters a reading holds, each counted each time it is reached (what is shared counts as often as it is met; a slice's spare places count too). A statement '..UptoSaid' is the law's where the arguments, and the package variables that the reading takes, are together of bulk at most 1048576: NARROWER than '..Said'. Prove '..Said' where nothing that the law and all that it calls make is longer than what came in: it says more and counts as full. Else prove '..UptoSaid'. A law counts once. -/
mutual
def uptoBulk {H : Type} : DataW H → Nat
  | .lit (.string bytes) => bytes.length + 1
  | .lit _ => 1
  | .nil => 1
  | .ptr d => uptoBulk d + 1
  | .slice elems spare => uptoBulkAll elems + uptoBulkAll spare + 1
  | .agg parts => uptoBulkAll parts + 1
  | .iface _ d => uptoBulk d + 1
  | .map entries => uptoBulkEntries entries + 1
  | .held _ => 1
def uptoBulkAll {H : Type} : List (DataW H) → Nat
  | [] => 0
  | d :: r => uptoBulk d + uptoBulkAll r
def uptoBulkEntries {H : Type} : List (Lit × DataW H) → Nat
  | [] => 0
  | x :: r => uptoBulkEntry x + uptoBulkEntries r
def uptoBulkEntry {H : Type} : Lit × DataW H → Nat
  | (.string bytes, d) => bytes.length + uptoBulk d + 1
  | (_, d) => uptoBulk d + 1
 end
def uptoSmall : (H : Type) → List (DataW H) → Bool := fun _ ds => decide (uptoBulkAll ds ≤ 1048576)
def OpenSpec.upto (s : _root_.Go.ChangeSpec) : _root_.Go.OpenSpec := { _root_.Go.OpenSpec.ofChange s with cond := some uptoSmall }

/-- 'detentlaw15.MutexChain', WHERE WHAT IT READS IS OF BULK AT MOST 1048576: true; the input reads as it did. -/
def mutexChainUptoRow : OpenClaim := { program := "ytinlhpgfoojneaa", sum := "1f96196cd51c3c0cfde3f5788e7a343715ebbea12b5be09fa9041c5530d2c930", func := "detent/detentlaw15.MutexChain", spec := "mutexChain", inPlace := ["slices.overlaps[int]"], unfollowed := true, recurses := true, apart := false, narrowed := true }
def MutexChainUptoSaid : Prop := mutexChainUptoRow.holds Try.pinned (OpenSpec.upto mutexChainSpec)

/-- 'detentlaw15.MutexPasses', WHERE WHAT IT READS IS OF BULK AT MOST 1048576: true; the input reads as it did. -/
def mutexPassesUptoRow : OpenClaim := { program := "ytinlhpgfoojneaa", sum := "1f96196cd51c3c0cfde3f5788e7a343715ebbea12b5be09fa9041c5530d2c930", func := "detent/detentlaw15.MutexPasses", spec := "mutexPasses", inPlace := ["slices.overlaps[int]"], unfollowed := true, recurses := true, apart := false, narrowed := true }
def MutexPassesUptoSaid : Prop := mutexPassesUptoRow.holds Try.pinned (OpenSpec.upto mutexPassesSpec)

/-- 'detentlaw15.MutexRing', WHERE WHAT IT READS IS OF BULK AT MOST 1048576: true; the input reads as it did. -/
def mutexRingUptoRow : OpenClaim := { program := "ytinlhpgfoojneaa", sum := "1f96196cd51c3c0cfde3f5788e7a343715ebbea12b5be09fa9041c5530d2c930", func := "detent/detentlaw15.MutexRing", spec := "mutexRing", inPlace := ["slices.overlaps[int]"], unfollowed := true, recurses := true, apart := false, narrowed := true }
def MutexRingUptoSaid : Prop := mutexRingUptoRow.holds Try.pinned (OpenSpec.upto mutexRingSpec)

/-- 'detentlaw15.MutexOwns', WHERE WHAT IT READS IS OF BULK AT MOST 1048576: true; the input reads as it did. -/
def mutexOwnsUptoRow : OpenClaim := { program := "ytinlhpgfoojneaa", sum := "1f96196cd51c3c0cfde3f5788e7a343715ebbea12b5be09fa9041c5530d2c930", func := "detent/detentlaw15.MutexOwns", spec := "mutexOwns", inPlace := ["slices.overlaps[int]"], unfollowed := true, recurses := true, apart := false, narrowed := true }
def MutexOwnsUptoSaid : Prop := mutexOwnsUptoRow.holds Try.pinned (OpenSpec.upto mutexOwnsSpec)

/-- 'detentlaw15.MutexCeilings', WHERE WHAT IT READS IS OF BULK AT MOST 1048576: true; the input reads as it did. -/
def mutexCeilingsUptoRow : OpenClaim := { program := "ytinlhpgfoojneaa", sum := "1f96196cd51c3c0cfde3f5788e7a343715ebbea12b5be09fa9041c5530d2c930", func := "detent/detentlaw15.MutexCeilings", spec := "mutexCeilings", inPlace := ["slices.overlaps[int]"], unfollowed := true, recurses := true, apart := false, narrowed := true }
def MutexCeilingsUptoSaid : Prop := mutexCeilingsUptoRow.holds Try.pinned (OpenSpec.upto mutexCeilingsSpec)

/-- 'detentlaw15.MutexFrees', WHERE WHAT IT READS IS OF BULK AT MOST 1048576: true; the input reads as it did. -/
def mutexFreesUptoRow : OpenClaim := { program := "ytinlhpgfoojneaa", sum := "1f96196cd51c3c0cfde3f5788e7a343715ebbea12b5be09fa9041c5530d2c930", func := "detent/detentlaw15.MutexFrees", spec := "mutexFrees", inPlace := ["slices.overlaps[int]"], unfollowed := true, recurses := true, apart := false, narrowed := true }
def MutexFreesUptoSaid : Prop := mutexFreesUptoRow.holds Try.pinned (OpenSpec.upto mutexFreesSpec)

/-- 'detentlaw15.MutexPlays', WHERE WHAT IT READS IS OF BULK AT MOST 1048576: true; the input reads as it did. -/
def mutexPlaysUptoRow : OpenClaim := { program := "ytinlhpgfoojneaa", sum := "1f96196cd51c3c0cfde3f5788e7a343715ebbea12b5be09fa9041c5530d2c930", func := "detent/detentlaw15.MutexPlays", spec := "mutexPlays", inPlace := ["slices.overlaps[int]"], unfollowed := true, recurses := true, apart := false, narrowed := true }
def MutexPlaysUptoSaid : Prop := mutexPlaysUptoRow.holds Try.pinned (OpenSpec.upto mutexPlaysSpec)

end Rows
end Go.Proofs.Ytinlhpgfoojneaa
