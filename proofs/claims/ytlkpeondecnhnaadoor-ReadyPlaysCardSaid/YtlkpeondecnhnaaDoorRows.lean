/-
  NARROWER THAN 'FOR EVERY INPUT', by the rows' own cells (each row's printed sentence says how): BitsPlays: laid · BitsWalks: laid · BitsBack: laid · BitsEnds: laid · ReadyTurns: laid · ReadyRefuses: laid · ReadyFirst: laid · ReadyAgain: laid · ReadyPlays: laid.
  DERIVED. THE GIVEN ROWS OF THIS SEAT. 9 by the template 'for every input the law returns true; each argument reads behind the call as it read before'; 0 by the template 'total and deterministic' (their statements: YtlkpeondecnhnaaDoorTotals.lean).
  GIVEN WITH THE SEED: the statements are not yours to turn. If you find one false, say at which input.
  Laid BY PROGRAM, IN A SANDBOX (cutbox-rows.mjs): the forced cells as the released guide's own fill.sh prints them over the translation 1fcf1ac061f22f53… (all of the seat's roots in one cut). By AI agents, Wed Nov 11 2026. No macro, syntax, notation, axiom, sorry.
-/
import Derived.Test.YtlkpeondecnhnaaDoorChecked
import GoSem.Claim
import GoSem.ClaimJoined
import GoSem.ClaimMapViews
import Derived.JoinedTies
import Derived.KernelRfl
namespace Go.Proofs.YtlkpeondecnhnaaDoor
/- THE CELL 'sum', in the pinned program and in every row, IS THE sha256 OF THE DUMP (.gsa) THAT YtlkpeondecnhnaaDoorProg.lean LOADS. Nothing in Lean hashes anything: it is a label: what it is worth is what the hold of that sum in a sandbox is worth. -/
noncomputable def Tryd.pinned : Pinned := { name := "ytlkpeondecnhnaadoor", sum := "1fcf1ac061f22f536b7f3921722c54975530b6b3d1b5a7c0b195c0d718e51f44", checked := Tryd.checked }
namespace Rows
def none {H : Type} : Left H := { results := [], args := [] }

/- WHAT THE LISTED PACKAGE-LEVEL VARIABLES READ AS WHEN THE CALL BEGINS. Each datum BY PROGRAM (the guide's laid-datum.mjs) off the statement by which the dump's own 'gosem.cut.vars' lays the variable. In a bare row this is a premise. The card (YtlkpeondecnhnaaDoorCards.lean) ties it to the program's text. -/
def laid_math_bits_deBruijn64tab {H : Type} : DataW H := .agg [.lit (.int .u8 0), .lit (.int .u8 1), .lit (.int .u8 56), .lit (.int .u8 2), .lit (.int .u8 57), .lit (.int .u8 49), .lit (.int .u8 28), .lit (.int .u8 3), .lit (.int .u8 61), .lit (.int .u8 58), .lit (.int .u8 42), .lit (.int .u8 50), .lit (.int .u8 38), .lit (.int .u8 29), .lit (.int .u8 17), .lit (.int .u8 4), .lit (.int .u8 62), .lit (.int .u8 47), .lit (.int .u8 59), .lit (.int .u8 36), .lit (.int .u8 45), .lit (.int .u8 43), .lit (.int .u8 51), .lit (.int .u8 22), .lit (.int .u8 53), .lit (.int .u8 39), .lit (.int .u8 33), .lit (.int .u8 30), .lit (.int .u8 24), .lit (.int .u8 18), .lit (.int .u8 12), .lit (.int .u8 5), .lit (.int .u8 63), .lit (.int .u8 55), .lit (.int .u8 48), .lit (.int .u8 27), .lit (.int .u8 60), .lit (.int .u8 41), .lit (.int .u8 37), .lit (.int .u8 16), .lit (.int .u8 46), .lit (.int .u8 35), .lit (.int .u8 44), .lit (.int .u8 21), .lit (.int .u8 52), .lit (.int .u8 32), .lit (.int .u8 23), .lit (.int .u8 11), .lit (.int .u8 54), .lit (.int .u8 26), .lit (.int .u8 40), .lit (.int .u8 15), .lit (.int .u8 34), .lit (.int .u8 20), .lit (.int .u8 31), .lit (.int .u8 10), .lit (.int .u8 25), .lit (.int .u8 14), .lit (.int .u8 19), .lit (.int .u8 9), .lit (.int .u8 13), .lit (.int .u8 8), .lit (.int .u8 7), .lit (.int .u8 6)]

/-- 'detentlaw5.BitsPlays': WHATEVER THE INPUT: true; the input reads as it did. -/
def bitsPlaysSpec : ChangeSpec := { name := "bitsPlays", fn := fun _ => fun
  | [d1, d2] => { results := [.lit (.bool true)], args := [d1, d2] }
  | _ => none }
def bitsPlaysRow : OpenClaim := { program := "ytlkpeondecnhnaadoor", sum := "1fcf1ac061f22f536b7f3921722c54975530b6b3d1b5a7c0b195c0d718e51f44", func := "detent/detentlaw5.BitsPlays", spec := "bitsPlays", named := ["math/bits.deBruijn64tab"], apart := false, laid := [("math/bits.deBruijn64tab", laid_math_bits_deBruijn64tab)] }
def BitsPlaysSaid : Prop := bitsPlaysRow.holds Tryd.pinned (OpenSpec.ofChange bitsPlaysSpec)

/-- ITS FALSE NEIGHBOUR: 'it returns false'. Refute it at one input. -/
def bitsPlaysWrong : ChangeSpec := { name := "bitsPlays", fn := fun _ => fun
  | [d1, d2] => { results := [.lit (.bool false)], args := [d1, d2] }
  | _ => none }
def BitsPlaysWrongFalsely : Prop := bitsPlaysRow.holds Tryd.pinned (OpenSpec.ofChange bitsPlaysWrong)

/-- 'detentlaw5.BitsWalks': WHATEVER THE INPUT: true; the input reads as it did. -/
def bitsWalksSpec : ChangeSpec := { name := "bitsWalks", fn := fun _ => fun
  | [d] => { results := [.lit (.bool true)], args := [d] }
  | _ => none }
def bitsWalksRow : OpenClaim := { program := "ytlkpeondecnhnaadoor", sum := "1fcf1ac061f22f536b7f3921722c54975530b6b3d1b5a7c0b195c0d718e51f44", func := "detent/detentlaw5.BitsWalks", spec := "bitsWalks", named := ["math/bits.deBruijn64tab"], apart := false, laid := [("math/bits.deBruijn64tab", laid_math_bits_deBruijn64tab)] }
def BitsWalksSaid : Prop := bitsWalksRow.holds Tryd.pinned (OpenSpec.ofChange bitsWalksSpec)

/-- ITS FALSE NEIGHBOUR: 'it returns false'. Refute it at one input. -/
def bitsWalksWrong : ChangeSpec := { name := "bitsWalks", fn := fun _ => fun
  | [d] => { results := [.lit (.bool false)], args := [d] }
  | _ => none }
def BitsWalksWrongFalsely : Prop := bitsWalksRow.holds Tryd.pinned (OpenSpec.ofChange bitsWalksWrong)

/-- 'detentlaw5.BitsBack': WHATEVER THE INPUT: true; the input reads as it did. -/
def bitsBackSpec : ChangeSpec := { name := "bitsBack", fn := fun _ => fun
  | [d1, d2] => { results := [.lit (.bool true)], args := [d1, d2] }
  | _ => none }
def bitsBackRow : OpenClaim := { program := "ytlkpeondecnhnaadoor", sum := "1fcf1ac061f22f536b7f3921722c54975530b6b3d1b5a7c0b195c0d718e51f44", func := "detent/detentlaw5.BitsBack", spec := "bitsBack", named := ["math/bits.deBruijn64tab"], apart := false, laid := [("math/bits.deBruijn64tab", laid_math_bits_deBruijn64tab)] }
def BitsBackSaid : Prop := bitsBackRow.holds Tryd.pinned (OpenSpec.ofChange bitsBackSpec)

/-- ITS FALSE NEIGHBOUR: 'it returns false'. Refute it at one input. -/
def bitsBackWrong : ChangeSpec := { name := "bitsBack", fn := fun _ => fun
  | [d1, d2] => { results := [.lit (.bool false)], args := [d1, d2] }
  | _ => none }
def BitsBackWrongFalsely : Prop := bitsBackRow.holds Tryd.pinned (OpenSpec.ofChange bitsBackWrong)

/-- 'detentlaw5.BitsEnds': WHATEVER THE INPUT: true; the input reads as it did. -/
def bitsEndsSpec : ChangeSpec := { name := "bitsEnds", fn := fun _ => fun
  | [d] => { results := [.lit (.bool true)], args := [d] }
  | _ => none }
def bitsEndsRow : OpenClaim := { program := "ytlkpeondecnhnaadoor", sum := "1fcf1ac061f22f536b7f3921722c54975530b6b3d1b5a7c0b195c0d718e51f44", func := "detent/detentlaw5.BitsEnds", spec := "bitsEnds", named := ["math/bits.deBruijn64tab"], apart := false, laid := [("math/bits.deBruijn64tab", laid_math_bits_deBruijn64tab)] }
def BitsEndsSaid : Prop := bitsEndsRow.holds Tryd.pinned (OpenSpec.ofChange bitsEndsSpec)

/-- ITS FALSE NEIGHBOUR: 'it returns false'. Refute it at one input. -/
def bitsEndsWrong : ChangeSpec := { name := "bitsEnds", fn := fun _ => fun
  | [d] => { results := [.lit (.bool false)], args := [d] }
  | _ => none }
def BitsEndsWrongFalsely : Prop := bitsEndsRow.holds Tryd.pinned (OpenSpec.ofChange bitsEndsWrong)

/-- 'detentlaw9.ReadyTurns': WHATEVER THE INPUT: true; the input reads as it did. -/
def readyTurnsSpec : ChangeSpec := { name := "readyTurns", fn := fun _ => fun
  | [d1, d2] => { results := [.lit (.bool true)], args := [d1, d2] }
  | _ => none }
def readyTurnsRow : OpenClaim := { program := "ytlkpeondecnhnaadoor", sum := "1fcf1ac061f22f536b7f3921722c54975530b6b3d1b5a7c0b195c0d718e51f44", func := "detent/detentlaw9.ReadyTurns", spec := "readyTurns", named := ["math/bits.deBruijn64tab"], apart := false, laid := [("math/bits.deBruijn64tab", laid_math_bits_deBruijn64tab)] }
def ReadyTurnsSaid : Prop := readyTurnsRow.holds Tryd.pinned (OpenSpec.ofChange readyTurnsSpec)

/-- ITS FALSE NEIGHBOUR: 'it returns false'. Refute it at one input. -/
def readyTurnsWrong : ChangeSpec := { name := "readyTurns", fn := fun _ => fun
  | [d1, d2] => { results := [.lit (.bool false)], args := [d1, d2] }
  | _ => none }
def ReadyTurnsWrongFalsely : Prop := readyTurnsRow.holds Tryd.pinned (OpenSpec.ofChange readyTurnsWrong)

/-- 'detentlaw9.ReadyRefuses': WHATEVER THE INPUT: true; the input reads as it did. -/
def readyRefusesSpec : ChangeSpec := { name := "readyRefuses", fn := fun _ => fun
  | [d1, d2] => { results := [.lit (.bool true)], args := [d1, d2] }
  | _ => none }
def readyRefusesRow : OpenClaim := { program := "ytlkpeondecnhnaadoor", sum := "1fcf1ac061f22f536b7f3921722c54975530b6b3d1b5a7c0b195c0d718e51f44", func := "detent/detentlaw9.ReadyRefuses", spec := "readyRefuses", named := ["math/bits.deBruijn64tab"], apart := false, laid := [("math/bits.deBruijn64tab", laid_math_bits_deBruijn64tab)] }
def ReadyRefusesSaid : Prop := readyRefusesRow.holds Tryd.pinned (OpenSpec.ofChange readyRefusesSpec)

/-- ITS FALSE NEIGHBOUR: 'it returns false'. Refute it at one input. -/
def readyRefusesWrong : ChangeSpec := { name := "readyRefuses", fn := fun _ => fun
  | [d1, d2] => { results := [.lit (.bool false)], args := [d1, d2] }
  | _ => none }
def ReadyRefusesWrongFalsely : Prop := readyRefusesRow.holds Tryd.pinned (OpenSpec.ofChange readyRefusesWrong)

/-- 'detentlaw9.ReadyFirst': WHATEVER THE INPUT: true; the input reads as it did. -/
def readyFirstSpec : ChangeSpec := { name := "readyFirst", fn := fun _ => fun
  | [d] => { results := [.lit (.bool true)], args := [d] }
  | _ => none }
def readyFirstRow : OpenClaim := { program := "ytlkpeondecnhnaadoor", sum := "1fcf1ac061f22f536b7f3921722c54975530b6b3d1b5a7c0b195c0d718e51f44", func := "detent/detentlaw9.ReadyFirst", spec := "readyFirst", named := ["math/bits.deBruijn64tab"], apart := false, laid := [("math/bits.deBruijn64tab", laid_math_bits_deBruijn64tab)] }
def ReadyFirstSaid : Prop := readyFirstRow.holds Tryd.pinned (OpenSpec.ofChange readyFirstSpec)

/-- ITS FALSE NEIGHBOUR: 'it returns false'. Refute it at one input. -/
def readyFirstWrong : ChangeSpec := { name := "readyFirst", fn := fun _ => fun
  | [d] => { results := [.lit (.bool false)], args := [d] }
  | _ => none }
def ReadyFirstWrongFalsely : Prop := readyFirstRow.holds Tryd.pinned (OpenSpec.ofChange readyFirstWrong)

/-- 'detentlaw9.ReadyAgain': WHATEVER THE INPUT: true; the input reads as it did. -/
def readyAgainSpec : ChangeSpec := { name := "readyAgain", fn := fun _ => fun
  | [d1, d2] => { results := [.lit (.bool true)], args := [d1, d2] }
  | _ => none }
def readyAgainRow : OpenClaim := { program := "ytlkpeondecnhnaadoor", sum := "1fcf1ac061f22f536b7f3921722c54975530b6b3d1b5a7c0b195c0d718e51f44", func := "detent/detentlaw9.ReadyAgain", spec := "readyAgain", named := ["math/bits.deBruijn64tab"], apart := false, laid := [("math/bits.deBruijn64tab", laid_math_bits_deBruijn64tab)] }
def ReadyAgainSaid : Prop := readyAgainRow.holds Tryd.pinned (OpenSpec.ofChange readyAgainSpec)

/-- ITS FALSE NEIGHBOUR: 'it returns false'. Refute it at one input. -/
def readyAgainWrong : ChangeSpec := { name := "readyAgain", fn := fun _ => fun
  | [d1, d2] => { results := [.lit (.bool false)], args := [d1, d2] }
  | _ => none }
def ReadyAgainWrongFalsely : Prop := readyAgainRow.holds Tryd.pinned (OpenSpec.ofChange readyAgainWrong)

/-- 'detentlaw9.ReadyPlays': WHATEVER THE INPUT: true; the input reads as it did. -/
def readyPlaysSpec : ChangeSpec := { name := "readyPlays", fn := fun _ => fun
  | [d] => { results := [.lit (.bool true)], args := [d] }
  | _ => none }
def readyPlaysRow : OpenClaim := { program := "ytlkpeondecnhnaadoor", sum := "1fcf1ac061f22f536b7f3921722c54975530b6b3d1b5a7c0b195c0d718e51f44", func := "detent/detentlaw9.ReadyPlays", spec := "readyPlays", named := ["math/bits.deBruijn64tab"], apart := false, laid := [("math/bits.deBruijn64tab", laid_math_bits_deBruijn64tab)] }
def ReadyPlaysSaid : Prop := readyPlaysRow.holds Tryd.pinned (OpenSpec.ofChange readyPlaysSpec)

/-- ITS FALSE NEIGHBOUR: 'it returns false'. Refute it at one input. -/
def readyPlaysWrong : ChangeSpec := { name := "readyPlays", fn := fun _ => fun
  | [d] => { results := [.lit (.bool false)], args := [d] }
  | _ => none }
def ReadyPlaysWrongFalsely : Prop := readyPlaysRow.holds Tryd.pinned (OpenSpec.ofChange readyPlaysWrong)

/- THE SECOND FORM. 'bulk': how many values and letters a reading holds, each counted each time it is reached (what is shared counts as often as it is met; a slice's spare places count too). A statement '..UptoSaid' is the law's where the arguments, and the package variables that the reading takes, are together of bulk at most 1048576: NARROWER than '..Said'. Prove '..Said' where nothing that the law and all that it calls make is longer than what came in: it says more and counts as full. Else prove '..UptoSaid'. A law counts once. -/
mutual
def uptoBulk {H : Type} : DataW H → Nat
  | .lit (.string bytes) => bytes.length + 1
  | .lit _ => 1
  | .nil => 1
  | .ptr d => uptoBulk d + 1
  | .slice elems spare => uptoBulkAll elems + uptoBulkAll spare + 1
  | .agg parts => uptoBulkAll parts + 1
  | .iface _ d => uptoBulk d + 1
  | .map entries => uptoBulkEntries entries + 1
  | .held _ => 1
def uptoBulkAll {H : Type} : List (DataW H) → Nat
  | [] => 0
  | d :: r => uptoBulk d + uptoBulkAll r
def uptoBulkEntries {H : Type} : List (Lit × DataW H) → Nat
  | [] => 0
  | x :: r => uptoBulkEntry x + uptoBulkEntries r
def uptoBulkEntry {H : Type} : Lit × DataW H → Nat
  | (.string bytes, d) => bytes.length + uptoBulk d + 1
  | (_, d) => uptoBulk d + 1
 end
def uptoSmall : (H : Type) → List (DataW H) → Bool := fun _ ds => decide (uptoBulkAll ds ≤ 1048576)
def OpenSpec.upto (s : _root_.Go.ChangeSpec) : _root_.Go.OpenSpec := { _root_.Go.OpenSpec.ofChange s with cond := some uptoSmall }

/-- 'detentlaw5.BitsPlays', WHERE WHAT IT READS IS OF BULK AT MOST 1048576: true; the input reads as it did. -/
def bitsPlaysUptoRow : OpenClaim := { program := "ytlkpeondecnhnaadoor", sum := "1fcf1ac061f22f536b7f3921722c54975530b6b3d1b5a7c0b195c0d718e51f44", func := "detent/detentlaw5.BitsPlays", spec := "bitsPlays", named := ["math/bits.deBruijn64tab"], apart := false, laid := [("math/bits.deBruijn64tab", laid_math_bits_deBruijn64tab)], narrowed := true }
def BitsPlaysUptoSaid : Prop := bitsPlaysUptoRow.holds Tryd.pinned (OpenSpec.upto bitsPlaysSpec)

/-- 'detentlaw5.BitsWalks', WHERE WHAT IT READS IS OF BULK AT MOST 1048576: true; the input reads as it did. -/
def bitsWalksUptoRow : OpenClaim := { program := "ytlkpeondecnhnaadoor", sum := "1fcf1ac061f22f536b7f3921722c54975530b6b3d1b5a7c0b195c0d718e51f44", func := "detent/detentlaw5.BitsWalks", spec := "bitsWalks", named := ["math/bits.deBruijn64tab"], apart := false, laid := [("math/bits.deBruijn64tab", laid_math_bits_deBruijn64tab)], narrowed := true }
def BitsWalksUptoSaid : Prop := bitsWalksUptoRow.holds Tryd.pinned (OpenSpec.upto bitsWalksSpec)

/-- 'detentlaw5.BitsBack', WHERE WHAT IT READS IS OF BULK AT MOST 1048576: true; the input reads as it did. -/
def bitsBackUptoRow : OpenClaim := { program := "ytlkpeondecnhnaadoor", sum := "1fcf1ac061f22f536b7f3921722c54975530b6b3d1b5a7c0b195c0d718e51f44", func := "detent/detentlaw5.BitsBack", spec := "bitsBack", named := ["math/bits.deBruijn64tab"], apart := false, laid := [("math/bits.deBruijn64tab", laid_math_bits_deBruijn64tab)], narrowed := true }
def BitsBackUptoSaid : Prop := bitsBackUptoRow.holds Tryd.pinned (OpenSpec.upto bitsBackSpec)

/-- 'detentlaw5.BitsEnds', WHERE WHAT IT READS IS OF BULK AT MOST 1048576: true; the input reads as it did. -/
def bitsEndsUptoRow : OpenClaim := { program := "ytlkpeondecnhnaadoor", sum := "1fcf1ac061f22f536b7f3921722c54975530b6b3d1b5a7c0b195c0d718e51f44", func := "detent/detentlaw5.BitsEnds", spec := "bitsEnds", named := ["math/bits.deBruijn64tab"], apart := false, laid := [("math/bits.deBruijn64tab", laid_math_bits_deBruijn64tab)], narrowed := true }
def BitsEndsUptoSaid : Prop := bitsEndsUptoRow.holds Tryd.pinned (OpenSpec.upto bitsEndsSpec)

/-- 'detentlaw9.ReadyTurns', WHERE WHAT IT READS IS OF BULK AT MOST 1048576: true; the input reads as it did. -/
def readyTurnsUptoRow : OpenClaim := { program := "ytlkpeondecnhnaadoor", sum := "1fcf1ac061f22f536b7f3921722c54975530b6b3d1b5a7c0b195c0d718e51f44", func := "detent/detentlaw9.ReadyTurns", spec := "readyTurns", named := ["math/bits.deBruijn64tab"], apart := false, laid := [("math/bits.deBruijn64tab", laid_math_bits_deBruijn64tab)], narrowed := true }
def ReadyTurnsUptoSaid : Prop := readyTurnsUptoRow.holds Tryd.pinned (OpenSpec.upto readyTurnsSpec)

/-- 'detentlaw9.ReadyRefuses', WHERE WHAT IT READS IS OF BULK AT MOST 1048576: true; the input reads as it did. -/
def readyRefusesUptoRow : OpenClaim := { program := "ytlkpeondecnhnaadoor", sum := "1fcf1ac061f22f536b7f3921722c54975530b6b3d1b5a7c0b195c0d718e51f44", func := "detent/detentlaw9.ReadyRefuses", spec := "readyRefuses", named := ["math/bits.deBruijn64tab"], apart := false, laid := [("math/bits.deBruijn64tab", laid_math_bits_deBruijn64tab)], narrowed := true }
def ReadyRefusesUptoSaid : Prop := readyRefusesUptoRow.holds Tryd.pinned (OpenSpec.upto readyRefusesSpec)

/-- 'detentlaw9.ReadyFirst', WHERE WHAT IT READS IS OF BULK AT MOST 1048576: true; the input reads as it did. -/
def readyFirstUptoRow : OpenClaim := { program := "ytlkpeondecnhnaadoor", sum := "1fcf1ac061f22f536b7f3921722c54975530b6b3d1b5a7c0b195c0d718e51f44", func := "detent/detentlaw9.ReadyFirst", spec := "readyFirst", named := ["math/bits.deBruijn64tab"], apart := false, laid := [("math/bits.deBruijn64tab", laid_math_bits_deBruijn64tab)], narrowed := true }
def ReadyFirstUptoSaid : Prop := readyFirstUptoRow.holds Tryd.pinned (OpenSpec.upto readyFirstSpec)

/-- 'detentlaw9.ReadyAgain', WHERE WHAT IT READS IS OF BULK AT MOST 1048576: true; the input reads as it did. -/
def readyAgainUptoRow : OpenClaim := { program := "ytlkpeondecnhnaadoor", sum := "1fcf1ac061f22f536b7f3921722c54975530b6b3d1b5a7c0b195c0d718e51f44", func := "detent/detentlaw9.ReadyAgain", spec := "readyAgain", named := ["math/bits.deBruijn64tab"], apart := false, laid := [("math/bits.deBruijn64tab", laid_math_bits_deBruijn64tab)], narrowed := true }
def ReadyAgainUptoSaid : Prop := readyAgainUptoRow.holds Tryd.pinned (OpenSpec.upto readyAgainSpec)

/-- 'detentlaw9.ReadyPlays', WHERE WHAT IT READS IS OF BULK AT MOST 1048576: true; the input reads as it did. -/
def readyPlaysUptoRow : OpenClaim := { program := "ytlkpeondecnhnaadoor", sum := "1fcf1ac061f22f536b7f3921722c54975530b6b3d1b5a7c0b195c0d718e51f44", func := "detent/detentlaw9.ReadyPlays", spec := "readyPlays", named := ["math/bits.deBruijn64tab"], apart := false, laid := [("math/bits.deBruijn64tab", laid_math_bits_deBruijn64tab)], narrowed := true }
def ReadyPlaysUptoSaid : Prop := readyPlaysUptoRow.holds Tryd.pinned (OpenSpec.upto readyPlaysSpec)

end Rows
end Go.Proofs.YtlkpeondecnhnaaDoor
