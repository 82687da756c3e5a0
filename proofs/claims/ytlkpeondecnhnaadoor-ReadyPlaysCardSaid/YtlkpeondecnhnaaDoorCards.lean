/-
  DERIVED. GIVEN WITH THE SEED: THE CARDS: each row of YtlkpeondecnhnaaDoorRows.lean that lists a variable, with what it lists TIED to the program's text (the seventh form; the later family's looks); each row that meets fmt, with fmt's text TOLD by the authors' own Lean function (tested against real Go, not proved from fmt's source: count such statements apart). THE CARD IS WHAT COUNTS. Prove the row's statement (the work); the ties are given (YtlkpeondecnhnaaDoorTie.lean); close each card by the builder's one call (the guide's Derived/Test/ToyasCard.lean, 'card_holds'). Laid BY PROGRAM, IN A SANDBOX (cutbox-door.mjs). By AI agents, Wed Nov 11 2026. No macro, syntax, notation, axiom, sorry.
-/
import Derived.Test.YtlkpeondecnhnaaDoorRows
import GoSem.ClaimSeven
namespace Go.Proofs.YtlkpeondecnhnaaDoor
namespace Rows

/-- THE TIED CARD OF 'detentlaw5.BitsPlays'. -/
def bitsPlaysCard : Claim7 := { stood := { row := bitsPlaysRow, standIns := [], harness := (true, "99ec69c836fc26985783110507c5df2717cab191a09633405b8c5f1387914b71"), looks := false }, kinds := [], alts := [], laidByText := true, laidKinds := [.data], laidTests := true, laidLooks := .later }
def BitsPlaysCardSaid : Prop := Claim7.holds Tryd.pinned (.plain (OpenSpec.ofChange bitsPlaysSpec)) bitsPlaysCard

/-- THE TIED CARD OF 'detentlaw5.BitsWalks'. -/
def bitsWalksCard : Claim7 := { stood := { row := bitsWalksRow, standIns := [], harness := (true, "99ec69c836fc26985783110507c5df2717cab191a09633405b8c5f1387914b71"), looks := false }, kinds := [], alts := [], laidByText := true, laidKinds := [.data], laidTests := true, laidLooks := .later }
def BitsWalksCardSaid : Prop := Claim7.holds Tryd.pinned (.plain (OpenSpec.ofChange bitsWalksSpec)) bitsWalksCard

/-- THE TIED CARD OF 'detentlaw5.BitsBack'. -/
def bitsBackCard : Claim7 := { stood := { row := bitsBackRow, standIns := [], harness := (true, "99ec69c836fc26985783110507c5df2717cab191a09633405b8c5f1387914b71"), looks := false }, kinds := [], alts := [], laidByText := true, laidKinds := [.data], laidTests := true, laidLooks := .later }
def BitsBackCardSaid : Prop := Claim7.holds Tryd.pinned (.plain (OpenSpec.ofChange bitsBackSpec)) bitsBackCard

/-- THE TIED CARD OF 'detentlaw5.BitsEnds'. -/
def bitsEndsCard : Claim7 := { stood := { row := bitsEndsRow, standIns := [], harness := (true, "99ec69c836fc26985783110507c5df2717cab191a09633405b8c5f1387914b71"), looks := false }, kinds := [], alts := [], laidByText := true, laidKinds := [.data], laidTests := true, laidLooks := .later }
def BitsEndsCardSaid : Prop := Claim7.holds Tryd.pinned (.plain (OpenSpec.ofChange bitsEndsSpec)) bitsEndsCard

/-- THE TIED CARD OF 'detentlaw9.ReadyTurns'. -/
def readyTurnsCard : Claim7 := { stood := { row := readyTurnsRow, standIns := [], harness := (true, "99ec69c836fc26985783110507c5df2717cab191a09633405b8c5f1387914b71"), looks := false }, kinds := [], alts := [], laidByText := true, laidKinds := [.data], laidTests := true, laidLooks := .later }
def ReadyTurnsCardSaid : Prop := Claim7.holds Tryd.pinned (.plain (OpenSpec.ofChange readyTurnsSpec)) readyTurnsCard

/-- THE TIED CARD OF 'detentlaw9.ReadyRefuses'. -/
def readyRefusesCard : Claim7 := { stood := { row := readyRefusesRow, standIns := [], harness := (true, "99ec69c836fc26985783110507c5df2717cab191a09633405b8c5f1387914b71"), looks := false }, kinds := [], alts := [], laidByText := true, laidKinds := [.data], laidTests := true, laidLooks := .later }
def ReadyRefusesCardSaid : Prop := Claim7.holds Tryd.pinned (.plain (OpenSpec.ofChange readyRefusesSpec)) readyRefusesCard

/-- THE TIED CARD OF 'detentlaw9.ReadyFirst'. -/
def readyFirstCard : Claim7 := { stood := { row := readyFirstRow, standIns := [], harness := (true, "99ec69c836fc26985783110507c5df2717cab191a09633405b8c5f1387914b71"), looks := false }, kinds := [], alts := [], laidByText := true, laidKinds := [.data], laidTests := true, laidLooks := .later }
def ReadyFirstCardSaid : Prop := Claim7.holds Tryd.pinned (.plain (OpenSpec.ofChange readyFirstSpec)) readyFirstCard

/-- THE TIED CARD OF 'detentlaw9.ReadyAgain'. -/
def readyAgainCard : Claim7 := { stood := { row := readyAgainRow, standIns := [], harness := (true, "99ec69c836fc26985783110507c5df2717cab191a09633405b8c5f1387914b71"), looks := false }, kinds := [], alts := [], laidByText := true, laidKinds := [.data], laidTests := true, laidLooks := .later }
def ReadyAgainCardSaid : Prop := Claim7.holds Tryd.pinned (.plain (OpenSpec.ofChange readyAgainSpec)) readyAgainCard

/-- THE TIED CARD OF 'detentlaw9.ReadyPlays'. -/
def readyPlaysCard : Claim7 := { stood := { row := readyPlaysRow, standIns := [], harness := (true, "99ec69c836fc26985783110507c5df2717cab191a09633405b8c5f1387914b71"), looks := false }, kinds := [], alts := [], laidByText := true, laidKinds := [.data], laidTests := true, laidLooks := .later }
def ReadyPlaysCardSaid : Prop := Claim7.holds Tryd.pinned (.plain (OpenSpec.ofChange readyPlaysSpec)) readyPlaysCard

/-- THE SECOND FORM's CARD OF 'detentlaw5.BitsPlays'. -/
def bitsPlaysUptoCard : Claim7 := { stood := { row := bitsPlaysUptoRow, standIns := [], harness := (true, "99ec69c836fc26985783110507c5df2717cab191a09633405b8c5f1387914b71"), looks := false }, kinds := [], alts := [], laidByText := true, laidKinds := [.data], laidTests := true, laidLooks := .later }
def BitsPlaysUptoCardSaid : Prop := Claim7.holds Tryd.pinned (.plain (OpenSpec.upto bitsPlaysSpec)) bitsPlaysUptoCard

/-- THE SECOND FORM's CARD OF 'detentlaw5.BitsWalks'. -/
def bitsWalksUptoCard : Claim7 := { stood := { row := bitsWalksUptoRow, standIns := [], harness := (true, "99ec69c836fc26985783110507c5df2717cab191a09633405b8c5f1387914b71"), looks := false }, kinds := [], alts := [], laidByText := true, laidKinds := [.data], laidTests := true, laidLooks := .later }
def BitsWalksUptoCardSaid : Prop := Claim7.holds Tryd.pinned (.plain (OpenSpec.upto bitsWalksSpec)) bitsWalksUptoCard

/-- THE SECOND FORM's CARD OF 'detentlaw5.BitsBack'. -/
def bitsBackUptoCard : Claim7 := { stood := { row := bitsBackUptoRow, standIns := [], harness := (true, "99ec69c836fc26985783110507c5df2717cab191a09633405b8c5f1387914b71"), looks := false }, kinds := [], alts := [], laidByText := true, laidKinds := [.data], laidTests := true, laidLooks := .later }
def BitsBackUptoCardSaid : Prop := Claim7.holds Tryd.pinned (.plain (OpenSpec.upto bitsBackSpec)) bitsBackUptoCard

/-- THE SECOND FORM's CARD OF 'detentlaw5.BitsEnds'. -/
def bitsEndsUptoCard : Claim7 := { stood := { row := bitsEndsUptoRow, standIns := [], harness := (true, "99ec69c836fc26985783110507c5df2717cab191a09633405b8c5f1387914b71"), looks := false }, kinds := [], alts := [], laidByText := true, laidKinds := [.data], laidTests := true, laidLooks := .later }
def BitsEndsUptoCardSaid : Prop := Claim7.holds Tryd.pinned (.plain (OpenSpec.upto bitsEndsSpec)) bitsEndsUptoCard

/-- THE SECOND FORM's CARD OF 'detentlaw9.ReadyTurns'. -/
def readyTurnsUptoCard : Claim7 := { stood := { row := readyTurnsUptoRow, standIns := [], harness := (true, "99ec69c836fc26985783110507c5df2717cab191a09633405b8c5f1387914b71"), looks := false }, kinds := [], alts := [], laidByText := true, laidKinds := [.data], laidTests := true, laidLooks := .later }
def ReadyTurnsUptoCardSaid : Prop := Claim7.holds Tryd.pinned (.plain (OpenSpec.upto readyTurnsSpec)) readyTurnsUptoCard

/-- THE SECOND FORM's CARD OF 'detentlaw9.ReadyRefuses'. -/
def readyRefusesUptoCard : Claim7 := { stood := { row := readyRefusesUptoRow, standIns := [], harness := (true, "99ec69c836fc26985783110507c5df2717cab191a09633405b8c5f1387914b71"), looks := false }, kinds := [], alts := [], laidByText := true, laidKinds := [.data], laidTests := true, laidLooks := .later }
def ReadyRefusesUptoCardSaid : Prop := Claim7.holds Tryd.pinned (.plain (OpenSpec.upto readyRefusesSpec)) readyRefusesUptoCard

/-- THE SECOND FORM's CARD OF 'detentlaw9.ReadyFirst'. -/
def readyFirstUptoCard : Claim7 := { stood := { row := readyFirstUptoRow, standIns := [], harness := (true, "99ec69c836fc26985783110507c5df2717cab191a09633405b8c5f1387914b71"), looks := false }, kinds := [], alts := [], laidByText := true, laidKinds := [.data], laidTests := true, laidLooks := .later }
def ReadyFirstUptoCardSaid : Prop := Claim7.holds Tryd.pinned (.plain (OpenSpec.upto readyFirstSpec)) readyFirstUptoCard

/-- THE SECOND FORM's CARD OF 'detentlaw9.ReadyAgain'. -/
def readyAgainUptoCard : Claim7 := { stood := { row := readyAgainUptoRow, standIns := [], harness := (true, "99ec69c836fc26985783110507c5df2717cab191a09633405b8c5f1387914b71"), looks := false }, kinds := [], alts := [], laidByText := true, laidKinds := [.data], laidTests := true, laidLooks := .later }
def ReadyAgainUptoCardSaid : Prop := Claim7.holds Tryd.pinned (.plain (OpenSpec.upto readyAgainSpec)) readyAgainUptoCard

/-- THE SECOND FORM's CARD OF 'detentlaw9.ReadyPlays'. -/
def readyPlaysUptoCard : Claim7 := { stood := { row := readyPlaysUptoRow, standIns := [], harness := (true, "99ec69c836fc26985783110507c5df2717cab191a09633405b8c5f1387914b71"), looks := false }, kinds := [], alts := [], laidByText := true, laidKinds := [.data], laidTests := true, laidLooks := .later }
def ReadyPlaysUptoCardSaid : Prop := Claim7.holds Tryd.pinned (.plain (OpenSpec.upto readyPlaysSpec)) readyPlaysUptoCard
end Rows
end Go.Proofs.YtlkpeondecnhnaaDoor
