/-
  ReadyPlays: WHATEVER THE INPUT: true; the input reads as it did., as the given card has it. Conditions: none beyond the statement's own.
-/
import Derived.Test.YtlkpeondecnhnaaDoorRows
import Derived.Test.YtlkpeondecnhnaaDoorCards
import Derived.Test.YtlkpeondecnhnaaDoorTie
import Derived.WalkKit
import Derived.ProofKit
import Derived.OpenShut
import Derived.SevenTiedAt
import Derived.Test.YtlkpeondecnhnaaDoorAmW
import Derived.Test.YtlkpeondecnhnaaDoorRqR
namespace Go.Proofs.YtlkpeondecnhnaaDoor.readyPlays
open Go.AM Go.ChangeShapes Go.WideShapes Go.ChangeAt Go.RowKit

def laid1 : List (String × DataW Unit) := Rows.readyPlaysRow.laid

/-- The door's own heap meets the condition. -/
theorem door_met (os : Os) (args : Array Value) : laidMetH Tryd.prog laid1 ((World.doorLaid Tryd.prog 400 os).forCall (fun _ _ => 0) ⟨#[], args, []⟩).memory :=
  laidMetH_of_parts3 (fuel := 8) (laidMet_of_run' 8 (by kernel_rfl) (by kernel_rfl)) (by kernel_rfl) (by kernel_rfl)

set_option maxRecDepth 100000 in
theorem lifted (os : Os) (started : os.Started) (H : Type) (enc : TypeId × Value → H) :
    ReturnsInHanded {} Tryd.checked os 11 .any (fun w args => (Rows.readyPlaysSpec.pre enc Tryd.prog Tryd.f11 [] false w args ∧ laidMetH Tryd.prog laid1 w) ∧ sizedMet enc Tryd.prog Tryd.f11 (OpenSpec.ofChange Rows.readyPlaysSpec) false w args)
      (Rows.readyPlaysSpec.post enc Tryd.prog Tryd.f11 false true false false) :=
  law_laid (C := Tryd.checked) (tab := tab) [.slice (.pair (.int .i64) (.pair (.int .i64) (.pair (.int .i64) (.unit))))] 4 .u8 [0, 1, 56, 2, 57, 49, 28, 3, 61, 58, 42, 50, 38, 29, 17, 4, 62, 47, 59, 36, 45, 43, 51, 22, 53, 39, 33, 30, 24, 18, 12, 5, 63, 55, 48, 27, 60, 41, 37, 16, 46, 35, 44, 21, 52, 32, 23, 11, 54, 26, 40, 15, 34, 20, 31, 10, 25, 14, 19, 9, 13, 8, 7, 6] "math/bits.deBruijn64tab" 74 5 laid1 (by kernel_rfl)
    (by kernel_rfl) (by kernel_rfl) (by kernel_rfl) (by kernel_rfl) (by kernel_rfl) (by kernel_rfl)
    (by kernel_rfl) tab_ok (by kernel_rfl) (by kernel_rfl) (by kernel_rfl) Tryd.func11 (by kernel_rfl) (by kernel_rfl) (by kernel_rfl) (by kernel_rfl) Tryd.underlying4 rfl
    (fun H ds hd => by
      match ds, hd with
      | [d0], _ => rfl)
    (fun H avs hw h0 ha => ReadyPlays_abs H hw h0 avs ha) os started H enc
    (ChangeSpec.witness_shaped (enc := enc) (C := Tryd.checked) (os := os) (X := fun w _ => laidMetH Tryd.prog laid1 w) false (World.doorLaid Tryd.prog 400 os) #[.slice none 0 0] 8 rfl (World.shaped_of_RefB (by kernel_rfl) (by kernel_rfl)) (by kernel_rfl) (by kernel_rfl) (by kernel_rfl) (door_met os _))

theorem over : Rows.readyPlaysRow.holds Tryd.pinned (OpenSpec.ofChange Rows.readyPlaysSpec) :=
  OpenClaim.holds_of_wide 11 Tryd.f11 rfl rfl rfl rfl rfl rfl rfl ⟨rfl, rfl, rfl, rfl, rfl⟩ rfl rfl rfl rfl rfl (by kernel_rfl) Tryd.func11 (by kernel_rfl)
    (of_decide_eq_true (by kernel_rfl)) (by unfold Func.isWrapper; first | (rw [if_pos (by decide +kernel)]; kernel_rfl) | (rw [if_neg (by decide +kernel)]; exact ⟨rfl, rfl⟩))
    (fun os started H enc _ => lifted os started H enc)

/-- The statement: the card. -/
theorem proved : Rows.ReadyPlaysCardSaid :=
  Claim7.holds_tied_plain_at .later [] [.data] true (true, "99ec69c836fc26985783110507c5df2717cab191a09633405b8c5f1387914b71") false
    over (fun _ h => by cases h) (by kernel_rfl) (fun _ h => by cases h) readyPlays_row_tie rfl ⟨rfl, rfl⟩ (by kernel_rfl) rfl
    (fun f fn hf hfn => by
      obtain rfl : f = 11 := Option.some.inj ((show Tryd.prog.funcNamed Rows.readyPlaysRow.func = some 11 by kernel_rfl).symm.trans hf) |>.symm
      obtain rfl : fn = Tryd.f11 := (Option.some.inj (Tryd.func11.symm.trans hfn)).symm
      refine ⟨by kernel_rfl, fun j t ht => ?_⟩
      have hm : t ∈ Tryd.f11.params.toList := by simpa using Array.mem_of_getElem? ht
      have hall : (Tryd.f11.params.toList.all fun u => !Tryd.prog.wantsStandIn u) = true := by kernel_rfl
      exact (show Tryd.prog.wantsStandIn t = false by simpa using List.all_eq_true.1 hall t hm))
    (by kernel_rfl)
#print axioms proved
end Go.Proofs.YtlkpeondecnhnaaDoor.readyPlays
