/-
  TopServers: WHATEVER THE INPUT: true; the input reads as it did., as the given card has it. Conditions: none beyond the statement's own.
-/
import Derived.Test.YteehkkadjjfcgaaGreatDoorRows
import Derived.Test.YteehkkadjjfcgaaGreatDoorCards
import Derived.Test.YteehkkadjjfcgaaGreatDoorTie
import Derived.WalkKit
import Derived.ProofKit
import Derived.OpenShut
import Derived.SevenTiedAt
import Derived.Test.YteehkkadjjfcgaaGreatDoorMg1
import Derived.Test.YteehkkadjjfcgaaGreatDoorMg7
import Derived.Test.YteehkkadjjfcgaaGreatDoorTopServersJf
namespace Go.Proofs.YteehkkadjjfcgaaGreatDoor.topServers
open Go.AM Go.ChangeShapes Go.WideShapes Go.ChangeAt Go.RowKit

def laid1 : List (String × DataW Unit) := Rows.topServersRow.laid

/-- The door's own heap meets the condition. -/
theorem door_met (os : Os) (args : Array Value) : laidMetH Tryz.prog laid1 ((World.doorLaid Tryz.prog 400 os).forCall (fun _ _ => 0) ⟨#[], args, []⟩).memory :=
  laidMetH_of_parts3 (fuel := 8) (laidMet_of_run' 8 (by kernel_rfl) (by kernel_rfl)) (by kernel_rfl) (by kernel_rfl)

set_option maxRecDepth 100000 in
theorem lifted (os : Os) (started : os.Started) (H : Type) (enc : TypeId × Value → H) :
    ReturnsInHanded {} Tryz.checked os 6 .any (fun w args => (Rows.topServersSpec.pre enc Tryz.prog Tryz.f6 [] false w args ∧ laidMetH Tryz.prog laid1 w) ∧ sizedMet enc Tryz.prog Tryz.f6 (OpenSpec.ofChange Rows.topServersSpec) false w args)
      (Rows.topServersSpec.post enc Tryz.prog Tryz.f6 false true false false) :=
  law_laidX (C := Tryz.checked) (tab := tab) (ext := xext) xext_ok xext_frame xext_next [.slice (.int .u8)] 4 .u8 [0, 1, 56, 2, 57, 49, 28, 3, 61, 58, 42, 50, 38, 29, 17, 4, 62, 47, 59, 36, 45, 43, 51, 22, 53, 39, 33, 30, 24, 18, 12, 5, 63, 55, 48, 27, 60, 41, 37, 16, 46, 35, 44, 21, 52, 32, 23, 11, 54, 26, 40, 15, 34, 20, 31, 10, 25, 14, 19, 9, 13, 8, 7, 6] "math/bits.deBruijn64tab" 443 5 laid1 (by kernel_rfl)
    (by kernel_rfl) (by kernel_rfl) (by kernel_rfl) (by kernel_rfl) (by kernel_rfl) (by kernel_rfl)
    (by kernel_rfl) tab_ok (by kernel_rfl) (by kernel_rfl) (by kernel_rfl) Tryz.func6 (by kernel_rfl) (by kernel_rfl) (by kernel_rfl) (by kernel_rfl) Tryz.underlying4 rfl
    (fun H ds hd => by
      match ds, hd with
      | [d0], _ => rfl)
    (fun H avs hw h0 ha => TopServers_abs H hw h0 avs ha) os started H enc
    (ChangeSpec.witness_shaped (enc := enc) (C := Tryz.checked) (os := os) (X := fun w _ => laidMetH Tryz.prog laid1 w) false (World.doorLaid Tryz.prog 400 os) #[.slice none 0 0] 8 rfl (World.shaped_of_RefB (by kernel_rfl) (by kernel_rfl)) (by kernel_rfl) (by kernel_rfl) (by kernel_rfl) (door_met os _))

theorem over : Rows.topServersRow.holds Tryz.pinned (OpenSpec.ofChange Rows.topServersSpec) :=
  OpenClaim.holds_of_wide 6 Tryz.f6 rfl rfl rfl rfl rfl rfl rfl ⟨rfl, rfl, rfl, rfl, rfl⟩ rfl rfl rfl rfl rfl (by kernel_rfl) Tryz.func6 closed
    (of_decide_eq_true (by kernel_rfl)) (by unfold Func.isWrapper; first | (rw [if_pos (by decide +kernel)]; kernel_rfl) | (rw [if_neg (by decide +kernel)]; exact ⟨rfl, rfl⟩))
    (fun os started H enc _ => lifted os started H enc)

/-- The statement: the card. -/
theorem proved : Rows.TopServersCardSaid :=
  Claim7.holds_tied_plain_at .later [] [.data] true (true, "acfa4f03b06b25bbd340a9d0ed200cf447042b4687dd7751a7d60d146079cddc") false
    over (fun _ h => by cases h) (by kernel_rfl) (fun _ h => by cases h) topServers_row_tie rfl ⟨rfl, rfl⟩ (by kernel_rfl) rfl
    (fun f fn hf hfn => by
      obtain rfl : f = 6 := Option.some.inj ((show Tryz.prog.funcNamed Rows.topServersRow.func = some 6 by kernel_rfl).symm.trans hf) |>.symm
      obtain rfl : fn = Tryz.f6 := (Option.some.inj (Tryz.func6.symm.trans hfn)).symm
      refine ⟨by kernel_rfl, fun j t ht => ?_⟩
      have hm : t ∈ Tryz.f6.params.toList := by simpa using Array.mem_of_getElem? ht
      have hall : (Tryz.f6.params.toList.all fun u => !Tryz.prog.wantsStandIn u) = true := by kernel_rfl
      exact (show Tryz.prog.wantsStandIn t = false by simpa using List.all_eq_true.1 hall t hm))
    (by kernel_rfl)
#print axioms proved
end Go.Proofs.YteehkkadjjfcgaaGreatDoor.topServers
