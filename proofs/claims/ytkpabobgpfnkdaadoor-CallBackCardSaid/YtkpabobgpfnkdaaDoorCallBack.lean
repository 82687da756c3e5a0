/-
  CallBack: WHATEVER THE INPUT: true; the input reads as it did., as the given card has it. Conditions: none beyond the statement's own.
-/
import Derived.Test.YtkpabobgpfnkdaaDoorRows
import Derived.Test.YtkpabobgpfnkdaaDoorCards
import Derived.Test.YtkpabobgpfnkdaaDoorTie
import Derived.WalkKit
import Derived.ProofKit
import Derived.OpenShut
import Derived.Lay
import Derived.SevenTiedAt
import Derived.Test.YtkpabobgpfnkdaaDoorMg1
import Derived.Test.YtkpabobgpfnkdaaDoorMg2
import Derived.Test.YtkpabobgpfnkdaaDoorMg3
namespace Go.Proofs.YtkpabobgpfnkdaaDoor.callBack
open Go.AM Go.ChangeShapes Go.WideShapes Go.ChangeAt Go.RowKit

def laid1 : List (String × DataW Unit) := Rows.callBackRow.laid

/-- A heap with these variables meets the condition. -/
theorem door_met (os : Os) (args : Array Value) : laidMetH Tryd.prog laid1 ((World.laidAll Tryd.prog os laid1).forCall (fun _ _ => 0) ⟨#[], args, []⟩).memory :=
  by
  rw [MakeChecks.laidMetH_plain _ _ _ (by kernel_rfl)]; exact laidMet_laidAll _ (by kernel_rfl) (by kernel_rfl)

set_option maxRecDepth 100000 in
theorem lifted (os : Os) (started : os.Started) (H : Type) (enc : TypeId × Value → H) :
    ReturnsInHanded {} Tryd.checked os 6 .any (fun w args => (Rows.callBackSpec.pre enc Tryd.prog Tryd.f6 [] false w args ∧ laidMetH Tryd.prog laid1 w) ∧ sizedMet enc Tryd.prog Tryd.f6 (OpenSpec.ofChange Rows.callBackSpec) false w args)
      (Rows.callBackSpec.post enc Tryd.prog Tryd.f6 false true false false) :=
  law_laidS (C := Tryd.checked) (tab := tab) (ext := sext) laid1 (fun W hL hs => sext_at W hL hs) sext_frame sext_next [.int .i64, .arr 4 (.int .i64)] 0 4 (by kernel_rfl) tab_ok (by kernel_rfl) (by kernel_rfl) (by kernel_rfl) Tryd.func6 (by kernel_rfl) (by kernel_rfl) (by kernel_rfl) (by kernel_rfl) (by kernel_rfl) Tryd.underlying4 rfl
    (fun H ds hd => by
      match ds, hd with
      | [d0, d1], _ => rfl)
    (fun H avs hw _ ha => CallBack_abs H hw avs ha) os started H enc
    (ChangeSpec.witness_shaped (enc := enc) (C := Tryd.checked) (os := os) (X := fun w _ => laidMetH Tryd.prog laid1 w) false (World.laidAll Tryd.prog os laid1) #[.int .i64 0, .agg #[.int .i64 0, .int .i64 0, .int .i64 0, .int .i64 0]] 8 (World.laidAll_os _ _ _) (World.shaped_of_ZipB (by kernel_rfl) (by kernel_rfl)) (by kernel_rfl) (by kernel_rfl) (by kernel_rfl) (door_met os _))

theorem over : Rows.callBackRow.holds Tryd.pinned (OpenSpec.ofChange Rows.callBackSpec) :=
  OpenClaim.holds_of_wide 6 Tryd.f6 rfl rfl rfl rfl rfl rfl rfl ⟨rfl, rfl, rfl, rfl, rfl⟩ rfl rfl rfl rfl rfl (by kernel_rfl) Tryd.func6 (by kernel_rfl)
    (of_decide_eq_true (by kernel_rfl)) (by unfold Func.isWrapper; first | (rw [if_pos (by decide +kernel)]; kernel_rfl) | (rw [if_neg (by decide +kernel)]; exact ⟨rfl, rfl⟩))
    (fun os started H enc _ => lifted os started H enc)

/-- The statement: the card. -/
theorem proved : Rows.CallBackCardSaid :=
  Claim7.holds_tied_plain_at .later [] [.data, .data, .data, .data, .sentinel, .sentinel, .pinned] true (true, "b8ebc62cb5852ffca0b3144cc3daee5e88ceec92c2b3fe0af9ac7d214e5d5bd5") true
    over (fun _ h => by cases h) (by kernel_rfl) (fun _ h => by cases h) callBack_row_tie rfl ⟨rfl, rfl⟩ (by kernel_rfl) rfl
    (fun f fn hf hfn => by
      obtain rfl : f = 6 := Option.some.inj ((show Tryd.prog.funcNamed Rows.callBackRow.func = some 6 by kernel_rfl).symm.trans hf) |>.symm
      obtain rfl : fn = Tryd.f6 := (Option.some.inj (Tryd.func6.symm.trans hfn)).symm
      refine ⟨by kernel_rfl, fun j t ht => ?_⟩
      have hm : t ∈ Tryd.f6.params.toList := by simpa using Array.mem_of_getElem? ht
      have hall : (Tryd.f6.params.toList.all fun u => !Tryd.prog.wantsStandIn u) = true := by kernel_rfl
      exact (show Tryd.prog.wantsStandIn t = false by simpa using List.all_eq_true.1 hall t hm))
    (by kernel_rfl)
#print axioms proved
end Go.Proofs.YtkpabobgpfnkdaaDoor.callBack
