/-
  HandAlarms: WHATEVER THE INPUT: true; the input reads as it did., as the given row has it. Conditions: none beyond the statement's own.
-/
import Derived.Test.YtbihokcagceoaaaRows
import Derived.WalkKit
import Derived.ProofKit
import Derived.OpenShut
import Derived.Test.YtbihokcagceoaaaHbD
namespace Go.Proofs.Ytbihokcagceoaaa.handAlarms
open Go.AM Go.ChangeShapes Go.WideShapes Go.ChangeAt Go.RowKit

set_option maxRecDepth 100000 in
theorem lifted (os : Os) (started : os.Started) (H : Type) (enc : TypeId × Value → H) :
    ReturnsInHanded {} Try.checked os 6 .any (Rows.handAlarmsSpec.pre6 enc Try.prog Try.f6 Rows.handAlarmsRow.domain false) (Rows.handAlarmsSpec.post enc Try.prog Try.f6 false true false false) :=
  law_lifted (C := Try.checked) (tab := tab) [.int .i64, .int .i64, .int .i64, .bool, .bool] 0 4 (by kernel_rfl) tab_ok (by kernel_rfl) (by kernel_rfl) (by kernel_rfl) Try.func6 (by kernel_rfl) (by kernel_rfl) (by kernel_rfl) (by kernel_rfl) (by kernel_rfl) Try.underlying4 rfl
    (fun H ds hd => by
      match ds, hd with
      | [d0, d1, d2, d3, d4], _ => rfl)
    (fun H avs hw hn ha => HandAlarms_abs H hw hn avs ha) os started H enc
    (ChangeSpec.witness6 (enc := enc) (C := Try.checked) false ⟨#[], #[.int .i64 0, .int .i64 0, .int .i64 0, .bool false, .bool false], []⟩ 8 (by kernel_rfl) (by kernel_rfl) (by kernel_rfl) (by kernel_rfl))

theorem over : Rows.handAlarmsRow.holds Try.pinned (OpenSpec.ofChange Rows.handAlarmsSpec) :=
  OpenClaim.holds_of_wide 6 Try.f6 rfl rfl rfl rfl rfl rfl rfl ⟨rfl, rfl, rfl, rfl, rfl⟩ rfl rfl rfl rfl rfl (by kernel_rfl) Try.func6 (by kernel_rfl)
    (of_decide_eq_true (by kernel_rfl)) (by unfold Func.isWrapper; first | (rw [if_pos (by decide +kernel)]; kernel_rfl) | (rw [if_neg (by decide +kernel)]; exact ⟨rfl, rfl⟩))
    (fun os started H enc _ => lifted os started H enc)

/-- The statement. -/
theorem proved : Rows.HandAlarmsSaid :=
  over
#print axioms proved
end Go.Proofs.Ytbihokcagceoaaa.handAlarms
