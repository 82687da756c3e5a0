/-
  HandPlays: WHATEVER THE INPUT: true; the input reads as it did., as the given row has it. Conditions: none beyond the statement's own.
-/
import Derived.Test.YtbihokcagceoaaaRows
import Derived.WalkKit
import Derived.ProofKit
import Derived.OpenShut
import Derived.Test.YtbihokcagceoaaaMg6
namespace Go.Proofs.Ytbihokcagceoaaa.handPlays
open Go.AM Go.ChangeShapes Go.WideShapes Go.ChangeAt Go.RowKit

set_option maxRecDepth 100000 in
theorem lifted (os : Os) (started : os.Started) (H : Type) (enc : TypeId × Value → H) :
    ReturnsInHanded {} Try.checked os 8 .any (Rows.handPlaysSpec.pre6 enc Try.prog Try.f8 Rows.handPlaysRow.domain false) (Rows.handPlaysSpec.post enc Try.prog Try.f8 false true false false) :=
  law_lifted (C := Try.checked) (tab := tab) [.int .i64, .slice (.pair (.int .i64) (.pair (.int .i64) (.pair (.int .i64) (.pair (.int .i64) (.pair (.bool) (.pair (.bool) (.unit)))))))] 1 4 (by kernel_rfl) tab_ok (by kernel_rfl) (by kernel_rfl) (by kernel_rfl) Try.func8 (by kernel_rfl) (by kernel_rfl) (by kernel_rfl) (by kernel_rfl) (by kernel_rfl) Try.underlying4 rfl
    (fun H ds hd => by
      match ds, hd with
      | [d0, d1], _ => rfl)
    (fun H avs hw hn ha => HandPlays_abs H hw hn avs ha) os started H enc
    (ChangeSpec.witness6 (enc := enc) (C := Try.checked) false ⟨#[], #[.int .i64 0, .slice none 0 0], []⟩ 8 (by kernel_rfl) (by kernel_rfl) (by kernel_rfl) (by kernel_rfl))

theorem over : Rows.handPlaysRow.holds Try.pinned (OpenSpec.ofChange Rows.handPlaysSpec) :=
  OpenClaim.holds_of_wide 8 Try.f8 rfl rfl rfl rfl rfl rfl rfl ⟨rfl, rfl, rfl, rfl, rfl⟩ rfl rfl rfl rfl rfl (by kernel_rfl) Try.func8 (by kernel_rfl)
    (of_decide_eq_true (by kernel_rfl)) (by unfold Func.isWrapper; first | (rw [if_pos (by decide +kernel)]; kernel_rfl) | (rw [if_neg (by decide +kernel)]; exact ⟨rfl, rfl⟩))
    (fun os started H enc _ => lifted os started H enc)

/-- The statement. -/
theorem proved : Rows.HandPlaysSaid :=
  over
#print axioms proved
end Go.Proofs.Ytbihokcagceoaaa.handPlays
