/-
  MutexFrees: WHATEVER THE INPUT: true; the input reads as it did., as the given row has it. Conditions: none beyond the statement's own.
-/
import Derived.Test.YtinlhpgfoojneaaRows
import Derived.WalkKit
import Derived.ProofKit
import Derived.OpenShut
import Derived.Test.YtinlhpgfoojneaaMg4
namespace Go.Proofs.Ytinlhpgfoojneaa.mutexFrees
open Go.AM Go.ChangeShapes Go.WideShapes Go.ChangeAt Go.RowKit

set_option maxRecDepth 100000 in
theorem lifted (os : Os) (started : os.Started) (H : Type) (enc : TypeId × Value → H) :
    ReturnsInHanded {} Try.checked os 8 .any (Rows.mutexFreesSpec.pre6 enc Try.prog Try.f8 Rows.mutexFreesRow.domain false) (Rows.mutexFreesSpec.post enc Try.prog Try.f8 false true false false) :=
  law_liftedX (C := Try.checked) (tab := tab) (ext := mext) mext_ok mext_frame mext_next [.slice (.bool)] 1 4 (by kernel_rfl) tab_ok (by kernel_rfl) (by kernel_rfl) (by kernel_rfl) Try.func8 (by kernel_rfl) (by kernel_rfl) (by kernel_rfl) (by kernel_rfl) (by kernel_rfl) Try.underlying4 rfl
    (fun H ds hd => by
      match ds, hd with
      | [d0], _ => rfl)
    (fun H avs hw hn ha => MutexFrees_abs H hw hn avs ha) os started H enc
    (ChangeSpec.witness6 (enc := enc) (C := Try.checked) false ⟨#[], #[.slice none 0 0], []⟩ 8 (by kernel_rfl) (by kernel_rfl) (by kernel_rfl) (by kernel_rfl))

theorem over : Rows.mutexFreesRow.holds Try.pinned (OpenSpec.ofChange Rows.mutexFreesSpec) :=
  OpenClaim.holds_of_wide 8 Try.f8 rfl rfl rfl rfl rfl rfl rfl ⟨rfl, rfl, rfl, rfl, rfl⟩ rfl rfl rfl rfl rfl (by kernel_rfl) Try.func8 (by kernel_rfl)
    (of_decide_eq_true (by kernel_rfl)) (by unfold Func.isWrapper; first | (rw [if_pos (by decide +kernel)]; kernel_rfl) | (rw [if_neg (by decide +kernel)]; exact ⟨rfl, rfl⟩))
    (fun os started H enc _ => lifted os started H enc)

/-- The statement. -/
theorem proved : Rows.MutexFreesSaid :=
  over
#print axioms proved
end Go.Proofs.Ytinlhpgfoojneaa.mutexFrees
