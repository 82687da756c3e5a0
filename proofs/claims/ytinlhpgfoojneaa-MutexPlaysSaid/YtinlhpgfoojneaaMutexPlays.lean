/-
  MutexPlays: WHATEVER THE INPUT: true; the input reads as it did., as the given row has it. Conditions: none beyond the statement's own.
-/
import Derived.Test.YtinlhpgfoojneaaRows
import Derived.WalkKit
import Derived.ProofKit
import Derived.OpenShut
import Derived.Test.YtinlhpgfoojneaaMg4
namespace Go.Proofs.Ytinlhpgfoojneaa.mutexPlays
open Go.AM Go.ChangeShapes Go.WideShapes Go.ChangeAt Go.RowKit

set_option maxRecDepth 100000 in
theorem lifted (os : Os) (started : os.Started) (H : Type) (enc : TypeId × Value → H) :
    ReturnsInHanded {} Try.checked os 9 .any (Rows.mutexPlaysSpec.pre6 enc Try.prog Try.f9 Rows.mutexPlaysRow.domain false) (Rows.mutexPlaysSpec.post enc Try.prog Try.f9 false true false false) :=
  law_liftedX (C := Try.checked) (tab := tab) (ext := mext) mext_ok mext_frame mext_next [.slice (.pair (.int .i64) (.pair (.int .i64) (.unit))), .slice (.pair (.int .i64) (.pair (.int .i64) (.pair (.int .i64) (.pair (.int .i64) (.unit)))))] 2 4 (by kernel_rfl) tab_ok (by kernel_rfl) (by kernel_rfl) (by kernel_rfl) Try.func9 (by kernel_rfl) (by kernel_rfl) (by kernel_rfl) (by kernel_rfl) (by kernel_rfl) Try.underlying4 rfl
    (fun H ds hd => by
      match ds, hd with
      | [d0, d1], _ => rfl)
    (fun H avs hw hn ha => MutexPlays_abs H hw hn avs ha) os started H enc
    (ChangeSpec.witness6 (enc := enc) (C := Try.checked) false ⟨#[], #[.slice none 0 0, .slice none 0 0], []⟩ 8 (by kernel_rfl) (by kernel_rfl) (by kernel_rfl) (by kernel_rfl))

theorem over : Rows.mutexPlaysRow.holds Try.pinned (OpenSpec.ofChange Rows.mutexPlaysSpec) :=
  OpenClaim.holds_of_wide 9 Try.f9 rfl rfl rfl rfl rfl rfl rfl ⟨rfl, rfl, rfl, rfl, rfl⟩ rfl rfl rfl rfl rfl (by kernel_rfl) Try.func9 (by kernel_rfl)
    (of_decide_eq_true (by kernel_rfl)) (by unfold Func.isWrapper; first | (rw [if_pos (by decide +kernel)]; kernel_rfl) | (rw [if_neg (by decide +kernel)]; exact ⟨rfl, rfl⟩))
    (fun os started H enc _ => lifted os started H enc)

/-- The statement. -/
theorem proved : Rows.MutexPlaysSaid :=
  over
#print axioms proved
end Go.Proofs.Ytinlhpgfoojneaa.mutexPlays
