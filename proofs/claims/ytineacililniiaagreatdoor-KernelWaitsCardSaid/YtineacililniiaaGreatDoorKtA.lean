/-
  The law KernelStates: what it asks first, looked at once.
-/
import Derived.Test.YtineacililniiaaGreatDoorSxF
namespace Go.AM
def hK : Tr XBlk := .n (some (.cells true tzX)) .e .e

set_option maxRecDepth 100000 in
theorem knownK : runX tab 100 F.detentlaw26_known [] ⟨hK, 4, [], 0, 0⟩ (known1 hK 4 5579) = true := by kernel_rfl

noncomputable def runQ (f : Nat) (args : List XAV) (st : XS) : Bool := match tab f with
  | none => false
  | some rf => runFn (callN tab F.detentlaw26_known hK 4 5579 100) 100 rf args st isTrue

theorem runQ_law {f : Nat} {xs : List XAV} {st : XS} (h : runQ f xs st = true) {ρ : Nat → Int} {H : AH} (hR : XRel ρ st H) : CallP tab noExt f (xs.map (XAV.ev ρ)) H fun v _ => v = .s (.bool true) := by
  unfold runQ at h
  split at h
  · cases h
  · rename_i rf hf
    refine runFn_ok (callN_ok knownK (by kernel_rfl)) hf h hR fun xv st' H' h1 _ => ?_
    unfold isTrue at h1
    split at h1
    · subst h1; rfl
    · cases h1
end Go.AM
