/-
  The law TopReleases, by the symbolic machine: cases 0; 1.
-/
import Derived.Test.YtklobjegoankjaaGreatDoorTrA
namespace Go.AM
set_option maxRecDepth 100000 in
theorem run_0 : runQ F.detenttop_TopReleases [unk .u8 0] (stC [bFact 0 0 255, ⟨[(.md 0 8, 1)], some 0, some 0⟩]) = true := by kernel_rfl
set_option maxRecDepth 100000 in
theorem run_1 : runQ F.detenttop_TopReleases [unk .u8 0] (stC [bFact 0 0 255, ⟨[(.md 0 8, 1)], some 1, some 1⟩]) = true := by kernel_rfl
end Go.AM
