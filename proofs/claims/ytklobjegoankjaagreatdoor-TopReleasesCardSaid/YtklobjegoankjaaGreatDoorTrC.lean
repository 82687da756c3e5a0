/-
  The law TopReleases, by the symbolic machine: cases 2; 3.
-/
import Derived.Test.YtklobjegoankjaaGreatDoorTrA
namespace Go.AM
set_option maxRecDepth 100000 in
theorem run_2 : runQ F.detenttop_TopReleases [unk .u8 0] (stC [bFact 0 0 255, ⟨[(.md 0 8, 1)], some 2, some 2⟩]) = true := by kernel_rfl
set_option maxRecDepth 100000 in
theorem run_3 : runQ F.detenttop_TopReleases [unk .u8 0] (stC [bFact 0 0 255, ⟨[(.md 0 8, 1)], some 3, some 3⟩]) = true := by kernel_rfl
end Go.AM
