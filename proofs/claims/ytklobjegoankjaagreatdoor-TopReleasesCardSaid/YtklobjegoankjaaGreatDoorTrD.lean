/-
  The law TopReleases, by the symbolic machine: cases 4; 5.
-/
import Derived.Test.YtklobjegoankjaaGreatDoorTrA
namespace Go.AM
set_option maxRecDepth 100000 in
theorem run_4 : runQ F.detenttop_TopReleases [unk .u8 0] (stC [bFact 0 0 255, ⟨[(.md 0 8, 1)], some 4, some 4⟩]) = true := by kernel_rfl
set_option maxRecDepth 100000 in
theorem run_5 : runQ F.detenttop_TopReleases [unk .u8 0] (stC [bFact 0 0 255, ⟨[(.md 0 8, 1)], some 5, some 5⟩]) = true := by kernel_rfl
end Go.AM
