/-
  The law TopReleases, by the symbolic machine: cases 6; 7.
-/
import Derived.Test.YtklobjegoankjaaGreatDoorTrA
namespace Go.AM
set_option maxRecDepth 100000 in
theorem run_6 : runQ F.detenttop_TopReleases [unk .u8 0] (stC [bFact 0 0 255, ⟨[(.md 0 8, 1)], some 6, some 6⟩]) = true := by kernel_rfl
set_option maxRecDepth 100000 in
theorem run_7 : runQ F.detenttop_TopReleases [unk .u8 0] (stC [bFact 0 0 255, ⟨[(.md 0 8, 1)], some 7, some 7⟩]) = true := by kernel_rfl
end Go.AM
