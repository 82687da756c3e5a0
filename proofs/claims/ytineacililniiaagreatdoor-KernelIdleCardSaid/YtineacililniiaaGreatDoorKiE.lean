/-
  The law KernelIdle, by the symbolic machine: 61 to 62.
-/
import Derived.Test.YtineacililniiaaGreatDoorKiA
namespace Go.AM
set_option maxRecDepth 100000 in
theorem idle_3 : runQ F.detentlaw26_KernelIdle [unk .i64 0, .agg [.y .i64 ⟨0, [(.v 1, 1)]⟩, .y .i64 ⟨0, [(.v 2, 1)]⟩, .y .i64 ⟨0, [(.v 3, 1)]⟩, .y .i64 ⟨0, [(.v 4, 1)]⟩]] (stC [bFact 0 61 62, kFact 1 .i64, kFact 2 .i64, kFact 3 .i64, kFact 4 .i64]) = true := by kernel_rfl
end Go.AM
