/-
  The law KernelStates, by the symbolic machine: case 0.
-/
import Derived.Test.YtineacililniiaaGreatDoorKtA
namespace Go.AM
set_option maxRecDepth 100000 in
theorem run_0 : runQ F.detentlaw26_KernelStates [unk .u8 0] (stC [bFact 0 0 255, ⟨[(.md 0 7, 1)], some 0, some 0⟩]) = true := by kernel_rfl
end Go.AM
