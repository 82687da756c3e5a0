/-
  The law KernelCeils, by the symbolic machine: cases 0; 1; 2; 3.
-/
import Derived.Test.YtineacililniiaaGreatDoorKtA
namespace Go.AM
set_option maxRecDepth 100000 in
theorem run_0 : runQ F.detentlaw26_KernelCeils [unk .u8 0] (stC [bFact 0 0 255, ⟨[(.md 0 16, 1)], some 0, some 0⟩]) = true := by kernel_rfl
set_option maxRecDepth 100000 in
theorem run_1 : runQ F.detentlaw26_KernelCeils [unk .u8 0] (stC [bFact 0 0 255, ⟨[(.md 0 16, 1)], some 1, some 1⟩]) = true := by kernel_rfl
set_option maxRecDepth 100000 in
theorem run_2 : runQ F.detentlaw26_KernelCeils [unk .u8 0] (stC [bFact 0 0 255, ⟨[(.md 0 16, 1)], some 2, some 2⟩]) = true := by kernel_rfl
set_option maxRecDepth 100000 in
theorem run_3 : runQ F.detentlaw26_KernelCeils [unk .u8 0] (stC [bFact 0 0 255, ⟨[(.md 0 16, 1)], some 3, some 3⟩]) = true := by kernel_rfl
end Go.AM
