/-
  The law KernelCeils, by the symbolic machine: cases 8; 9; 10; 11.
-/
import Derived.Test.YtineacililniiaaGreatDoorKtA
namespace Go.AM
set_option maxRecDepth 100000 in
theorem run_8 : runQ F.detentlaw26_KernelCeils [unk .u8 0] (stC [bFact 0 0 255, ⟨[(.md 0 16, 1)], some 8, some 8⟩]) = true := by kernel_rfl
set_option maxRecDepth 100000 in
theorem run_9 : runQ F.detentlaw26_KernelCeils [unk .u8 0] (stC [bFact 0 0 255, ⟨[(.md 0 16, 1)], some 9, some 9⟩]) = true := by kernel_rfl
set_option maxRecDepth 100000 in
theorem run_10 : runQ F.detentlaw26_KernelCeils [unk .u8 0] (stC [bFact 0 0 255, ⟨[(.md 0 16, 1)], some 10, some 10⟩]) = true := by kernel_rfl
set_option maxRecDepth 100000 in
theorem run_11 : runQ F.detentlaw26_KernelCeils [unk .u8 0] (stC [bFact 0 0 255, ⟨[(.md 0 16, 1)], some 11, some 11⟩]) = true := by kernel_rfl
end Go.AM
