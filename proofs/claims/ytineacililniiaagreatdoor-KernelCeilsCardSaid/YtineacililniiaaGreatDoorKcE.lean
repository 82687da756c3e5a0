/-
  The law KernelCeils, by the symbolic machine: cases 12; 13; 14; 15.
-/
import Derived.Test.YtineacililniiaaGreatDoorKtA
namespace Go.AM
set_option maxRecDepth 100000 in
theorem run_12 : runQ F.detentlaw26_KernelCeils [unk .u8 0] (stC [bFact 0 0 255, ⟨[(.md 0 16, 1)], some 12, some 12⟩]) = true := by kernel_rfl
set_option maxRecDepth 100000 in
theorem run_13 : runQ F.detentlaw26_KernelCeils [unk .u8 0] (stC [bFact 0 0 255, ⟨[(.md 0 16, 1)], some 13, some 13⟩]) = true := by kernel_rfl
set_option maxRecDepth 100000 in
theorem run_14 : runQ F.detentlaw26_KernelCeils [unk .u8 0] (stC [bFact 0 0 255, ⟨[(.md 0 16, 1)], some 14, some 14⟩]) = true := by kernel_rfl
set_option maxRecDepth 100000 in
theorem run_15 : runQ F.detentlaw26_KernelCeils [unk .u8 0] (stC [bFact 0 0 255, ⟨[(.md 0 16, 1)], some 15, some 15⟩]) = true := by kernel_rfl
end Go.AM
