/-
  The law KernelCeils, by the symbolic machine: cases 4; 5; 6; 7.
-/
import Derived.Test.YtineacililniiaaGreatDoorKtA
namespace Go.AM
set_option maxRecDepth 100000 in
theorem run_4 : runQ F.detentlaw26_KernelCeils [unk .u8 0] (stC [bFact 0 0 255, ⟨[(.md 0 16, 1)], some 4, some 4⟩]) = true := by kernel_rfl
set_option maxRecDepth 100000 in
theorem run_5 : runQ F.detentlaw26_KernelCeils [unk .u8 0] (stC [bFact 0 0 255, ⟨[(.md 0 16, 1)], some 5, some 5⟩]) = true := by kernel_rfl
set_option maxRecDepth 100000 in
theorem run_6 : runQ F.detentlaw26_KernelCeils [unk .u8 0] (stC [bFact 0 0 255, ⟨[(.md 0 16, 1)], some 6, some 6⟩]) = true := by kernel_rfl
set_option maxRecDepth 100000 in
theorem run_7 : runQ F.detentlaw26_KernelCeils [unk .u8 0] (stC [bFact 0 0 255, ⟨[(.md 0 16, 1)], some 7, some 7⟩]) = true := by kernel_rfl
end Go.AM
