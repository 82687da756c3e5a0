/-
  The law KernelGives, by the symbolic machine: case 2.
-/
import Derived.Test.YtineacililniiaaGreatDoorKtA
namespace Go.AM
set_option maxRecDepth 100000 in
theorem run_2 : runQ F.detentlaw26_KernelGives [unk .u8 0, unk .u8 1] (stC [bFact 0 0 255, bFact 1 0 255, ⟨[(.md 0 3, 1)], some 2, some 2⟩]) = true := by kernel_rfl
end Go.AM
