/-
  The law KernelWaits, by the symbolic machine: range 1.
-/
import Derived.Test.YtineacililniiaaGreatDoorKtA
namespace Go.AM
set_option maxRecDepth 100000 in
theorem wt_0_1 : runQ F.detentlaw26_KernelWaits [unk .i64 0, unk .i64 1, .s (.s (.bool false))] (stC [bFact 0 1 100, bFact 1 1 5000, ⟨[(.v 0, 26), (.v 1, -1)], some 1, none⟩, ⟨[(.v 0, 14), (.v 1, -1)], none, some 0⟩]) = true := by kernel_rfl
set_option maxRecDepth 100000 in
theorem wt_1_1 : runQ F.detentlaw26_KernelWaits [unk .i64 0, unk .i64 1, .s (.s (.bool true))] (stC [bFact 0 1 100, bFact 1 1 5000, ⟨[(.v 0, 26), (.v 1, -1)], some 1, none⟩, ⟨[(.v 0, 14), (.v 1, -1)], none, some 0⟩]) = true := by kernel_rfl
end Go.AM
