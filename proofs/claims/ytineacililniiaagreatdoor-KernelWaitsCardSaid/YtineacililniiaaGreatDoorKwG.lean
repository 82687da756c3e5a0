/-
  The law KernelWaits, by the symbolic machine: the guards.
-/
import Derived.Test.YtineacililniiaaGreatDoorKtA
namespace Go.AM
set_option maxRecDepth 100000 in
theorem wt_g0_0 : runQ F.detentlaw26_KernelWaits [unk .i64 0, unk .i64 1, .s (.s (.bool false))] (stC [bFact 0 (-9223372036854775808) 0, bFact 1 (-9223372036854775808) 9223372036854775807]) = true := by kernel_rfl
set_option maxRecDepth 100000 in
theorem wt_g0_1 : runQ F.detentlaw26_KernelWaits [unk .i64 0, unk .i64 1, .s (.s (.bool true))] (stC [bFact 0 (-9223372036854775808) 0, bFact 1 (-9223372036854775808) 9223372036854775807]) = true := by kernel_rfl
set_option maxRecDepth 100000 in
theorem wt_g1_0 : runQ F.detentlaw26_KernelWaits [unk .i64 0, unk .i64 1, .s (.s (.bool false))] (stC [bFact 0 101 9223372036854775807, bFact 1 (-9223372036854775808) 9223372036854775807]) = true := by kernel_rfl
set_option maxRecDepth 100000 in
theorem wt_g1_1 : runQ F.detentlaw26_KernelWaits [unk .i64 0, unk .i64 1, .s (.s (.bool true))] (stC [bFact 0 101 9223372036854775807, bFact 1 (-9223372036854775808) 9223372036854775807]) = true := by kernel_rfl
set_option maxRecDepth 100000 in
theorem wt_g2_0 : runQ F.detentlaw26_KernelWaits [unk .i64 0, unk .i64 1, .s (.s (.bool false))] (stC [bFact 0 1 100, bFact 1 (-9223372036854775808) 0]) = true := by kernel_rfl
set_option maxRecDepth 100000 in
theorem wt_g2_1 : runQ F.detentlaw26_KernelWaits [unk .i64 0, unk .i64 1, .s (.s (.bool true))] (stC [bFact 0 1 100, bFact 1 (-9223372036854775808) 0]) = true := by kernel_rfl
set_option maxRecDepth 100000 in
theorem wt_g3_0 : runQ F.detentlaw26_KernelWaits [unk .i64 0, unk .i64 1, .s (.s (.bool false))] (stC [bFact 0 1 100, bFact 1 5001 9223372036854775807]) = true := by kernel_rfl
set_option maxRecDepth 100000 in
theorem wt_g3_1 : runQ F.detentlaw26_KernelWaits [unk .i64 0, unk .i64 1, .s (.s (.bool true))] (stC [bFact 0 1 100, bFact 1 5001 9223372036854775807]) = true := by kernel_rfl
end Go.AM
