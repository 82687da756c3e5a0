/-
  The law MutexOwns, by the symbolic machine: kind 0.
-/
import Derived.Test.YtinlhpgfoojneaaMrA
namespace Go.AM
set_option maxRecDepth 100000 in
theorem owns_g1 : runX tab 60 F.detentlaw15_MutexOwns [unk .i64 0, unk .i64 1, unk .i64 2] ⟨.e, 0, [bFact 0 (-9223372036854775808) (-1), bFact 1 (-9223372036854775808) 9223372036854775807, bFact 2 (-9223372036854775808) 9223372036854775807]⟩ isTrue = true := by kernel_rfl
set_option maxRecDepth 100000 in
theorem owns_g2 : runX tab 60 F.detentlaw15_MutexOwns [unk .i64 0, unk .i64 1, unk .i64 2] ⟨.e, 0, [bFact 0 3 9223372036854775807, bFact 1 (-9223372036854775808) 9223372036854775807, bFact 2 (-9223372036854775808) 9223372036854775807]⟩ isTrue = true := by kernel_rfl
set_option maxRecDepth 100000 in
theorem owns_g3 : runX tab 60 F.detentlaw15_MutexOwns [unk .i64 0, unk .i64 1, unk .i64 2] ⟨.e, 0, [bFact 0 0 2, bFact 1 (-9223372036854775808) 0, bFact 2 (-9223372036854775808) 9223372036854775807]⟩ isTrue = true := by kernel_rfl
set_option maxRecDepth 100000 in
theorem owns_g4 : runX tab 60 F.detentlaw15_MutexOwns [unk .i64 0, unk .i64 1, unk .i64 2] ⟨.e, 0, [bFact 0 0 2, bFact 1 17 9223372036854775807, bFact 2 (-9223372036854775808) 9223372036854775807]⟩ isTrue = true := by kernel_rfl
set_option maxRecDepth 100000 in
theorem owns_g5 : runX tab 60 F.detentlaw15_MutexOwns [unk .i64 0, unk .i64 1, unk .i64 2] ⟨.e, 0, [bFact 0 0 2, bFact 1 1 16, bFact 2 (-9223372036854775808) 0]⟩ isTrue = true := by kernel_rfl
set_option maxRecDepth 100000 in
theorem owns_g6 : runX tab 60 F.detentlaw15_MutexOwns [unk .i64 0, unk .i64 1, unk .i64 2] ⟨.e, 0, [bFact 0 0 2, bFact 1 1 16, bFact 2 17 9223372036854775807]⟩ isTrue = true := by kernel_rfl
set_option maxRecDepth 100000 in
theorem owns_0_1 : runX tab 60 F.detentlaw15_MutexOwns [unk .i64 0, unk .i64 1, unk .i64 2] ⟨.e, 0, [bFact 0 0 0, bFact 1 1 4, bFact 2 1 16]⟩ isTrue = true := by kernel_rfl
set_option maxRecDepth 100000 in
theorem owns_0_5 : runX tab 60 F.detentlaw15_MutexOwns [unk .i64 0, unk .i64 1, unk .i64 2] ⟨.e, 0, [bFact 0 0 0, bFact 1 5 8, bFact 2 1 16]⟩ isTrue = true := by kernel_rfl
set_option maxRecDepth 100000 in
theorem owns_0_9 : runX tab 60 F.detentlaw15_MutexOwns [unk .i64 0, unk .i64 1, unk .i64 2] ⟨.e, 0, [bFact 0 0 0, bFact 1 9 12, bFact 2 1 16]⟩ isTrue = true := by kernel_rfl
set_option maxRecDepth 100000 in
theorem owns_0_13 : runX tab 60 F.detentlaw15_MutexOwns [unk .i64 0, unk .i64 1, unk .i64 2] ⟨.e, 0, [bFact 0 0 0, bFact 1 13 16, bFact 2 1 16]⟩ isTrue = true := by kernel_rfl
end Go.AM
