/-
  The law MutexOwns, by the symbolic machine: kind 1.
-/
import Derived.Test.YtinlhpgfoojneaaMrA
namespace Go.AM
set_option maxRecDepth 100000 in
theorem owns_1_1 : runX tab 60 F.detentlaw15_MutexOwns [unk .i64 0, unk .i64 1, unk .i64 2] ⟨.e, 0, [bFact 0 1 1, bFact 1 1 4, bFact 2 1 16]⟩ isTrue = true := by kernel_rfl
set_option maxRecDepth 100000 in
theorem owns_1_5 : runX tab 60 F.detentlaw15_MutexOwns [unk .i64 0, unk .i64 1, unk .i64 2] ⟨.e, 0, [bFact 0 1 1, bFact 1 5 8, bFact 2 1 16]⟩ isTrue = true := by kernel_rfl
set_option maxRecDepth 100000 in
theorem owns_1_9 : runX tab 60 F.detentlaw15_MutexOwns [unk .i64 0, unk .i64 1, unk .i64 2] ⟨.e, 0, [bFact 0 1 1, bFact 1 9 12, bFact 2 1 16]⟩ isTrue = true := by kernel_rfl
set_option maxRecDepth 100000 in
theorem owns_1_13 : runX tab 60 F.detentlaw15_MutexOwns [unk .i64 0, unk .i64 1, unk .i64 2] ⟨.e, 0, [bFact 0 1 1, bFact 1 13 16, bFact 2 1 16]⟩ isTrue = true := by kernel_rfl
end Go.AM
