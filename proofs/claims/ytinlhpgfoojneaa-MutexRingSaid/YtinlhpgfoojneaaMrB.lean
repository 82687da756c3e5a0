/-
  The law MutexRing, by the symbolic machine: rings of kind 1.
-/
import Derived.Test.YtinlhpgfoojneaaSxE
import Derived.Test.YtinlhpgfoojneaaTab
namespace Go.AM
set_option maxRecDepth 100000 in
theorem ring_1_2 : runX tab 60 F.detentlaw15_MutexRing [.s (.s (.int .i64 1)), .s (.s (.int .i64 2))] ⟨.e, 0, []⟩ isTrue = true := by kernel_rfl
set_option maxRecDepth 100000 in
theorem ring_1_3 : runX tab 60 F.detentlaw15_MutexRing [.s (.s (.int .i64 1)), .s (.s (.int .i64 3))] ⟨.e, 0, []⟩ isTrue = true := by kernel_rfl
set_option maxRecDepth 100000 in
theorem ring_1_4 : runX tab 60 F.detentlaw15_MutexRing [.s (.s (.int .i64 1)), .s (.s (.int .i64 4))] ⟨.e, 0, []⟩ isTrue = true := by kernel_rfl
set_option maxRecDepth 100000 in
theorem ring_1_5 : runX tab 60 F.detentlaw15_MutexRing [.s (.s (.int .i64 1)), .s (.s (.int .i64 5))] ⟨.e, 0, []⟩ isTrue = true := by kernel_rfl
set_option maxRecDepth 100000 in
theorem ring_1_6 : runX tab 60 F.detentlaw15_MutexRing [.s (.s (.int .i64 1)), .s (.s (.int .i64 6))] ⟨.e, 0, []⟩ isTrue = true := by kernel_rfl
set_option maxRecDepth 100000 in
theorem ring_1_7 : runX tab 60 F.detentlaw15_MutexRing [.s (.s (.int .i64 1)), .s (.s (.int .i64 7))] ⟨.e, 0, []⟩ isTrue = true := by kernel_rfl
set_option maxRecDepth 100000 in
theorem ring_1_8 : runX tab 60 F.detentlaw15_MutexRing [.s (.s (.int .i64 1)), .s (.s (.int .i64 8))] ⟨.e, 0, []⟩ isTrue = true := by kernel_rfl
end Go.AM
