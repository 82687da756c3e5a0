/-
  The law MutexRing, by the symbolic machine: rings of kind 2.
-/
import Derived.Test.YtinlhpgfoojneaaSxE
import Derived.Test.YtinlhpgfoojneaaTab
namespace Go.AM
set_option maxRecDepth 100000 in
theorem ring_2_2 : runX tab 60 F.detentlaw15_MutexRing [.s (.s (.int .i64 2)), .s (.s (.int .i64 2))] ⟨.e, 0, []⟩ isTrue = true := by kernel_rfl
set_option maxRecDepth 100000 in
theorem ring_2_3 : runX tab 60 F.detentlaw15_MutexRing [.s (.s (.int .i64 2)), .s (.s (.int .i64 3))] ⟨.e, 0, []⟩ isTrue = true := by kernel_rfl
set_option maxRecDepth 100000 in
theorem ring_2_4 : runX tab 60 F.detentlaw15_MutexRing [.s (.s (.int .i64 2)), .s (.s (.int .i64 4))] ⟨.e, 0, []⟩ isTrue = true := by kernel_rfl
set_option maxRecDepth 100000 in
theorem ring_2_5 : runX tab 60 F.detentlaw15_MutexRing [.s (.s (.int .i64 2)), .s (.s (.int .i64 5))] ⟨.e, 0, []⟩ isTrue = true := by kernel_rfl
set_option maxRecDepth 100000 in
theorem ring_2_6 : runX tab 60 F.detentlaw15_MutexRing [.s (.s (.int .i64 2)), .s (.s (.int .i64 6))] ⟨.e, 0, []⟩ isTrue = true := by kernel_rfl
set_option maxRecDepth 100000 in
theorem ring_2_7 : runX tab 60 F.detentlaw15_MutexRing [.s (.s (.int .i64 2)), .s (.s (.int .i64 7))] ⟨.e, 0, []⟩ isTrue = true := by kernel_rfl
set_option maxRecDepth 100000 in
theorem ring_2_8 : runX tab 60 F.detentlaw15_MutexRing [.s (.s (.int .i64 2)), .s (.s (.int .i64 8))] ⟨.e, 0, []⟩ isTrue = true := by kernel_rfl
end Go.AM
