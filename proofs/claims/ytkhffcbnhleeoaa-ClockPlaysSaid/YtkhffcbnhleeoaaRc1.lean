/-
  The code of the functions, as the abstract machine has it; it is the program's.
-/
import Derived.Test.YtkhffcbnhleeoaaAmO
import Derived.Test.YtkhffcbnhleeoaaIds
import Derived.Test.YtkhffcbnhleeoaaProg
import Derived.KernelRfl
set_option maxRecDepth 100000
namespace Go.AM.R
open Go.AM
def detentref7_Timers_Left : RFunc := RFunc.mk 25 [.tmp 6, .tmp 7] (
  RC.seq (RC.region 2 [
    ⟨(some 6), .move (.c (.s (.int .i64 0))), none, 0, []⟩,
    ⟨(some 7), .move (.c (.s (.bool false))), none, 1, []⟩]) (RC.seq (RC.region 4 [
    ⟨(some 9), .move (.t 0), none, 0, []⟩,
    ⟨(some 10), .move (.t 1), none, 1, []⟩,
    ⟨(some 11), .call F.detentref7_Timers_Find [(.t 9), (.t 10)], none, 2, []⟩,
    ⟨(some 8), .move (.t 11), none, 3, []⟩]) (RC.seq (RC.seq (RC.region 2 [
    ⟨(some 12), .move (.t 8), none, 0, []⟩,
    ⟨(some 13), .bin .lss (.t 12) (.c (.s (.int .i64 0))), none, 1, []⟩]) (RC.cond (.t 13) (RC.seq (RC.region 2 [
    ⟨(some 6), .move (.c (.s (.int .i64 0))), none, 0, []⟩,
    ⟨(some 7), .move (.c (.s (.bool false))), none, 1, []⟩]) (RC.ret)) (RC.skip))) (RC.seq (RC.region 13 [
    ⟨(some 14), .move (.t 0), none, 0, []⟩,
    ⟨(some 15), .nilCheck (.t 14), none, 1, []⟩,
    ⟨(some 16), .fieldAddr 0 (.t 15), none, 2, []⟩,
    ⟨(some 17), .load none (.t 16), none, 3, []⟩,
    ⟨(some 18), .move (.t 8), none, 4, []⟩,
    ⟨(some 19), .indexSl 3 (.t 17) (.t 18), none, 5, []⟩,
    ⟨(some 20), .fieldAddr 1 (.t 19), none, 6, []⟩,
    ⟨(some 21), .load none (.t 20), none, 7, []⟩,
    ⟨(some 22), .move (.t 2), none, 8, []⟩,
    ⟨(some 23), .bin .sub (.t 21) (.t 22), none, 9, []⟩,
    ⟨(some 24), .conv .i64 (.t 23), none, 10, []⟩,
    ⟨(some 6), .move (.t 24), none, 11, []⟩,
    ⟨(some 7), .move (.c (.s (.bool true))), none, 12, []⟩]) (RC.ret)))))
theorem detentref7_Timers_Left_ok : chkFunc Go.Proofs.Try.prog [] Go.Proofs.Try.f50 detentref7_Timers_Left = true := by kernel_rfl
def nums_Rel : RFunc := RFunc.mk 12 [.tmp 2, .tmp 3] (
  RC.seq (RC.region 2 [
    ⟨(some 2), .move (.c (.s (.int .u64 0))), none, 0, []⟩,
    ⟨(some 3), .move (.c (.s (.int .i64 0))), none, 1, []⟩]) (RC.seq (RC.seq (RC.region 6 [
    ⟨(some 4), .move (.t 0), none, 0, []⟩,
    ⟨(some 5), .bin .lss (.t 4) (.c (.s (.int .i64 0))), none, 1, []⟩,
    ⟨(some 6), .move (.t 5), none, 2, []⟩,
    ⟨(some 7), .move (.t 0), (some (6, false)), 3, []⟩,
    ⟨(some 8), .bin .gtr (.t 7) (.c (.s (.int .i64 2147483647))), (some (6, false)), 4, []⟩,
    ⟨(some 9), .pick (.t 6) (.c (.s (.bool true))) (.t 8), none, 5, []⟩]) (RC.cond (.t 9) (RC.seq (RC.region 2 [
    ⟨(some 2), .move (.c (.s (.int .u64 0))), none, 0, []⟩,
    ⟨(some 3), .move (.c (.s (.int .i64 (-17)))), none, 1, []⟩]) (RC.ret)) (RC.skip))) (RC.seq (RC.region 4 [
    ⟨(some 10), .move (.t 0), none, 0, []⟩,
    ⟨(some 11), .conv .u64 (.t 10), none, 1, []⟩,
    ⟨(some 2), .move (.t 11), none, 2, []⟩,
    ⟨(some 3), .move (.c (.s (.int .i64 0))), none, 3, []⟩]) (RC.ret))))
theorem nums_Rel_ok : chkFunc Go.Proofs.Try.prog [] Go.Proofs.Try.f41 nums_Rel = true := by kernel_rfl
def nums_Add : RFunc := RFunc.mk 9 [.tmp 4] (
  RC.seq (RC.region 1 [
    ⟨(some 4), .move (.c (.s (.int .u64 0))), none, 0, []⟩]) (RC.seq (RC.region 5 [
    ⟨(some 5), .move (.t 0), none, 0, []⟩,
    ⟨(some 6), .move (.t 1), none, 1, []⟩,
    ⟨(some 7), .bin .add (.t 5) (.t 6), none, 2, []⟩,
    ⟨(some 8), .bin .rem (.t 7) (.c (.s (.int .u64 281474976710656))), none, 3, []⟩,
    ⟨(some 4), .move (.t 8), none, 4, []⟩]) (RC.ret)))
theorem nums_Add_ok : chkFunc Go.Proofs.Try.prog [] Go.Proofs.Try.f42 nums_Add = true := by kernel_rfl
def heap_row_up_l0 : RC :=
  RC.seq (RC.seq (RC.region 10 [
    ⟨(some 4), .move (.t 1), none, 0, []⟩,
    ⟨(some 5), .bin .gtr (.t 4) (.c (.s (.int .i64 0))), none, 1, []⟩,
    ⟨(some 6), .move (.t 5), none, 2, []⟩,
    ⟨(some 7), .move (.t 0), (some (6, true)), 3, []⟩,
    ⟨(some 8), .move (.t 1), (some (6, true)), 4, []⟩,
    ⟨(some 9), .move (.t 1), (some (6, true)), 5, []⟩,
    ⟨(some 10), .bin .sub (.t 9) (.c (.s (.int .i64 1))), (some (6, true)), 6, []⟩,
    ⟨(some 11), .bin .quo (.t 10) (.c (.s (.int .i64 2))), (some (6, true)), 7, []⟩,
    ⟨(some 12), .call F.heap_row_ahead [(.t 7), (.t 8), (.t 11)], (some (6, true)), 8, []⟩,
    ⟨(some 13), .pick (.t 6) (.t 12) (.c (.s (.bool false))), none, 9, []⟩]) (RC.cond (.t 13) (RC.skip) (RC.exit 0))) (RC.block 1 (RC.seq (RC.region 20 [
    ⟨(some 14), .move (.t 0), none, 0, []⟩,
    ⟨(some 15), .move (.t 1), none, 1, []⟩,
    ⟨(some 16), .move (.t 0), none, 2, []⟩,
    ⟨(some 17), .move (.t 1), none, 3, []⟩,
    ⟨(some 18), .bin .sub (.t 17) (.c (.s (.int .i64 1))), none, 4, []⟩,
    ⟨(some 19), .bin .quo (.t 18) (.c (.s (.int .i64 2))), none, 5, []⟩,
    ⟨(some 20), .move (.t 0), none, 6, []⟩,
    ⟨(some 21), .move (.t 1), none, 7, []⟩,
    ⟨(some 22), .bin .sub (.t 21) (.c (.s (.int .i64 1))), none, 8, []⟩,
    ⟨(some 23), .bin .quo (.t 22) (.c (.s (.int .i64 2))), none, 9, []⟩,
    ⟨(some 24), .indexSl 3 (.t 20) (.t 23), none, 10, []⟩,
    ⟨(some 25), .load (some 3) (.t 24), none, 11, []⟩,
    ⟨(some 26), .move (.t 0), none, 12, []⟩,
    ⟨(some 27), .move (.t 1), none, 13, []⟩,
    ⟨(some 28), .indexSl 3 (.t 26) (.t 27), none, 14, []⟩,
    ⟨(some 29), .load (some 3) (.t 28), none, 15, []⟩,
    ⟨(some 30), .indexSl 3 (.t 14) (.t 15), none, 16, []⟩,
    ⟨none, .store 3 (.t 30) (.t 25), none, 17, []⟩,
    ⟨(some 31), .indexSl 3 (.t 16) (.t 19), none, 18, []⟩,
    ⟨none, .store 3 (.t 31) (.t 29), none, 19, []⟩]) (RC.region 4 [
    ⟨(some 32), .move (.t 1), none, 0, []⟩,
    ⟨(some 33), .bin .sub (.t 32) (.c (.s (.int .i64 1))), none, 1, []⟩,
    ⟨(some 34), .bin .quo (.t 33) (.c (.s (.int .i64 2))), none, 2, []⟩,
    ⟨(some 1), .move (.t 34), none, 3, []⟩])))
def heap_row_up : RFunc := RFunc.mk 35 [] (
  RC.block 0 (RC.loop R.heap_row_up_l0))
theorem heap_row_up_ok : chkFunc Go.Proofs.Try.prog [] Go.Proofs.Try.f43 heap_row_up = true := by kernel_rfl
def heap_Timers_remove : RFunc := RFunc.mk 48 [] (
  RC.seq (RC.region 7 [
    ⟨(some 5), .move (.t 0), none, 0, []⟩,
    ⟨(some 6), .nilCheck (.t 5), none, 1, []⟩,
    ⟨(some 7), .fieldAddr 0 (.t 6), none, 2, []⟩,
    ⟨(some 8), .load none (.t 7), none, 3, []⟩,
    ⟨(some 9), .len (.t 8), none, 4, []⟩,
    ⟨(some 10), .bin .sub (.t 9) (.c (.s (.int .i64 1))), none, 5, []⟩,
    ⟨(some 4), .move (.t 10), none, 6, []⟩]) (RC.seq (RC.region 14 [
    ⟨(some 11), .move (.t 0), none, 0, []⟩,
    ⟨(some 12), .nilCheck (.t 11), none, 1, []⟩,
    ⟨(some 13), .fieldAddr 0 (.t 12), none, 2, []⟩,
    ⟨(some 14), .load none (.t 13), none, 3, []⟩,
    ⟨(some 15), .move (.t 1), none, 4, []⟩,
    ⟨(some 16), .move (.t 0), none, 5, []⟩,
    ⟨(some 17), .nilCheck (.t 16), none, 6, []⟩,
    ⟨(some 18), .fieldAddr 0 (.t 17), none, 7, []⟩,
    ⟨(some 19), .load none (.t 18), none, 8, []⟩,
    ⟨(some 20), .move (.t 4), none, 9, []⟩,
    ⟨(some 21), .indexSl 3 (.t 19) (.t 20), none, 10, []⟩,
    ⟨(some 22), .load (some 3) (.t 21), none, 11, []⟩,
    ⟨(some 23), .indexSl 3 (.t 14) (.t 15), none, 12, []⟩,
    ⟨none, .store 3 (.t 23) (.t 22), none, 13, []⟩]) (RC.seq (RC.region 10 [
    ⟨(some 24), .move (.t 0), none, 0, []⟩,
    ⟨(some 25), .move (.t 0), none, 1, []⟩,
    ⟨(some 26), .nilCheck (.t 25), none, 2, []⟩,
    ⟨(some 27), .fieldAddr 0 (.t 26), none, 3, []⟩,
    ⟨(some 28), .load none (.t 27), none, 4, []⟩,
    ⟨(some 29), .move (.t 4), none, 5, []⟩,
    ⟨(some 30), .slSl 3 (.t 28) none (some (.t 29)) none, none, 6, []⟩,
    ⟨(some 31), .nilCheck (.t 24), none, 7, []⟩,
    ⟨(some 32), .fieldAddr 0 (.t 31), none, 8, []⟩,
    ⟨none, .store 1 (.t 32) (.t 30), none, 9, []⟩]) (RC.seq (RC.region 3 [
    ⟨(some 33), .move (.t 1), none, 0, []⟩,
    ⟨(some 34), .move (.t 4), none, 1, []⟩,
    ⟨(some 35), .bin .lss (.t 33) (.t 34), none, 2, []⟩]) (RC.cond (.t 35) (RC.seq (RC.region 6 [
    ⟨(some 36), .move (.t 0), none, 0, []⟩,
    ⟨(some 37), .nilCheck (.t 36), none, 1, []⟩,
    ⟨(some 38), .fieldAddr 0 (.t 37), none, 2, []⟩,
    ⟨(some 39), .load none (.t 38), none, 3, []⟩,
    ⟨(some 40), .move (.t 1), none, 4, []⟩,
    ⟨(some 41), .call F.heap_row_up [(.t 39), (.t 40)], none, 5, []⟩]) (RC.region 6 [
    ⟨(some 42), .move (.t 0), none, 0, []⟩,
    ⟨(some 43), .nilCheck (.t 42), none, 1, []⟩,
    ⟨(some 44), .fieldAddr 0 (.t 43), none, 2, []⟩,
    ⟨(some 45), .load none (.t 44), none, 3, []⟩,
    ⟨(some 46), .move (.t 1), none, 4, []⟩,
    ⟨(some 47), .call F.heap_row_down [(.t 45), (.t 46)], none, 5, []⟩])) (RC.skip))))))
theorem heap_Timers_remove_ok : chkFunc Go.Proofs.Try.prog [] Go.Proofs.Try.f44 heap_Timers_remove = true := by kernel_rfl
def heap_Timers_find : RFunc := RFunc.mk 11 [.tmp 4] (
  RC.seq (RC.region 2 [
    ⟨(some 3), .box (.t 1), none, 0, []⟩,
    ⟨(some 4), .move (.c (.s (.int .i64 0))), none, 1, []⟩]) (RC.seq (RC.region 7 [
    ⟨(some 5), .move (.t 0), none, 0, []⟩,
    ⟨(some 6), .nilCheck (.t 5), none, 1, []⟩,
    ⟨(some 7), .fieldAddr 0 (.t 6), none, 2, []⟩,
    ⟨(some 8), .load none (.t 7), none, 3, []⟩,
    ⟨(some 9), .makeFunc F.heap_Timers_find_1 [(.t 3)], none, 4, []⟩,
    ⟨(some 10), .call F.slices_IndexFunc_heap_row_heap_entry [(.t 8), (.t 9)], none, 5, []⟩,
    ⟨(some 4), .move (.t 10), none, 6, []⟩]) (RC.ret)))
theorem heap_Timers_find_ok : chkFunc Go.Proofs.Try.prog [] Go.Proofs.Try.f45 heap_Timers_find = true := by kernel_rfl
def detentref7_Timers_Find_l0 : RC :=
  RC.seq (RC.seq (RC.region 7 [
    ⟨(some 6), .move (.t 5), none, 0, []⟩,
    ⟨(some 7), .move (.t 0), none, 1, []⟩,
    ⟨(some 8), .nilCheck (.t 7), none, 2, []⟩,
    ⟨(some 9), .fieldAddr 0 (.t 8), none, 3, []⟩,
    ⟨(some 10), .load none (.t 9), none, 4, []⟩,
    ⟨(some 11), .len (.t 10), none, 5, []⟩,
    ⟨(some 12), .bin .lss (.t 6) (.t 11), none, 6, []⟩]) (RC.cond (.t 12) (RC.skip) (RC.exit 0))) (RC.seq (RC.block 1 (RC.seq (RC.region 10 [
    ⟨(some 15), .move (.t 0), none, 0, []⟩,
    ⟨(some 16), .nilCheck (.t 15), none, 1, []⟩,
    ⟨(some 17), .fieldAddr 0 (.t 16), none, 2, []⟩,
    ⟨(some 18), .load none (.t 17), none, 3, []⟩,
    ⟨(some 19), .move (.t 5), none, 4, []⟩,
    ⟨(some 20), .indexSl 3 (.t 18) (.t 19), none, 5, []⟩,
    ⟨(some 21), .fieldAddr 0 (.t 20), none, 6, []⟩,
    ⟨(some 22), .load none (.t 21), none, 7, []⟩,
    ⟨(some 23), .move (.t 1), none, 8, []⟩,
    ⟨(some 24), .bin .eql (.t 22) (.t 23), none, 9, []⟩]) (RC.cond (.t 24) (RC.seq (RC.region 2 [
    ⟨(some 25), .move (.t 5), none, 0, []⟩,
    ⟨(some 4), .move (.t 25), none, 1, []⟩]) (RC.ret)) (RC.skip)))) (RC.region 3 [
    ⟨(some 13), .move (.t 5), none, 0, []⟩,
    ⟨(some 14), .bin .add (.t 13) (.c (.s (.int .i64 1))), none, 1, []⟩,
    ⟨(some 5), .move (.t 14), none, 2, []⟩]))
def detentref7_Timers_Find_s1 : RC :=
  RC.seq (RC.region 1 [
    ⟨(some 4), .move (.c (.s (.int .i64 (-1)))), none, 0, []⟩]) (RC.ret)
def detentref7_Timers_Find : RFunc := RFunc.mk 26 [.tmp 4] (
  RC.seq (RC.region 1 [
    ⟨(some 4), .move (.c (.s (.int .i64 0))), none, 0, []⟩]) (RC.seq (RC.seq (RC.region 1 [
    ⟨(some 5), .move (.c (.s (.int .i64 0))), none, 0, []⟩]) (RC.block 0 (RC.loop R.detentref7_Timers_Find_l0))) R.detentref7_Timers_Find_s1))
theorem detentref7_Timers_Find_ok : chkFunc Go.Proofs.Try.prog [] Go.Proofs.Try.f46 detentref7_Timers_Find = true := by kernel_rfl
def detentref7_Timers_least_l0 : RC :=
  RC.seq (RC.seq (RC.region 7 [
    ⟨(some 5), .move (.t 4), none, 0, []⟩,
    ⟨(some 6), .move (.t 0), none, 1, []⟩,
    ⟨(some 7), .nilCheck (.t 6), none, 2, []⟩,
    ⟨(some 8), .fieldAddr 0 (.t 7), none, 3, []⟩,
    ⟨(some 9), .load none (.t 8), none, 4, []⟩,
    ⟨(some 10), .len (.t 9), none, 5, []⟩,
    ⟨(some 11), .bin .lss (.t 5) (.t 10), none, 6, []⟩]) (RC.cond (.t 11) (RC.skip) (RC.exit 0))) (RC.seq (RC.block 1 (RC.seq (RC.region 21 [
    ⟨(some 14), .move (.t 3), none, 0, []⟩,
    ⟨(some 15), .bin .lss (.t 14) (.c (.s (.int .i64 0))), none, 1, []⟩,
    ⟨(some 16), .move (.t 15), none, 2, []⟩,
    ⟨(some 17), .move (.t 0), (some (16, false)), 3, []⟩,
    ⟨(some 18), .nilCheck (.t 17), (some (16, false)), 4, []⟩,
    ⟨(some 19), .fieldAddr 0 (.t 18), (some (16, false)), 5, []⟩,
    ⟨(some 20), .load none (.t 19), (some (16, false)), 6, []⟩,
    ⟨(some 21), .move (.t 4), (some (16, false)), 7, []⟩,
    ⟨(some 22), .indexSl 3 (.t 20) (.t 21), (some (16, false)), 8, []⟩,
    ⟨(some 23), .fieldAddr 1 (.t 22), (some (16, false)), 9, []⟩,
    ⟨(some 24), .load none (.t 23), (some (16, false)), 10, []⟩,
    ⟨(some 25), .move (.t 0), (some (16, false)), 11, []⟩,
    ⟨(some 26), .nilCheck (.t 25), (some (16, false)), 12, []⟩,
    ⟨(some 27), .fieldAddr 0 (.t 26), (some (16, false)), 13, []⟩,
    ⟨(some 28), .load none (.t 27), (some (16, false)), 14, []⟩,
    ⟨(some 29), .move (.t 3), (some (16, false)), 15, []⟩,
    ⟨(some 30), .indexSl 3 (.t 28) (.t 29), (some (16, false)), 16, []⟩,
    ⟨(some 31), .fieldAddr 1 (.t 30), (some (16, false)), 17, []⟩,
    ⟨(some 32), .load none (.t 31), (some (16, false)), 18, []⟩,
    ⟨(some 33), .bin .lss (.t 24) (.t 32), (some (16, false)), 19, []⟩,
    ⟨(some 34), .pick (.t 16) (.c (.s (.bool true))) (.t 33), none, 20, []⟩]) (RC.cond (.t 34) (RC.region 2 [
    ⟨(some 35), .move (.t 4), none, 0, []⟩,
    ⟨(some 3), .move (.t 35), none, 1, []⟩]) (RC.skip)))) (RC.region 3 [
    ⟨(some 12), .move (.t 4), none, 0, []⟩,
    ⟨(some 13), .bin .add (.t 12) (.c (.s (.int .i64 1))), none, 1, []⟩,
    ⟨(some 4), .move (.t 13), none, 2, []⟩]))
def detentref7_Timers_least_s1 : RC :=
  RC.seq (RC.region 2 [
    ⟨(some 36), .move (.t 3), none, 0, []⟩,
    ⟨(some 2), .move (.t 36), none, 1, []⟩]) (RC.ret)
def detentref7_Timers_least : RFunc := RFunc.mk 37 [.tmp 2] (
  RC.seq (RC.region 1 [
    ⟨(some 2), .move (.c (.s (.int .i64 0))), none, 0, []⟩]) (RC.seq (RC.region 1 [
    ⟨(some 3), .move (.c (.s (.int .i64 (-1)))), none, 0, []⟩]) (RC.seq (RC.seq (RC.region 1 [
    ⟨(some 4), .move (.c (.s (.int .i64 0))), none, 0, []⟩]) (RC.block 0 (RC.loop R.detentref7_Timers_least_l0))) R.detentref7_Timers_least_s1)))
theorem detentref7_Timers_least_ok : chkFunc Go.Proofs.Try.prog [] Go.Proofs.Try.f47 detentref7_Timers_least = true := by kernel_rfl
def slices_Clone_heap_row_heap_entry : RFunc := RFunc.mk 8 [.tmp 2] (
  RC.seq (RC.region 1 [
    ⟨(some 2), .move (.c (.s (.slice none 0 0 1))), none, 0, []⟩]) (RC.seq (RC.seq (RC.region 2 [
    ⟨(some 3), .move (.t 0), none, 0, []⟩,
    ⟨(some 4), .eqs .slice false (.t 3) (.c (.s (.slice none 0 0 1))), none, 1, []⟩]) (RC.cond (.t 4) (RC.seq (RC.region 1 [
    ⟨(some 2), .move (.c (.s (.slice none 0 0 1))), none, 0, []⟩]) (RC.ret)) (RC.skip))) (RC.seq (RC.region 4 [
    ⟨(some 5), .buildSlice 3 0 [] [], none, 0, []⟩,
    ⟨(some 6), .move (.t 0), none, 1, []⟩,
    ⟨(some 7), .append 3 24 (.t 5) (.t 6), none, 2, []⟩,
    ⟨(some 2), .move (.t 7), none, 3, []⟩]) (RC.ret))))
theorem slices_Clone_heap_row_heap_entry_ok : chkFunc Go.Proofs.Try.prog [] Go.Proofs.Try.f48 slices_Clone_heap_row_heap_entry = true := by kernel_rfl
def detentref1_Add : RFunc := RFunc.mk 11 [.tmp 4] (
  RC.seq (RC.region 1 [
    ⟨(some 4), .move (.c (.s (.int .u64 0))), none, 0, []⟩]) (RC.seq (RC.region 7 [
    ⟨(some 5), .move (.t 0), none, 0, []⟩,
    ⟨(some 6), .bin .rem (.t 5) (.c (.s (.int .u64 281474976710656))), none, 1, []⟩,
    ⟨(some 7), .move (.t 1), none, 2, []⟩,
    ⟨(some 8), .bin .rem (.t 7) (.c (.s (.int .u64 281474976710656))), none, 3, []⟩,
    ⟨(some 9), .bin .add (.t 6) (.t 8), none, 4, []⟩,
    ⟨(some 10), .bin .rem (.t 9) (.c (.s (.int .u64 281474976710656))), none, 5, []⟩,
    ⟨(some 4), .move (.t 10), none, 6, []⟩]) (RC.ret)))
theorem detentref1_Add_ok : chkFunc Go.Proofs.Try.prog [] Go.Proofs.Try.f51 detentref1_Add = true := by kernel_rfl
def detentref1_Rel : RFunc := RFunc.mk 12 [.tmp 2, .tmp 3] (
  RC.seq (RC.region 2 [
    ⟨(some 2), .move (.c (.s (.int .u64 0))), none, 0, []⟩,
    ⟨(some 3), .move (.c (.s (.int .i64 0))), none, 1, []⟩]) (RC.seq (RC.seq (RC.region 6 [
    ⟨(some 4), .move (.t 0), none, 0, []⟩,
    ⟨(some 5), .bin .lss (.t 4) (.c (.s (.int .i64 0))), none, 1, []⟩,
    ⟨(some 6), .move (.t 5), none, 2, []⟩,
    ⟨(some 7), .move (.t 0), (some (6, false)), 3, []⟩,
    ⟨(some 8), .bin .gtr (.t 7) (.c (.s (.int .i64 2147483647))), (some (6, false)), 4, []⟩,
    ⟨(some 9), .pick (.t 6) (.c (.s (.bool true))) (.t 8), none, 5, []⟩]) (RC.cond (.t 9) (RC.seq (RC.region 2 [
    ⟨(some 2), .move (.c (.s (.int .u64 0))), none, 0, []⟩,
    ⟨(some 3), .move (.c (.s (.int .i64 (-17)))), none, 1, []⟩]) (RC.ret)) (RC.skip))) (RC.seq (RC.region 4 [
    ⟨(some 10), .move (.t 0), none, 0, []⟩,
    ⟨(some 11), .conv .u64 (.t 10), none, 1, []⟩,
    ⟨(some 2), .move (.t 11), none, 2, []⟩,
    ⟨(some 3), .move (.c (.s (.int .i64 0))), none, 3, []⟩]) (RC.ret))))
theorem detentref1_Rel_ok : chkFunc Go.Proofs.Try.prog [] Go.Proofs.Try.f52 detentref1_Rel = true := by kernel_rfl
def heap_row_ahead : RFunc := RFunc.mk 36 [.tmp 6] (
  RC.seq (RC.region 1 [
    ⟨(some 6), .move (.c (.s (.bool false))), none, 0, []⟩]) (RC.seq (RC.region 12 [
    ⟨(some 9), .move (.t 0), none, 0, []⟩,
    ⟨(some 10), .move (.t 1), none, 1, []⟩,
    ⟨(some 11), .indexSl 3 (.t 9) (.t 10), none, 2, []⟩,
    ⟨(some 12), .load (some 3) (.t 11), none, 3, []⟩,
    ⟨(some 13), .move (.t 0), none, 4, []⟩,
    ⟨(some 14), .move (.t 2), none, 5, []⟩,
    ⟨(some 15), .indexSl 3 (.t 13) (.t 14), none, 6, []⟩,
    ⟨(some 16), .load (some 3) (.t 15), none, 7, []⟩,
    ⟨(some 7), .newc [.int .u64 0, .int .i64 0, .int .i64 0], none, 8, []⟩,
    ⟨(some 8), .newc [.int .u64 0, .int .i64 0, .int .i64 0], none, 9, []⟩,
    ⟨none, .store 3 (.t 7) (.t 12), none, 10, [⟨16, (some 3), (.t 15), none⟩]⟩,
    ⟨none, .store 3 (.t 8) (.t 16), none, 11, []⟩]) (RC.seq (RC.region 20 [
    ⟨(some 17), .fieldAddr 0 (.t 7), none, 0, []⟩,
    ⟨(some 18), .load none (.t 17), none, 1, []⟩,
    ⟨(some 19), .fieldAddr 0 (.t 8), none, 2, []⟩,
    ⟨(some 20), .load none (.t 19), none, 3, []⟩,
    ⟨(some 21), .bin .lss (.t 18) (.t 20), none, 4, []⟩,
    ⟨(some 22), .move (.t 21), none, 5, []⟩,
    ⟨(some 23), .fieldAddr 0 (.t 7), (some (22, false)), 6, []⟩,
    ⟨(some 24), .load none (.t 23), (some (22, false)), 7, []⟩,
    ⟨(some 25), .fieldAddr 0 (.t 8), (some (22, false)), 8, []⟩,
    ⟨(some 26), .load none (.t 25), (some (22, false)), 9, []⟩,
    ⟨(some 27), .bin .eql (.t 24) (.t 26), (some (22, false)), 10, []⟩,
    ⟨(some 28), .move (.t 27), (some (22, false)), 11, []⟩,
    ⟨(some 29), .fieldAddr 1 (.t 7), (some (28, true)), 12, []⟩,
    ⟨(some 30), .load none (.t 29), (some (28, true)), 13, []⟩,
    ⟨(some 31), .fieldAddr 1 (.t 8), (some (28, true)), 14, []⟩,
    ⟨(some 32), .load none (.t 31), (some (28, true)), 15, []⟩,
    ⟨(some 33), .bin .lss (.t 30) (.t 32), (some (28, true)), 16, []⟩,
    ⟨(some 34), .pick (.t 28) (.t 33) (.c (.s (.bool false))), (some (22, false)), 17, []⟩,
    ⟨(some 35), .pick (.t 22) (.c (.s (.bool true))) (.t 34), none, 18, []⟩,
    ⟨(some 6), .move (.t 35), none, 19, []⟩]) (RC.ret))))
theorem heap_row_ahead_ok : chkFunc Go.Proofs.Try.prog [] Go.Proofs.Try.f53 heap_row_ahead = true := by kernel_rfl
def heap_row_down_s0 : RC :=
  RC.seq (RC.seq (RC.region 11 [
    ⟨(some 22), .move (.t 4), none, 0, []⟩,
    ⟨(some 23), .move (.t 0), none, 1, []⟩,
    ⟨(some 24), .len (.t 23), none, 2, []⟩,
    ⟨(some 25), .bin .geq (.t 22) (.t 24), none, 3, []⟩,
    ⟨(some 26), .move (.t 25), none, 4, []⟩,
    ⟨(some 27), .move (.t 0), (some (26, false)), 5, []⟩,
    ⟨(some 28), .move (.t 4), (some (26, false)), 6, []⟩,
    ⟨(some 29), .move (.t 1), (some (26, false)), 7, []⟩,
    ⟨(some 30), .call F.heap_row_ahead [(.t 27), (.t 28), (.t 29)], (some (26, false)), 8, []⟩,
    ⟨(some 31), .un .not (.t 30), (some (26, false)), 9, []⟩,
    ⟨(some 32), .pick (.t 26) (.c (.s (.bool true))) (.t 31), none, 10, []⟩]) (RC.cond (.t 32) (RC.ret) (RC.skip))) (RC.seq (RC.region 16 [
    ⟨(some 33), .move (.t 0), none, 0, []⟩,
    ⟨(some 34), .move (.t 1), none, 1, []⟩,
    ⟨(some 35), .move (.t 0), none, 2, []⟩,
    ⟨(some 36), .move (.t 4), none, 3, []⟩,
    ⟨(some 37), .move (.t 0), none, 4, []⟩,
    ⟨(some 38), .move (.t 4), none, 5, []⟩,
    ⟨(some 39), .indexSl 3 (.t 37) (.t 38), none, 6, []⟩,
    ⟨(some 40), .load (some 3) (.t 39), none, 7, []⟩,
    ⟨(some 41), .move (.t 0), none, 8, []⟩,
    ⟨(some 42), .move (.t 1), none, 9, []⟩,
    ⟨(some 43), .indexSl 3 (.t 41) (.t 42), none, 10, []⟩,
    ⟨(some 44), .load (some 3) (.t 43), none, 11, []⟩,
    ⟨(some 45), .indexSl 3 (.t 33) (.t 34), none, 12, []⟩,
    ⟨none, .store 3 (.t 45) (.t 40), none, 13, []⟩,
    ⟨(some 46), .indexSl 3 (.t 35) (.t 36), none, 14, []⟩,
    ⟨none, .store 3 (.t 46) (.t 44), none, 15, []⟩]) (RC.region 2 [
    ⟨(some 47), .move (.t 4), none, 0, []⟩,
    ⟨(some 1), .move (.t 47), none, 1, []⟩]))
def heap_row_down_l1 : RC :=
  RC.block 1 (RC.seq (RC.region 4 [
    ⟨(some 5), .move (.t 1), none, 0, []⟩,
    ⟨(some 6), .bin .mul (.c (.s (.int .i64 2))) (.t 5), none, 1, []⟩,
    ⟨(some 7), .bin .add (.t 6) (.c (.s (.int .i64 1))), none, 2, []⟩,
    ⟨(some 4), .move (.t 7), none, 3, []⟩]) (RC.seq (RC.seq (RC.region 12 [
    ⟨(some 8), .move (.t 4), none, 0, []⟩,
    ⟨(some 9), .bin .add (.t 8) (.c (.s (.int .i64 1))), none, 1, []⟩,
    ⟨(some 10), .move (.t 0), none, 2, []⟩,
    ⟨(some 11), .len (.t 10), none, 3, []⟩,
    ⟨(some 12), .bin .lss (.t 9) (.t 11), none, 4, []⟩,
    ⟨(some 13), .move (.t 12), none, 5, []⟩,
    ⟨(some 14), .move (.t 0), (some (13, true)), 6, []⟩,
    ⟨(some 15), .move (.t 4), (some (13, true)), 7, []⟩,
    ⟨(some 16), .bin .add (.t 15) (.c (.s (.int .i64 1))), (some (13, true)), 8, []⟩,
    ⟨(some 17), .move (.t 4), (some (13, true)), 9, []⟩,
    ⟨(some 18), .call F.heap_row_ahead [(.t 14), (.t 16), (.t 17)], (some (13, true)), 10, []⟩,
    ⟨(some 19), .pick (.t 13) (.t 18) (.c (.s (.bool false))), none, 11, []⟩]) (RC.cond (.t 19) (RC.region 3 [
    ⟨(some 20), .move (.t 4), none, 0, []⟩,
    ⟨(some 21), .bin .add (.t 20) (.c (.s (.int .i64 1))), none, 1, []⟩,
    ⟨(some 4), .move (.t 21), none, 2, []⟩]) (RC.skip))) R.heap_row_down_s0))
def heap_row_down : RFunc := RFunc.mk 48 [] (
  RC.block 0 (RC.loop R.heap_row_down_l1))
theorem heap_row_down_ok : chkFunc Go.Proofs.Try.prog [] Go.Proofs.Try.f54 heap_row_down = true := by kernel_rfl
def slices_IndexFunc_heap_row_heap_entry_l0 : RC :=
  RC.seq (RC.region 1 [
    ⟨(some 9), .bin .lss (.t 8) (.t 7), none, 0, []⟩]) (RC.seq (RC.cond (.t 9) (RC.skip) (RC.exit 0)) (RC.seq (RC.block 1 (RC.seq (RC.region 2 [
    ⟨(some 10), .move (.t 8), none, 0, []⟩,
    ⟨(some 5), .move (.t 10), none, 1, []⟩]) (RC.seq (RC.region 6 [
    ⟨(some 11), .move (.t 1), none, 0, []⟩,
    ⟨(some 12), .move (.t 0), none, 1, []⟩,
    ⟨(some 13), .move (.t 5), none, 2, []⟩,
    ⟨(some 14), .indexSl 3 (.t 12) (.t 13), none, 3, []⟩,
    ⟨(some 15), .load (some 3) (.t 14), none, 4, []⟩,
    ⟨(some 16), .callv (.t 11) [(.t 15)], none, 5, []⟩]) (RC.cond (.t 16) (RC.seq (RC.region 2 [
    ⟨(some 17), .move (.t 5), none, 0, []⟩,
    ⟨(some 4), .move (.t 17), none, 1, []⟩]) (RC.ret)) (RC.skip))))) (RC.region 2 [
    ⟨(some 18), .bin .add (.t 8) (.c (.s (.int .i64 1))), none, 0, []⟩,
    ⟨(some 8), .move (.t 18), none, 1, []⟩])))
def slices_IndexFunc_heap_row_heap_entry_s1 : RC :=
  RC.seq (RC.region 1 [
    ⟨(some 4), .move (.c (.s (.int .i64 (-1)))), none, 0, []⟩]) (RC.ret)
def slices_IndexFunc_heap_row_heap_entry : RFunc := RFunc.mk 19 [.tmp 4] (
  RC.seq (RC.region 1 [
    ⟨(some 4), .move (.c (.s (.int .i64 0))), none, 0, []⟩]) (RC.seq (RC.seq (RC.region 3 [
    ⟨(some 6), .move (.t 0), none, 0, []⟩,
    ⟨(some 7), .len (.t 6), none, 1, []⟩,
    ⟨(some 8), .move (.c (.s (.int .i64 0))), none, 2, []⟩]) (RC.block 0 (RC.loop R.slices_IndexFunc_heap_row_heap_entry_l0))) R.slices_IndexFunc_heap_row_heap_entry_s1))
theorem slices_IndexFunc_heap_row_heap_entry_ok : chkFunc Go.Proofs.Try.prog [] Go.Proofs.Try.f55 slices_IndexFunc_heap_row_heap_entry = true := by kernel_rfl
def heap_Timers_find_1 : RFunc := RFunc.mk 8 [.tmp 3] (
  RC.seq (RC.region 2 [
    ⟨(some 2), .box (.t 0), none, 0, []⟩,
    ⟨(some 3), .move (.c (.s (.bool false))), none, 1, []⟩]) (RC.seq (RC.region 5 [
    ⟨(some 4), .fieldAddr 1 (.t 2), none, 0, []⟩,
    ⟨(some 5), .load none (.t 4), none, 1, []⟩,
    ⟨(some 6), .load none (.t 1), none, 2, []⟩,
    ⟨(some 7), .bin .eql (.t 5) (.t 6), none, 3, []⟩,
    ⟨(some 3), .move (.t 7), none, 4, []⟩]) (RC.ret)))
theorem heap_Timers_find_1_ok : chkFunc Go.Proofs.Try.prog [] Go.Proofs.Try.f56 heap_Timers_find_1 = true := by kernel_rfl
end Go.AM.R
