/-
  The code of the functions, as the abstract machine has it; it is the program's.
-/
import Derived.Test.YtinlhpgfoojneaaMg1
import Derived.Test.YtinlhpgfoojneaaMg2
import Derived.Test.YtinlhpgfoojneaaProg
import Derived.KernelRfl
set_option maxRecDepth 100000
namespace Go.AM.R
open Go.AM
def detentref15_All_Free_l0 : RC :=
  RC.seq (RC.seq (RC.region 11 [
    ⟨(some 8), .move (.t 6), none, 0, []⟩,
    ⟨(some 9), .move (.t 0), none, 1, []⟩,
    ⟨(some 10), .nilCheck (.t 9), none, 2, []⟩,
    ⟨(some 11), .fieldAddr 0 (.t 10), none, 3, []⟩,
    ⟨(some 12), .load none (.t 11), none, 4, []⟩,
    ⟨(some 13), .len (.t 12), none, 5, []⟩,
    ⟨(some 14), .bin .lss (.t 8) (.t 13), none, 6, []⟩,
    ⟨(some 15), .move (.t 14), none, 7, []⟩,
    ⟨(some 16), .move (.t 1), (some (15, true)), 8, []⟩,
    ⟨(some 17), .call F.detentref15_is [(.t 16)], (some (15, true)), 9, []⟩,
    ⟨(some 18), .pick (.t 15) (.t 17) (.c (.s (.bool false))), none, 10, []⟩]) (RC.cond (.t 18) (RC.skip) (RC.exit 0))) (RC.seq (RC.block 1 (RC.seq (RC.seq (RC.region 9 [
    ⟨(some 21), .move (.t 0), none, 0, []⟩,
    ⟨(some 22), .nilCheck (.t 21), none, 1, []⟩,
    ⟨(some 23), .fieldAddr 1 (.t 22), none, 2, []⟩,
    ⟨(some 24), .load none (.t 23), none, 3, []⟩,
    ⟨(some 25), .move (.t 6), none, 4, []⟩,
    ⟨(some 26), .indexSl 1 (.t 24) (.t 25), none, 5, []⟩,
    ⟨(some 27), .load none (.t 26), none, 6, []⟩,
    ⟨(some 28), .move (.t 1), none, 7, []⟩,
    ⟨(some 29), .bin .neq (.t 27) (.t 28), none, 8, []⟩]) (RC.cond (.t 29) (RC.exit 1) (RC.skip))) (RC.seq (RC.region 4 [
    ⟨(some 30), .move (.t 0), none, 0, []⟩,
    ⟨(some 31), .move (.t 6), none, 1, []⟩,
    ⟨(some 32), .call F.detentref15_All_pass [(.t 30), (.t 31)], none, 2, []⟩,
    ⟨(some 7), .move (.t 32), none, 3, []⟩]) (RC.seq (RC.region 2 [
    ⟨(some 33), .move (.t 0), none, 0, []⟩,
    ⟨(some 34), .call F.detentref15_All_settle [(.t 33)], none, 1, []⟩]) (RC.seq (RC.region 2 [
    ⟨(some 35), .move (.t 7), none, 0, []⟩,
    ⟨(some 36), .bin .neq (.t 35) (.c (.s (.int .i64 0))), none, 1, []⟩]) (RC.cond (.t 36) (RC.region 5 [
    ⟨(some 37), .move (.t 5), none, 0, []⟩,
    ⟨(some 38), .move (.t 7), none, 1, []⟩,
    ⟨(some 39), .buildSlice 1 1 [.int .i64 0] [(0, 1, (.t 38))], none, 2, []⟩,
    ⟨(some 40), .append 1 8 (.t 37) (.t 39), none, 3, []⟩,
    ⟨(some 5), .move (.t 40), none, 4, []⟩]) (RC.skip))))))) (RC.region 3 [
    ⟨(some 19), .move (.t 6), none, 0, []⟩,
    ⟨(some 20), .bin .add (.t 19) (.c (.s (.int .i64 1))), none, 1, []⟩,
    ⟨(some 6), .move (.t 20), none, 2, []⟩]))
def detentref15_All_Free_s1 : RC :=
  RC.seq (RC.region 2 [
    ⟨(some 41), .move (.t 5), none, 0, []⟩,
    ⟨(some 4), .move (.t 41), none, 1, []⟩]) (RC.ret)
def detentref15_All_Free : RFunc := RFunc.mk 42 [.tmp 4] (
  RC.seq (RC.region 1 [
    ⟨(some 4), .move (.c (.s (.slice none 0 0 1))), none, 0, []⟩]) (RC.seq (RC.region 1 [
    ⟨(some 5), .move (.c (.s (.slice none 0 0 1))), none, 0, []⟩]) (RC.seq (RC.seq (RC.region 1 [
    ⟨(some 6), .move (.c (.s (.int .i64 0))), none, 0, []⟩]) (RC.block 0 (RC.loop R.detentref15_All_Free_l0))) R.detentref15_All_Free_s1)))
theorem detentref15_All_Free_ok : chkFunc Go.Proofs.Try.prog [] Go.Proofs.Try.f30 detentref15_All_Free = true := by kernel_rfl
def mtx_All_Twin_l0 : RC :=
  RC.seq (RC.region 1 [
    ⟨(some 22), .bin .lss (.t 21) (.t 20), none, 0, []⟩]) (RC.seq (RC.cond (.t 22) (RC.skip) (RC.exit 0)) (RC.seq (RC.block 1 (RC.seq (RC.region 2 [
    ⟨(some 23), .move (.t 21), none, 0, []⟩,
    ⟨(some 4), .move (.t 23), none, 1, []⟩]) (RC.region 17 [
    ⟨(some 24), .move (.t 3), none, 0, []⟩,
    ⟨(some 25), .nilCheck (.t 24), none, 1, []⟩,
    ⟨(some 26), .fieldAddr 0 (.t 25), none, 2, []⟩,
    ⟨(some 27), .load none (.t 26), none, 3, []⟩,
    ⟨(some 28), .move (.t 4), none, 4, []⟩,
    ⟨(some 29), .move (.t 3), none, 5, []⟩,
    ⟨(some 30), .nilCheck (.t 29), none, 6, []⟩,
    ⟨(some 31), .fieldAddr 0 (.t 30), none, 7, []⟩,
    ⟨(some 32), .load none (.t 31), none, 8, []⟩,
    ⟨(some 33), .move (.t 4), none, 9, []⟩,
    ⟨(some 34), .indexSl 4 (.t 32) (.t 33), none, 10, []⟩,
    ⟨(some 35), .fieldAddr 3 (.t 34), none, 11, []⟩,
    ⟨(some 36), .load none (.t 35), none, 12, []⟩,
    ⟨(some 37), .call F.slices_Clone__int_int [(.t 36)], none, 13, [⟨27, none, (.t 26), none⟩]⟩,
    ⟨(some 38), .indexSl 4 (.t 27) (.t 28), none, 14, []⟩,
    ⟨(some 39), .fieldAddr 3 (.t 38), none, 15, []⟩,
    ⟨none, .store 1 (.t 39) (.t 37), none, 16, []⟩]))) (RC.region 2 [
    ⟨(some 40), .bin .add (.t 21) (.c (.s (.int .i64 1))), none, 0, []⟩,
    ⟨(some 21), .move (.t 40), none, 1, []⟩])))
def mtx_All_Twin_s1 : RC :=
  RC.seq (RC.region 2 [
    ⟨(some 41), .move (.t 3), none, 0, []⟩,
    ⟨(some 2), .move (.t 41), none, 1, []⟩]) (RC.ret)
def mtx_All_Twin : RFunc := RFunc.mk 42 [.tmp 2] (
  RC.seq (RC.region 1 [
    ⟨(some 2), .move (.c (.s (.ptr none))), none, 0, []⟩]) (RC.seq (RC.region 12 [
    ⟨(some 5), .move (.t 0), none, 0, []⟩,
    ⟨(some 6), .nilCheck (.t 5), none, 1, []⟩,
    ⟨(some 7), .fieldAddr 0 (.t 6), none, 2, []⟩,
    ⟨(some 8), .load none (.t 7), none, 3, []⟩,
    ⟨(some 10), .move (.t 0), none, 5, []⟩,
    ⟨(some 11), .nilCheck (.t 10), none, 6, []⟩,
    ⟨(some 12), .fieldAddr 1 (.t 11), none, 7, []⟩,
    ⟨(some 13), .load (some 51) (.t 12), none, 8, []⟩,
    ⟨(some 9), .call F.slices_Clone__mtx_mutex_mtx_mutex [(.t 8)], none, 4, [⟨13, (some 51), (.t 12), none⟩]⟩,
    ⟨(some 14), .build [.slice none 0 0 1, .int .i64 0, .int .i64 0, .int .i64 0, .int .i64 0, .int .i64 0, .int .i64 0, .int .i64 0, .int .i64 0, .int .i64 0, .int .i64 0, .int .i64 0, .int .i64 0, .int .i64 0, .int .i64 0, .int .i64 0, .int .i64 0, .int .i64 0, .int .i64 0, .int .i64 0, .int .i64 0, .int .i64 0, .int .i64 0, .int .i64 0, .int .i64 0, .int .i64 0, .int .i64 0, .int .i64 0, .int .i64 0, .int .i64 0, .int .i64 0, .int .i64 0, .int .i64 0, .int .i64 0, .int .i64 0, .int .i64 0, .int .i64 0, .int .i64 0, .int .i64 0, .int .i64 0, .int .i64 0, .int .i64 0, .int .i64 0, .int .i64 0, .int .i64 0, .int .i64 0, .int .i64 0, .int .i64 0, .int .i64 0, .int .i64 0, .int .i64 0, .int .i64 0] [(0, 1, (.t 9)), (1, 51, (.t 13))], none, 9, []⟩,
    ⟨(some 15), .box (.t 14), none, 10, []⟩,
    ⟨(some 3), .move (.t 15), none, 11, []⟩]) (RC.seq (RC.seq (RC.region 6 [
    ⟨(some 16), .move (.t 3), none, 0, []⟩,
    ⟨(some 17), .nilCheck (.t 16), none, 1, []⟩,
    ⟨(some 18), .fieldAddr 0 (.t 17), none, 2, []⟩,
    ⟨(some 19), .load none (.t 18), none, 3, []⟩,
    ⟨(some 20), .len (.t 19), none, 4, []⟩,
    ⟨(some 21), .move (.c (.s (.int .i64 0))), none, 5, []⟩]) (RC.block 0 (RC.loop R.mtx_All_Twin_l0))) R.mtx_All_Twin_s1)))
theorem mtx_All_Twin_ok : chkFunc Go.Proofs.Try.prog [] Go.Proofs.Try.f31 mtx_All_Twin = true := by kernel_rfl
def detentlaw15_same_s0 : RC :=
  RC.seq (RC.region 13 [
    ⟨(some 48), .move (.t 0), none, 0, []⟩,
    ⟨(some 49), .move (.t 5), none, 1, []⟩,
    ⟨(some 50), .call F.mtx_All_Owner [(.t 48), (.t 49)], none, 2, []⟩,
    ⟨(some 51), .move (.t 6), none, 3, []⟩,
    ⟨(some 52), .bin .neq (.t 50) (.t 51), none, 4, []⟩,
    ⟨(some 53), .move (.t 52), none, 5, []⟩,
    ⟨(some 54), .move (.t 0), (some (53, false)), 6, []⟩,
    ⟨(some 55), .move (.t 5), (some (53, false)), 7, []⟩,
    ⟨(some 56), .call F.mtx_All_Waiting [(.t 54), (.t 55)], (some (53, false)), 8, []⟩,
    ⟨(some 57), .move (.t 7), (some (53, false)), 9, []⟩,
    ⟨(some 58), .call F.detentlaw3_Same [(.t 56), (.t 57)], (some (53, false)), 10, []⟩,
    ⟨(some 59), .un .not (.t 58), (some (53, false)), 11, []⟩,
    ⟨(some 60), .pick (.t 53) (.c (.s (.bool true))) (.t 59), none, 12, []⟩]) (RC.cond (.t 60) (RC.seq (RC.region 1 [
    ⟨(some 4), .move (.c (.s (.bool false))), none, 0, []⟩]) (RC.ret)) (RC.skip))
def detentlaw15_same_s1 : RC :=
  RC.region 3 [
    ⟨(some 18), .move (.t 5), none, 0, []⟩,
    ⟨(some 19), .bin .add (.t 18) (.c (.s (.int .i64 1))), none, 1, []⟩,
    ⟨(some 5), .move (.t 19), none, 2, []⟩]
def detentlaw15_same_l2 : RC :=
  RC.seq (RC.seq (RC.region 8 [
    ⟨(some 10), .move (.t 5), none, 0, []⟩,
    ⟨(some 11), .move (.t 1), none, 1, []⟩,
    ⟨(some 12), .nilCheck (.t 11), none, 2, []⟩,
    ⟨(some 13), .fieldAddr 0 (.t 12), none, 3, []⟩,
    ⟨(some 14), .load none (.t 13), none, 4, []⟩,
    ⟨(some 15), .len (.t 14), none, 5, []⟩,
    ⟨(some 16), .bin .add (.t 15) (.c (.s (.int .i64 1))), none, 6, []⟩,
    ⟨(some 17), .bin .leq (.t 10) (.t 16), none, 7, []⟩]) (RC.cond (.t 17) (RC.skip) (RC.exit 0))) (RC.seq (RC.block 1 (RC.seq (RC.region 1 [
    ⟨(some 6), .move (.c (.s (.int .i64 0))), none, 0, []⟩]) (RC.seq (RC.region 1 [
    ⟨(some 7), .move (.c (.s (.slice none 0 0 1))), none, 0, []⟩]) (RC.seq (RC.seq (RC.region 11 [
    ⟨(some 20), .move (.t 5), none, 0, []⟩,
    ⟨(some 21), .bin .geq (.t 20) (.c (.s (.int .i64 1))), none, 1, []⟩,
    ⟨(some 22), .move (.t 21), none, 2, []⟩,
    ⟨(some 23), .move (.t 5), (some (22, true)), 3, []⟩,
    ⟨(some 24), .move (.t 1), (some (22, true)), 4, []⟩,
    ⟨(some 25), .nilCheck (.t 24), (some (22, true)), 5, []⟩,
    ⟨(some 26), .fieldAddr 0 (.t 25), (some (22, true)), 6, []⟩,
    ⟨(some 27), .load none (.t 26), (some (22, true)), 7, []⟩,
    ⟨(some 28), .len (.t 27), (some (22, true)), 8, []⟩,
    ⟨(some 29), .bin .leq (.t 23) (.t 28), (some (22, true)), 9, []⟩,
    ⟨(some 30), .pick (.t 22) (.t 29) (.c (.s (.bool false))), none, 10, []⟩]) (RC.cond (.t 30) (RC.seq (RC.region 9 [
    ⟨(some 31), .move (.t 1), none, 0, []⟩,
    ⟨(some 32), .nilCheck (.t 31), none, 1, []⟩,
    ⟨(some 33), .fieldAddr 1 (.t 32), none, 2, []⟩,
    ⟨(some 34), .load none (.t 33), none, 3, []⟩,
    ⟨(some 35), .move (.t 5), none, 4, []⟩,
    ⟨(some 36), .bin .sub (.t 35) (.c (.s (.int .i64 1))), none, 5, []⟩,
    ⟨(some 37), .indexSl 1 (.t 34) (.t 36), none, 6, []⟩,
    ⟨(some 38), .load none (.t 37), none, 7, []⟩,
    ⟨(some 6), .move (.t 38), none, 8, []⟩]) (RC.region 10 [
    ⟨(some 39), .move (.t 1), none, 0, []⟩,
    ⟨(some 40), .nilCheck (.t 39), none, 1, []⟩,
    ⟨(some 41), .fieldAddr 2 (.t 40), none, 2, []⟩,
    ⟨(some 42), .load none (.t 41), none, 3, []⟩,
    ⟨(some 43), .move (.t 5), none, 4, []⟩,
    ⟨(some 44), .bin .sub (.t 43) (.c (.s (.int .i64 1))), none, 5, []⟩,
    ⟨(some 45), .indexSl 1 (.t 42) (.t 44), none, 6, []⟩,
    ⟨(some 46), .load none (.t 45), none, 7, []⟩,
    ⟨(some 47), .call F.detentref4_Queue_IDs [(.t 46)], none, 8, []⟩,
    ⟨(some 7), .move (.t 47), none, 9, []⟩])) (RC.skip))) R.detentlaw15_same_s0)))) R.detentlaw15_same_s1)
def detentlaw15_same_s3 : RC :=
  RC.seq (RC.region 24 [
    ⟨(some 77), .move (.t 0), none, 0, []⟩,
    ⟨(some 78), .move (.t 8), none, 1, []⟩,
    ⟨(some 79), .call F.mtx_All_Base [(.t 77), (.t 78)], none, 2, []⟩,
    ⟨(some 80), .move (.t 9), none, 3, []⟩,
    ⟨(some 81), .bin .neq (.t 79) (.t 80), none, 4, []⟩,
    ⟨(some 82), .move (.t 81), none, 5, []⟩,
    ⟨(some 83), .move (.t 0), (some (82, false)), 6, []⟩,
    ⟨(some 84), .move (.t 8), (some (82, false)), 7, []⟩,
    ⟨(some 85), .call F.mtx_All_Pri [(.t 83), (.t 84)], (some (82, false)), 8, []⟩,
    ⟨(some 86), .move (.t 1), (some (82, false)), 9, []⟩,
    ⟨(some 87), .move (.t 8), (some (82, false)), 10, []⟩,
    ⟨(some 88), .call F.detentref15_All_Pri [(.t 86), (.t 87)], (some (82, false)), 11, []⟩,
    ⟨(some 89), .bin .neq (.t 85) (.t 88), (some (82, false)), 12, []⟩,
    ⟨(some 90), .pick (.t 82) (.c (.s (.bool true))) (.t 89), none, 13, []⟩,
    ⟨(some 91), .move (.t 90), none, 14, []⟩,
    ⟨(some 92), .move (.t 0), (some (91, false)), 15, []⟩,
    ⟨(some 93), .move (.t 8), (some (91, false)), 16, []⟩,
    ⟨(some 94), .call F.mtx_All_Held [(.t 92), (.t 93)], (some (91, false)), 17, []⟩,
    ⟨(some 95), .move (.t 1), (some (91, false)), 18, []⟩,
    ⟨(some 96), .move (.t 8), (some (91, false)), 19, []⟩,
    ⟨(some 97), .call F.detentref15_All_Held [(.t 95), (.t 96)], (some (91, false)), 20, []⟩,
    ⟨(some 98), .call F.detentlaw3_Same [(.t 94), (.t 97)], (some (91, false)), 21, []⟩,
    ⟨(some 99), .un .not (.t 98), (some (91, false)), 22, []⟩,
    ⟨(some 100), .pick (.t 91) (.c (.s (.bool true))) (.t 99), none, 23, []⟩]) (RC.cond (.t 100) (RC.seq (RC.region 1 [
    ⟨(some 4), .move (.c (.s (.bool false))), none, 0, []⟩]) (RC.ret)) (RC.skip))
def detentlaw15_same_s4 : RC :=
  RC.region 3 [
    ⟨(some 63), .move (.t 8), none, 0, []⟩,
    ⟨(some 64), .bin .add (.t 63) (.c (.s (.int .i64 1))), none, 1, []⟩,
    ⟨(some 8), .move (.t 64), none, 2, []⟩]
def detentlaw15_same_l5 : RC :=
  RC.seq (RC.seq (RC.region 2 [
    ⟨(some 61), .move (.t 8), none, 0, []⟩,
    ⟨(some 62), .bin .leq (.t 61) (.c (.s (.int .i64 17))), none, 1, []⟩]) (RC.cond (.t 62) (RC.skip) (RC.exit 2))) (RC.seq (RC.block 3 (RC.seq (RC.region 1 [
    ⟨(some 9), .move (.c (.s (.int .i64 0))), none, 0, []⟩]) (RC.seq (RC.seq (RC.region 6 [
    ⟨(some 65), .move (.t 8), none, 0, []⟩,
    ⟨(some 66), .bin .geq (.t 65) (.c (.s (.int .i64 1))), none, 1, []⟩,
    ⟨(some 67), .move (.t 66), none, 2, []⟩,
    ⟨(some 68), .move (.t 8), (some (67, true)), 3, []⟩,
    ⟨(some 69), .bin .leq (.t 68) (.c (.s (.int .i64 16))), (some (67, true)), 4, []⟩,
    ⟨(some 70), .pick (.t 67) (.t 69) (.c (.s (.bool false))), none, 5, []⟩]) (RC.cond (.t 70) (RC.region 7 [
    ⟨(some 71), .move (.t 1), none, 0, []⟩,
    ⟨(some 72), .move (.t 8), none, 1, []⟩,
    ⟨(some 73), .nilCheck (.t 71), none, 2, []⟩,
    ⟨(some 74), .fieldAddr 3 (.t 73), none, 3, []⟩,
    ⟨(some 75), .indexArr 17 1 (.t 74) (.t 72), none, 4, []⟩,
    ⟨(some 76), .load none (.t 75), none, 5, []⟩,
    ⟨(some 9), .move (.t 76), none, 6, []⟩]) (RC.skip))) R.detentlaw15_same_s3))) R.detentlaw15_same_s4)
def detentlaw15_same_s6 : RC :=
  RC.seq (RC.region 1 [
    ⟨(some 4), .move (.c (.s (.bool true))), none, 0, []⟩]) (RC.ret)
def detentlaw15_same_s7 : RC :=
  RC.seq (RC.seq (RC.region 1 [
    ⟨(some 8), .move (.c (.s (.int .i64 0))), none, 0, []⟩]) (RC.block 2 (RC.loop R.detentlaw15_same_l5))) R.detentlaw15_same_s6
def detentlaw15_same : RFunc := RFunc.mk 101 [.tmp 4] (
  RC.seq (RC.region 1 [
    ⟨(some 4), .move (.c (.s (.bool false))), none, 0, []⟩]) (RC.seq (RC.seq (RC.region 1 [
    ⟨(some 5), .move (.c (.s (.int .i64 0))), none, 0, []⟩]) (RC.block 0 (RC.loop R.detentlaw15_same_l2))) R.detentlaw15_same_s7))
theorem detentlaw15_same_ok : chkFunc Go.Proofs.Try.prog [] Go.Proofs.Try.f32 detentlaw15_same = true := by kernel_rfl
def mtx_All_Base : RFunc := RFunc.mk 15 [.tmp 4] (
  RC.seq (RC.region 1 [
    ⟨(some 4), .move (.c (.s (.int .i64 0))), none, 0, []⟩]) (RC.seq (RC.seq (RC.region 3 [
    ⟨(some 5), .move (.t 1), none, 0, []⟩,
    ⟨(some 6), .call F.mtx_is [(.t 5)], none, 1, []⟩,
    ⟨(some 7), .un .not (.t 6), none, 2, []⟩]) (RC.cond (.t 7) (RC.seq (RC.region 1 [
    ⟨(some 4), .move (.c (.s (.int .i64 0))), none, 0, []⟩]) (RC.ret)) (RC.skip))) (RC.seq (RC.region 8 [
    ⟨(some 8), .move (.t 0), none, 0, []⟩,
    ⟨(some 9), .move (.t 1), none, 1, []⟩,
    ⟨(some 10), .nilCheck (.t 8), none, 2, []⟩,
    ⟨(some 11), .fieldAddr 1 (.t 10), none, 3, []⟩,
    ⟨(some 12), .indexArr 17 3 (.t 11) (.t 9), none, 4, []⟩,
    ⟨(some 13), .fieldAddr 0 (.t 12), none, 5, []⟩,
    ⟨(some 14), .load none (.t 13), none, 6, []⟩,
    ⟨(some 4), .move (.t 14), none, 7, []⟩]) (RC.ret))))
theorem mtx_All_Base_ok : chkFunc Go.Proofs.Try.prog [] Go.Proofs.Try.f33 mtx_All_Base = true := by kernel_rfl
def mtx_Kind_right_s0 : RC :=
  RC.cond (.t 5) (RC.seq (RC.region 4 [
    ⟨(some 9), .fieldAddr 1 (.t 1), none, 0, []⟩,
    ⟨(some 10), .load none (.t 9), none, 1, []⟩,
    ⟨(some 11), .bin .eql (.t 10) (.c (.s (.int .i64 0))), none, 2, []⟩,
    ⟨(some 2), .move (.t 11), none, 3, []⟩]) (RC.ret)) (RC.seq (RC.region 2 [
    ⟨(some 13), .bin .eql (.t 4) (.c (.s (.int .i64 3))), none, 0, []⟩,
    ⟨(some 12), .move (.t 13), none, 1, []⟩]) (RC.cond (.t 12) (RC.seq (RC.region 4 [
    ⟨(some 14), .fieldAddr 1 (.t 1), none, 0, []⟩,
    ⟨(some 15), .load none (.t 14), none, 1, []⟩,
    ⟨(some 16), .call F.mtx_may [(.t 15)], none, 2, []⟩,
    ⟨(some 2), .move (.t 16), none, 3, []⟩]) (RC.ret)) (RC.skip)))
def mtx_Kind_right_s1 : RC :=
  RC.seq (RC.region 1 [
    ⟨(some 2), .move (.c (.s (.bool false))), none, 0, []⟩]) (RC.ret)
def mtx_Kind_right : RFunc := RFunc.mk 17 [.tmp 2] (
  RC.seq (RC.region 2 [
    ⟨(some 1), .box (.t 0), none, 0, []⟩,
    ⟨(some 2), .move (.c (.s (.bool false))), none, 1, []⟩]) (RC.seq (RC.seq (RC.region 2 [
    ⟨(some 3), .fieldAddr 0 (.t 1), none, 0, []⟩,
    ⟨(some 4), .load none (.t 3), none, 1, []⟩]) (RC.block 0 (RC.seq (RC.seq (RC.region 2 [
    ⟨(some 6), .bin .eql (.t 4) (.c (.s (.int .i64 0))), none, 0, []⟩,
    ⟨(some 5), .move (.t 6), none, 1, []⟩]) (RC.cond (.t 5) (RC.skip) (RC.seq (RC.region 2 [
    ⟨(some 7), .bin .eql (.t 4) (.c (.s (.int .i64 1))), none, 0, []⟩,
    ⟨(some 5), .move (.t 7), none, 1, []⟩]) (RC.cond (.t 5) (RC.skip) (RC.region 2 [
    ⟨(some 8), .bin .eql (.t 4) (.c (.s (.int .i64 2))), none, 0, []⟩,
    ⟨(some 5), .move (.t 8), none, 1, []⟩]))))) R.mtx_Kind_right_s0))) R.mtx_Kind_right_s1))
theorem mtx_Kind_right_ok : chkFunc Go.Proofs.Try.prog [] Go.Proofs.Try.f34 mtx_Kind_right = true := by kernel_rfl
def mtx_is : RFunc := RFunc.mk 9 [.tmp 2] (
  RC.seq (RC.region 1 [
    ⟨(some 2), .move (.c (.s (.bool false))), none, 0, []⟩]) (RC.seq (RC.region 7 [
    ⟨(some 3), .move (.t 0), none, 0, []⟩,
    ⟨(some 4), .bin .geq (.t 3) (.c (.s (.int .i64 1))), none, 1, []⟩,
    ⟨(some 5), .move (.t 4), none, 2, []⟩,
    ⟨(some 6), .move (.t 0), (some (5, true)), 3, []⟩,
    ⟨(some 7), .bin .leq (.t 6) (.c (.s (.int .i64 16))), (some (5, true)), 4, []⟩,
    ⟨(some 8), .pick (.t 5) (.t 7) (.c (.s (.bool false))), none, 5, []⟩,
    ⟨(some 2), .move (.t 8), none, 6, []⟩]) (RC.ret)))
theorem mtx_is_ok : chkFunc Go.Proofs.Try.prog [] Go.Proofs.Try.f35 mtx_is = true := by kernel_rfl
def mtx_may : RFunc := RFunc.mk 9 [.tmp 2] (
  RC.seq (RC.region 1 [
    ⟨(some 2), .move (.c (.s (.bool false))), none, 0, []⟩]) (RC.seq (RC.region 7 [
    ⟨(some 3), .move (.t 0), none, 0, []⟩,
    ⟨(some 4), .bin .geq (.t 3) (.c (.s (.int .i64 1))), none, 1, []⟩,
    ⟨(some 5), .move (.t 4), none, 2, []⟩,
    ⟨(some 6), .move (.t 0), (some (5, true)), 3, []⟩,
    ⟨(some 7), .bin .leq (.t 6) (.c (.s (.int .i64 16))), (some (5, true)), 4, []⟩,
    ⟨(some 8), .pick (.t 5) (.t 7) (.c (.s (.bool false))), none, 5, []⟩,
    ⟨(some 2), .move (.t 8), none, 6, []⟩]) (RC.ret)))
theorem mtx_may_ok : chkFunc Go.Proofs.Try.prog [] Go.Proofs.Try.f36 mtx_may = true := by kernel_rfl
def mtx_All_settle_l0 : RC :=
  RC.seq (RC.seq (RC.region 2 [
    ⟨(some 8), .move (.t 3), none, 0, []⟩,
    ⟨(some 9), .bin .leq (.t 8) (.c (.s (.int .i64 16))), none, 1, []⟩]) (RC.cond (.t 9) (RC.skip) (RC.exit 0))) (RC.seq (RC.block 1 (RC.region 6 [
    ⟨(some 12), .move (.t 3), none, 0, []⟩,
    ⟨(some 13), .move (.t 0), none, 1, []⟩,
    ⟨(some 14), .move (.t 3), none, 2, []⟩,
    ⟨(some 15), .call F.mtx_All_reckon [(.t 13), (.t 14), (.c (.s (.int .i64 0)))], none, 3, []⟩,
    ⟨(some 16), .indexArr 17 1 (.t 2) (.t 12), none, 4, []⟩,
    ⟨none, .store 1 (.t 16) (.t 15), none, 5, []⟩])) (RC.region 3 [
    ⟨(some 10), .move (.t 3), none, 0, []⟩,
    ⟨(some 11), .bin .add (.t 10) (.c (.s (.int .i64 1))), none, 1, []⟩,
    ⟨(some 3), .move (.t 11), none, 2, []⟩]))
def mtx_All_settle_l1 : RC :=
  RC.seq (RC.region 1 [
    ⟨(some 37), .bin .lss (.t 36) (.t 35), none, 0, []⟩]) (RC.seq (RC.cond (.t 37) (RC.skip) (RC.exit 4)) (RC.seq (RC.block 5 (RC.seq (RC.region 3 [
    ⟨(some 38), .indexSl 1 (.t 34) (.t 36), none, 0, []⟩,
    ⟨(some 39), .load none (.t 38), none, 1, []⟩,
    ⟨(some 6), .move (.t 39), none, 2, []⟩]) (RC.seq (RC.seq (RC.region 11 [
    ⟨(some 40), .move (.t 6), none, 0, []⟩,
    ⟨(some 41), .indexArr 17 1 (.t 2) (.t 40), none, 1, []⟩,
    ⟨(some 42), .load none (.t 41), none, 2, []⟩,
    ⟨(some 43), .move (.t 0), none, 3, []⟩,
    ⟨(some 44), .move (.t 6), none, 4, []⟩,
    ⟨(some 45), .nilCheck (.t 43), none, 5, []⟩,
    ⟨(some 46), .fieldAddr 1 (.t 45), none, 6, []⟩,
    ⟨(some 47), .indexArr 17 3 (.t 46) (.t 44), none, 7, []⟩,
    ⟨(some 48), .fieldAddr 1 (.t 47), none, 8, []⟩,
    ⟨(some 49), .load none (.t 48), none, 9, []⟩,
    ⟨(some 50), .bin .eql (.t 42) (.t 49), none, 10, []⟩]) (RC.cond (.t 50) (RC.exit 5) (RC.skip))) (RC.seq (RC.region 4 [
    ⟨(some 51), .move (.t 0), none, 0, []⟩,
    ⟨(some 52), .move (.t 4), none, 1, []⟩,
    ⟨(some 53), .move (.t 6), none, 2, []⟩,
    ⟨(some 54), .call F.mtx_All_leave [(.t 51), (.t 52), (.t 53)], none, 3, []⟩]) (RC.seq (RC.region 10 [
    ⟨(some 55), .move (.t 0), none, 0, []⟩,
    ⟨(some 56), .move (.t 6), none, 1, []⟩,
    ⟨(some 57), .move (.t 6), none, 2, []⟩,
    ⟨(some 58), .indexArr 17 1 (.t 2) (.t 57), none, 3, []⟩,
    ⟨(some 59), .load none (.t 58), none, 4, []⟩,
    ⟨(some 60), .nilCheck (.t 55), none, 5, []⟩,
    ⟨(some 61), .fieldAddr 1 (.t 60), none, 6, []⟩,
    ⟨(some 62), .indexArr 17 3 (.t 61) (.t 56), none, 7, []⟩,
    ⟨(some 63), .fieldAddr 1 (.t 62), none, 8, []⟩,
    ⟨none, .store 1 (.t 63) (.t 59), none, 9, []⟩]) (RC.region 4 [
    ⟨(some 64), .move (.t 0), none, 0, []⟩,
    ⟨(some 65), .move (.t 4), none, 1, []⟩,
    ⟨(some 66), .move (.t 6), none, 2, []⟩,
    ⟨(some 67), .call F.mtx_All_rejoin [(.t 64), (.t 65), (.t 66)], none, 3, []⟩])))))) (RC.region 2 [
    ⟨(some 68), .bin .add (.t 36) (.c (.s (.int .i64 1))), none, 0, []⟩,
    ⟨(some 36), .move (.t 68), none, 1, []⟩])))
def mtx_All_settle_s2 : RC :=
  RC.region 3 [
    ⟨(some 24), .move (.t 4), none, 0, []⟩,
    ⟨(some 25), .bin .add (.t 24) (.c (.s (.int .i64 1))), none, 1, []⟩,
    ⟨(some 4), .move (.t 25), none, 2, []⟩]
def mtx_All_settle_l3 : RC :=
  RC.seq (RC.seq (RC.region 7 [
    ⟨(some 17), .move (.t 4), none, 0, []⟩,
    ⟨(some 18), .move (.t 0), none, 1, []⟩,
    ⟨(some 19), .nilCheck (.t 18), none, 2, []⟩,
    ⟨(some 20), .fieldAddr 0 (.t 19), none, 3, []⟩,
    ⟨(some 21), .load none (.t 20), none, 4, []⟩,
    ⟨(some 22), .len (.t 21), none, 5, []⟩,
    ⟨(some 23), .bin .lss (.t 17) (.t 22), none, 6, []⟩]) (RC.cond (.t 23) (RC.skip) (RC.exit 2))) (RC.seq (RC.block 3 (RC.seq (RC.region 11 [
    ⟨(some 26), .move (.t 0), none, 0, []⟩,
    ⟨(some 27), .nilCheck (.t 26), none, 1, []⟩,
    ⟨(some 28), .fieldAddr 0 (.t 27), none, 2, []⟩,
    ⟨(some 29), .load none (.t 28), none, 3, []⟩,
    ⟨(some 30), .move (.t 4), none, 4, []⟩,
    ⟨(some 31), .indexSl 4 (.t 29) (.t 30), none, 5, []⟩,
    ⟨(some 32), .fieldAddr 3 (.t 31), none, 6, []⟩,
    ⟨(some 33), .load none (.t 32), none, 7, []⟩,
    ⟨(some 34), .call F.slices_Clone__int_int [(.t 33)], none, 8, []⟩,
    ⟨(some 35), .len (.t 34), none, 9, []⟩,
    ⟨(some 36), .move (.c (.s (.int .i64 0))), none, 10, []⟩]) (RC.block 4 (RC.loop R.mtx_All_settle_l1)))) R.mtx_All_settle_s2)
def mtx_All_settle_l4 : RC :=
  RC.seq (RC.seq (RC.region 2 [
    ⟨(some 69), .move (.t 7), none, 0, []⟩,
    ⟨(some 70), .bin .leq (.t 69) (.c (.s (.int .i64 16))), none, 1, []⟩]) (RC.cond (.t 70) (RC.skip) (RC.exit 6))) (RC.seq (RC.block 7 (RC.region 10 [
    ⟨(some 73), .move (.t 0), none, 0, []⟩,
    ⟨(some 74), .move (.t 7), none, 1, []⟩,
    ⟨(some 75), .move (.t 7), none, 2, []⟩,
    ⟨(some 76), .indexArr 17 1 (.t 2) (.t 75), none, 3, []⟩,
    ⟨(some 77), .load none (.t 76), none, 4, []⟩,
    ⟨(some 78), .nilCheck (.t 73), none, 5, []⟩,
    ⟨(some 79), .fieldAddr 1 (.t 78), none, 6, []⟩,
    ⟨(some 80), .indexArr 17 3 (.t 79) (.t 74), none, 7, []⟩,
    ⟨(some 81), .fieldAddr 1 (.t 80), none, 8, []⟩,
    ⟨none, .store 1 (.t 81) (.t 77), none, 9, []⟩])) (RC.region 3 [
    ⟨(some 71), .move (.t 7), none, 0, []⟩,
    ⟨(some 72), .bin .add (.t 71) (.c (.s (.int .i64 1))), none, 1, []⟩,
    ⟨(some 7), .move (.t 72), none, 2, []⟩]))
def mtx_All_settle_s5 : RC :=
  RC.seq (RC.region 1 [
    ⟨(some 7), .move (.c (.s (.int .i64 1))), none, 0, []⟩]) (RC.block 6 (RC.loop R.mtx_All_settle_l4))
def mtx_All_settle_s6 : RC :=
  RC.seq (RC.seq (RC.region 1 [
    ⟨(some 4), .move (.c (.s (.int .i64 1))), none, 0, []⟩]) (RC.block 2 (RC.loop R.mtx_All_settle_l3))) R.mtx_All_settle_s5
def mtx_All_settle : RFunc := RFunc.mk 82 [] (
  RC.seq (RC.region 1 [
    ⟨(some 2), .newc [.int .i64 0, .int .i64 0, .int .i64 0, .int .i64 0, .int .i64 0, .int .i64 0, .int .i64 0, .int .i64 0, .int .i64 0, .int .i64 0, .int .i64 0, .int .i64 0, .int .i64 0, .int .i64 0, .int .i64 0, .int .i64 0, .int .i64 0], none, 0, []⟩]) (RC.seq (RC.seq (RC.region 1 [
    ⟨(some 3), .move (.c (.s (.int .i64 1))), none, 0, []⟩]) (RC.block 0 (RC.loop R.mtx_All_settle_l0))) R.mtx_All_settle_s6))
theorem mtx_All_settle_ok : chkFunc Go.Proofs.Try.prog [] Go.Proofs.Try.f37 mtx_All_settle = true := by kernel_rfl
def mtx_All_over_l0 : RC :=
  RC.seq (RC.region 1 [
    ⟨(some 9), .bin .lss (.t 8) (.c (.s (.int .i64 17))), none, 0, []⟩]) (RC.seq (RC.cond (.t 9) (RC.skip) (RC.exit 0)) (RC.seq (RC.block 1 (RC.seq (RC.region 8 [
    ⟨(some 10), .move (.t 0), none, 0, []⟩,
    ⟨(some 11), .move (.t 1), none, 1, []⟩,
    ⟨(some 12), .nilCheck (.t 10), none, 2, []⟩,
    ⟨(some 13), .fieldAddr 1 (.t 12), none, 3, []⟩,
    ⟨(some 14), .indexArr 17 3 (.t 13) (.t 11), none, 4, []⟩,
    ⟨(some 15), .fieldAddr 2 (.t 14), none, 5, []⟩,
    ⟨(some 16), .load none (.t 15), none, 6, []⟩,
    ⟨(some 7), .move (.t 16), none, 7, []⟩]) (RC.seq (RC.seq (RC.region 2 [
    ⟨(some 17), .move (.t 7), none, 0, []⟩,
    ⟨(some 18), .bin .eql (.t 17) (.c (.s (.int .i64 0))), none, 1, []⟩]) (RC.cond (.t 18) (RC.seq (RC.region 1 [
    ⟨(some 6), .move (.c (.s (.bool false))), none, 0, []⟩]) (RC.ret)) (RC.skip))) (RC.seq (RC.seq (RC.region 9 [
    ⟨(some 19), .move (.t 0), none, 0, []⟩,
    ⟨(some 20), .nilCheck (.t 19), none, 1, []⟩,
    ⟨(some 21), .fieldAddr 0 (.t 20), none, 2, []⟩,
    ⟨(some 22), .load none (.t 21), none, 3, []⟩,
    ⟨(some 23), .move (.t 7), none, 4, []⟩,
    ⟨(some 24), .indexSl 4 (.t 22) (.t 23), none, 5, []⟩,
    ⟨(some 25), .fieldAddr 2 (.t 24), none, 6, []⟩,
    ⟨(some 26), .load none (.t 25), none, 7, []⟩,
    ⟨(some 1), .move (.t 26), none, 8, []⟩]) (RC.seq (RC.region 3 [
    ⟨(some 27), .move (.t 1), none, 0, []⟩,
    ⟨(some 28), .move (.t 2), none, 1, []⟩,
    ⟨(some 29), .bin .eql (.t 27) (.t 28), none, 2, []⟩]) (RC.cond (.t 29) (RC.seq (RC.region 1 [
    ⟨(some 6), .move (.c (.s (.bool true))), none, 0, []⟩]) (RC.ret)) (RC.skip)))) (RC.seq (RC.region 2 [
    ⟨(some 30), .move (.t 1), none, 0, []⟩,
    ⟨(some 31), .bin .eql (.t 30) (.c (.s (.int .i64 0))), none, 1, []⟩]) (RC.cond (.t 31) (RC.seq (RC.region 1 [
    ⟨(some 6), .move (.c (.s (.bool false))), none, 0, []⟩]) (RC.ret)) (RC.skip))))))) (RC.region 2 [
    ⟨(some 32), .bin .add (.t 8) (.c (.s (.int .i64 1))), none, 0, []⟩,
    ⟨(some 8), .move (.t 32), none, 1, []⟩])))
def mtx_All_over_s1 : RC :=
  RC.seq (RC.region 1 [
    ⟨(some 6), .move (.c (.s (.bool false))), none, 0, []⟩]) (RC.ret)
def mtx_All_over : RFunc := RFunc.mk 33 [.tmp 6] (
  RC.seq (RC.region 1 [
    ⟨(some 6), .move (.c (.s (.bool false))), none, 0, []⟩]) (RC.seq (RC.seq (RC.region 1 [
    ⟨(some 8), .move (.c (.s (.int .i64 0))), none, 0, []⟩]) (RC.block 0 (RC.loop R.mtx_All_over_l0))) R.mtx_All_over_s1))
theorem mtx_All_over_ok : chkFunc Go.Proofs.Try.prog [] Go.Proofs.Try.f38 mtx_All_over = true := by kernel_rfl
def mtx_All_stand_l0 : RC :=
  RC.seq (RC.seq (RC.region 34 [
    ⟨(some 19), .move (.t 6), none, 0, []⟩,
    ⟨(some 20), .nilCheck (.t 19), none, 1, []⟩,
    ⟨(some 21), .fieldAddr 0 (.t 20), none, 2, []⟩,
    ⟨(some 22), .fieldAddr 0 (.t 21), none, 3, []⟩,
    ⟨(some 23), .load none (.t 22), none, 4, []⟩,
    ⟨(some 24), .bin .neq (.t 23) (.c (.s (.int .i64 0))), none, 5, []⟩,
    ⟨(some 25), .move (.t 24), none, 6, []⟩,
    ⟨(some 26), .move (.t 7), (some (25, true)), 7, []⟩,
    ⟨(some 27), .bin .gtr (.t 26) (.c (.s (.int .i64 0))), (some (25, true)), 8, []⟩,
    ⟨(some 28), .pick (.t 25) (.t 27) (.c (.s (.bool false))), none, 9, []⟩,
    ⟨(some 29), .move (.t 28), none, 10, []⟩,
    ⟨(some 30), .move (.t 0), (some (29, true)), 11, []⟩,
    ⟨(some 31), .move (.t 6), (some (29, true)), 12, []⟩,
    ⟨(some 32), .nilCheck (.t 31), (some (29, true)), 13, []⟩,
    ⟨(some 33), .fieldAddr 3 (.t 32), (some (29, true)), 14, []⟩,
    ⟨(some 34), .load none (.t 33), (some (29, true)), 15, []⟩,
    ⟨(some 35), .move (.t 7), (some (29, true)), 16, []⟩,
    ⟨(some 36), .bin .sub (.t 35) (.c (.s (.int .i64 1))), (some (29, true)), 17, []⟩,
    ⟨(some 37), .indexSl 1 (.t 34) (.t 36), (some (29, true)), 18, []⟩,
    ⟨(some 38), .load none (.t 37), (some (29, true)), 19, []⟩,
    ⟨(some 39), .nilCheck (.t 30), (some (29, true)), 20, []⟩,
    ⟨(some 40), .fieldAddr 1 (.t 39), (some (29, true)), 21, []⟩,
    ⟨(some 41), .indexArr 17 3 (.t 40) (.t 38), (some (29, true)), 22, []⟩,
    ⟨(some 42), .fieldAddr 1 (.t 41), (some (29, true)), 23, []⟩,
    ⟨(some 43), .load none (.t 42), (some (29, true)), 24, []⟩,
    ⟨(some 44), .move (.t 0), (some (29, true)), 25, []⟩,
    ⟨(some 45), .move (.t 2), (some (29, true)), 26, []⟩,
    ⟨(some 46), .nilCheck (.t 44), (some (29, true)), 27, []⟩,
    ⟨(some 47), .fieldAddr 1 (.t 46), (some (29, true)), 28, []⟩,
    ⟨(some 48), .indexArr 17 3 (.t 47) (.t 45), (some (29, true)), 29, []⟩,
    ⟨(some 49), .fieldAddr 1 (.t 48), (some (29, true)), 30, []⟩,
    ⟨(some 50), .load none (.t 49), (some (29, true)), 31, []⟩,
    ⟨(some 51), .bin .gtr (.t 43) (.t 50), (some (29, true)), 32, []⟩,
    ⟨(some 52), .pick (.t 29) (.t 51) (.c (.s (.bool false))), none, 33, []⟩]) (RC.cond (.t 52) (RC.skip) (RC.exit 0))) (RC.block 1 (RC.region 3 [
    ⟨(some 53), .move (.t 7), none, 0, []⟩,
    ⟨(some 54), .bin .sub (.t 53) (.c (.s (.int .i64 1))), none, 1, []⟩,
    ⟨(some 7), .move (.t 54), none, 2, []⟩]))
def mtx_All_stand_s1 : RC :=
  RC.region 12 [
    ⟨(some 55), .move (.t 6), none, 0, []⟩,
    ⟨(some 56), .move (.t 6), none, 1, []⟩,
    ⟨(some 57), .nilCheck (.t 56), none, 2, []⟩,
    ⟨(some 58), .fieldAddr 3 (.t 57), none, 3, []⟩,
    ⟨(some 59), .load none (.t 58), none, 4, []⟩,
    ⟨(some 60), .move (.t 7), none, 5, []⟩,
    ⟨(some 61), .move (.t 2), none, 6, []⟩,
    ⟨(some 62), .buildSlice 1 1 [.int .i64 0] [(0, 1, (.t 61))], none, 7, []⟩,
    ⟨(some 63), .call F.slices_Insert__int_int [(.t 59), (.t 60), (.t 62)], none, 8, []⟩,
    ⟨(some 64), .nilCheck (.t 55), none, 9, []⟩,
    ⟨(some 65), .fieldAddr 3 (.t 64), none, 10, []⟩,
    ⟨none, .store 1 (.t 65) (.t 63), none, 11, []⟩]
def mtx_All_stand : RFunc := RFunc.mk 66 [] (
  RC.seq (RC.region 7 [
    ⟨(some 8), .move (.t 0), none, 0, []⟩,
    ⟨(some 9), .nilCheck (.t 8), none, 1, []⟩,
    ⟨(some 10), .fieldAddr 0 (.t 9), none, 2, []⟩,
    ⟨(some 11), .load none (.t 10), none, 3, []⟩,
    ⟨(some 12), .move (.t 1), none, 4, []⟩,
    ⟨(some 13), .indexSl 4 (.t 11) (.t 12), none, 5, []⟩,
    ⟨(some 6), .move (.t 13), none, 6, []⟩]) (RC.seq (RC.region 6 [
    ⟨(some 14), .move (.t 6), none, 0, []⟩,
    ⟨(some 15), .nilCheck (.t 14), none, 1, []⟩,
    ⟨(some 16), .fieldAddr 3 (.t 15), none, 2, []⟩,
    ⟨(some 17), .load none (.t 16), none, 3, []⟩,
    ⟨(some 18), .len (.t 17), none, 4, []⟩,
    ⟨(some 7), .move (.t 18), none, 5, []⟩]) (RC.seq (RC.block 0 (RC.loop R.mtx_All_stand_l0)) R.mtx_All_stand_s1)))
theorem mtx_All_stand_ok : chkFunc Go.Proofs.Try.prog [] Go.Proofs.Try.f39 mtx_All_stand = true := by kernel_rfl
def mtx_All_in : RFunc := RFunc.mk 16 [.tmp 4] (
  RC.seq (RC.region 1 [
    ⟨(some 4), .move (.c (.s (.bool false))), none, 0, []⟩]) (RC.seq (RC.region 12 [
    ⟨(some 5), .move (.t 1), none, 0, []⟩,
    ⟨(some 6), .bin .geq (.t 5) (.c (.s (.int .i64 1))), none, 1, []⟩,
    ⟨(some 7), .move (.t 6), none, 2, []⟩,
    ⟨(some 8), .move (.t 1), (some (7, true)), 3, []⟩,
    ⟨(some 9), .move (.t 0), (some (7, true)), 4, []⟩,
    ⟨(some 10), .nilCheck (.t 9), (some (7, true)), 5, []⟩,
    ⟨(some 11), .fieldAddr 0 (.t 10), (some (7, true)), 6, []⟩,
    ⟨(some 12), .load none (.t 11), (some (7, true)), 7, []⟩,
    ⟨(some 13), .len (.t 12), (some (7, true)), 8, []⟩,
    ⟨(some 14), .bin .lss (.t 8) (.t 13), (some (7, true)), 9, []⟩,
    ⟨(some 15), .pick (.t 7) (.t 14) (.c (.s (.bool false))), none, 10, []⟩,
    ⟨(some 4), .move (.t 15), none, 11, []⟩]) (RC.ret)))
theorem mtx_All_in_ok : chkFunc Go.Proofs.Try.prog [] Go.Proofs.Try.f40 mtx_All_in = true := by kernel_rfl
def slices_Delete__int_int : RFunc := RFunc.mk 33 [.tmp 6] (
  RC.seq (RC.region 1 [
    ⟨(some 6), .move (.c (.s (.slice none 0 0 1))), none, 0, []⟩]) (RC.seq (RC.region 6 [
    ⟨(some 8), .move (.t 0), none, 0, []⟩,
    ⟨(some 9), .move (.t 1), none, 1, []⟩,
    ⟨(some 10), .move (.t 2), none, 2, []⟩,
    ⟨(some 11), .move (.t 0), none, 3, []⟩,
    ⟨(some 12), .len (.t 11), none, 4, []⟩,
    ⟨(some 13), .slSl 1 (.t 8) (some (.t 9)) (some (.t 10)) (some (.t 12)), none, 5, []⟩]) (RC.seq (RC.seq (RC.region 3 [
    ⟨(some 14), .move (.t 1), none, 0, []⟩,
    ⟨(some 15), .move (.t 2), none, 1, []⟩,
    ⟨(some 16), .bin .eql (.t 14) (.t 15), none, 2, []⟩]) (RC.cond (.t 16) (RC.seq (RC.region 2 [
    ⟨(some 17), .move (.t 0), none, 0, []⟩,
    ⟨(some 6), .move (.t 17), none, 1, []⟩]) (RC.ret)) (RC.skip))) (RC.seq (RC.region 3 [
    ⟨(some 18), .move (.t 0), none, 0, []⟩,
    ⟨(some 19), .len (.t 18), none, 1, []⟩,
    ⟨(some 7), .move (.t 19), none, 2, []⟩]) (RC.seq (RC.region 8 [
    ⟨(some 20), .move (.t 0), none, 0, []⟩,
    ⟨(some 21), .move (.t 1), none, 1, []⟩,
    ⟨(some 22), .slSl 1 (.t 20) none (some (.t 21)) none, none, 2, []⟩,
    ⟨(some 23), .move (.t 0), none, 3, []⟩,
    ⟨(some 24), .move (.t 2), none, 4, []⟩,
    ⟨(some 25), .slSl 1 (.t 23) (some (.t 24)) none none, none, 5, []⟩,
    ⟨(some 26), .append 1 8 (.t 22) (.t 25), none, 6, []⟩,
    ⟨(some 0), .move (.t 26), none, 7, []⟩]) (RC.seq (RC.region 6 [
    ⟨(some 27), .move (.t 0), none, 0, []⟩,
    ⟨(some 28), .move (.t 0), none, 1, []⟩,
    ⟨(some 29), .len (.t 28), none, 2, []⟩,
    ⟨(some 30), .move (.t 7), none, 3, []⟩,
    ⟨(some 31), .slSl 1 (.t 27) (some (.t 29)) (some (.t 30)) none, none, 4, []⟩,
    ⟨none, .clear 1 [.int .i64 0] (.t 31), none, 5, []⟩]) (RC.seq (RC.region 2 [
    ⟨(some 32), .move (.t 0), none, 0, []⟩,
    ⟨(some 6), .move (.t 32), none, 1, []⟩]) (RC.ret))))))))
theorem slices_Delete__int_int_ok : chkFunc Go.Proofs.Try.prog [] Go.Proofs.Try.f41 slices_Delete__int_int = true := by kernel_rfl
def slices_Clip__int_int : RFunc := RFunc.mk 9 [.tmp 2] (
  RC.seq (RC.region 1 [
    ⟨(some 2), .move (.c (.s (.slice none 0 0 1))), none, 0, []⟩]) (RC.seq (RC.region 7 [
    ⟨(some 3), .move (.t 0), none, 0, []⟩,
    ⟨(some 4), .move (.t 0), none, 1, []⟩,
    ⟨(some 5), .len (.t 4), none, 2, []⟩,
    ⟨(some 6), .move (.t 0), none, 3, []⟩,
    ⟨(some 7), .len (.t 6), none, 4, []⟩,
    ⟨(some 8), .slSl 1 (.t 3) none (some (.t 5)) (some (.t 7)), none, 5, []⟩,
    ⟨(some 2), .move (.t 8), none, 6, []⟩]) (RC.ret)))
theorem slices_Clip__int_int_ok : chkFunc Go.Proofs.Try.prog [] Go.Proofs.Try.f42 slices_Clip__int_int = true := by kernel_rfl
def slices_Clone__int_int : RFunc := RFunc.mk 8 [.tmp 2] (
  RC.seq (RC.region 1 [
    ⟨(some 2), .move (.c (.s (.slice none 0 0 1))), none, 0, []⟩]) (RC.seq (RC.seq (RC.region 2 [
    ⟨(some 3), .move (.t 0), none, 0, []⟩,
    ⟨(some 4), .eqs .slice false (.t 3) (.c (.s (.slice none 0 0 1))), none, 1, []⟩]) (RC.cond (.t 4) (RC.seq (RC.region 1 [
    ⟨(some 2), .move (.c (.s (.slice none 0 0 1))), none, 0, []⟩]) (RC.ret)) (RC.skip))) (RC.seq (RC.region 4 [
    ⟨(some 5), .buildSlice 1 0 [] [], none, 0, []⟩,
    ⟨(some 6), .move (.t 0), none, 1, []⟩,
    ⟨(some 7), .append 1 8 (.t 5) (.t 6), none, 2, []⟩,
    ⟨(some 2), .move (.t 7), none, 3, []⟩]) (RC.ret))))
theorem slices_Clone__int_int_ok : chkFunc Go.Proofs.Try.prog [] Go.Proofs.Try.f43 slices_Clone__int_int = true := by kernel_rfl
def detentref15_All_try : RFunc := RFunc.mk 83 [.tmp 6, .tmp 7] (
  RC.seq (RC.region 2 [
    ⟨(some 6), .move (.c (.s (.bool false))), none, 0, []⟩,
    ⟨(some 7), .move (.c (.s (.int .i64 0))), none, 1, []⟩]) (RC.seq (RC.block 0 (RC.seq (RC.region 10 [
    ⟨(some 9), .move (.t 0), none, 0, []⟩,
    ⟨(some 10), .move (.t 1), none, 1, []⟩,
    ⟨(some 11), .call F.detentref15_All_mutex [(.t 9), (.t 10)], none, 2, []⟩,
    ⟨(some 12), .un .not (.t 11), none, 3, []⟩,
    ⟨(some 13), .move (.t 12), none, 4, []⟩,
    ⟨(some 14), .move (.t 2), (some (13, false)), 5, []⟩,
    ⟨(some 15), .call F.detentref15_is [(.t 14)], (some (13, false)), 6, []⟩,
    ⟨(some 16), .un .not (.t 15), (some (13, false)), 7, []⟩,
    ⟨(some 17), .pick (.t 13) (.c (.s (.bool true))) (.t 16), none, 8, []⟩,
    ⟨(some 8), .move (.t 17), none, 9, []⟩]) (RC.cond (.t 8) (RC.seq (RC.region 2 [
    ⟨(some 6), .move (.c (.s (.bool false))), none, 0, []⟩,
    ⟨(some 7), .move (.c (.s (.int .i64 (-18)))), none, 1, []⟩]) (RC.ret)) (RC.seq (RC.region 11 [
    ⟨(some 19), .move (.t 0), none, 0, []⟩,
    ⟨(some 20), .nilCheck (.t 19), none, 1, []⟩,
    ⟨(some 21), .fieldAddr 1 (.t 20), none, 2, []⟩,
    ⟨(some 22), .load none (.t 21), none, 3, []⟩,
    ⟨(some 23), .move (.t 1), none, 4, []⟩,
    ⟨(some 24), .bin .sub (.t 23) (.c (.s (.int .i64 1))), none, 5, []⟩,
    ⟨(some 25), .indexSl 1 (.t 22) (.t 24), none, 6, []⟩,
    ⟨(some 26), .load none (.t 25), none, 7, []⟩,
    ⟨(some 27), .move (.t 2), none, 8, []⟩,
    ⟨(some 28), .bin .eql (.t 26) (.t 27), none, 9, []⟩,
    ⟨(some 18), .move (.t 28), none, 10, []⟩]) (RC.cond (.t 18) (RC.seq (RC.region 2 [
    ⟨(some 6), .move (.c (.s (.bool false))), none, 0, []⟩,
    ⟨(some 7), .move (.c (.s (.int .i64 (-28)))), none, 1, []⟩]) (RC.ret)) (RC.seq (RC.region 29 [
    ⟨(some 30), .move (.t 0), none, 0, []⟩,
    ⟨(some 31), .nilCheck (.t 30), none, 1, []⟩,
    ⟨(some 32), .fieldAddr 0 (.t 31), none, 2, []⟩,
    ⟨(some 33), .load none (.t 32), none, 3, []⟩,
    ⟨(some 34), .move (.t 1), none, 4, []⟩,
    ⟨(some 35), .bin .sub (.t 34) (.c (.s (.int .i64 1))), none, 5, []⟩,
    ⟨(some 36), .indexSl 2 (.t 33) (.t 35), none, 6, []⟩,
    ⟨(some 37), .fieldAddr 0 (.t 36), none, 7, []⟩,
    ⟨(some 38), .load none (.t 37), none, 8, []⟩,
    ⟨(some 39), .bin .eql (.t 38) (.c (.s (.int .i64 3))), none, 9, []⟩,
    ⟨(some 40), .move (.t 39), none, 10, []⟩,
    ⟨(some 41), .move (.t 0), (some (40, true)), 11, []⟩,
    ⟨(some 42), .move (.t 2), (some (40, true)), 12, []⟩,
    ⟨(some 43), .nilCheck (.t 41), (some (40, true)), 13, []⟩,
    ⟨(some 44), .fieldAddr 3 (.t 43), (some (40, true)), 14, []⟩,
    ⟨(some 45), .indexArr 17 1 (.t 44) (.t 42), (some (40, true)), 15, []⟩,
    ⟨(some 46), .load none (.t 45), (some (40, true)), 16, []⟩,
    ⟨(some 47), .move (.t 0), (some (40, true)), 17, []⟩,
    ⟨(some 48), .nilCheck (.t 47), (some (40, true)), 18, []⟩,
    ⟨(some 49), .fieldAddr 0 (.t 48), (some (40, true)), 19, []⟩,
    ⟨(some 50), .load none (.t 49), (some (40, true)), 20, []⟩,
    ⟨(some 51), .move (.t 1), (some (40, true)), 21, []⟩,
    ⟨(some 52), .bin .sub (.t 51) (.c (.s (.int .i64 1))), (some (40, true)), 22, []⟩,
    ⟨(some 53), .indexSl 2 (.t 50) (.t 52), (some (40, true)), 23, []⟩,
    ⟨(some 54), .fieldAddr 1 (.t 53), (some (40, true)), 24, []⟩,
    ⟨(some 55), .load none (.t 54), (some (40, true)), 25, []⟩,
    ⟨(some 56), .bin .lss (.t 46) (.t 55), (some (40, true)), 26, []⟩,
    ⟨(some 57), .pick (.t 40) (.t 56) (.c (.s (.bool false))), none, 27, []⟩,
    ⟨(some 29), .move (.t 57), none, 28, []⟩]) (RC.cond (.t 29) (RC.seq (RC.region 2 [
    ⟨(some 6), .move (.c (.s (.bool false))), none, 0, []⟩,
    ⟨(some 7), .move (.c (.s (.int .i64 (-28)))), none, 1, []⟩]) (RC.ret)) (RC.seq (RC.region 5 [
    ⟨(some 59), .move (.t 0), none, 0, []⟩,
    ⟨(some 60), .move (.t 2), none, 1, []⟩,
    ⟨(some 61), .call F.detentref15_All_waits [(.t 59), (.t 60)], none, 2, []⟩,
    ⟨(some 62), .bin .geq (.t 61) (.c (.s (.int .i64 0))), none, 3, []⟩,
    ⟨(some 58), .move (.t 62), none, 4, []⟩]) (RC.cond (.t 58) (RC.seq (RC.region 2 [
    ⟨(some 6), .move (.c (.s (.bool false))), none, 0, []⟩,
    ⟨(some 7), .move (.c (.s (.int .i64 (-41)))), none, 1, []⟩]) (RC.ret)) (RC.seq (RC.region 10 [
    ⟨(some 64), .move (.t 0), none, 0, []⟩,
    ⟨(some 65), .nilCheck (.t 64), none, 1, []⟩,
    ⟨(some 66), .fieldAddr 1 (.t 65), none, 2, []⟩,
    ⟨(some 67), .load none (.t 66), none, 3, []⟩,
    ⟨(some 68), .move (.t 1), none, 4, []⟩,
    ⟨(some 69), .bin .sub (.t 68) (.c (.s (.int .i64 1))), none, 5, []⟩,
    ⟨(some 70), .indexSl 1 (.t 67) (.t 69), none, 6, []⟩,
    ⟨(some 71), .load none (.t 70), none, 7, []⟩,
    ⟨(some 72), .bin .eql (.t 71) (.c (.s (.int .i64 0))), none, 8, []⟩,
    ⟨(some 63), .move (.t 72), none, 9, []⟩]) (RC.cond (.t 63) (RC.seq (RC.region 9 [
    ⟨(some 73), .move (.t 0), none, 0, []⟩,
    ⟨(some 74), .nilCheck (.t 73), none, 1, []⟩,
    ⟨(some 75), .fieldAddr 1 (.t 74), none, 2, []⟩,
    ⟨(some 76), .load none (.t 75), none, 3, []⟩,
    ⟨(some 77), .move (.t 1), none, 4, []⟩,
    ⟨(some 78), .bin .sub (.t 77) (.c (.s (.int .i64 1))), none, 5, []⟩,
    ⟨(some 79), .move (.t 2), none, 6, []⟩,
    ⟨(some 80), .indexSl 1 (.t 76) (.t 78), none, 7, []⟩,
    ⟨none, .store 1 (.t 80) (.t 79), none, 8, []⟩]) (RC.seq (RC.region 2 [
    ⟨(some 81), .move (.t 0), none, 0, []⟩,
    ⟨(some 82), .call F.detentref15_All_settle [(.t 81)], none, 1, []⟩]) (RC.seq (RC.region 2 [
    ⟨(some 6), .move (.c (.s (.bool true))), none, 0, []⟩,
    ⟨(some 7), .move (.c (.s (.int .i64 0))), none, 1, []⟩]) (RC.ret)))) (RC.skip)))))))))))) (RC.seq (RC.region 2 [
    ⟨(some 6), .move (.c (.s (.bool false))), none, 0, []⟩,
    ⟨(some 7), .move (.c (.s (.int .i64 0))), none, 1, []⟩]) (RC.ret))))
theorem detentref15_All_try_ok : chkFunc Go.Proofs.Try.prog [] Go.Proofs.Try.f44 detentref15_All_try = true := by kernel_rfl
def detentref15_All_round_l0 : RC :=
  RC.seq (RC.seq (RC.region 6 [
    ⟨(some 17), .move (.t 8), none, 0, []⟩,
    ⟨(some 18), .bin .leq (.t 17) (.c (.s (.int .i64 16))), none, 1, []⟩,
    ⟨(some 19), .move (.t 18), none, 2, []⟩,
    ⟨(some 20), .move (.t 7), (some (19, true)), 3, []⟩,
    ⟨(some 21), .bin .neq (.t 20) (.c (.s (.int .i64 0))), (some (19, true)), 4, []⟩,
    ⟨(some 22), .pick (.t 19) (.t 21) (.c (.s (.bool false))), none, 5, []⟩]) (RC.cond (.t 22) (RC.skip) (RC.exit 0))) (RC.seq (RC.block 1 (RC.seq (RC.seq (RC.region 3 [
    ⟨(some 25), .move (.t 7), none, 0, []⟩,
    ⟨(some 26), .move (.t 2), none, 1, []⟩,
    ⟨(some 27), .bin .eql (.t 25) (.t 26), none, 2, []⟩]) (RC.cond (.t 27) (RC.seq (RC.region 1 [
    ⟨(some 6), .move (.c (.s (.bool true))), none, 0, []⟩]) (RC.ret)) (RC.skip))) (RC.seq (RC.region 4 [
    ⟨(some 28), .move (.t 0), none, 0, []⟩,
    ⟨(some 29), .move (.t 7), none, 1, []⟩,
    ⟨(some 30), .call F.detentref15_All_waits [(.t 28), (.t 29)], none, 2, []⟩,
    ⟨(some 9), .move (.t 30), none, 3, []⟩]) (RC.seq (RC.seq (RC.region 2 [
    ⟨(some 31), .move (.t 9), none, 0, []⟩,
    ⟨(some 32), .bin .lss (.t 31) (.c (.s (.int .i64 0))), none, 1, []⟩]) (RC.cond (.t 32) (RC.seq (RC.region 1 [
    ⟨(some 6), .move (.c (.s (.bool false))), none, 0, []⟩]) (RC.ret)) (RC.skip))) (RC.region 8 [
    ⟨(some 33), .move (.t 0), none, 0, []⟩,
    ⟨(some 34), .nilCheck (.t 33), none, 1, []⟩,
    ⟨(some 35), .fieldAddr 1 (.t 34), none, 2, []⟩,
    ⟨(some 36), .load none (.t 35), none, 3, []⟩,
    ⟨(some 37), .move (.t 9), none, 4, []⟩,
    ⟨(some 38), .indexSl 1 (.t 36) (.t 37), none, 5, []⟩,
    ⟨(some 39), .load none (.t 38), none, 6, []⟩,
    ⟨(some 7), .move (.t 39), none, 7, []⟩]))))) (RC.region 3 [
    ⟨(some 23), .move (.t 8), none, 0, []⟩,
    ⟨(some 24), .bin .add (.t 23) (.c (.s (.int .i64 1))), none, 1, []⟩,
    ⟨(some 8), .move (.t 24), none, 2, []⟩]))
def detentref15_All_round_s1 : RC :=
  RC.seq (RC.region 1 [
    ⟨(some 6), .move (.c (.s (.bool false))), none, 0, []⟩]) (RC.ret)
def detentref15_All_round : RFunc := RFunc.mk 40 [.tmp 6] (
  RC.seq (RC.region 1 [
    ⟨(some 6), .move (.c (.s (.bool false))), none, 0, []⟩]) (RC.seq (RC.region 8 [
    ⟨(some 10), .move (.t 0), none, 0, []⟩,
    ⟨(some 11), .nilCheck (.t 10), none, 1, []⟩,
    ⟨(some 12), .fieldAddr 1 (.t 11), none, 2, []⟩,
    ⟨(some 13), .load none (.t 12), none, 3, []⟩,
    ⟨(some 14), .move (.t 1), none, 4, []⟩,
    ⟨(some 15), .indexSl 1 (.t 13) (.t 14), none, 5, []⟩,
    ⟨(some 16), .load none (.t 15), none, 6, []⟩,
    ⟨(some 7), .move (.t 16), none, 7, []⟩]) (RC.seq (RC.seq (RC.region 1 [
    ⟨(some 8), .move (.c (.s (.int .i64 0))), none, 0, []⟩]) (RC.block 0 (RC.loop R.detentref15_All_round_l0))) R.detentref15_All_round_s1)))
theorem detentref15_All_round_ok : chkFunc Go.Proofs.Try.prog [] Go.Proofs.Try.f45 detentref15_All_round = true := by kernel_rfl
def detentref4_Queue_Add : RFunc := RFunc.mk 20 [.tmp 6] (
  RC.seq (RC.region 1 [
    ⟨(some 6), .move (.c (.s (.int .i64 0))), none, 0, []⟩]) (RC.seq (RC.seq (RC.region 4 [
    ⟨(some 7), .move (.t 1), none, 0, []⟩,
    ⟨(some 8), .move (.t 2), none, 1, []⟩,
    ⟨(some 9), .call F.detentref4_Good [(.t 7), (.t 8)], none, 2, []⟩,
    ⟨(some 10), .un .not (.t 9), none, 3, []⟩]) (RC.cond (.t 10) (RC.seq (RC.region 1 [
    ⟨(some 6), .move (.c (.s (.int .i64 (-17)))), none, 0, []⟩]) (RC.ret)) (RC.skip))) (RC.seq (RC.seq (RC.region 4 [
    ⟨(some 11), .move (.t 0), none, 0, []⟩,
    ⟨(some 12), .move (.t 1), none, 1, []⟩,
    ⟨(some 13), .call F.detentref4_Queue_At [(.t 11), (.t 12)], none, 2, []⟩,
    ⟨(some 14), .bin .geq (.t 13) (.c (.s (.int .i64 0))), none, 3, []⟩]) (RC.cond (.t 14) (RC.seq (RC.region 1 [
    ⟨(some 6), .move (.c (.s (.int .i64 (-41)))), none, 0, []⟩]) (RC.ret)) (RC.skip))) (RC.seq (RC.region 5 [
    ⟨(some 15), .move (.t 0), none, 0, []⟩,
    ⟨(some 16), .move (.t 1), none, 1, []⟩,
    ⟨(some 17), .move (.t 2), none, 2, []⟩,
    ⟨(some 18), .build [.int .i64 0, .int .i64 0] [(0, 1, (.t 16)), (1, 1, (.t 17))], none, 3, []⟩,
    ⟨(some 19), .call F.detentref4_Queue_put [(.t 15), (.t 18)], none, 4, []⟩]) (RC.seq (RC.region 1 [
    ⟨(some 6), .move (.c (.s (.int .i64 0))), none, 0, []⟩]) (RC.ret))))))
theorem detentref4_Queue_Add_ok : chkFunc Go.Proofs.Try.prog [] Go.Proofs.Try.f46 detentref4_Queue_Add = true := by kernel_rfl
def detentref15_All_Pri : RFunc := RFunc.mk 14 [.tmp 4] (
  RC.seq (RC.region 1 [
    ⟨(some 4), .move (.c (.s (.int .i64 0))), none, 0, []⟩]) (RC.seq (RC.seq (RC.region 6 [
    ⟨(some 5), .move (.t 1), none, 0, []⟩,
    ⟨(some 6), .bin .lss (.t 5) (.c (.s (.int .i64 1))), none, 1, []⟩,
    ⟨(some 7), .move (.t 6), none, 2, []⟩,
    ⟨(some 8), .move (.t 1), (some (7, false)), 3, []⟩,
    ⟨(some 9), .bin .gtr (.t 8) (.c (.s (.int .i64 16))), (some (7, false)), 4, []⟩,
    ⟨(some 10), .pick (.t 7) (.c (.s (.bool true))) (.t 9), none, 5, []⟩]) (RC.cond (.t 10) (RC.seq (RC.region 1 [
    ⟨(some 4), .move (.c (.s (.int .i64 0))), none, 0, []⟩]) (RC.ret)) (RC.skip))) (RC.seq (RC.region 4 [
    ⟨(some 11), .move (.t 0), none, 0, []⟩,
    ⟨(some 12), .move (.t 1), none, 1, []⟩,
    ⟨(some 13), .call F.detentref15_All_pri [(.t 11), (.t 12), (.c (.s (.int .i64 16)))], none, 2, []⟩,
    ⟨(some 4), .move (.t 13), none, 3, []⟩]) (RC.ret))))
theorem detentref15_All_Pri_ok : chkFunc Go.Proofs.Try.prog [] Go.Proofs.Try.f47 detentref15_All_Pri = true := by kernel_rfl
def detentref15_All_settle_l0 : RC :=
  RC.seq (RC.seq (RC.region 2 [
    ⟨(some 7), .move (.t 3), none, 0, []⟩,
    ⟨(some 8), .bin .leq (.t 7) (.c (.s (.int .i64 16))), none, 1, []⟩]) (RC.cond (.t 8) (RC.skip) (RC.exit 0))) (RC.seq (RC.block 1 (RC.region 6 [
    ⟨(some 11), .move (.t 3), none, 0, []⟩,
    ⟨(some 12), .move (.t 0), none, 1, []⟩,
    ⟨(some 13), .move (.t 3), none, 2, []⟩,
    ⟨(some 14), .call F.detentref15_All_Pri [(.t 12), (.t 13)], none, 3, []⟩,
    ⟨(some 15), .indexArr 17 1 (.t 2) (.t 11), none, 4, []⟩,
    ⟨none, .store 1 (.t 15) (.t 14), none, 5, []⟩])) (RC.region 3 [
    ⟨(some 9), .move (.t 3), none, 0, []⟩,
    ⟨(some 10), .bin .add (.t 9) (.c (.s (.int .i64 1))), none, 1, []⟩,
    ⟨(some 3), .move (.t 10), none, 2, []⟩]))
def detentref15_All_settle_l1 : RC :=
  RC.seq (RC.seq (RC.region 4 [
    ⟨(some 33), .move (.t 6), none, 0, []⟩,
    ⟨(some 34), .move (.t 5), none, 1, []⟩,
    ⟨(some 35), .len (.t 34), none, 2, []⟩,
    ⟨(some 36), .bin .lss (.t 33) (.t 35), none, 3, []⟩]) (RC.cond (.t 36) (RC.skip) (RC.exit 4))) (RC.seq (RC.block 5 (RC.seq (RC.region 16 [
    ⟨(some 39), .move (.t 5), none, 0, []⟩,
    ⟨(some 40), .move (.t 6), none, 1, []⟩,
    ⟨(some 41), .indexSl 1 (.t 39) (.t 40), none, 2, []⟩,
    ⟨(some 42), .load none (.t 41), none, 3, []⟩,
    ⟨(some 43), .indexArr 17 1 (.t 2) (.t 42), none, 4, []⟩,
    ⟨(some 44), .load none (.t 43), none, 5, []⟩,
    ⟨(some 45), .move (.t 0), none, 6, []⟩,
    ⟨(some 46), .move (.t 5), none, 7, []⟩,
    ⟨(some 47), .move (.t 6), none, 8, []⟩,
    ⟨(some 48), .indexSl 1 (.t 46) (.t 47), none, 9, []⟩,
    ⟨(some 49), .load none (.t 48), none, 10, []⟩,
    ⟨(some 50), .nilCheck (.t 45), none, 11, []⟩,
    ⟨(some 51), .fieldAddr 20 (.t 50), none, 12, []⟩,
    ⟨(some 52), .indexArr 17 1 (.t 51) (.t 49), none, 13, []⟩,
    ⟨(some 53), .load none (.t 52), none, 14, []⟩,
    ⟨(some 54), .bin .neq (.t 44) (.t 53), none, 15, []⟩]) (RC.cond (.t 54) (RC.region 18 [
    ⟨(some 55), .move (.t 0), none, 0, []⟩,
    ⟨(some 56), .nilCheck (.t 55), none, 1, []⟩,
    ⟨(some 57), .fieldAddr 2 (.t 56), none, 2, []⟩,
    ⟨(some 58), .load none (.t 57), none, 3, []⟩,
    ⟨(some 59), .move (.t 4), none, 4, []⟩,
    ⟨(some 60), .indexSl 1 (.t 58) (.t 59), none, 5, []⟩,
    ⟨(some 61), .load none (.t 60), none, 6, []⟩,
    ⟨(some 62), .move (.t 5), none, 7, []⟩,
    ⟨(some 63), .move (.t 6), none, 8, []⟩,
    ⟨(some 64), .indexSl 1 (.t 62) (.t 63), none, 9, []⟩,
    ⟨(some 65), .load none (.t 64), none, 10, []⟩,
    ⟨(some 66), .move (.t 5), none, 11, []⟩,
    ⟨(some 67), .move (.t 6), none, 12, []⟩,
    ⟨(some 68), .indexSl 1 (.t 66) (.t 67), none, 13, []⟩,
    ⟨(some 69), .load none (.t 68), none, 14, []⟩,
    ⟨(some 70), .indexArr 17 1 (.t 2) (.t 69), none, 15, []⟩,
    ⟨(some 71), .load none (.t 70), none, 16, []⟩,
    ⟨(some 72), .call F.detentref4_Queue_Change [(.t 61), (.t 65), (.t 71)], none, 17, []⟩]) (RC.skip)))) (RC.region 3 [
    ⟨(some 37), .move (.t 6), none, 0, []⟩,
    ⟨(some 38), .bin .add (.t 37) (.c (.s (.int .i64 1))), none, 1, []⟩,
    ⟨(some 6), .move (.t 38), none, 2, []⟩]))
def detentref15_All_settle_s2 : RC :=
  RC.region 3 [
    ⟨(some 23), .move (.t 4), none, 0, []⟩,
    ⟨(some 24), .bin .add (.t 23) (.c (.s (.int .i64 1))), none, 1, []⟩,
    ⟨(some 4), .move (.t 24), none, 2, []⟩]
def detentref15_All_settle_l3 : RC :=
  RC.seq (RC.seq (RC.region 7 [
    ⟨(some 16), .move (.t 4), none, 0, []⟩,
    ⟨(some 17), .move (.t 0), none, 1, []⟩,
    ⟨(some 18), .nilCheck (.t 17), none, 2, []⟩,
    ⟨(some 19), .fieldAddr 2 (.t 18), none, 3, []⟩,
    ⟨(some 20), .load none (.t 19), none, 4, []⟩,
    ⟨(some 21), .len (.t 20), none, 5, []⟩,
    ⟨(some 22), .bin .lss (.t 16) (.t 21), none, 6, []⟩]) (RC.cond (.t 22) (RC.skip) (RC.exit 2))) (RC.seq (RC.block 3 (RC.seq (RC.region 9 [
    ⟨(some 25), .move (.t 0), none, 0, []⟩,
    ⟨(some 26), .nilCheck (.t 25), none, 1, []⟩,
    ⟨(some 27), .fieldAddr 2 (.t 26), none, 2, []⟩,
    ⟨(some 28), .load none (.t 27), none, 3, []⟩,
    ⟨(some 29), .move (.t 4), none, 4, []⟩,
    ⟨(some 30), .indexSl 1 (.t 28) (.t 29), none, 5, []⟩,
    ⟨(some 31), .load none (.t 30), none, 6, []⟩,
    ⟨(some 32), .call F.detentref4_Queue_IDs [(.t 31)], none, 7, []⟩,
    ⟨(some 5), .move (.t 32), none, 8, []⟩]) (RC.seq (RC.region 1 [
    ⟨(some 6), .move (.c (.s (.int .i64 0))), none, 0, []⟩]) (RC.block 4 (RC.loop R.detentref15_All_settle_l1))))) R.detentref15_All_settle_s2)
def detentref15_All_settle_s4 : RC :=
  RC.region 5 [
    ⟨(some 73), .move (.t 0), none, 0, []⟩,
    ⟨(some 74), .load (some 17) (.t 2), none, 1, []⟩,
    ⟨(some 75), .nilCheck (.t 73), none, 2, []⟩,
    ⟨(some 76), .fieldAddr 20 (.t 75), none, 3, []⟩,
    ⟨none, .store 17 (.t 76) (.t 74), none, 4, []⟩]
def detentref15_All_settle_s5 : RC :=
  RC.seq (RC.seq (RC.region 1 [
    ⟨(some 4), .move (.c (.s (.int .i64 0))), none, 0, []⟩]) (RC.block 2 (RC.loop R.detentref15_All_settle_l3))) R.detentref15_All_settle_s4
def detentref15_All_settle : RFunc := RFunc.mk 77 [] (
  RC.seq (RC.region 1 [
    ⟨(some 2), .newc [.int .i64 0, .int .i64 0, .int .i64 0, .int .i64 0, .int .i64 0, .int .i64 0, .int .i64 0, .int .i64 0, .int .i64 0, .int .i64 0, .int .i64 0, .int .i64 0, .int .i64 0, .int .i64 0, .int .i64 0, .int .i64 0, .int .i64 0], none, 0, []⟩]) (RC.seq (RC.seq (RC.region 1 [
    ⟨(some 3), .move (.c (.s (.int .i64 1))), none, 0, []⟩]) (RC.block 0 (RC.loop R.detentref15_All_settle_l0))) R.detentref15_All_settle_s5))
theorem detentref15_All_settle_ok : chkFunc Go.Proofs.Try.prog [] Go.Proofs.Try.f48 detentref15_All_settle = true := by kernel_rfl
def detentref15_All_mutex : RFunc := RFunc.mk 16 [.tmp 4] (
  RC.seq (RC.region 1 [
    ⟨(some 4), .move (.c (.s (.bool false))), none, 0, []⟩]) (RC.seq (RC.region 12 [
    ⟨(some 5), .move (.t 1), none, 0, []⟩,
    ⟨(some 6), .bin .geq (.t 5) (.c (.s (.int .i64 1))), none, 1, []⟩,
    ⟨(some 7), .move (.t 6), none, 2, []⟩,
    ⟨(some 8), .move (.t 1), (some (7, true)), 3, []⟩,
    ⟨(some 9), .move (.t 0), (some (7, true)), 4, []⟩,
    ⟨(some 10), .nilCheck (.t 9), (some (7, true)), 5, []⟩,
    ⟨(some 11), .fieldAddr 0 (.t 10), (some (7, true)), 6, []⟩,
    ⟨(some 12), .load none (.t 11), (some (7, true)), 7, []⟩,
    ⟨(some 13), .len (.t 12), (some (7, true)), 8, []⟩,
    ⟨(some 14), .bin .leq (.t 8) (.t 13), (some (7, true)), 9, []⟩,
    ⟨(some 15), .pick (.t 7) (.t 14) (.c (.s (.bool false))), none, 10, []⟩,
    ⟨(some 4), .move (.t 15), none, 11, []⟩]) (RC.ret)))
theorem detentref15_All_mutex_ok : chkFunc Go.Proofs.Try.prog [] Go.Proofs.Try.f49 detentref15_All_mutex = true := by kernel_rfl
def detentref15_is : RFunc := RFunc.mk 9 [.tmp 2] (
  RC.seq (RC.region 1 [
    ⟨(some 2), .move (.c (.s (.bool false))), none, 0, []⟩]) (RC.seq (RC.region 7 [
    ⟨(some 3), .move (.t 0), none, 0, []⟩,
    ⟨(some 4), .bin .geq (.t 3) (.c (.s (.int .i64 1))), none, 1, []⟩,
    ⟨(some 5), .move (.t 4), none, 2, []⟩,
    ⟨(some 6), .move (.t 0), (some (5, true)), 3, []⟩,
    ⟨(some 7), .bin .leq (.t 6) (.c (.s (.int .i64 16))), (some (5, true)), 4, []⟩,
    ⟨(some 8), .pick (.t 5) (.t 7) (.c (.s (.bool false))), none, 5, []⟩,
    ⟨(some 2), .move (.t 8), none, 6, []⟩]) (RC.ret)))
theorem detentref15_is_ok : chkFunc Go.Proofs.Try.prog [] Go.Proofs.Try.f50 detentref15_is = true := by kernel_rfl
def detentref15_All_pass : RFunc := RFunc.mk 28 [.tmp 4] (
  RC.seq (RC.region 1 [
    ⟨(some 4), .move (.c (.s (.int .i64 0))), none, 0, []⟩]) (RC.seq (RC.region 14 [
    ⟨(some 8), .move (.t 0), none, 0, []⟩,
    ⟨(some 9), .nilCheck (.t 8), none, 1, []⟩,
    ⟨(some 10), .fieldAddr 2 (.t 9), none, 2, []⟩,
    ⟨(some 11), .load none (.t 10), none, 3, []⟩,
    ⟨(some 12), .move (.t 1), none, 4, []⟩,
    ⟨(some 13), .indexSl 1 (.t 11) (.t 12), none, 5, []⟩,
    ⟨(some 14), .load none (.t 13), none, 6, []⟩,
    ⟨(some 15), .call F.detentref4_Queue_Take [(.t 14)], none, 7, []⟩,
    ⟨(some 7), .move (.t 15), none, 8, []⟩,
    ⟨(some 16), .extract 0 (.t 7), none, 9, []⟩,
    ⟨(some 17), .extract 1 (.t 7), none, 10, []⟩,
    ⟨(some 5), .newc [.int .i64 0, .int .i64 0], none, 11, []⟩,
    ⟨none, .store 2 (.t 5) (.t 16), none, 12, []⟩,
    ⟨(some 6), .move (.t 17), none, 13, []⟩]) (RC.seq (RC.region 9 [
    ⟨(some 18), .move (.t 0), none, 0, []⟩,
    ⟨(some 19), .nilCheck (.t 18), none, 1, []⟩,
    ⟨(some 20), .fieldAddr 1 (.t 19), none, 2, []⟩,
    ⟨(some 21), .load none (.t 20), none, 3, []⟩,
    ⟨(some 22), .move (.t 1), none, 4, []⟩,
    ⟨(some 23), .fieldAddr 0 (.t 5), none, 5, []⟩,
    ⟨(some 24), .load none (.t 23), none, 6, []⟩,
    ⟨(some 25), .indexSl 1 (.t 21) (.t 22), none, 7, []⟩,
    ⟨none, .store 1 (.t 25) (.t 24), none, 8, []⟩]) (RC.seq (RC.region 3 [
    ⟨(some 26), .fieldAddr 0 (.t 5), none, 0, []⟩,
    ⟨(some 27), .load none (.t 26), none, 1, []⟩,
    ⟨(some 4), .move (.t 27), none, 2, []⟩]) (RC.ret)))))
theorem detentref15_All_pass_ok : chkFunc Go.Proofs.Try.prog [] Go.Proofs.Try.f51 detentref15_All_pass = true := by kernel_rfl
def detentref4_Queue_At_l0 : RC :=
  RC.seq (RC.seq (RC.region 7 [
    ⟨(some 6), .move (.t 5), none, 0, []⟩,
    ⟨(some 7), .move (.t 0), none, 1, []⟩,
    ⟨(some 8), .nilCheck (.t 7), none, 2, []⟩,
    ⟨(some 9), .fieldAddr 1 (.t 8), none, 3, []⟩,
    ⟨(some 10), .load none (.t 9), none, 4, []⟩,
    ⟨(some 11), .len (.t 10), none, 5, []⟩,
    ⟨(some 12), .bin .lss (.t 6) (.t 11), none, 6, []⟩]) (RC.cond (.t 12) (RC.skip) (RC.exit 0))) (RC.seq (RC.block 1 (RC.seq (RC.region 10 [
    ⟨(some 15), .move (.t 0), none, 0, []⟩,
    ⟨(some 16), .nilCheck (.t 15), none, 1, []⟩,
    ⟨(some 17), .fieldAddr 1 (.t 16), none, 2, []⟩,
    ⟨(some 18), .load none (.t 17), none, 3, []⟩,
    ⟨(some 19), .move (.t 5), none, 4, []⟩,
    ⟨(some 20), .indexSl 2 (.t 18) (.t 19), none, 5, []⟩,
    ⟨(some 21), .fieldAddr 0 (.t 20), none, 6, []⟩,
    ⟨(some 22), .load none (.t 21), none, 7, []⟩,
    ⟨(some 23), .move (.t 1), none, 8, []⟩,
    ⟨(some 24), .bin .eql (.t 22) (.t 23), none, 9, []⟩]) (RC.cond (.t 24) (RC.seq (RC.region 2 [
    ⟨(some 25), .move (.t 5), none, 0, []⟩,
    ⟨(some 4), .move (.t 25), none, 1, []⟩]) (RC.ret)) (RC.skip)))) (RC.region 3 [
    ⟨(some 13), .move (.t 5), none, 0, []⟩,
    ⟨(some 14), .bin .add (.t 13) (.c (.s (.int .i64 1))), none, 1, []⟩,
    ⟨(some 5), .move (.t 14), none, 2, []⟩]))
def detentref4_Queue_At_s1 : RC :=
  RC.seq (RC.region 1 [
    ⟨(some 4), .move (.c (.s (.int .i64 (-1)))), none, 0, []⟩]) (RC.ret)
def detentref4_Queue_At : RFunc := RFunc.mk 26 [.tmp 4] (
  RC.seq (RC.region 1 [
    ⟨(some 4), .move (.c (.s (.int .i64 0))), none, 0, []⟩]) (RC.seq (RC.seq (RC.region 1 [
    ⟨(some 5), .move (.c (.s (.int .i64 0))), none, 0, []⟩]) (RC.block 0 (RC.loop R.detentref4_Queue_At_l0))) R.detentref4_Queue_At_s1))
theorem detentref4_Queue_At_ok : chkFunc Go.Proofs.Try.prog [] Go.Proofs.Try.f52 detentref4_Queue_At = true := by kernel_rfl
def slices_DeleteFunc__int_int_l0 : RC :=
  RC.seq (RC.seq (RC.region 4 [
    ⟨(some 16), .move (.t 6), none, 0, []⟩,
    ⟨(some 17), .move (.t 0), none, 1, []⟩,
    ⟨(some 18), .len (.t 17), none, 2, []⟩,
    ⟨(some 19), .bin .lss (.t 16) (.t 18), none, 3, []⟩]) (RC.cond (.t 19) (RC.skip) (RC.exit 0))) (RC.seq (RC.block 1 (RC.seq (RC.region 5 [
    ⟨(some 22), .move (.t 0), none, 0, []⟩,
    ⟨(some 23), .move (.t 6), none, 1, []⟩,
    ⟨(some 24), .indexSl 1 (.t 22) (.t 23), none, 2, []⟩,
    ⟨(some 25), .load none (.t 24), none, 3, []⟩,
    ⟨(some 7), .move (.t 25), none, 4, []⟩]) (RC.seq (RC.region 4 [
    ⟨(some 26), .move (.t 1), none, 0, []⟩,
    ⟨(some 27), .move (.t 7), none, 1, []⟩,
    ⟨(some 28), .callv (.t 26) [(.t 27)], none, 2, []⟩,
    ⟨(some 29), .un .not (.t 28), none, 3, []⟩]) (RC.cond (.t 29) (RC.seq (RC.region 5 [
    ⟨(some 30), .move (.t 0), none, 0, []⟩,
    ⟨(some 31), .move (.t 5), none, 1, []⟩,
    ⟨(some 32), .move (.t 7), none, 2, []⟩,
    ⟨(some 33), .indexSl 1 (.t 30) (.t 31), none, 3, []⟩,
    ⟨none, .store 1 (.t 33) (.t 32), none, 4, []⟩]) (RC.region 3 [
    ⟨(some 34), .move (.t 5), none, 0, []⟩,
    ⟨(some 35), .bin .add (.t 34) (.c (.s (.int .i64 1))), none, 1, []⟩,
    ⟨(some 5), .move (.t 35), none, 2, []⟩])) (RC.skip))))) (RC.region 3 [
    ⟨(some 20), .move (.t 6), none, 0, []⟩,
    ⟨(some 21), .bin .add (.t 20) (.c (.s (.int .i64 1))), none, 1, []⟩,
    ⟨(some 6), .move (.t 21), none, 2, []⟩]))
def slices_DeleteFunc__int_int_s1 : RC :=
  RC.seq (RC.region 4 [
    ⟨(some 36), .move (.t 0), none, 0, []⟩,
    ⟨(some 37), .move (.t 5), none, 1, []⟩,
    ⟨(some 38), .slSl 1 (.t 36) (some (.t 37)) none none, none, 2, []⟩,
    ⟨none, .clear 1 [.int .i64 0] (.t 38), none, 3, []⟩]) (RC.seq (RC.region 4 [
    ⟨(some 39), .move (.t 0), none, 0, []⟩,
    ⟨(some 40), .move (.t 5), none, 1, []⟩,
    ⟨(some 41), .slSl 1 (.t 39) none (some (.t 40)) none, none, 2, []⟩,
    ⟨(some 4), .move (.t 41), none, 3, []⟩]) (RC.ret))
def slices_DeleteFunc__int_int : RFunc := RFunc.mk 42 [.tmp 4] (
  RC.seq (RC.region 1 [
    ⟨(some 4), .move (.c (.s (.slice none 0 0 1))), none, 0, []⟩]) (RC.seq (RC.region 4 [
    ⟨(some 8), .move (.t 0), none, 0, []⟩,
    ⟨(some 9), .move (.t 1), none, 1, []⟩,
    ⟨(some 10), .call F.slices_IndexFunc__int_int [(.t 8), (.t 9)], none, 2, []⟩,
    ⟨(some 5), .move (.t 10), none, 3, []⟩]) (RC.seq (RC.seq (RC.region 2 [
    ⟨(some 11), .move (.t 5), none, 0, []⟩,
    ⟨(some 12), .bin .eql (.t 11) (.c (.s (.int .i64 (-1)))), none, 1, []⟩]) (RC.cond (.t 12) (RC.seq (RC.region 2 [
    ⟨(some 13), .move (.t 0), none, 0, []⟩,
    ⟨(some 4), .move (.t 13), none, 1, []⟩]) (RC.ret)) (RC.skip))) (RC.seq (RC.seq (RC.region 3 [
    ⟨(some 14), .move (.t 5), none, 0, []⟩,
    ⟨(some 15), .bin .add (.t 14) (.c (.s (.int .i64 1))), none, 1, []⟩,
    ⟨(some 6), .move (.t 15), none, 2, []⟩]) (RC.block 0 (RC.loop R.slices_DeleteFunc__int_int_l0))) R.slices_DeleteFunc__int_int_s1))))
theorem slices_DeleteFunc__int_int_ok : chkFunc Go.Proofs.Try.prog [] Go.Proofs.Try.f53 slices_DeleteFunc__int_int = true := by kernel_rfl
def mtx_All_Drop_1 : RFunc := RFunc.mk 7 [.tmp 3] (
  RC.seq (RC.region 1 [
    ⟨(some 3), .move (.c (.s (.bool false))), none, 0, []⟩]) (RC.seq (RC.region 4 [
    ⟨(some 4), .move (.t 0), none, 0, []⟩,
    ⟨(some 5), .load none (.t 1), none, 1, []⟩,
    ⟨(some 6), .bin .eql (.t 4) (.t 5), none, 2, []⟩,
    ⟨(some 3), .move (.t 6), none, 3, []⟩]) (RC.ret)))
theorem mtx_All_Drop_1_ok : chkFunc Go.Proofs.Try.prog [] Go.Proofs.Try.f54 mtx_All_Drop_1 = true := by kernel_rfl
def detentref15_All_waits_l0 : RC :=
  RC.seq (RC.seq (RC.region 7 [
    ⟨(some 6), .move (.t 5), none, 0, []⟩,
    ⟨(some 7), .move (.t 0), none, 1, []⟩,
    ⟨(some 8), .nilCheck (.t 7), none, 2, []⟩,
    ⟨(some 9), .fieldAddr 2 (.t 8), none, 3, []⟩,
    ⟨(some 10), .load none (.t 9), none, 4, []⟩,
    ⟨(some 11), .len (.t 10), none, 5, []⟩,
    ⟨(some 12), .bin .lss (.t 6) (.t 11), none, 6, []⟩]) (RC.cond (.t 12) (RC.skip) (RC.exit 0))) (RC.seq (RC.block 1 (RC.seq (RC.region 10 [
    ⟨(some 15), .move (.t 0), none, 0, []⟩,
    ⟨(some 16), .nilCheck (.t 15), none, 1, []⟩,
    ⟨(some 17), .fieldAddr 2 (.t 16), none, 2, []⟩,
    ⟨(some 18), .load none (.t 17), none, 3, []⟩,
    ⟨(some 19), .move (.t 5), none, 4, []⟩,
    ⟨(some 20), .indexSl 1 (.t 18) (.t 19), none, 5, []⟩,
    ⟨(some 21), .load none (.t 20), none, 6, []⟩,
    ⟨(some 22), .move (.t 1), none, 7, []⟩,
    ⟨(some 23), .call F.detentref4_Queue_At [(.t 21), (.t 22)], none, 8, []⟩,
    ⟨(some 24), .bin .geq (.t 23) (.c (.s (.int .i64 0))), none, 9, []⟩]) (RC.cond (.t 24) (RC.seq (RC.region 2 [
    ⟨(some 25), .move (.t 5), none, 0, []⟩,
    ⟨(some 4), .move (.t 25), none, 1, []⟩]) (RC.ret)) (RC.skip)))) (RC.region 3 [
    ⟨(some 13), .move (.t 5), none, 0, []⟩,
    ⟨(some 14), .bin .add (.t 13) (.c (.s (.int .i64 1))), none, 1, []⟩,
    ⟨(some 5), .move (.t 14), none, 2, []⟩]))
def detentref15_All_waits_s1 : RC :=
  RC.seq (RC.region 1 [
    ⟨(some 4), .move (.c (.s (.int .i64 (-1)))), none, 0, []⟩]) (RC.ret)
def detentref15_All_waits : RFunc := RFunc.mk 26 [.tmp 4] (
  RC.seq (RC.region 1 [
    ⟨(some 4), .move (.c (.s (.int .i64 0))), none, 0, []⟩]) (RC.seq (RC.seq (RC.region 1 [
    ⟨(some 5), .move (.c (.s (.int .i64 0))), none, 0, []⟩]) (RC.block 0 (RC.loop R.detentref15_All_waits_l0))) R.detentref15_All_waits_s1))
theorem detentref15_All_waits_ok : chkFunc Go.Proofs.Try.prog [] Go.Proofs.Try.f55 detentref15_All_waits = true := by kernel_rfl
def detentref4_Queue_Remove : RFunc := RFunc.mk 32 [.tmp 4] (
  RC.seq (RC.region 1 [
    ⟨(some 4), .move (.c (.s (.bool false))), none, 0, []⟩]) (RC.seq (RC.region 4 [
    ⟨(some 7), .move (.t 0), none, 0, []⟩,
    ⟨(some 8), .move (.t 1), none, 1, []⟩,
    ⟨(some 9), .call F.detentref4_Queue_At [(.t 7), (.t 8)], none, 2, []⟩,
    ⟨(some 5), .move (.t 9), none, 3, []⟩]) (RC.seq (RC.seq (RC.region 2 [
    ⟨(some 10), .move (.t 5), none, 0, []⟩,
    ⟨(some 11), .bin .lss (.t 10) (.c (.s (.int .i64 0))), none, 1, []⟩]) (RC.cond (.t 11) (RC.seq (RC.region 1 [
    ⟨(some 4), .move (.c (.s (.bool false))), none, 0, []⟩]) (RC.ret)) (RC.skip))) (RC.seq (RC.region 9 [
    ⟨(some 12), .buildSlice 2 0 [] [], none, 0, []⟩,
    ⟨(some 13), .move (.t 0), none, 1, []⟩,
    ⟨(some 14), .nilCheck (.t 13), none, 2, []⟩,
    ⟨(some 15), .fieldAddr 1 (.t 14), none, 3, []⟩,
    ⟨(some 16), .load none (.t 15), none, 4, []⟩,
    ⟨(some 17), .move (.t 5), none, 5, []⟩,
    ⟨(some 18), .slSl 2 (.t 16) none (some (.t 17)) none, none, 6, []⟩,
    ⟨(some 19), .append 2 16 (.t 12) (.t 18), none, 7, []⟩,
    ⟨(some 6), .move (.t 19), none, 8, []⟩]) (RC.seq (RC.region 13 [
    ⟨(some 20), .move (.t 0), none, 0, []⟩,
    ⟨(some 21), .move (.t 6), none, 1, []⟩,
    ⟨(some 22), .move (.t 0), none, 2, []⟩,
    ⟨(some 23), .nilCheck (.t 22), none, 3, []⟩,
    ⟨(some 24), .fieldAddr 1 (.t 23), none, 4, []⟩,
    ⟨(some 25), .load none (.t 24), none, 5, []⟩,
    ⟨(some 26), .move (.t 5), none, 6, []⟩,
    ⟨(some 27), .bin .add (.t 26) (.c (.s (.int .i64 1))), none, 7, []⟩,
    ⟨(some 28), .slSl 2 (.t 25) (some (.t 27)) none none, none, 8, []⟩,
    ⟨(some 29), .append 2 16 (.t 21) (.t 28), none, 9, []⟩,
    ⟨(some 30), .nilCheck (.t 20), none, 10, []⟩,
    ⟨(some 31), .fieldAddr 1 (.t 30), none, 11, []⟩,
    ⟨none, .store 1 (.t 31) (.t 29), none, 12, []⟩]) (RC.seq (RC.region 1 [
    ⟨(some 4), .move (.c (.s (.bool true))), none, 0, []⟩]) (RC.ret)))))))
theorem detentref4_Queue_Remove_ok : chkFunc Go.Proofs.Try.prog [] Go.Proofs.Try.f56 detentref4_Queue_Remove = true := by kernel_rfl
def slices_Clone__mtx_mutex_mtx_mutex : RFunc := RFunc.mk 8 [.tmp 2] (
  RC.seq (RC.region 1 [
    ⟨(some 2), .move (.c (.s (.slice none 0 0 1))), none, 0, []⟩]) (RC.seq (RC.seq (RC.region 2 [
    ⟨(some 3), .move (.t 0), none, 0, []⟩,
    ⟨(some 4), .eqs .slice false (.t 3) (.c (.s (.slice none 0 0 1))), none, 1, []⟩]) (RC.cond (.t 4) (RC.seq (RC.region 1 [
    ⟨(some 2), .move (.c (.s (.slice none 0 0 1))), none, 0, []⟩]) (RC.ret)) (RC.skip))) (RC.seq (RC.region 4 [
    ⟨(some 5), .buildSlice 4 0 [] [], none, 0, []⟩,
    ⟨(some 6), .move (.t 0), none, 1, []⟩,
    ⟨(some 7), .append 4 48 (.t 5) (.t 6), none, 2, []⟩,
    ⟨(some 2), .move (.t 7), none, 3, []⟩]) (RC.ret))))
theorem slices_Clone__mtx_mutex_mtx_mutex_ok : chkFunc Go.Proofs.Try.prog [] Go.Proofs.Try.f57 slices_Clone__mtx_mutex_mtx_mutex = true := by kernel_rfl
def detentref4_Queue_IDs_l0 : RC :=
  RC.seq (RC.seq (RC.region 7 [
    ⟨(some 5), .move (.t 4), none, 0, []⟩,
    ⟨(some 6), .move (.t 0), none, 1, []⟩,
    ⟨(some 7), .nilCheck (.t 6), none, 2, []⟩,
    ⟨(some 8), .fieldAddr 1 (.t 7), none, 3, []⟩,
    ⟨(some 9), .load none (.t 8), none, 4, []⟩,
    ⟨(some 10), .len (.t 9), none, 5, []⟩,
    ⟨(some 11), .bin .lss (.t 5) (.t 10), none, 6, []⟩]) (RC.cond (.t 11) (RC.skip) (RC.exit 0))) (RC.seq (RC.block 1 (RC.region 12 [
    ⟨(some 14), .move (.t 3), none, 0, []⟩,
    ⟨(some 15), .move (.t 0), none, 1, []⟩,
    ⟨(some 16), .nilCheck (.t 15), none, 2, []⟩,
    ⟨(some 17), .fieldAddr 1 (.t 16), none, 3, []⟩,
    ⟨(some 18), .load none (.t 17), none, 4, []⟩,
    ⟨(some 19), .move (.t 4), none, 5, []⟩,
    ⟨(some 20), .indexSl 2 (.t 18) (.t 19), none, 6, []⟩,
    ⟨(some 21), .fieldAddr 0 (.t 20), none, 7, []⟩,
    ⟨(some 22), .load none (.t 21), none, 8, []⟩,
    ⟨(some 23), .buildSlice 1 1 [.int .i64 0] [(0, 1, (.t 22))], none, 9, []⟩,
    ⟨(some 24), .append 1 8 (.t 14) (.t 23), none, 10, []⟩,
    ⟨(some 3), .move (.t 24), none, 11, []⟩])) (RC.region 3 [
    ⟨(some 12), .move (.t 4), none, 0, []⟩,
    ⟨(some 13), .bin .add (.t 12) (.c (.s (.int .i64 1))), none, 1, []⟩,
    ⟨(some 4), .move (.t 13), none, 2, []⟩]))
def detentref4_Queue_IDs_s1 : RC :=
  RC.seq (RC.region 2 [
    ⟨(some 25), .move (.t 3), none, 0, []⟩,
    ⟨(some 2), .move (.t 25), none, 1, []⟩]) (RC.ret)
def detentref4_Queue_IDs : RFunc := RFunc.mk 26 [.tmp 2] (
  RC.seq (RC.region 1 [
    ⟨(some 2), .move (.c (.s (.slice none 0 0 1))), none, 0, []⟩]) (RC.seq (RC.region 1 [
    ⟨(some 3), .move (.c (.s (.slice none 0 0 1))), none, 0, []⟩]) (RC.seq (RC.seq (RC.region 1 [
    ⟨(some 4), .move (.c (.s (.int .i64 0))), none, 0, []⟩]) (RC.block 0 (RC.loop R.detentref4_Queue_IDs_l0))) R.detentref4_Queue_IDs_s1)))
theorem detentref4_Queue_IDs_ok : chkFunc Go.Proofs.Try.prog [] Go.Proofs.Try.f58 detentref4_Queue_IDs = true := by kernel_rfl
def detentref15_All_Held_l0 : RC :=
  RC.seq (RC.seq (RC.region 11 [
    ⟨(some 7), .move (.t 6), none, 0, []⟩,
    ⟨(some 8), .move (.t 0), none, 1, []⟩,
    ⟨(some 9), .nilCheck (.t 8), none, 2, []⟩,
    ⟨(some 10), .fieldAddr 0 (.t 9), none, 3, []⟩,
    ⟨(some 11), .load none (.t 10), none, 4, []⟩,
    ⟨(some 12), .len (.t 11), none, 5, []⟩,
    ⟨(some 13), .bin .lss (.t 7) (.t 12), none, 6, []⟩,
    ⟨(some 14), .move (.t 13), none, 7, []⟩,
    ⟨(some 15), .move (.t 1), (some (14, true)), 8, []⟩,
    ⟨(some 16), .call F.detentref15_is [(.t 15)], (some (14, true)), 9, []⟩,
    ⟨(some 17), .pick (.t 14) (.t 16) (.c (.s (.bool false))), none, 10, []⟩]) (RC.cond (.t 17) (RC.skip) (RC.exit 0))) (RC.seq (RC.block 1 (RC.seq (RC.region 9 [
    ⟨(some 20), .move (.t 0), none, 0, []⟩,
    ⟨(some 21), .nilCheck (.t 20), none, 1, []⟩,
    ⟨(some 22), .fieldAddr 1 (.t 21), none, 2, []⟩,
    ⟨(some 23), .load none (.t 22), none, 3, []⟩,
    ⟨(some 24), .move (.t 6), none, 4, []⟩,
    ⟨(some 25), .indexSl 1 (.t 23) (.t 24), none, 5, []⟩,
    ⟨(some 26), .load none (.t 25), none, 6, []⟩,
    ⟨(some 27), .move (.t 1), none, 7, []⟩,
    ⟨(some 28), .bin .eql (.t 26) (.t 27), none, 8, []⟩]) (RC.cond (.t 28) (RC.region 6 [
    ⟨(some 29), .move (.t 5), none, 0, []⟩,
    ⟨(some 30), .move (.t 6), none, 1, []⟩,
    ⟨(some 31), .bin .add (.t 30) (.c (.s (.int .i64 1))), none, 2, []⟩,
    ⟨(some 32), .buildSlice 1 1 [.int .i64 0] [(0, 1, (.t 31))], none, 3, []⟩,
    ⟨(some 33), .append 1 8 (.t 29) (.t 32), none, 4, []⟩,
    ⟨(some 5), .move (.t 33), none, 5, []⟩]) (RC.skip)))) (RC.region 3 [
    ⟨(some 18), .move (.t 6), none, 0, []⟩,
    ⟨(some 19), .bin .add (.t 18) (.c (.s (.int .i64 1))), none, 1, []⟩,
    ⟨(some 6), .move (.t 19), none, 2, []⟩]))
def detentref15_All_Held_s1 : RC :=
  RC.seq (RC.region 2 [
    ⟨(some 34), .move (.t 5), none, 0, []⟩,
    ⟨(some 4), .move (.t 34), none, 1, []⟩]) (RC.ret)
def detentref15_All_Held : RFunc := RFunc.mk 35 [.tmp 4] (
  RC.seq (RC.region 1 [
    ⟨(some 4), .move (.c (.s (.slice none 0 0 1))), none, 0, []⟩]) (RC.seq (RC.region 1 [
    ⟨(some 5), .move (.c (.s (.slice none 0 0 1))), none, 0, []⟩]) (RC.seq (RC.seq (RC.region 1 [
    ⟨(some 6), .move (.c (.s (.int .i64 0))), none, 0, []⟩]) (RC.block 0 (RC.loop R.detentref15_All_Held_l0))) R.detentref15_All_Held_s1)))
theorem detentref15_All_Held_ok : chkFunc Go.Proofs.Try.prog [] Go.Proofs.Try.f59 detentref15_All_Held = true := by kernel_rfl
def mtx_All_reckon_l0 : RC :=
  RC.seq (RC.region 1 [
    ⟨(some 57), .bin .lss (.t 56) (.t 55), none, 0, []⟩]) (RC.seq (RC.cond (.t 57) (RC.skip) (RC.exit 3)) (RC.seq (RC.block 4 (RC.seq (RC.region 3 [
    ⟨(some 58), .indexSl 1 (.t 54) (.t 56), none, 0, []⟩,
    ⟨(some 59), .load none (.t 58), none, 1, []⟩,
    ⟨(some 11), .move (.t 59), none, 2, []⟩]) (RC.region 8 [
    ⟨(some 60), .move (.t 7), none, 0, []⟩,
    ⟨(some 61), .move (.t 0), none, 1, []⟩,
    ⟨(some 62), .move (.t 11), none, 2, []⟩,
    ⟨(some 63), .move (.t 2), none, 3, []⟩,
    ⟨(some 64), .bin .add (.t 63) (.c (.s (.int .i64 1))), none, 4, []⟩,
    ⟨(some 65), .call F.mtx_All_reckon [(.t 61), (.t 62), (.t 64)], none, 5, []⟩,
    ⟨(some 66), .minmax false (.t 60) (.t 65), none, 6, []⟩,
    ⟨(some 7), .move (.t 66), none, 7, []⟩]))) (RC.region 2 [
    ⟨(some 67), .bin .add (.t 56) (.c (.s (.int .i64 1))), none, 0, []⟩,
    ⟨(some 56), .move (.t 67), none, 1, []⟩])))
def mtx_All_reckon_s1 : RC :=
  RC.region 2 [
    ⟨(some 68), .bin .add (.t 25) (.c (.s (.int .i64 1))), none, 0, []⟩,
    ⟨(some 25), .move (.t 68), none, 1, []⟩]
def mtx_All_reckon_l2 : RC :=
  RC.seq (RC.region 1 [
    ⟨(some 26), .bin .lss (.t 25) (.t 24), none, 0, []⟩]) (RC.seq (RC.cond (.t 26) (RC.skip) (RC.exit 0)) (RC.seq (RC.block 1 (RC.seq (RC.region 4 [
    ⟨(some 27), .indexSl 4 (.t 23) (.t 25), none, 0, []⟩,
    ⟨(some 28), .load (some 4) (.t 27), none, 1, []⟩,
    ⟨(some 9), .newc [.int .i64 0, .int .i64 0, .int .i64 0, .slice none 0 0 1], none, 2, []⟩,
    ⟨none, .store 4 (.t 9) (.t 28), none, 3, []⟩]) (RC.block 2 (RC.seq (RC.region 9 [
    ⟨(some 30), .fieldAddr 2 (.t 9), none, 0, []⟩,
    ⟨(some 31), .load none (.t 30), none, 1, []⟩,
    ⟨(some 32), .move (.t 1), none, 2, []⟩,
    ⟨(some 33), .bin .neq (.t 31) (.t 32), none, 3, []⟩,
    ⟨(some 34), .move (.t 33), none, 4, []⟩,
    ⟨(some 35), .move (.t 2), (some (34, false)), 5, []⟩,
    ⟨(some 36), .bin .gtr (.t 35) (.c (.s (.int .i64 16))), (some (34, false)), 6, []⟩,
    ⟨(some 37), .pick (.t 34) (.c (.s (.bool true))) (.t 36), none, 7, []⟩,
    ⟨(some 29), .move (.t 37), none, 8, []⟩]) (RC.cond (.t 29) (RC.skip) (RC.seq (RC.region 5 [
    ⟨(some 39), .fieldAddr 0 (.t 9), none, 0, []⟩,
    ⟨(some 40), .fieldAddr 0 (.t 39), none, 1, []⟩,
    ⟨(some 41), .load none (.t 40), none, 2, []⟩,
    ⟨(some 42), .bin .eql (.t 41) (.c (.s (.int .i64 3))), none, 3, []⟩,
    ⟨(some 38), .move (.t 42), none, 4, []⟩]) (RC.cond (.t 38) (RC.region 6 [
    ⟨(some 43), .move (.t 7), none, 0, []⟩,
    ⟨(some 44), .fieldAddr 0 (.t 9), none, 1, []⟩,
    ⟨(some 45), .fieldAddr 1 (.t 44), none, 2, []⟩,
    ⟨(some 46), .load none (.t 45), none, 3, []⟩,
    ⟨(some 47), .minmax false (.t 43) (.t 46), none, 4, []⟩,
    ⟨(some 7), .move (.t 47), none, 5, []⟩]) (RC.seq (RC.region 5 [
    ⟨(some 49), .fieldAddr 0 (.t 9), none, 0, []⟩,
    ⟨(some 50), .fieldAddr 0 (.t 49), none, 1, []⟩,
    ⟨(some 51), .load none (.t 50), none, 2, []⟩,
    ⟨(some 52), .bin .eql (.t 51) (.c (.s (.int .i64 2))), none, 3, []⟩,
    ⟨(some 48), .move (.t 52), none, 4, []⟩]) (RC.cond (.t 48) (RC.seq (RC.region 4 [
    ⟨(some 53), .fieldAddr 3 (.t 9), none, 0, []⟩,
    ⟨(some 54), .load none (.t 53), none, 1, []⟩,
    ⟨(some 55), .len (.t 54), none, 2, []⟩,
    ⟨(some 56), .move (.c (.s (.int .i64 0))), none, 3, []⟩]) (RC.block 3 (RC.loop R.mtx_All_reckon_l0))) (RC.skip)))))))))) R.mtx_All_reckon_s1))
def mtx_All_reckon_s3 : RC :=
  RC.seq (RC.region 2 [
    ⟨(some 69), .move (.t 7), none, 0, []⟩,
    ⟨(some 6), .move (.t 69), none, 1, []⟩]) (RC.ret)
def mtx_All_reckon : RFunc := RFunc.mk 70 [.tmp 6] (
  RC.seq (RC.region 1 [
    ⟨(some 6), .move (.c (.s (.int .i64 0))), none, 0, []⟩]) (RC.seq (RC.region 8 [
    ⟨(some 12), .move (.t 0), none, 0, []⟩,
    ⟨(some 13), .move (.t 1), none, 1, []⟩,
    ⟨(some 14), .nilCheck (.t 12), none, 2, []⟩,
    ⟨(some 15), .fieldAddr 1 (.t 14), none, 3, []⟩,
    ⟨(some 16), .indexArr 17 3 (.t 15) (.t 13), none, 4, []⟩,
    ⟨(some 17), .fieldAddr 0 (.t 16), none, 5, []⟩,
    ⟨(some 18), .load none (.t 17), none, 6, []⟩,
    ⟨(some 7), .move (.t 18), none, 7, []⟩]) (RC.seq (RC.seq (RC.region 7 [
    ⟨(some 19), .move (.t 0), none, 0, []⟩,
    ⟨(some 20), .nilCheck (.t 19), none, 1, []⟩,
    ⟨(some 21), .fieldAddr 0 (.t 20), none, 2, []⟩,
    ⟨(some 22), .load none (.t 21), none, 3, []⟩,
    ⟨(some 23), .slSl 4 (.t 22) (some (.c (.s (.int .i64 1)))) none none, none, 4, []⟩,
    ⟨(some 24), .len (.t 23), none, 5, []⟩,
    ⟨(some 25), .move (.c (.s (.int .i64 0))), none, 6, []⟩]) (RC.block 0 (RC.loop R.mtx_All_reckon_l2))) R.mtx_All_reckon_s3)))
theorem mtx_All_reckon_ok : chkFunc Go.Proofs.Try.prog [] Go.Proofs.Try.f60 mtx_All_reckon = true := by kernel_rfl
def mtx_All_leave : RFunc := RFunc.mk 28 [] (
  RC.seq (RC.region 1 [
    ⟨(some 5), .box (.t 2), none, 0, []⟩]) (RC.seq (RC.region 7 [
    ⟨(some 7), .move (.t 0), none, 0, []⟩,
    ⟨(some 8), .nilCheck (.t 7), none, 1, []⟩,
    ⟨(some 9), .fieldAddr 0 (.t 8), none, 2, []⟩,
    ⟨(some 10), .load none (.t 9), none, 3, []⟩,
    ⟨(some 11), .move (.t 1), none, 4, []⟩,
    ⟨(some 12), .indexSl 4 (.t 10) (.t 11), none, 5, []⟩,
    ⟨(some 6), .move (.t 12), none, 6, []⟩]) (RC.seq (RC.region 6 [
    ⟨(some 13), .move (.t 6), none, 0, []⟩,
    ⟨(some 14), .nilCheck (.t 13), none, 1, []⟩,
    ⟨(some 15), .fieldAddr 0 (.t 14), none, 2, []⟩,
    ⟨(some 16), .fieldAddr 0 (.t 15), none, 3, []⟩,
    ⟨(some 17), .load none (.t 16), none, 4, []⟩,
    ⟨(some 18), .bin .neq (.t 17) (.c (.s (.int .i64 0))), none, 5, []⟩]) (RC.cond (.t 18) (RC.region 10 [
    ⟨(some 19), .move (.t 6), none, 0, []⟩,
    ⟨(some 20), .move (.t 6), none, 1, []⟩,
    ⟨(some 21), .nilCheck (.t 20), none, 2, []⟩,
    ⟨(some 22), .fieldAddr 3 (.t 21), none, 3, []⟩,
    ⟨(some 23), .load none (.t 22), none, 4, []⟩,
    ⟨(some 24), .makeFunc F.mtx_All_leave_1 [(.t 5)], none, 5, []⟩,
    ⟨(some 25), .call F.slices_DeleteFunc__int_int [(.t 23), (.t 24)], none, 6, []⟩,
    ⟨(some 26), .nilCheck (.t 19), none, 7, []⟩,
    ⟨(some 27), .fieldAddr 3 (.t 26), none, 8, []⟩,
    ⟨none, .store 1 (.t 27) (.t 25), none, 9, []⟩]) (RC.skip)))))
theorem mtx_All_leave_ok : chkFunc Go.Proofs.Try.prog [] Go.Proofs.Try.f61 mtx_All_leave = true := by kernel_rfl
def mtx_All_rejoin : RFunc := RFunc.mk 20 [] (
  RC.seq (RC.region 10 [
    ⟨(some 6), .move (.t 0), none, 0, []⟩,
    ⟨(some 7), .nilCheck (.t 6), none, 1, []⟩,
    ⟨(some 8), .fieldAddr 0 (.t 7), none, 2, []⟩,
    ⟨(some 9), .load none (.t 8), none, 3, []⟩,
    ⟨(some 10), .move (.t 1), none, 4, []⟩,
    ⟨(some 11), .indexSl 4 (.t 9) (.t 10), none, 5, []⟩,
    ⟨(some 12), .fieldAddr 0 (.t 11), none, 6, []⟩,
    ⟨(some 13), .fieldAddr 0 (.t 12), none, 7, []⟩,
    ⟨(some 14), .load none (.t 13), none, 8, []⟩,
    ⟨(some 15), .bin .neq (.t 14) (.c (.s (.int .i64 0))), none, 9, []⟩]) (RC.cond (.t 15) (RC.region 4 [
    ⟨(some 16), .move (.t 0), none, 0, []⟩,
    ⟨(some 17), .move (.t 1), none, 1, []⟩,
    ⟨(some 18), .move (.t 2), none, 2, []⟩,
    ⟨(some 19), .call F.mtx_All_stand [(.t 16), (.t 17), (.t 18)], none, 3, []⟩]) (RC.skip)))
theorem mtx_All_rejoin_ok : chkFunc Go.Proofs.Try.prog [] Go.Proofs.Try.f62 mtx_All_rejoin = true := by kernel_rfl
def detentref4_Good : RFunc := RFunc.mk 19 [.tmp 4] (
  RC.seq (RC.region 1 [
    ⟨(some 4), .move (.c (.s (.bool false))), none, 0, []⟩]) (RC.seq (RC.region 15 [
    ⟨(some 5), .move (.t 0), none, 0, []⟩,
    ⟨(some 6), .bin .geq (.t 5) (.c (.s (.int .i64 1))), none, 1, []⟩,
    ⟨(some 7), .move (.t 6), none, 2, []⟩,
    ⟨(some 8), .move (.t 0), (some (7, true)), 3, []⟩,
    ⟨(some 9), .bin .leq (.t 8) (.c (.s (.int .i64 16))), (some (7, true)), 4, []⟩,
    ⟨(some 10), .pick (.t 7) (.t 9) (.c (.s (.bool false))), none, 5, []⟩,
    ⟨(some 11), .move (.t 10), none, 6, []⟩,
    ⟨(some 12), .move (.t 1), (some (11, true)), 7, []⟩,
    ⟨(some 13), .bin .geq (.t 12) (.c (.s (.int .i64 1))), (some (11, true)), 8, []⟩,
    ⟨(some 14), .pick (.t 11) (.t 13) (.c (.s (.bool false))), none, 9, []⟩,
    ⟨(some 15), .move (.t 14), none, 10, []⟩,
    ⟨(some 16), .move (.t 1), (some (15, true)), 11, []⟩,
    ⟨(some 17), .bin .leq (.t 16) (.c (.s (.int .i64 16))), (some (15, true)), 12, []⟩,
    ⟨(some 18), .pick (.t 15) (.t 17) (.c (.s (.bool false))), none, 13, []⟩,
    ⟨(some 4), .move (.t 18), none, 14, []⟩]) (RC.ret)))
theorem detentref4_Good_ok : chkFunc Go.Proofs.Try.prog [] Go.Proofs.Try.f64 detentref4_Good = true := by kernel_rfl
def detentref4_Queue_put_l0 : RC :=
  RC.seq (RC.seq (RC.region 16 [
    ⟨(some 15), .move (.t 4), none, 0, []⟩,
    ⟨(some 16), .bin .gtr (.t 15) (.c (.s (.int .i64 0))), none, 1, []⟩,
    ⟨(some 17), .move (.t 16), none, 2, []⟩,
    ⟨(some 18), .move (.t 0), (some (17, true)), 3, []⟩,
    ⟨(some 19), .nilCheck (.t 18), (some (17, true)), 4, []⟩,
    ⟨(some 20), .fieldAddr 1 (.t 19), (some (17, true)), 5, []⟩,
    ⟨(some 21), .load none (.t 20), (some (17, true)), 6, []⟩,
    ⟨(some 22), .move (.t 4), (some (17, true)), 7, []⟩,
    ⟨(some 23), .bin .sub (.t 22) (.c (.s (.int .i64 1))), (some (17, true)), 8, []⟩,
    ⟨(some 24), .indexSl 2 (.t 21) (.t 23), (some (17, true)), 9, []⟩,
    ⟨(some 25), .fieldAddr 1 (.t 24), (some (17, true)), 10, []⟩,
    ⟨(some 26), .load none (.t 25), (some (17, true)), 11, []⟩,
    ⟨(some 27), .fieldAddr 1 (.t 3), (some (17, true)), 12, []⟩,
    ⟨(some 28), .load none (.t 27), (some (17, true)), 13, []⟩,
    ⟨(some 29), .bin .gtr (.t 26) (.t 28), (some (17, true)), 14, []⟩,
    ⟨(some 30), .pick (.t 17) (.t 29) (.c (.s (.bool false))), none, 15, []⟩]) (RC.cond (.t 30) (RC.skip) (RC.exit 0))) (RC.block 1 (RC.region 3 [
    ⟨(some 31), .move (.t 4), none, 0, []⟩,
    ⟨(some 32), .bin .sub (.t 31) (.c (.s (.int .i64 1))), none, 1, []⟩,
    ⟨(some 4), .move (.t 32), none, 2, []⟩]))
def detentref4_Queue_put_s1 : RC :=
  RC.seq (RC.region 12 [
    ⟨(some 34), .move (.t 0), none, 1, []⟩,
    ⟨(some 35), .nilCheck (.t 34), none, 2, []⟩,
    ⟨(some 36), .fieldAddr 1 (.t 35), none, 3, []⟩,
    ⟨(some 37), .load none (.t 36), none, 4, []⟩,
    ⟨(some 38), .move (.t 4), none, 5, []⟩,
    ⟨(some 39), .slSl 2 (.t 37) none (some (.t 38)) none, none, 6, []⟩,
    ⟨(some 41), .load (some 2) (.t 3), none, 8, []⟩,
    ⟨(some 33), .buildSlice 2 0 [] [], none, 0, []⟩,
    ⟨(some 40), .append 2 16 (.t 33) (.t 39), none, 7, [⟨41, (some 2), (.t 3), none⟩]⟩,
    ⟨(some 42), .buildSlice 2 1 [.int .i64 0, .int .i64 0] [(0, 2, (.t 41))], none, 9, []⟩,
    ⟨(some 43), .append 2 16 (.t 40) (.t 42), none, 10, []⟩,
    ⟨(some 5), .move (.t 43), none, 11, []⟩]) (RC.region 12 [
    ⟨(some 44), .move (.t 0), none, 0, []⟩,
    ⟨(some 45), .move (.t 5), none, 1, []⟩,
    ⟨(some 46), .move (.t 0), none, 2, []⟩,
    ⟨(some 47), .nilCheck (.t 46), none, 3, []⟩,
    ⟨(some 48), .fieldAddr 1 (.t 47), none, 4, []⟩,
    ⟨(some 49), .load none (.t 48), none, 5, []⟩,
    ⟨(some 50), .move (.t 4), none, 6, []⟩,
    ⟨(some 51), .slSl 2 (.t 49) (some (.t 50)) none none, none, 7, []⟩,
    ⟨(some 52), .append 2 16 (.t 45) (.t 51), none, 8, []⟩,
    ⟨(some 53), .nilCheck (.t 44), none, 9, []⟩,
    ⟨(some 54), .fieldAddr 1 (.t 53), none, 10, []⟩,
    ⟨none, .store 1 (.t 54) (.t 52), none, 11, []⟩])
def detentref4_Queue_put : RFunc := RFunc.mk 55 [] (
  RC.seq (RC.region 1 [
    ⟨(some 3), .box (.t 1), none, 0, []⟩]) (RC.seq (RC.region 6 [
    ⟨(some 6), .move (.t 0), none, 0, []⟩,
    ⟨(some 7), .nilCheck (.t 6), none, 1, []⟩,
    ⟨(some 8), .fieldAddr 1 (.t 7), none, 2, []⟩,
    ⟨(some 9), .load none (.t 8), none, 3, []⟩,
    ⟨(some 10), .len (.t 9), none, 4, []⟩,
    ⟨(some 4), .move (.t 10), none, 5, []⟩]) (RC.seq (RC.seq (RC.region 4 [
    ⟨(some 11), .move (.t 0), none, 0, []⟩,
    ⟨(some 12), .nilCheck (.t 11), none, 1, []⟩,
    ⟨(some 13), .fieldAddr 0 (.t 12), none, 2, []⟩,
    ⟨(some 14), .load none (.t 13), none, 3, []⟩]) (RC.cond (.t 14) (RC.block 0 (RC.loop R.detentref4_Queue_put_l0)) (RC.skip))) R.detentref4_Queue_put_s1)))
theorem detentref4_Queue_put_ok : chkFunc Go.Proofs.Try.prog [] Go.Proofs.Try.f65 detentref4_Queue_put = true := by kernel_rfl
def detentref15_All_pri_l0 : RC :=
  RC.seq (RC.seq (RC.region 28 [
    ⟨(some 64), .move (.t 0), none, 0, []⟩,
    ⟨(some 65), .nilCheck (.t 64), none, 1, []⟩,
    ⟨(some 66), .fieldAddr 0 (.t 65), none, 2, []⟩,
    ⟨(some 67), .load none (.t 66), none, 3, []⟩,
    ⟨(some 68), .move (.t 8), none, 4, []⟩,
    ⟨(some 69), .indexSl 2 (.t 67) (.t 68), none, 5, []⟩,
    ⟨(some 70), .fieldAddr 0 (.t 69), none, 6, []⟩,
    ⟨(some 71), .load none (.t 70), none, 7, []⟩,
    ⟨(some 72), .bin .eql (.t 71) (.c (.s (.int .i64 2))), none, 8, []⟩,
    ⟨(some 73), .move (.t 72), none, 9, []⟩,
    ⟨(some 74), .move (.t 2), (some (73, true)), 10, []⟩,
    ⟨(some 75), .bin .gtr (.t 74) (.c (.s (.int .i64 0))), (some (73, true)), 11, []⟩,
    ⟨(some 76), .pick (.t 73) (.t 75) (.c (.s (.bool false))), none, 12, []⟩,
    ⟨(some 77), .move (.t 76), none, 13, []⟩,
    ⟨(some 78), .move (.t 9), (some (77, true)), 14, []⟩,
    ⟨(some 79), .move (.t 0), (some (77, true)), 15, []⟩,
    ⟨(some 80), .nilCheck (.t 79), (some (77, true)), 16, []⟩,
    ⟨(some 81), .fieldAddr 2 (.t 80), (some (77, true)), 17, []⟩,
    ⟨(some 82), .load none (.t 81), (some (77, true)), 18, []⟩,
    ⟨(some 83), .move (.t 8), (some (77, true)), 19, []⟩,
    ⟨(some 84), .indexSl 1 (.t 82) (.t 83), (some (77, true)), 20, []⟩,
    ⟨(some 85), .load none (.t 84), (some (77, true)), 21, []⟩,
    ⟨(some 86), .nilCheck (.t 85), (some (77, true)), 22, []⟩,
    ⟨(some 87), .fieldAddr 1 (.t 86), (some (77, true)), 23, []⟩,
    ⟨(some 88), .load none (.t 87), (some (77, true)), 24, []⟩,
    ⟨(some 89), .len (.t 88), (some (77, true)), 25, []⟩,
    ⟨(some 90), .bin .lss (.t 78) (.t 89), (some (77, true)), 26, []⟩,
    ⟨(some 91), .pick (.t 77) (.t 90) (.c (.s (.bool false))), none, 27, []⟩]) (RC.cond (.t 91) (RC.skip) (RC.exit 2))) (RC.seq (RC.block 3 (RC.seq (RC.region 19 [
    ⟨(some 94), .move (.t 0), none, 0, []⟩,
    ⟨(some 95), .move (.t 0), none, 1, []⟩,
    ⟨(some 96), .nilCheck (.t 95), none, 2, []⟩,
    ⟨(some 97), .fieldAddr 2 (.t 96), none, 3, []⟩,
    ⟨(some 98), .load none (.t 97), none, 4, []⟩,
    ⟨(some 99), .move (.t 8), none, 5, []⟩,
    ⟨(some 100), .indexSl 1 (.t 98) (.t 99), none, 6, []⟩,
    ⟨(some 101), .load none (.t 100), none, 7, []⟩,
    ⟨(some 102), .nilCheck (.t 101), none, 8, []⟩,
    ⟨(some 103), .fieldAddr 1 (.t 102), none, 9, []⟩,
    ⟨(some 104), .load none (.t 103), none, 10, []⟩,
    ⟨(some 105), .move (.t 9), none, 11, []⟩,
    ⟨(some 106), .indexSl 2 (.t 104) (.t 105), none, 12, []⟩,
    ⟨(some 107), .fieldAddr 0 (.t 106), none, 13, []⟩,
    ⟨(some 108), .load none (.t 107), none, 14, []⟩,
    ⟨(some 109), .move (.t 2), none, 15, []⟩,
    ⟨(some 110), .bin .sub (.t 109) (.c (.s (.int .i64 1))), none, 16, []⟩,
    ⟨(some 111), .call F.detentref15_All_pri [(.t 94), (.t 108), (.t 110)], none, 17, []⟩,
    ⟨(some 10), .move (.t 111), none, 18, []⟩]) (RC.seq (RC.region 3 [
    ⟨(some 112), .move (.t 10), none, 0, []⟩,
    ⟨(some 113), .move (.t 7), none, 1, []⟩,
    ⟨(some 114), .bin .lss (.t 112) (.t 113), none, 2, []⟩]) (RC.cond (.t 114) (RC.region 2 [
    ⟨(some 115), .move (.t 10), none, 0, []⟩,
    ⟨(some 7), .move (.t 115), none, 1, []⟩]) (RC.skip))))) (RC.region 3 [
    ⟨(some 92), .move (.t 9), none, 0, []⟩,
    ⟨(some 93), .bin .add (.t 92) (.c (.s (.int .i64 1))), none, 1, []⟩,
    ⟨(some 9), .move (.t 93), none, 2, []⟩]))
def detentref15_All_pri_s1 : RC :=
  RC.seq (RC.region 1 [
    ⟨(some 9), .move (.c (.s (.int .i64 0))), none, 0, []⟩]) (RC.block 2 (RC.loop R.detentref15_All_pri_l0))
def detentref15_All_pri_s2 : RC :=
  RC.region 3 [
    ⟨(some 24), .move (.t 8), none, 0, []⟩,
    ⟨(some 25), .bin .add (.t 24) (.c (.s (.int .i64 1))), none, 1, []⟩,
    ⟨(some 8), .move (.t 25), none, 2, []⟩]
def detentref15_All_pri_l3 : RC :=
  RC.seq (RC.seq (RC.region 7 [
    ⟨(some 17), .move (.t 8), none, 0, []⟩,
    ⟨(some 18), .move (.t 0), none, 1, []⟩,
    ⟨(some 19), .nilCheck (.t 18), none, 2, []⟩,
    ⟨(some 20), .fieldAddr 0 (.t 19), none, 3, []⟩,
    ⟨(some 21), .load none (.t 20), none, 4, []⟩,
    ⟨(some 22), .len (.t 21), none, 5, []⟩,
    ⟨(some 23), .bin .lss (.t 17) (.t 22), none, 6, []⟩]) (RC.cond (.t 23) (RC.skip) (RC.exit 0))) (RC.seq (RC.block 1 (RC.seq (RC.seq (RC.region 9 [
    ⟨(some 26), .move (.t 0), none, 0, []⟩,
    ⟨(some 27), .nilCheck (.t 26), none, 1, []⟩,
    ⟨(some 28), .fieldAddr 1 (.t 27), none, 2, []⟩,
    ⟨(some 29), .load none (.t 28), none, 3, []⟩,
    ⟨(some 30), .move (.t 8), none, 4, []⟩,
    ⟨(some 31), .indexSl 1 (.t 29) (.t 30), none, 5, []⟩,
    ⟨(some 32), .load none (.t 31), none, 6, []⟩,
    ⟨(some 33), .move (.t 1), none, 7, []⟩,
    ⟨(some 34), .bin .neq (.t 32) (.t 33), none, 8, []⟩]) (RC.cond (.t 34) (RC.exit 1) (RC.skip))) (RC.seq (RC.seq (RC.region 21 [
    ⟨(some 35), .move (.t 0), none, 0, []⟩,
    ⟨(some 36), .nilCheck (.t 35), none, 1, []⟩,
    ⟨(some 37), .fieldAddr 0 (.t 36), none, 2, []⟩,
    ⟨(some 38), .load none (.t 37), none, 3, []⟩,
    ⟨(some 39), .move (.t 8), none, 4, []⟩,
    ⟨(some 40), .indexSl 2 (.t 38) (.t 39), none, 5, []⟩,
    ⟨(some 41), .fieldAddr 0 (.t 40), none, 6, []⟩,
    ⟨(some 42), .load none (.t 41), none, 7, []⟩,
    ⟨(some 43), .bin .eql (.t 42) (.c (.s (.int .i64 3))), none, 8, []⟩,
    ⟨(some 44), .move (.t 43), none, 9, []⟩,
    ⟨(some 45), .move (.t 0), (some (44, true)), 10, []⟩,
    ⟨(some 46), .nilCheck (.t 45), (some (44, true)), 11, []⟩,
    ⟨(some 47), .fieldAddr 0 (.t 46), (some (44, true)), 12, []⟩,
    ⟨(some 48), .load none (.t 47), (some (44, true)), 13, []⟩,
    ⟨(some 49), .move (.t 8), (some (44, true)), 14, []⟩,
    ⟨(some 50), .indexSl 2 (.t 48) (.t 49), (some (44, true)), 15, []⟩,
    ⟨(some 51), .fieldAddr 1 (.t 50), (some (44, true)), 16, []⟩,
    ⟨(some 52), .load none (.t 51), (some (44, true)), 17, []⟩,
    ⟨(some 53), .move (.t 7), (some (44, true)), 18, []⟩,
    ⟨(some 54), .bin .lss (.t 52) (.t 53), (some (44, true)), 19, []⟩,
    ⟨(some 55), .pick (.t 44) (.t 54) (.c (.s (.bool false))), none, 20, []⟩]) (RC.cond (.t 55) (RC.region 9 [
    ⟨(some 56), .move (.t 0), none, 0, []⟩,
    ⟨(some 57), .nilCheck (.t 56), none, 1, []⟩,
    ⟨(some 58), .fieldAddr 0 (.t 57), none, 2, []⟩,
    ⟨(some 59), .load none (.t 58), none, 3, []⟩,
    ⟨(some 60), .move (.t 8), none, 4, []⟩,
    ⟨(some 61), .indexSl 2 (.t 59) (.t 60), none, 5, []⟩,
    ⟨(some 62), .fieldAddr 1 (.t 61), none, 6, []⟩,
    ⟨(some 63), .load none (.t 62), none, 7, []⟩,
    ⟨(some 7), .move (.t 63), none, 8, []⟩]) (RC.skip))) R.detentref15_All_pri_s1))) R.detentref15_All_pri_s2)
def detentref15_All_pri_s4 : RC :=
  RC.seq (RC.region 2 [
    ⟨(some 116), .move (.t 7), none, 0, []⟩,
    ⟨(some 6), .move (.t 116), none, 1, []⟩]) (RC.ret)
def detentref15_All_pri : RFunc := RFunc.mk 117 [.tmp 6] (
  RC.seq (RC.region 1 [
    ⟨(some 6), .move (.c (.s (.int .i64 0))), none, 0, []⟩]) (RC.seq (RC.region 7 [
    ⟨(some 11), .move (.t 0), none, 0, []⟩,
    ⟨(some 12), .move (.t 1), none, 1, []⟩,
    ⟨(some 13), .nilCheck (.t 11), none, 2, []⟩,
    ⟨(some 14), .fieldAddr 3 (.t 13), none, 3, []⟩,
    ⟨(some 15), .indexArr 17 1 (.t 14) (.t 12), none, 4, []⟩,
    ⟨(some 16), .load none (.t 15), none, 5, []⟩,
    ⟨(some 7), .move (.t 16), none, 6, []⟩]) (RC.seq (RC.seq (RC.region 1 [
    ⟨(some 8), .move (.c (.s (.int .i64 0))), none, 0, []⟩]) (RC.block 0 (RC.loop R.detentref15_All_pri_l3))) R.detentref15_All_pri_s4)))
theorem detentref15_All_pri_ok : chkFunc Go.Proofs.Try.prog [] Go.Proofs.Try.f66 detentref15_All_pri = true := by kernel_rfl
def detentref4_Queue_Change : RFunc := RFunc.mk 50 [.tmp 6] (
  RC.seq (RC.region 1 [
    ⟨(some 6), .move (.c (.s (.bool false))), none, 0, []⟩]) (RC.seq (RC.region 4 [
    ⟨(some 8), .move (.t 0), none, 0, []⟩,
    ⟨(some 9), .move (.t 1), none, 1, []⟩,
    ⟨(some 10), .call F.detentref4_Queue_At [(.t 8), (.t 9)], none, 2, []⟩,
    ⟨(some 7), .move (.t 10), none, 3, []⟩]) (RC.seq (RC.seq (RC.region 10 [
    ⟨(some 11), .move (.t 7), none, 0, []⟩,
    ⟨(some 12), .bin .lss (.t 11) (.c (.s (.int .i64 0))), none, 1, []⟩,
    ⟨(some 13), .move (.t 12), none, 2, []⟩,
    ⟨(some 14), .move (.t 2), (some (13, false)), 3, []⟩,
    ⟨(some 15), .bin .lss (.t 14) (.c (.s (.int .i64 1))), (some (13, false)), 4, []⟩,
    ⟨(some 16), .pick (.t 13) (.c (.s (.bool true))) (.t 15), none, 5, []⟩,
    ⟨(some 17), .move (.t 16), none, 6, []⟩,
    ⟨(some 18), .move (.t 2), (some (17, false)), 7, []⟩,
    ⟨(some 19), .bin .gtr (.t 18) (.c (.s (.int .i64 16))), (some (17, false)), 8, []⟩,
    ⟨(some 20), .pick (.t 17) (.c (.s (.bool true))) (.t 19), none, 9, []⟩]) (RC.cond (.t 20) (RC.seq (RC.region 1 [
    ⟨(some 6), .move (.c (.s (.bool false))), none, 0, []⟩]) (RC.ret)) (RC.skip))) (RC.seq (RC.seq (RC.region 4 [
    ⟨(some 21), .move (.t 0), none, 0, []⟩,
    ⟨(some 22), .nilCheck (.t 21), none, 1, []⟩,
    ⟨(some 23), .fieldAddr 0 (.t 22), none, 2, []⟩,
    ⟨(some 24), .load none (.t 23), none, 3, []⟩]) (RC.cond (.t 24) (RC.seq (RC.region 3 [
    ⟨(some 25), .move (.t 0), none, 0, []⟩,
    ⟨(some 26), .move (.t 1), none, 1, []⟩,
    ⟨(some 27), .call F.detentref4_Queue_Remove [(.t 25), (.t 26)], none, 2, []⟩]) (RC.region 5 [
    ⟨(some 28), .move (.t 0), none, 0, []⟩,
    ⟨(some 29), .move (.t 1), none, 1, []⟩,
    ⟨(some 30), .move (.t 2), none, 2, []⟩,
    ⟨(some 31), .build [.int .i64 0, .int .i64 0] [(0, 1, (.t 29)), (1, 1, (.t 30))], none, 3, []⟩,
    ⟨(some 32), .call F.detentref4_Queue_put [(.t 28), (.t 31)], none, 4, []⟩])) (RC.seq (RC.region 10 [
    ⟨(some 33), .move (.t 0), none, 0, []⟩,
    ⟨(some 34), .buildSlice 2 0 [] [], none, 1, []⟩,
    ⟨(some 35), .move (.t 0), none, 2, []⟩,
    ⟨(some 36), .nilCheck (.t 35), none, 3, []⟩,
    ⟨(some 37), .fieldAddr 1 (.t 36), none, 4, []⟩,
    ⟨(some 38), .load none (.t 37), none, 5, []⟩,
    ⟨(some 39), .append 2 16 (.t 34) (.t 38), none, 6, []⟩,
    ⟨(some 40), .nilCheck (.t 33), none, 7, []⟩,
    ⟨(some 41), .fieldAddr 1 (.t 40), none, 8, []⟩,
    ⟨none, .store 1 (.t 41) (.t 39), none, 9, []⟩]) (RC.region 9 [
    ⟨(some 42), .move (.t 0), none, 0, []⟩,
    ⟨(some 43), .nilCheck (.t 42), none, 1, []⟩,
    ⟨(some 44), .fieldAddr 1 (.t 43), none, 2, []⟩,
    ⟨(some 45), .load none (.t 44), none, 3, []⟩,
    ⟨(some 46), .move (.t 7), none, 4, []⟩,
    ⟨(some 47), .move (.t 2), none, 5, []⟩,
    ⟨(some 48), .indexSl 2 (.t 45) (.t 46), none, 6, []⟩,
    ⟨(some 49), .fieldAddr 1 (.t 48), none, 7, []⟩,
    ⟨none, .store 1 (.t 49) (.t 47), none, 8, []⟩])))) (RC.seq (RC.region 1 [
    ⟨(some 6), .move (.c (.s (.bool true))), none, 0, []⟩]) (RC.ret))))))
theorem detentref4_Queue_Change_ok : chkFunc Go.Proofs.Try.prog [] Go.Proofs.Try.f67 detentref4_Queue_Change = true := by kernel_rfl
def detentref4_Queue_Take : RFunc := RFunc.mk 29 [.cell 2 (some 2), .tmp 3] (
  RC.seq (RC.region 2 [
    ⟨(some 2), .newc [.int .i64 0, .int .i64 0], none, 0, []⟩,
    ⟨(some 3), .move (.c (.s (.bool false))), none, 1, []⟩]) (RC.seq (RC.seq (RC.region 6 [
    ⟨(some 5), .move (.t 0), none, 0, []⟩,
    ⟨(some 6), .nilCheck (.t 5), none, 1, []⟩,
    ⟨(some 7), .fieldAddr 1 (.t 6), none, 2, []⟩,
    ⟨(some 8), .load none (.t 7), none, 3, []⟩,
    ⟨(some 9), .len (.t 8), none, 4, []⟩,
    ⟨(some 10), .bin .eql (.t 9) (.c (.s (.int .i64 0))), none, 5, []⟩]) (RC.cond (.t 10) (RC.seq (RC.region 3 [
    ⟨(some 11), .build [.int .i64 0, .int .i64 0] [], none, 0, []⟩,
    ⟨none, .store 2 (.t 2) (.t 11), none, 1, []⟩,
    ⟨(some 3), .move (.c (.s (.bool false))), none, 2, []⟩]) (RC.ret)) (RC.skip))) (RC.seq (RC.region 8 [
    ⟨(some 12), .move (.t 0), none, 0, []⟩,
    ⟨(some 13), .nilCheck (.t 12), none, 1, []⟩,
    ⟨(some 14), .fieldAddr 1 (.t 13), none, 2, []⟩,
    ⟨(some 15), .load none (.t 14), none, 3, []⟩,
    ⟨(some 16), .indexSl 2 (.t 15) (.c (.s (.int .i64 0))), none, 4, []⟩,
    ⟨(some 17), .load (some 2) (.t 16), none, 5, []⟩,
    ⟨(some 4), .newc [.int .i64 0, .int .i64 0], none, 6, []⟩,
    ⟨none, .store 2 (.t 4) (.t 17), none, 7, []⟩]) (RC.seq (RC.region 11 [
    ⟨(some 18), .move (.t 0), none, 0, []⟩,
    ⟨(some 19), .buildSlice 2 0 [] [], none, 1, []⟩,
    ⟨(some 20), .move (.t 0), none, 2, []⟩,
    ⟨(some 21), .nilCheck (.t 20), none, 3, []⟩,
    ⟨(some 22), .fieldAddr 1 (.t 21), none, 4, []⟩,
    ⟨(some 23), .load none (.t 22), none, 5, []⟩,
    ⟨(some 24), .slSl 2 (.t 23) (some (.c (.s (.int .i64 1)))) none none, none, 6, []⟩,
    ⟨(some 25), .append 2 16 (.t 19) (.t 24), none, 7, []⟩,
    ⟨(some 26), .nilCheck (.t 18), none, 8, []⟩,
    ⟨(some 27), .fieldAddr 1 (.t 26), none, 9, []⟩,
    ⟨none, .store 1 (.t 27) (.t 25), none, 10, []⟩]) (RC.seq (RC.region 3 [
    ⟨(some 28), .load (some 2) (.t 4), none, 0, []⟩,
    ⟨none, .store 2 (.t 2) (.t 28), none, 1, []⟩,
    ⟨(some 3), .move (.c (.s (.bool true))), none, 2, []⟩]) (RC.ret))))))
theorem detentref4_Queue_Take_ok : chkFunc Go.Proofs.Try.prog [] Go.Proofs.Try.f68 detentref4_Queue_Take = true := by kernel_rfl
def slices_IndexFunc__int_int_l0 : RC :=
  RC.seq (RC.region 1 [
    ⟨(some 9), .bin .lss (.t 8) (.t 7), none, 0, []⟩]) (RC.seq (RC.cond (.t 9) (RC.skip) (RC.exit 0)) (RC.seq (RC.block 1 (RC.seq (RC.region 2 [
    ⟨(some 10), .move (.t 8), none, 0, []⟩,
    ⟨(some 5), .move (.t 10), none, 1, []⟩]) (RC.seq (RC.region 6 [
    ⟨(some 11), .move (.t 1), none, 0, []⟩,
    ⟨(some 12), .move (.t 0), none, 1, []⟩,
    ⟨(some 13), .move (.t 5), none, 2, []⟩,
    ⟨(some 14), .indexSl 1 (.t 12) (.t 13), none, 3, []⟩,
    ⟨(some 15), .load none (.t 14), none, 4, []⟩,
    ⟨(some 16), .callv (.t 11) [(.t 15)], none, 5, []⟩]) (RC.cond (.t 16) (RC.seq (RC.region 2 [
    ⟨(some 17), .move (.t 5), none, 0, []⟩,
    ⟨(some 4), .move (.t 17), none, 1, []⟩]) (RC.ret)) (RC.skip))))) (RC.region 2 [
    ⟨(some 18), .bin .add (.t 8) (.c (.s (.int .i64 1))), none, 0, []⟩,
    ⟨(some 8), .move (.t 18), none, 1, []⟩])))
def slices_IndexFunc__int_int_s1 : RC :=
  RC.seq (RC.region 1 [
    ⟨(some 4), .move (.c (.s (.int .i64 (-1)))), none, 0, []⟩]) (RC.ret)
def slices_IndexFunc__int_int : RFunc := RFunc.mk 19 [.tmp 4] (
  RC.seq (RC.region 1 [
    ⟨(some 4), .move (.c (.s (.int .i64 0))), none, 0, []⟩]) (RC.seq (RC.seq (RC.region 3 [
    ⟨(some 6), .move (.t 0), none, 0, []⟩,
    ⟨(some 7), .len (.t 6), none, 1, []⟩,
    ⟨(some 8), .move (.c (.s (.int .i64 0))), none, 2, []⟩]) (RC.block 0 (RC.loop R.slices_IndexFunc__int_int_l0))) R.slices_IndexFunc__int_int_s1))
theorem slices_IndexFunc__int_int_ok : chkFunc Go.Proofs.Try.prog [] Go.Proofs.Try.f69 slices_IndexFunc__int_int = true := by kernel_rfl
def mtx_All_leave_1 : RFunc := RFunc.mk 7 [.tmp 3] (
  RC.seq (RC.region 1 [
    ⟨(some 3), .move (.c (.s (.bool false))), none, 0, []⟩]) (RC.seq (RC.region 4 [
    ⟨(some 4), .move (.t 0), none, 0, []⟩,
    ⟨(some 5), .load none (.t 1), none, 1, []⟩,
    ⟨(some 6), .bin .eql (.t 4) (.t 5), none, 2, []⟩,
    ⟨(some 3), .move (.t 6), none, 3, []⟩]) (RC.ret)))
theorem mtx_All_leave_1_ok : chkFunc Go.Proofs.Try.prog [] Go.Proofs.Try.f70 mtx_All_leave_1 = true := by kernel_rfl
def slices_rotateRight_int : RFunc := RFunc.mk 10 [] (
  RC.region 6 [
    ⟨(some 4), .move (.t 0), none, 0, []⟩,
    ⟨(some 5), .move (.t 0), none, 1, []⟩,
    ⟨(some 6), .len (.t 5), none, 2, []⟩,
    ⟨(some 7), .move (.t 1), none, 3, []⟩,
    ⟨(some 8), .bin .sub (.t 6) (.t 7), none, 4, []⟩,
    ⟨(some 9), .call F.slices_rotateLeft_int [(.t 4), (.t 8)], none, 5, []⟩])
theorem slices_rotateRight_int_ok : chkFunc Go.Proofs.Try.prog [] Go.Proofs.Try.f72 slices_rotateRight_int = true := by kernel_rfl
def slices_rotateLeft_int : RFunc := RFunc.mk 14 [] (
  RC.seq (RC.region 4 [
    ⟨(some 4), .move (.t 0), none, 0, []⟩,
    ⟨(some 5), .move (.t 1), none, 1, []⟩,
    ⟨(some 6), .slSl 1 (.t 4) none (some (.t 5)) none, none, 2, []⟩,
    ⟨(some 7), .call F.slices_Reverse__int_int [(.t 6)], none, 3, []⟩]) (RC.seq (RC.region 4 [
    ⟨(some 8), .move (.t 0), none, 0, []⟩,
    ⟨(some 9), .move (.t 1), none, 1, []⟩,
    ⟨(some 10), .slSl 1 (.t 8) (some (.t 9)) none none, none, 2, []⟩,
    ⟨(some 11), .call F.slices_Reverse__int_int [(.t 10)], none, 3, []⟩]) (RC.region 2 [
    ⟨(some 12), .move (.t 0), none, 0, []⟩,
    ⟨(some 13), .call F.slices_Reverse__int_int [(.t 12)], none, 1, []⟩])))
theorem slices_rotateLeft_int_ok : chkFunc Go.Proofs.Try.prog [] Go.Proofs.Try.f73 slices_rotateLeft_int = true := by kernel_rfl
def slices_Reverse__int_int_l0 : RC :=
  RC.seq (RC.seq (RC.region 3 [
    ⟨(some 7), .move (.t 2), none, 0, []⟩,
    ⟨(some 8), .move (.t 3), none, 1, []⟩,
    ⟨(some 9), .bin .lss (.t 7) (.t 8), none, 2, []⟩]) (RC.cond (.t 9) (RC.skip) (RC.exit 0))) (RC.seq (RC.block 1 (RC.region 16 [
    ⟨(some 14), .move (.t 0), none, 0, []⟩,
    ⟨(some 15), .move (.t 2), none, 1, []⟩,
    ⟨(some 16), .move (.t 0), none, 2, []⟩,
    ⟨(some 17), .move (.t 3), none, 3, []⟩,
    ⟨(some 18), .move (.t 0), none, 4, []⟩,
    ⟨(some 19), .move (.t 3), none, 5, []⟩,
    ⟨(some 20), .indexSl 1 (.t 18) (.t 19), none, 6, []⟩,
    ⟨(some 21), .load none (.t 20), none, 7, []⟩,
    ⟨(some 22), .move (.t 0), none, 8, []⟩,
    ⟨(some 23), .move (.t 2), none, 9, []⟩,
    ⟨(some 24), .indexSl 1 (.t 22) (.t 23), none, 10, []⟩,
    ⟨(some 25), .load none (.t 24), none, 11, []⟩,
    ⟨(some 26), .indexSl 1 (.t 14) (.t 15), none, 12, []⟩,
    ⟨none, .store 1 (.t 26) (.t 21), none, 13, []⟩,
    ⟨(some 27), .indexSl 1 (.t 16) (.t 17), none, 14, []⟩,
    ⟨none, .store 1 (.t 27) (.t 25), none, 15, []⟩])) (RC.region 6 [
    ⟨(some 10), .move (.t 2), none, 0, []⟩,
    ⟨(some 11), .bin .add (.t 10) (.c (.s (.int .i64 1))), none, 1, []⟩,
    ⟨(some 12), .move (.t 3), none, 2, []⟩,
    ⟨(some 13), .bin .sub (.t 12) (.c (.s (.int .i64 1))), none, 3, []⟩,
    ⟨(some 2), .move (.t 11), none, 4, []⟩,
    ⟨(some 3), .move (.t 13), none, 5, []⟩]))
def slices_Reverse__int_int : RFunc := RFunc.mk 28 [] (
  RC.seq (RC.region 5 [
    ⟨(some 4), .move (.t 0), none, 0, []⟩,
    ⟨(some 5), .len (.t 4), none, 1, []⟩,
    ⟨(some 6), .bin .sub (.t 5) (.c (.s (.int .i64 1))), none, 2, []⟩,
    ⟨(some 2), .move (.c (.s (.int .i64 0))), none, 3, []⟩,
    ⟨(some 3), .move (.t 6), none, 4, []⟩]) (RC.block 0 (RC.loop R.slices_Reverse__int_int_l0)))
theorem slices_Reverse__int_int_ok : chkFunc Go.Proofs.Try.prog [] Go.Proofs.Try.f74 slices_Reverse__int_int = true := by kernel_rfl
end Go.AM.R

/-
  The table of the functions' codes.
-/
set_option maxRecDepth 100000
namespace Go.AM
def tabL : List (Option RFunc) := [none, none, none, some R.detentlaw15_MutexChain, some R.detentlaw15_MutexPasses, some R.detentlaw15_MutexRing, some R.detentlaw15_MutexOwns, some R.detentlaw15_MutexCeilings, some R.detentlaw15_MutexFrees, some R.detentlaw15_MutexPlays, some R.detentlaw15_known, some R.mtx_New, some R.mtx_All_SetBase, some R.mtx_All_Lock, some R.mtx_All_Pri, some R.mtx_All_Unlock, some R.mtx_All_Owner, some R.mtx_All_TryLock, some R.mtx_All_Waiting, some R.mtx_All_Free, some R.mtx_All_Held, some R.detentref15_New, some R.detentlaw15_Kinds, some R.detentref15_All_Lock, some R.detentref15_All_TryLock, some R.detentref15_All_Unlock, some R.detentref15_All_SetBase, some R.mtx_All_Drop, some R.detentref15_All_Drop, some R.detentlaw3_Same, some R.detentref15_All_Free, some R.mtx_All_Twin, some R.detentlaw15_same, some R.mtx_All_Base, some R.mtx_Kind_right, some R.mtx_is, some R.mtx_may, some R.mtx_All_settle, some R.mtx_All_over, some R.mtx_All_stand, some R.mtx_All_in, some R.slices_Delete__int_int, some R.slices_Clip__int_int, some R.slices_Clone__int_int, some R.detentref15_All_try, some R.detentref15_All_round, some R.detentref4_Queue_Add, some R.detentref15_All_Pri, some R.detentref15_All_settle, some R.detentref15_All_mutex, some R.detentref15_is, some R.detentref15_All_pass, some R.detentref4_Queue_At, some R.slices_DeleteFunc__int_int, some R.mtx_All_Drop_1, some R.detentref15_All_waits, some R.detentref4_Queue_Remove, some R.slices_Clone__mtx_mutex_mtx_mutex, some R.detentref4_Queue_IDs, some R.detentref15_All_Held, some R.mtx_All_reckon, some R.mtx_All_leave, some R.mtx_All_rejoin, none, some R.detentref4_Good, some R.detentref4_Queue_put, some R.detentref15_All_pri, some R.detentref4_Queue_Change, some R.detentref4_Queue_Take, some R.slices_IndexFunc__int_int, some R.mtx_All_leave_1, none, some R.slices_rotateRight_int, some R.slices_rotateLeft_int, some R.slices_Reverse__int_int]
def tab (f : Nat) : Option RFunc := (tabL[f]?).join
theorem tab_ok : TabOk Go.Proofs.Try.prog [] tab := tabOk_of (l := tabL) (⟨⟨_, Go.Proofs.Try.func3, R.detentlaw15_MutexChain_ok⟩, ⟨⟨_, Go.Proofs.Try.func4, R.detentlaw15_MutexPasses_ok⟩, ⟨⟨_, Go.Proofs.Try.func5, R.detentlaw15_MutexRing_ok⟩, ⟨⟨_, Go.Proofs.Try.func6, R.detentlaw15_MutexOwns_ok⟩, ⟨⟨_, Go.Proofs.Try.func7, R.detentlaw15_MutexCeilings_ok⟩, ⟨⟨_, Go.Proofs.Try.func8, R.detentlaw15_MutexFrees_ok⟩, ⟨⟨_, Go.Proofs.Try.func9, R.detentlaw15_MutexPlays_ok⟩, ⟨⟨_, Go.Proofs.Try.func10, R.detentlaw15_known_ok⟩, ⟨⟨_, Go.Proofs.Try.func11, R.mtx_New_ok⟩, ⟨⟨_, Go.Proofs.Try.func12, R.mtx_All_SetBase_ok⟩, ⟨⟨_, Go.Proofs.Try.func13, R.mtx_All_Lock_ok⟩, ⟨⟨_, Go.Proofs.Try.func14, R.mtx_All_Pri_ok⟩, ⟨⟨_, Go.Proofs.Try.func15, R.mtx_All_Unlock_ok⟩, ⟨⟨_, Go.Proofs.Try.func16, R.mtx_All_Owner_ok⟩, ⟨⟨_, Go.Proofs.Try.func17, R.mtx_All_TryLock_ok⟩, ⟨⟨_, Go.Proofs.Try.func18, R.mtx_All_Waiting_ok⟩, ⟨⟨_, Go.Proofs.Try.func19, R.mtx_All_Free_ok⟩, ⟨⟨_, Go.Proofs.Try.func20, R.mtx_All_Held_ok⟩, ⟨⟨_, Go.Proofs.Try.func21, R.detentref15_New_ok⟩, ⟨⟨_, Go.Proofs.Try.func22, R.detentlaw15_Kinds_ok⟩, ⟨⟨_, Go.Proofs.Try.func23, R.detentref15_All_Lock_ok⟩, ⟨⟨_, Go.Proofs.Try.func24, R.detentref15_All_TryLock_ok⟩, ⟨⟨_, Go.Proofs.Try.func25, R.detentref15_All_Unlock_ok⟩, ⟨⟨_, Go.Proofs.Try.func26, R.detentref15_All_SetBase_ok⟩, ⟨⟨_, Go.Proofs.Try.func27, R.mtx_All_Drop_ok⟩, ⟨⟨_, Go.Proofs.Try.func28, R.detentref15_All_Drop_ok⟩, ⟨⟨_, Go.Proofs.Try.func29, R.detentlaw3_Same_ok⟩, ⟨⟨_, Go.Proofs.Try.func30, R.detentref15_All_Free_ok⟩, ⟨⟨_, Go.Proofs.Try.func31, R.mtx_All_Twin_ok⟩, ⟨⟨_, Go.Proofs.Try.func32, R.detentlaw15_same_ok⟩, ⟨⟨_, Go.Proofs.Try.func33, R.mtx_All_Base_ok⟩, ⟨⟨_, Go.Proofs.Try.func34, R.mtx_Kind_right_ok⟩, ⟨⟨_, Go.Proofs.Try.func35, R.mtx_is_ok⟩, ⟨⟨_, Go.Proofs.Try.func36, R.mtx_may_ok⟩, ⟨⟨_, Go.Proofs.Try.func37, R.mtx_All_settle_ok⟩, ⟨⟨_, Go.Proofs.Try.func38, R.mtx_All_over_ok⟩, ⟨⟨_, Go.Proofs.Try.func39, R.mtx_All_stand_ok⟩, ⟨⟨_, Go.Proofs.Try.func40, R.mtx_All_in_ok⟩, ⟨⟨_, Go.Proofs.Try.func41, R.slices_Delete__int_int_ok⟩, ⟨⟨_, Go.Proofs.Try.func42, R.slices_Clip__int_int_ok⟩, ⟨⟨_, Go.Proofs.Try.func43, R.slices_Clone__int_int_ok⟩, ⟨⟨_, Go.Proofs.Try.func44, R.detentref15_All_try_ok⟩, ⟨⟨_, Go.Proofs.Try.func45, R.detentref15_All_round_ok⟩, ⟨⟨_, Go.Proofs.Try.func46, R.detentref4_Queue_Add_ok⟩, ⟨⟨_, Go.Proofs.Try.func47, R.detentref15_All_Pri_ok⟩, ⟨⟨_, Go.Proofs.Try.func48, R.detentref15_All_settle_ok⟩, ⟨⟨_, Go.Proofs.Try.func49, R.detentref15_All_mutex_ok⟩, ⟨⟨_, Go.Proofs.Try.func50, R.detentref15_is_ok⟩, ⟨⟨_, Go.Proofs.Try.func51, R.detentref15_All_pass_ok⟩, ⟨⟨_, Go.Proofs.Try.func52, R.detentref4_Queue_At_ok⟩, ⟨⟨_, Go.Proofs.Try.func53, R.slices_DeleteFunc__int_int_ok⟩, ⟨⟨_, Go.Proofs.Try.func54, R.mtx_All_Drop_1_ok⟩, ⟨⟨_, Go.Proofs.Try.func55, R.detentref15_All_waits_ok⟩, ⟨⟨_, Go.Proofs.Try.func56, R.detentref4_Queue_Remove_ok⟩, ⟨⟨_, Go.Proofs.Try.func57, R.slices_Clone__mtx_mutex_mtx_mutex_ok⟩, ⟨⟨_, Go.Proofs.Try.func58, R.detentref4_Queue_IDs_ok⟩, ⟨⟨_, Go.Proofs.Try.func59, R.detentref15_All_Held_ok⟩, ⟨⟨_, Go.Proofs.Try.func60, R.mtx_All_reckon_ok⟩, ⟨⟨_, Go.Proofs.Try.func61, R.mtx_All_leave_ok⟩, ⟨⟨_, Go.Proofs.Try.func62, R.mtx_All_rejoin_ok⟩, ⟨⟨_, Go.Proofs.Try.func64, R.detentref4_Good_ok⟩, ⟨⟨_, Go.Proofs.Try.func65, R.detentref4_Queue_put_ok⟩, ⟨⟨_, Go.Proofs.Try.func66, R.detentref15_All_pri_ok⟩, ⟨⟨_, Go.Proofs.Try.func67, R.detentref4_Queue_Change_ok⟩, ⟨⟨_, Go.Proofs.Try.func68, R.detentref4_Queue_Take_ok⟩, ⟨⟨_, Go.Proofs.Try.func69, R.slices_IndexFunc__int_int_ok⟩, ⟨⟨_, Go.Proofs.Try.func70, R.mtx_All_leave_1_ok⟩, ⟨⟨_, Go.Proofs.Try.func72, R.slices_rotateRight_int_ok⟩, ⟨⟨_, Go.Proofs.Try.func73, R.slices_rotateLeft_int_ok⟩, ⟨⟨_, Go.Proofs.Try.func74, R.slices_Reverse__int_int_ok⟩, trivial⟩⟩⟩⟩⟩⟩⟩⟩⟩⟩⟩⟩⟩⟩⟩⟩⟩⟩⟩⟩⟩⟩⟩⟩⟩⟩⟩⟩⟩⟩⟩⟩⟩⟩⟩⟩⟩⟩⟩⟩⟩⟩⟩⟩⟩⟩⟩⟩⟩⟩⟩⟩⟩⟩⟩⟩⟩⟩⟩⟩⟩⟩⟩⟩⟩⟩⟩⟩⟩⟩)
theorem tab_wf : TabWf tab := tabWf_of (l := tabL) (by kernel_rfl)
theorem tab_detentlaw15_MutexChain : tab F.detentlaw15_MutexChain = some R.detentlaw15_MutexChain := rfl
theorem tab_detentlaw15_MutexPasses : tab F.detentlaw15_MutexPasses = some R.detentlaw15_MutexPasses := rfl
theorem tab_detentlaw15_MutexRing : tab F.detentlaw15_MutexRing = some R.detentlaw15_MutexRing := rfl
theorem tab_detentlaw15_MutexOwns : tab F.detentlaw15_MutexOwns = some R.detentlaw15_MutexOwns := rfl
theorem tab_detentlaw15_MutexCeilings : tab F.detentlaw15_MutexCeilings = some R.detentlaw15_MutexCeilings := rfl
theorem tab_detentlaw15_MutexFrees : tab F.detentlaw15_MutexFrees = some R.detentlaw15_MutexFrees := rfl
theorem tab_detentlaw15_MutexPlays : tab F.detentlaw15_MutexPlays = some R.detentlaw15_MutexPlays := rfl
theorem tab_detentlaw15_Kinds : tab F.detentlaw15_Kinds = some R.detentlaw15_Kinds := rfl
theorem tab_detentlaw3_Same : tab F.detentlaw3_Same = some R.detentlaw3_Same := rfl
theorem tab_detentlaw15_known : tab F.detentlaw15_known = some R.detentlaw15_known := rfl
theorem tab_mtx_New : tab F.mtx_New = some R.mtx_New := rfl
theorem tab_mtx_All_SetBase : tab F.mtx_All_SetBase = some R.mtx_All_SetBase := rfl
theorem tab_mtx_All_Lock : tab F.mtx_All_Lock = some R.mtx_All_Lock := rfl
theorem tab_mtx_All_Pri : tab F.mtx_All_Pri = some R.mtx_All_Pri := rfl
theorem tab_mtx_All_Unlock : tab F.mtx_All_Unlock = some R.mtx_All_Unlock := rfl
theorem tab_mtx_All_Owner : tab F.mtx_All_Owner = some R.mtx_All_Owner := rfl
theorem tab_mtx_All_TryLock : tab F.mtx_All_TryLock = some R.mtx_All_TryLock := rfl
theorem tab_mtx_All_Waiting : tab F.mtx_All_Waiting = some R.mtx_All_Waiting := rfl
theorem tab_mtx_All_Free : tab F.mtx_All_Free = some R.mtx_All_Free := rfl
theorem tab_mtx_All_Held : tab F.mtx_All_Held = some R.mtx_All_Held := rfl
theorem tab_detentref15_New : tab F.detentref15_New = some R.detentref15_New := rfl
theorem tab_detentref15_All_Lock : tab F.detentref15_All_Lock = some R.detentref15_All_Lock := rfl
theorem tab_detentref15_All_TryLock : tab F.detentref15_All_TryLock = some R.detentref15_All_TryLock := rfl
theorem tab_detentref15_All_Unlock : tab F.detentref15_All_Unlock = some R.detentref15_All_Unlock := rfl
theorem tab_detentref15_All_SetBase : tab F.detentref15_All_SetBase = some R.detentref15_All_SetBase := rfl
theorem tab_mtx_All_Drop : tab F.mtx_All_Drop = some R.mtx_All_Drop := rfl
theorem tab_detentref15_All_Drop : tab F.detentref15_All_Drop = some R.detentref15_All_Drop := rfl
theorem tab_detentref15_All_Free : tab F.detentref15_All_Free = some R.detentref15_All_Free := rfl
theorem tab_mtx_All_Twin : tab F.mtx_All_Twin = some R.mtx_All_Twin := rfl
theorem tab_detentlaw15_same : tab F.detentlaw15_same = some R.detentlaw15_same := rfl
theorem tab_mtx_All_Base : tab F.mtx_All_Base = some R.mtx_All_Base := rfl
theorem tab_mtx_Kind_right : tab F.mtx_Kind_right = some R.mtx_Kind_right := rfl
theorem tab_mtx_is : tab F.mtx_is = some R.mtx_is := rfl
theorem tab_mtx_may : tab F.mtx_may = some R.mtx_may := rfl
theorem tab_mtx_All_settle : tab F.mtx_All_settle = some R.mtx_All_settle := rfl
theorem tab_mtx_All_over : tab F.mtx_All_over = some R.mtx_All_over := rfl
theorem tab_mtx_All_stand : tab F.mtx_All_stand = some R.mtx_All_stand := rfl
theorem tab_mtx_All_in : tab F.mtx_All_in = some R.mtx_All_in := rfl
theorem tab_slices_Delete__int_int : tab F.slices_Delete__int_int = some R.slices_Delete__int_int := rfl
theorem tab_slices_Clip__int_int : tab F.slices_Clip__int_int = some R.slices_Clip__int_int := rfl
theorem tab_slices_Clone__int_int : tab F.slices_Clone__int_int = some R.slices_Clone__int_int := rfl
theorem tab_detentref15_All_try : tab F.detentref15_All_try = some R.detentref15_All_try := rfl
theorem tab_detentref15_All_round : tab F.detentref15_All_round = some R.detentref15_All_round := rfl
theorem tab_detentref4_Queue_Add : tab F.detentref4_Queue_Add = some R.detentref4_Queue_Add := rfl
theorem tab_detentref15_All_Pri : tab F.detentref15_All_Pri = some R.detentref15_All_Pri := rfl
theorem tab_detentref15_All_settle : tab F.detentref15_All_settle = some R.detentref15_All_settle := rfl
theorem tab_detentref15_All_mutex : tab F.detentref15_All_mutex = some R.detentref15_All_mutex := rfl
theorem tab_detentref15_is : tab F.detentref15_is = some R.detentref15_is := rfl
theorem tab_detentref15_All_pass : tab F.detentref15_All_pass = some R.detentref15_All_pass := rfl
theorem tab_detentref4_Queue_At : tab F.detentref4_Queue_At = some R.detentref4_Queue_At := rfl
theorem tab_slices_DeleteFunc__int_int : tab F.slices_DeleteFunc__int_int = some R.slices_DeleteFunc__int_int := rfl
theorem tab_mtx_All_Drop_1 : tab F.mtx_All_Drop_1 = some R.mtx_All_Drop_1 := rfl
theorem tab_detentref15_All_waits : tab F.detentref15_All_waits = some R.detentref15_All_waits := rfl
theorem tab_detentref4_Queue_Remove : tab F.detentref4_Queue_Remove = some R.detentref4_Queue_Remove := rfl
theorem tab_slices_Clone__mtx_mutex_mtx_mutex : tab F.slices_Clone__mtx_mutex_mtx_mutex = some R.slices_Clone__mtx_mutex_mtx_mutex := rfl
theorem tab_detentref4_Queue_IDs : tab F.detentref4_Queue_IDs = some R.detentref4_Queue_IDs := rfl
theorem tab_detentref15_All_Held : tab F.detentref15_All_Held = some R.detentref15_All_Held := rfl
theorem tab_mtx_All_reckon : tab F.mtx_All_reckon = some R.mtx_All_reckon := rfl
theorem tab_mtx_All_leave : tab F.mtx_All_leave = some R.mtx_All_leave := rfl
theorem tab_mtx_All_rejoin : tab F.mtx_All_rejoin = some R.mtx_All_rejoin := rfl
theorem tab_detentref4_Good : tab F.detentref4_Good = some R.detentref4_Good := rfl
theorem tab_detentref4_Queue_put : tab F.detentref4_Queue_put = some R.detentref4_Queue_put := rfl
theorem tab_detentref15_All_pri : tab F.detentref15_All_pri = some R.detentref15_All_pri := rfl
theorem tab_detentref4_Queue_Change : tab F.detentref4_Queue_Change = some R.detentref4_Queue_Change := rfl
theorem tab_detentref4_Queue_Take : tab F.detentref4_Queue_Take = some R.detentref4_Queue_Take := rfl
theorem tab_slices_IndexFunc__int_int : tab F.slices_IndexFunc__int_int = some R.slices_IndexFunc__int_int := rfl
theorem tab_mtx_All_leave_1 : tab F.mtx_All_leave_1 = some R.mtx_All_leave_1 := rfl
theorem tab_slices_rotateRight_int : tab F.slices_rotateRight_int = some R.slices_rotateRight_int := rfl
theorem tab_slices_rotateLeft_int : tab F.slices_rotateLeft_int = some R.slices_rotateLeft_int := rfl
theorem tab_slices_Reverse__int_int : tab F.slices_Reverse__int_int = some R.slices_Reverse__int_int := rfl
end Go.AM

/-
  slices: Clip, Clone, Delete, IndexFunc, DeleteFunc of numbers.
-/
namespace Go.AM
set_option maxHeartbeats 8000000
attribute [local irreducible] sq bk lpK mdx rt TC RP WK Cel Ro Row Fre RowsA RowsBut

section
variable {ext : Nat → List AV → AH → Option (AV × AH)}

theorem xClip_tri (s : SV) (r : List Int) : Tri tab ext F.slices_Clip__int_int [.s s] [Row encI 1 s r] fun v P' => ∃ s', v = .s s' ∧ P' = [Row encI 1 s' r] := by
  refine Tri.go tab_slices_Clip__int_int rfl ?_
  refine TC.rw .h (fun e hs hr => ?_) fun b cp j hs h1 h2 => ?_
  · subst hs; subst hr
    refine RUN ?_
    refine rt_r rfl ⟨_, rfl, rfl⟩ ?_
    exact row_nil _ _
  · subst hs
    refine RUN ?_
    have h3 : (r.length : Int) ≤ cp := by omega
    refine RP.sc (l := 0) (h := r.length) (m := r.length) rfl rfl rfl rfl (bds (bA (by omega)) (bA (by omega)) rfl) rfl ?_
    refine RUN ?_
    refine rt_r rfl ⟨_, rfl, rfl⟩ ?_
    exact row_again (cp := r.length) (by simp [flat_len encI_len]) (Nat.le_refl _)

theorem xClone_tri (s : SV) (r : List Int) (hr : r.length ≤ 1000000) : Tri tab ext F.slices_Clone__int_int [.s s] [Row encI 1 s r] fun v P' => ∃ s', v = .s s' ∧ P' = [Row encI 1 s' r, Row encI 1 s r] := by
  refine Tri.go tab_slices_Clone__int_int rfl ?_
  refine TC.rw .h (fun e hs hr => ?_) fun b cp j hs h1 h2 => ?_
  · subst hs; subst hr
    refine RUN ?_
    refine rt_r rfl ⟨_, rfl, rfl⟩ ?_
    exact (row_nil _ _).trans (row_nil _ _)
  · subst hs
    refine TC.ent (row_again h1 h2) ?_
    refine RUN ?_
    refine RP.bs rfl rfl rfl fun b' => ?_
    refine RP.ent (row_empty (enc := encI) (k := 1)) ?_
    refine RUN ?_
    refine RP.ap rfl rfl rfl (ap_row encI_len (.c .h (.c .h .e)) (by simp; omega)) fun s' => ?_
    refine RUN ?_
    refine rt_r rfl ⟨_, rfl, rfl⟩ ?_
    exact LEnt.refl _

/-- Where a number stands first. -/
def idxI (r : List Int) (x : Int) (k : Int) : Prop := (k = -1 ∧ x ∉ r) ∨ ∃ i : Nat, k = i ∧ r[i]? = some x ∧ x ∉ r.take i

theorem xIndexFunc_tri (s : SV) (r : List Int) (hr : r.length ≤ 1000000) (f : Nat) (caps : List (Nat × Nat)) (x : Int) (C : Asr) (hf : ∀ w, Tri tab ext f ([i64 w] ++ caps.map fun a => .s (.ptr (some a))) [C] fun v P' => v = bl (decide (w = x)) ∧ P' = [C]) :
    Tri tab ext F.slices_IndexFunc__int_int [.s s, .s (.fn f caps)] [Row encI 1 s r, C] fun v P' => ∃ k, v = i64 k ∧ idxI r x k ∧ P' = [Row encI 1 s r, C] := by
  refine Tri.go tab_slices_IndexFunc__int_int rfl ?_
  refine RUN ?_
  refine TC.loop (fun a : Nat => r.length - a) (fun i => i ≤ r.length ∧ x ∉ r.take i) (fun a => [(0, .s s), (1, .s (.fn f caps)), (7, i64 r.length), (8, i64 a)]) (fun _ => [Row encI 1 s r, C]) 0 (by simp) ⟨rfl, rfl, rfl, rfl, trivial⟩ (LEnt.refl _) ?_
  rintro i ⟨hi, hx⟩
  refine RUN ?_
  refine TC.cP rfl (fun h => ?_) fun h => ?_
  · have hlt : i < r.length := by omega
    obtain ⟨y, hy⟩ : ∃ y, r[i]? = some y := ⟨_, List.getElem?_eq_getElem hlt⟩
    refine RUN ?_
    refine RP.cv rfl rfl (hf y) (.c (.n .h) .e) rfl ?_
    rintro v P' ⟨rfl, rfl⟩
    refine RUN ?_
    refine TC.cP rfl (fun h2 => ?_) fun h2 => ?_
    · refine RUN ?_
      subst h2
      refine rt_r rfl ⟨_, rfl, .inr ⟨i, rfl, hy, hx⟩, rfl⟩ ?_
      exact fun ρ H R hs => hs.perm (List.Perm.swap _ _ _)
    · refine RUN ?_
      refine lp_n (i + 1) ⟨hlt, ?_⟩ (by omega) ⟨rfl, rfl, rfl, rfl, trivial⟩ (fun ρ H R hs => hs.perm (List.Perm.swap _ _ _))
      rw [List.take_add_one, hy]
      simpa [hx] using fun h => h2 h.symm
  · refine RUN ?_
    have : i = r.length := by omega
    subst this
    rw [List.take_length] at hx
    refine rt_r rfl ⟨_, rfl, .inl ⟨rfl, hx⟩, rfl⟩ (LEnt.refl _)

theorem clear_part {b o m c : Nat} {l : List SV} {L : List Asr} (h : o + m ≤ l.length) : ∀ (ρ : HF) (H : AH) (X : List Asr), Sat ρ H ((Cel b l :: L) ++ X) → ∃ H', clearA 1 [.int .i64 0] (.s (.slice (some (b, o)) m c 1)) H = some H' ∧ Sat ρ H' ((Cel b (splice l o (repCells [.int .i64 0] m)) :: L) ++ X) := by
  intro ρ H X hs
  have hs : Sat ρ H (Cel b l :: (L ++ X)) := hs
  have hl : (repCells [.int .i64 0] m).length = m := by simp [rep_length]
  by_cases hm : m = 0
  · subst hm
    refine ⟨H, by simp [clearA], ?_⟩
    have : splice l o (repCells [.int .i64 0] 0) = l := by simp [repCells, splice]
    rw [this]; exact hs
  · refine ⟨_, ?_, Sat.set hs _⟩
    simp only [clearA, if_neg hm, List.length_singleton, and_self, if_true]
    rw [stn_of H hs.cel (by rw [hl]; exact h)]

theorem flat_append_len {r : List Int} {j : List SV} : (flat encI r ++ j).length = r.length + j.length := by rw [List.length_append, flat_len encI_len, Nat.mul_one]

theorem splice_tail {A B C : List SV} (h : B.length = C.length) : splice (A ++ B) A.length C = A ++ C := by
  unfold splice
  rw [List.take_left, ← h, List.drop_eq_nil_of_le (by simp), List.append_nil]

theorem row_front {b cp m : Nat} {l : List SV} {r : List Int} {L : List Asr} (h1 : l.take m = flat encI r) (hm : r.length = m) (h2 : cp ≤ l.length) (h3 : m ≤ cp) : LEnt (Cel b l :: L) (Row encI 1 (.slice (some (b, 0)) m cp 1) r :: L) := by
  subst hm
  exact row_made (by rw [Nat.mul_one, h1]) (by omega) h3

theorem xDeleteFunc_tri (s : SV) (r : List Int) (hr : r.length ≤ 1000000) (f : Nat) (caps : List (Nat × Nat)) (x : Int) (C : Asr) (hf : ∀ w, Tri tab ext f ([i64 w] ++ caps.map fun a => .s (.ptr (some a))) [C] fun v P' => v = bl (decide (w = x)) ∧ P' = [C]) :
    Tri tab ext F.slices_DeleteFunc__int_int [.s s, .s (.fn f caps)] [Row encI 1 s r, C] fun v P' => ∃ s', v = .s s' ∧ P' = [Row encI 1 s' (r.filter (fun w => decide (w ≠ x))), C] := by
  refine Tri.go tab_slices_DeleteFunc__int_int rfl ?_
  refine RUN ?_
  refine RP.c rfl (xIndexFunc_tri s r hr f caps x C hf) (.c .h (.c .h .e)) rfl ?_
  rintro v P' ⟨k, rfl, hk, rfl⟩
  refine RUN ?_
  refine TC.cP rfl (fun h => ?_) fun h => ?_
  · refine RUN ?_
    refine rt_r rfl ⟨_, rfl, rfl⟩ ?_
    have hx : x ∉ r := by
      rcases hk with ⟨_, h1⟩ | ⟨i, h1, _⟩
      · exact h1
      · omega
    rw [List.filter_eq_self.2 (fun w hw => by simp; rintro rfl; exact hx hw)]
    exact LEnt.refl _
  · obtain ⟨i, rfl, hi, hx⟩ : ∃ i : Nat, k = i ∧ r[i]? = some x ∧ x ∉ r.take i := by
      rcases hk with ⟨rfl, _⟩ | h1
      · exact absurd rfl h
      · exact h1
    have hlt := (List.getElem?_eq_some_iff.1 hi).1
    refine RUN ?_
    refine TC.loop (fun q : Nat × Nat × List Int => r.length - q.2.1) (fun q => q.1 < q.2.1 ∧ q.2.1 ≤ r.length ∧ q.2.2.length = r.length ∧ q.2.2.take q.1 = (r.take q.2.1).filter (fun w => decide (w ≠ x)) ∧ q.2.2.drop q.2.1 = r.drop q.2.1)
      (fun a => [(0, .s s), (1, .s (.fn f caps)), (5, i64 a.1), (6, i64 a.2.1)]) (fun a => [Row encI 1 s a.2.2, C]) (i, i + 1, r) ⟨by simp, hlt, rfl, ?_, rfl⟩ ⟨rfl, rfl, rfl, rfl, trivial⟩ (LEnt.refl _) ?_
    · rw [List.take_add_one, hi, List.filter_append, List.filter_eq_self.2 (fun w hw => by simp; rintro rfl; exact hx hw)]
      simp
    rintro ⟨i, j, r'⟩ ⟨h1, h2, h3, h4, h5⟩
    dsimp only at h1 h2 h3 h4 h5 ⊢
    refine RUN ?_
    refine TC.cP rfl (fun h => ?_) fun h => ?_
    · have hj : j < r'.length := by omega
      obtain ⟨y, hy⟩ : ∃ y, r'[j]? = some y := ⟨_, List.getElem?_eq_getElem hj⟩
      have hy' : r[j]? = some y := by
        have := congrArg (fun l => l[0]?) h5
        simpa [hy] using this.symm
      refine RUN ?_
      refine RP.cv rfl rfl (hf y) (.c (.n .h) .e) rfl ?_
      rintro v P' ⟨rfl, rfl⟩
      refine RUN ?_
      refine TC.cB rfl (fun h6 => ?_) fun h6 => ?_
      · obtain ⟨z, hz⟩ : ∃ z, r'[i]? = some z := ⟨_, List.getElem?_eq_getElem (by omega)⟩
        have h6 : ¬ y = x := by simpa using h6
        refine RUN ?_
        refine RP.ent (L' := [Row encI 1 s r', C]) (fun ρ H R hs => hs.perm (List.Perm.swap _ _ _)) ?_
        refine RP.s rfl rfl rfl rfl (by refine Stw.w ?_ y hz ?_ ?_ <;> intros <;> rfl) ?_
        refine RUN ?_
        refine lp_n (i + 1, j + 1, r'.set i y) ?_ (by simp only; omega) ⟨rfl, rfl, rfl, rfl, trivial⟩ (LEnt.refl _)
        refine ⟨by simp only; omega, by simp only; omega, by simpa using h3, ?_, ?_⟩
        · simp only
          rw [List.take_add_one, List.take_set_of_le (Nat.le_refl _), h4, List.take_add_one, hy', List.filter_append]
          simp [h6, show i < r'.length by omega]
        · simp only
          rw [List.drop_set_of_lt (by omega), ← List.drop_drop, h5, List.drop_drop]
      · have h6 : y = x := by simpa using h6
        refine RUN ?_
        refine lp_n (i, j + 1, r') ?_ (by simp only; omega) ⟨rfl, rfl, rfl, rfl, trivial⟩ (fun ρ H R hs => hs.perm (List.Perm.swap _ _ _))
        refine ⟨by simp only; omega, by simp only; omega, h3, ?_, ?_⟩
        · simp only
          rw [h4, List.take_add_one, hy', List.filter_append]
          simp [h6]
        · simp only
          rw [← List.drop_drop, h5, List.drop_drop]
    · have hj : j = r.length := by omega
      subst hj
      rw [List.take_length] at h4
      refine TC.rw .h (fun e _ he => by subst he; simp at h3; omega) fun b cp j hs g1 g2 => ?_
      subst hs
      have gi : (i : Int) ≤ r'.length := by omega
      have gc : (i : Int) ≤ cp := by omega
      have gr : (r'.length : Int) ≤ cp := by omega
      refine RUN ?_
      refine RP.sc (l := i) (h := r'.length) (m := cp) rfl rfl rfl rfl (bds rfl rfl (bA (by omega))) rfl ?_
      refine RUN ?_
      refine RP.cl rfl (clear_part (by simp only [List.length_append, flat_len encI_len]; omega)) ?_
      refine RUN ?_
      refine RP.sc (l := 0) (h := i) (m := cp) rfl rfl rfl rfl (bds rfl (bA (by omega)) rfl) rfl ?_
      refine RUN ?_
      refine rt_r rfl ⟨_, rfl, rfl⟩ ?_
      simp only [Nat.add_zero, Nat.zero_add, Nat.mul_one, Nat.sub_zero]
      refine row_front ?_ ?_ ?_ ?_
      · rw [← h4]
        unfold splice
        rw [List.take_append, List.length_take, flat_append_len, h3]
        have e1 : min i (r.length + j.length) = i := by omega
        rw [e1, Nat.sub_self, List.take_zero, List.append_nil, List.take_take, Nat.min_self, List.take_append_of_le_length (by rw [flat_len encI_len]; omega)]
        have := flat_part encI_len r' [] 0 i (by omega)
        simpa using this
      · rw [← h4, List.length_take]; omega
      · have e2 : (repCells [SV.int .i64 0] (r'.length - i)).length = r'.length - i := by rw [rep_length]; simp
        simp only [splice, List.length_append, List.length_take, List.length_drop, e2, flat_len encI_len]
        rw [List.length_append, flat_len encI_len] at g1
        omega
      · omega

theorem splice_del (r : List Int) (j : List SV) (i : Nat) (hi : i < r.length) : splice (flat encI r ++ j) i (flat encI (r.drop (i + 1))) = flat encI (r.take i ++ r.drop (i + 1)) ++ (flat encI r ++ j).drop (r.length - 1) := by
  unfold splice
  have e1 : (flat encI (r.drop (i + 1))).length = r.length - (i + 1) := by rw [flat_len encI_len, List.length_drop]; omega
  have e2 : (flat encI r ++ j).take i = flat encI (r.take i) := by
    have : flat encI r ++ j = flat encI (r.take i) ++ (flat encI (r.drop i) ++ j) := by rw [← List.append_assoc, ← flat_append, List.take_append_drop]
    rw [this, List.take_append_of_le_length (by rw [flat_len encI_len, List.length_take]; omega)]
    apply List.take_of_length_le
    rw [flat_len encI_len, List.length_take]; omega
  rw [e1, e2, flat_append, show i + (r.length - (i + 1)) = r.length - 1 by omega, List.append_assoc]

theorem ap_cut {b cp i c' : Nat} {r : List Int} {j : List SV} {L : List Asr} (hr : r.length ≤ 1000000) (hi : i < r.length) (hc : r.length ≤ cp) : ∀ (ρ : HF) (H : AH) (id : Nat) (X : List Asr), Sat ρ H (Fre id :: ((Cel b (flat encI r ++ j) :: L) ++ X)) →
    ∃ (_ : PUnit) (H' : AH), appendA 1 8 id (.s (.slice (some (b, 0)) i cp 1)) (.s (.slice (some (b, i + 1)) (r.length - (i + 1)) c' 1)) H = some (.s (.slice (some (b, 0)) (r.length - 1) cp 1), H') ∧ Sat ρ H' ((Cel b (flat encI (r.take i ++ r.drop (i + 1)) ++ (flat encI r ++ j).drop (r.length - 1)) :: L) ++ X) := by
  intro ρ H id X hs
  have hs : Sat ρ H (Cel b (flat encI r ++ j) :: (L ++ X)) := hs.drop
  have efl : (flat encI r).length = r.length := by rw [flat_len encI_len]; omega
  have e1 : (flat encI (r.drop (i + 1))).length = r.length - (i + 1) := by rw [flat_len encI_len, List.length_drop]; omega
  have hp : sliceCells 1 (.s (.slice (some (b, i + 1)) (r.length - (i + 1)) c' 1)) (r.length - (i + 1)) H = some (flat encI (r.drop (i + 1))) := by
    have h0 : Sat ρ H (Row encI 1 (.slice (some (b, 0)) r.length r.length 1) r :: (L ++ X)) := Sat.mkRow hs (by rw [List.length_append, efl]; omega) (Nat.le_refl _)
    have := h0.partSrc encI_len (o := i + 1) (l := i + 1) (n := r.length - (i + 1)) (c' := c') (by omega) (by omega)
    rwa [List.take_of_length_le (by rw [List.length_drop]; exact Nat.le_refl _)] at this
  refine ⟨⟨⟩, H.set b (.cells false (splice (flat encI r ++ j) i (flat encI (r.drop (i + 1))))), ?_, ?_⟩
  · simp only [appendA]
    rw [show slLen (.s (.slice (some (b, i + 1)) (r.length - (i + 1)) c' 1)) = some (r.length - (i + 1)) from rfl, Option.bind_some, hp, Option.bind_some, if_pos ⟨trivial, by omega⟩, if_pos (by omega), Nat.zero_add, Nat.mul_one, stn_of H hs.cel (by rw [e1, List.length_append, efl]; omega), Option.map_some, show i + (r.length - (i + 1)) = r.length - 1 by omega]
  · rw [← splice_del r j i hi]
    exact Sat.set hs _

theorem xDelete_tri (s : SV) (r : List Int) (i : Nat) (hr : r.length ≤ 1000000) (hi : i < r.length) : Tri tab ext F.slices_Delete__int_int [.s s, i64 i, i64 ((i + 1 : Nat) : Int)] [Row encI 1 s r] fun v P' => ∃ s', v = .s s' ∧ P' = [Row encI 1 s' (r.take i ++ r.drop (i + 1))] := by
  refine Tri.go tab_slices_Delete__int_int rfl ?_
  refine TC.rw .h (fun e hs hr => by subst hr; simp at hi) fun b cp j hs h1 h2 => ?_
  subst hs
  refine RUN ?_
  refine RP.sc (l := i) (h := i + 1) (m := r.length) rfl rfl rfl rfl (bds (bA (by omega)) (bA (by omega)) (bA (by omega))) rfl ?_
  refine RUN ?_
  refine TC.cP rfl (fun h => by omega) fun _ => ?_
  refine RUN ?_
  refine RP.sc (l := 0) (h := i) (m := cp) rfl rfl rfl rfl (bds rfl (bA (by omega)) rfl) rfl ?_
  refine RUN ?_
  refine RP.sc (l := i + 1) (h := r.length) (m := cp) rfl rfl rfl rfl (bds rfl rfl (bA (by omega))) rfl ?_
  refine RUN ?_
  simp only [Nat.add_zero, Nat.zero_add, Nat.mul_one, Nat.sub_zero]
  refine RP.ap rfl rfl rfl (ap_cut hr hi h2) fun _ => ?_
  refine RUN ?_
  refine RP.sc (l := r.length - 1) (h := r.length) (m := cp) rfl rfl rfl rfl (bds rfl (bA (by omega)) (bA (by omega))) rfl ?_
  refine RUN ?_
  have e0 : (r.take i ++ r.drop (i + 1)).length = r.length - 1 := by rw [List.length_append, List.length_take, List.length_drop]; omega
  rw [List.length_append, flat_len encI_len, Nat.mul_one] at h1
  refine RP.cl rfl (clear_part (by simp only [List.length_append, flat_len encI_len, e0, List.length_drop]; omega)) ?_
  refine RUN ?_
  refine rt_r rfl ⟨_, rfl, rfl⟩ ?_
  rw [show r.length - (r.length - 1) = 1 by omega]
  refine row_front ?_ e0 ?_ (by omega)
  · unfold splice
    rw [List.take_append_of_le_length (by simp only [List.length_take, List.length_append, flat_len encI_len, e0]; omega), List.take_take, Nat.zero_add, Nat.mul_one, Nat.min_self, List.take_append_of_le_length (by rw [flat_len encI_len, e0]; omega), List.take_of_length_le (by rw [flat_len encI_len, e0]; omega)]
  · simp only [splice, List.length_append, List.length_take, List.length_drop, rep_length, flat_len encI_len, e0]
    simp
    omega
end
end Go.AM

/-
  mtx: what mutexes and tasks are on the heap.
-/
namespace Go.AM
set_option maxHeartbeats 8000000
attribute [local irreducible] sq bk lpK mdx rt TC RP WK Cel Ro Row Fre RowsA RowsBut

/-- A mutex: kind, ceiling, owner, who waits. -/
structure Mu where
  at_ : Int
  ce : Int
  ow : Int
  w : List Int
/-- A task: base, priority, which mutex it waits for. -/
structure Tk where
  b : Int
  p : Int
  w : Int

def encM (q : Mu × SV) : List SV := [.int .i64 q.1.at_, .int .i64 q.1.ce, .int .i64 q.1.ow, q.2]
def encT (t : Tk) : List SV := [.int .i64 t.b, .int .i64 t.p, .int .i64 t.w]
theorem encM_len (q : Mu × SV) : (encM q).length = 4 := rfl
theorem encT_len (t : Tk) : (encT t).length = 3 := rfl

/-- All mutexes, all tasks: of the row's slice and the waiting rows' slices it is told which they are. -/
def MxB (a : Nat) (ms : List Mu) (ts : List Tk) (sm : SV) (ws : List SV) : Asr :=
  Asr.all [Asr.pure (ws.length = ms.length ∧ ts.length = 17), Cel a ([sm] ++ (flat encT ts ++ [])), Row encM 4 sm (ms.zip ws), RowsA ws (ms.map Mu.w)]
def MxA (a : Nat) (ms : List Mu) (ts : List Tk) : Asr := Asr.ex fun (q : SV × List SV) => MxB a ms ts q.1 q.2

section
variable {ρ : HF} {H : AH} {a : Nat} {ms : List Mu} {ts : List Tk} {sm : SV} {ws : List SV} {L R X : List Asr}
theorem Sat.mxOpen (h : Sat ρ H (MxB a ms ts sm ws :: R)) : (ws.length = ms.length ∧ ts.length = 17) ∧ Sat ρ H (Cel a ([sm] ++ (flat encT ts ++ [])) :: Row encM 4 sm (ms.zip ws) :: RowsA ws (ms.map Mu.w) :: R) := Sat.pure (Sat.all h)
theorem Sat.mxClose (hw : ws.length = ms.length) (ht : ts.length = 17) (h : Sat ρ H (Cel a ([sm] ++ (flat encT ts ++ [])) :: Row encM 4 sm (ms.zip ws) :: RowsA ws (ms.map Mu.w) :: R)) : Sat ρ H (MxB a ms ts sm ws :: R) := Sat.mkAll (Sat.mkPure ⟨hw, ht⟩ h)

theorem mx_close (hw : ws.length = ms.length) (ht : ts.length = 17) : LEnt (Cel a ([sm] ++ (flat encT ts ++ [])) :: Row encM 4 sm (ms.zip ws) :: RowsA ws (ms.map Mu.w) :: L) (MxB a ms ts sm ws :: L) := fun _ _ _ h => Sat.mxClose hw ht h
theorem mx_hide : LEnt (MxB a ms ts sm ws :: L) (MxA a ms ts :: L) := fun _ _ _ h => Sat.mkEx (F := fun (q : SV × List SV) => MxB a ms ts q.1 q.2) (sm, ws) h

theorem zip_get {i : Nat} {μ : Mu} {s : SV} (h1 : ms[i]? = some μ) (h2 : ws[i]? = some s) : (ms.zip ws)[i]? = some (μ, s) := by
  rw [List.getElem?_zip_eq_some]; exact ⟨h1, h2⟩
theorem zip_set {i : Nat} {μ : Mu} {s : SV} : (ms.zip ws).set i (μ, s) = (ms.set i μ).zip (ws.set i s) := by
  induction ms generalizing i ws with
  | nil => simp
  | cons m ms ih =>
    cases ws with
    | nil => simp
    | cons w ws =>
      cases i with
      | zero => rfl
      | succ i => simp [ih]

/-- What may be read. -/
theorem Ld.mt {t d : Nat} {τ : Tk} {x : SV} (ht : ts[t]? = some τ) (h : (encT τ)[d]? = some x) : Ld (MxB a ms ts sm ws :: L) a (ix 1 t 3 d) x := ⟨fun ρ H R hs =>
  (Ld.a (c := 1) (L := Row encM 4 sm (ms.zip ws) :: RowsA ws (ms.map Mu.w) :: (L ++ R)) (pre := [sm]) (post := []) rfl encT_len ht h).of ρ H [] (by rw [List.append_nil]; exact (Sat.mxOpen hs).2)⟩
theorem Ld.mS : Ld (MxB a ms ts sm ws :: L) a 0 sm := ⟨fun ρ H R hs => by rw [ld_of H (Sat.mxOpen hs).2.cel]; rfl⟩
theorem Ld.mu {i d : Nat} {μ : Mu} {s x : SV} (hi : ms[i]? = some μ) (hw : ws[i]? = some s) (h : (encM (μ, s))[d]? = some x) : Ld (MxB a ms ts sm ws :: L) (sb sm) (ix 0 i 4 d) x := ⟨fun ρ H R hs =>
  (Ld.w (L := RowsA ws (ms.map Mu.w) :: (L ++ R)) encM_len (zip_get hi hw) h).of ρ H [] (by rw [List.append_nil]; exact (Sat.mxOpen hs).2.drop)⟩
theorem Ldn.rowIn {α : Type} {enc : α → List SV} {k : Nat} {s : SV} {r : List α} (hr : RowIn L enc k s r) (hk : ∀ e, (enc e).length = k) {i : Nat} {e : α} (hi : r[i]? = some e) : Ldn L (sb s) (ix 0 i k 0) k (enc e) := ⟨fun ρ H R hs => by
  obtain ⟨R', h1⟩ := hr.of ρ H R hs
  exact (Ldn.w (L := R') hk hi).of ρ H [] (by rw [List.append_nil]; exact h1)⟩
theorem RowIn.mm : RowIn (MxB a ms ts sm ws :: L) encM 4 sm (ms.zip ws) := ⟨fun _ _ _ hs => ⟨_, (Sat.mxOpen hs).2.drop⟩⟩
theorem Ldn.mu {i : Nat} {μ : Mu} {s : SV} (hi : ms[i]? = some μ) (hw : ws[i]? = some s) : Ldn (MxB a ms ts sm ws :: L) (sb sm) (ix 0 i 4 0) 4 (encM (μ, s)) := Ldn.rowIn RowIn.mm encM_len (zip_get hi hw)
theorem RowIn.mw {i : Nat} {μ : Mu} {s : SV} (hi : ms[i]? = some μ) (hw : ws[i]? = some s) : RowIn (MxB a ms ts sm ws :: L) encI 1 s μ.w := ⟨fun ρ H R hs => by
  have h1 := (Sat.mxOpen hs).2.drop.drop
  have h2 := rows_out (rs := ws) (rows := ms.map Mu.w) hw (r := μ.w) (by rw [List.getElem?_map, hi]; rfl) ρ H (L ++ R) h1
  exact ⟨_, h2⟩⟩
theorem Ld.rowIn {α : Type} {enc : α → List SV} {k : Nat} {s : SV} {r : List α} (hr : RowIn L enc k s r) (hk : ∀ e, (enc e).length = k) {i d : Nat} {e : α} {x : SV} (hi : r[i]? = some e) (h : (enc e)[d]? = some x) : Ld L (sb s) (ix 0 i k d) x := ⟨fun ρ H R hs => by
  obtain ⟨R', h1⟩ := hr.of ρ H R hs
  exact (Ld.w (L := R') hk hi h).of ρ H [] (by rw [List.append_nil]; exact h1)⟩
theorem Ld.mw {i k : Nat} {μ : Mu} {s : SV} {w : Int} (hi : ms[i]? = some μ) (hw : ws[i]? = some s) (hk : μ.w[k]? = some w) : Ld (MxB a ms ts sm ws :: L) (sb s) (ix 0 k 1 0) (.int .i64 w) := Ld.rowIn (RowIn.mw hi hw) encI_len hk rfl
theorem mx_len {tab : Nat → Option RFunc} {ext : Nat → List AV → AH → Option (AV × AH)} {n : Nat} {E : Env} {c : RC} {K : Pst} (k : ws.length = ms.length → ts.length = 17 → TC tab ext n E (MxB a ms ts sm ws :: L) c K) : TC tab ext n E (MxB a ms ts sm ws :: L) c K :=
  TC.fact (p := ws.length = ms.length ∧ ts.length = 17) (fun _ _ _ hs => (Sat.mxOpen hs).1) fun h => k h.1 h.2
theorem TC.mx {tab : Nat → Option RFunc} {ext : Nat → List AV → AH → Option (AV × AH)} {n : Nat} {E : Env} {c : RC} {K : Pst} (k : ∀ sm ws, ws.length = ms.length → ts.length = 17 → TC tab ext n E (MxB a ms ts sm ws :: L) c K) : TC tab ext n E (MxA a ms ts :: L) c K :=
  TC.imp (α := SV × List SV) (L' := fun q => MxB a ms ts q.1 q.2 :: L) (fun _ _ _ hs => Sat.ex hs) fun q => mx_len (k q.1 q.2)

theorem RP.mx {tab : Nat → Option RFunc} {ext : Nat → List AV → AH → Option (AV × AH)} {n : Nat} {E : Env} {os : List ROper} {K : Env → List Asr → Prop} (k : ∀ sm ws, ws.length = ms.length → ts.length = 17 → RP tab ext n E (MxB a ms ts sm ws :: L) os K) : RP tab ext n E (MxA a ms ts :: L) os K :=
  RP.imp (α := SV × List SV) (L' := fun q => MxB a ms ts q.1 q.2 :: L) (fun _ _ _ hs => Sat.ex hs) fun q => RP.fact (p := q.2.length = ms.length ∧ ts.length = 17) (fun _ _ _ hs => (Sat.mxOpen hs).1) fun h => k q.1 q.2 h.1 h.2

/-- What may be written. -/
theorem Stw.mt {t d : Nat} {τ : Tk} (τ' : Tk) {v : SV} (ht : ts[t]? = some τ) (hd : Nat.blt d 3 = true) (hy : encT τ' = (encT τ).set d v) : Stw (MxB a ms ts sm ws :: L) a (ix 1 t 3 d) [v] (MxB a ms (ts.set t τ') sm ws :: L) := ⟨fun ρ H R hs => by
  obtain ⟨⟨h1, h2⟩, h3⟩ := Sat.mxOpen hs
  obtain ⟨H', g1, g2⟩ := (Stw.a (c := 1) (L := Row encM 4 sm (ms.zip ws) :: RowsA ws (ms.map Mu.w) :: (L ++ R)) (pre := [sm]) (post := []) rfl encT_len τ' ht hd hy).of ρ H [] (by rw [List.append_nil]; exact h3)
  rw [List.append_nil] at g2
  exact ⟨H', g1, Sat.mxClose h1 (by rw [List.length_set]; exact h2) g2⟩⟩
theorem Stw.mu {i d : Nat} {μ : Mu} {s v : SV} (μ' : Mu) (hi : ms[i]? = some μ) (hs : ws[i]? = some s) (hd : Nat.blt d 3 = true) (hy : encM (μ', s) = (encM (μ, s)).set d v) (hw : μ'.w = μ.w) : Stw (MxB a ms ts sm ws :: L) (sb sm) (ix 0 i 4 d) [v] (MxB a (ms.set i μ') ts sm ws :: L) := ⟨fun ρ H R hq => by
  obtain ⟨⟨h1, h2⟩, h3⟩ := Sat.mxOpen hq
  have hd4 : Nat.blt d 4 = true := by simp [Nat.blt_eq] at hd ⊢; omega
  obtain ⟨H', g1, g2⟩ := (Stw.w (L := Cel a ([sm] ++ (flat encT ts ++ [])) :: RowsA ws (ms.map Mu.w) :: (L ++ R)) encM_len (μ', s) (zip_get hi hs) hd4 hy).of ρ H [] (by rw [List.append_nil]; exact h3.perm (List.Perm.swap _ _ _))
  rw [List.append_nil, zip_set, set_same hs] at g2
  refine ⟨H', g1, Sat.mxClose (by rw [List.length_set]; exact h1) h2 ?_⟩
  have e : (ms.set i μ').map Mu.w = ms.map Mu.w := by
    rw [List.map_set, hw, set_same (by rw [List.getElem?_map, hi]; rfl)]
  rw [e]
  exact g2.perm (List.Perm.swap _ _ _)⟩

/-- All but one row. -/
def MxO (i : Nat) (a : Nat) (ms : List Mu) (ts : List Tk) (sm : SV) (ws : List SV) : Asr :=
  Asr.all [Asr.pure (ws.length = ms.length ∧ ts.length = 17), Cel a ([sm] ++ (flat encT ts ++ [])), Row encM 4 sm (ms.zip ws), RowsBut i ws (ms.map Mu.w)]
theorem mx_out {i : Nat} {μ : Mu} {s : SV} (hi : ms[i]? = some μ) (hs : ws[i]? = some s) : LEnt (MxB a ms ts sm ws :: L) (Row encI 1 s μ.w :: MxO i a ms ts sm ws :: L) := fun ρ H R hq => by
  obtain ⟨h0, h3⟩ := Sat.mxOpen hq
  have h4 : Sat ρ H ([RowsA ws (ms.map Mu.w)] ++ (Cel a ([sm] ++ (flat encT ts ++ [])) :: Row encM 4 sm (ms.zip ws) :: (L ++ R))) := Sat.re h3 [2, 0, 1] (by simp) (by decide)
  have h5 := rows_out hs (r := μ.w) (by rw [List.getElem?_map, hi]; rfl) ρ H _ h4
  have h6 : Sat ρ H (Cel a ([sm] ++ (flat encT ts ++ [])) :: Row encM 4 sm (ms.zip ws) :: RowsBut i ws (ms.map Mu.w) :: Row encI 1 s μ.w :: (L ++ R)) := Sat.re h5 [2, 3, 1, 0] (by simp) (by decide)
  exact (Sat.mkAll (l := [_, _, _, _]) (Sat.mkPure h0 h6)).perm (List.Perm.swap _ _ _)
theorem mx_back {i : Nat} {μ : Mu} {s : SV} (hi : ms[i]? = some μ) (hs : ws[i]? = some s) : LEnt (Row encI 1 s μ.w :: MxO i a ms ts sm ws :: L) (MxB a ms ts sm ws :: L) := fun ρ H R hq => by
  have hq := hq.perm (List.Perm.swap _ _ _)
  obtain ⟨⟨h1, h2⟩, h3⟩ := Sat.pure (Sat.all hq)
  have h4 : Sat ρ H ([Row encI 1 s μ.w, RowsBut i ws (ms.map Mu.w)] ++ (Cel a ([sm] ++ (flat encT ts ++ [])) :: Row encM 4 sm (ms.zip ws) :: (L ++ R))) := Sat.re h3 [3, 2, 0, 1] (by simp) (by decide)
  have h5 := rows_back hs (r := μ.w) (by rw [List.getElem?_map, hi]; rfl) ρ H _ h4
  exact Sat.mxClose h1 h2 (Sat.re h5 [1, 2, 0] (by simp) (by decide))
/-- A row's slice is stored to, and the row put in again. -/
theorem Stw.mo {i : Nat} {μ : Mu} {s s' : SV} {r : List Int} (hi : ms[i]? = some μ) (hs : ws[i]? = some s) : Stw (Row encI 1 s' r :: MxO i a ms ts sm ws :: L) (sb sm) (ix 0 i 4 3) [s'] (MxB a (ms.set i { μ with w := r }) ts sm (ws.set i s') :: L) := ⟨fun ρ H R hq => by
  have hq := hq.perm (List.Perm.swap _ _ _)
  obtain ⟨⟨h1, h2⟩, h3⟩ := Sat.pure (Sat.all hq)
  have h3 : Sat ρ H (Row encM 4 sm (ms.zip ws) :: ([Cel a ([sm] ++ (flat encT ts ++ [])), RowsBut i ws (ms.map Mu.w), Row encI 1 s' r] ++ (L ++ R))) := h3.perm (List.Perm.swap _ _ _)
  obtain ⟨H', g1, g2⟩ := (Stw.w (L := [Cel a ([sm] ++ (flat encT ts ++ [])), RowsBut i ws (ms.map Mu.w), Row encI 1 s' r] ++ (L ++ R)) encM_len ({ μ with w := r }, s') (d := 3) (v := s') (zip_get hi hs) rfl rfl).of ρ H [] (by rw [List.append_nil]; exact h3)
  rw [List.append_nil, zip_set] at g2
  refine ⟨H', g1, Sat.mxClose (by rw [List.length_set, List.length_set]; exact h1) h2 ?_⟩
  have e : (ms.set i { μ with w := r }).map Mu.w = (ms.map Mu.w).set i r := by rw [List.map_set]
  rw [e]
  have hwi := (List.getElem?_eq_some_iff.1 hs).1
  have h5 : Sat ρ H' ([Row encI 1 s' r, RowsBut i ws (ms.map Mu.w)] ++ (Cel a ([sm] ++ (flat encT ts ++ [])) :: Row encM 4 sm ((ms.set i { μ with w := r }).zip (ws.set i s')) :: (L ++ R))) := Sat.re g2 [3, 2, 1, 0] (by simp) (by decide)
  have h6 := rows_in hwi (by rw [List.length_map, ← h1]; exact hwi) ρ H' _ h5
  exact Sat.re h6 [1, 2, 0] (by simp) (by decide)⟩
theorem Ld.mo {i j d : Nat} {μ : Mu} {s x : SV} (hi : ms[j]? = some μ) (hw : ws[j]? = some s) (h : (encM (μ, s))[d]? = some x) : Ld (MxO i a ms ts sm ws :: L) (sb sm) (ix 0 j 4 d) x := ⟨fun ρ H R hs =>
  (Ld.w (L := RowsBut i ws (ms.map Mu.w) :: (L ++ R)) encM_len (zip_get hi hw) h).of ρ H [] (by rw [List.append_nil]; exact (Sat.pure (Sat.all hs)).2.drop)⟩
end
/-- All plain steps, as far as they go; what the mutexes hold is read too. -/
theorem RUNM {P Q : Prop} (h : P) (hf : Hid P → Q := by intro hp; (repeat (first | (refine is_rp ?_; first | refine RP.fx rfl rfl ?_ | refine RP.p rfl rfl ?_ | refine RP.done ?_ | (refine is_l ?_; first | refine RP.l rfl (by ((repeat (first | exact Ld.c rfl | exact Ld.r rfl | exact Ld.g (by assumption) | exact Ld.w (fun _ => by rfl) (by assumption) (by rfl) | exact Ld.a (by rfl) (fun _ => by rfl) (by assumption) (by rfl) | exact Ld.mS | exact Ld.mt (by assumption) (by rfl) | exact Ld.mu (by assumption) (by assumption) (by rfl) | exact Ld.mw (by assumption) (by assumption) (by assumption) | apply Ld.n)); fail_if_success refine ?_)) rfl ?_ | refine RP.ln rfl (by ((repeat (first | exact Ldn.cb (by rfl) rfl | exact Ldn.rb (by rfl) rfl | exact Ldn.w (fun _ => by rfl) (by assumption) | exact Ldn.mu (by assumption) (by assumption) | apply Ldn.n)); fail_if_success refine ?_)) rfl ?_) | refine RP.gt rfl ?_ | refine RP.gf rfl ?_ | refine RP.gu rfl ?_ | (refine is_b ?_; first | refine RP.inc rfl rfl (by omega) rfl ?_ | refine RP.ad rfl rfl (by omega) rfl ?_ | refine RP.dec rfl rfl (by omega) rfl ?_ | refine RP.su rfl rfl (by omega) rfl ?_) | (refine is_x ?_; first | refine RP.ixn rfl rfl (by ((repeat (first | exact RdIn.h | exact RdIn.a | exact RowIn.mm.rd | exact (RowIn.mw (by assumption) (by assumption)).rd | apply RdIn.n)); fail_if_success refine ?_)) (by omega) rfl ?_ | refine RP.ix rfl rfl (by ((repeat (first | exact RdIn.h | exact RdIn.a | exact RowIn.mm.rd | exact (RowIn.mw (by assumption) (by assumption)).rd | apply RdIn.n)); fail_if_success refine ?_)) (by omega) rfl ?_ | refine RP.ixp rfl rfl (by omega) rfl ?_ | refine RP.ixs rfl rfl (by omega) rfl ?_) | refine RP.ian rfl rfl (by omega) rfl ?_ | refine RP.ia rfl rfl (by omega) rfl ?_ | refine RP.ln1 rfl (by ((repeat (first | exact RdIn.h | exact RdIn.a | exact RowIn.mm.rd | exact (RowIn.mw (by assumption) (by assumption)).rd | apply RdIn.n)); fail_if_success refine ?_)) rfl ?_ | (refine is_s ?_; refine RP.s rfl rfl rfl rfl (by ((repeat (first | exact Stw.c1 (by rfl) rfl | exact Stw.cb (by rfl) rfl | apply Stw.n)); fail_if_success refine ?_)) ?_) | refine RP.pn rfl ?_) | refine sq_n ?_ | (refine is_tc ?_; first | refine TC.seq ?_ | refine TC.reg (by kernel_rfl) ?_ | refine TC.cT rfl ?_ | refine TC.cF rfl ?_ | refine TC.blk ?_ | refine TC.skip ?_ | refine TC.ret ?_ | refine TC.exit ?_) | refine WK.z ?_ | refine sq_r ?_ | refine sq_o ?_ | refine bk_n ?_ | refine bk_r ?_ | refine bk_e ?_ | refine bk_o rfl ?_ | refine lp_r ?_ | refine lp_o ?_ | refine md_r ?_ | refine md_o ?_)); exact hp.h) : Q := hf ⟨h⟩
end Go.AM

/-
  mtx: what is only asked.
-/
namespace Go.AM
set_option maxHeartbeats 8000000
attribute [local irreducible] sq bk lpK mdx rt TC RP WK Cel Ro Row Fre RowsA RowsBut

def tkb (ts : List Tk) (n : Int) : Int := ((ts[n.toNat]?).map Tk.b).getD 0
def mn (p v : Int) : Int := if v < p then v else p
/-- A task's priority, over so many tasks. -/
def rk (ms : List Mu) (ts : List Tk) : Nat → Int → Int
  | 0, n => tkb ts n
  | f + 1, n => (ms.drop 1).foldl (fun p x => if x.ow ≠ n then p else if x.at_ = 3 then mn p x.ce else if x.at_ = 2 then x.w.foldl (fun p w => mn p (rk ms ts f w)) p else p) (tkb ts n)

/-- Rows of tasks. -/
structure MuV (ms : List Mu) : Prop where
  l0 : 1 ≤ ms.length
  l1 : ms.length ≤ 9
  w : ∀ μ ∈ ms, ∀ w ∈ μ.w, 1 ≤ w ∧ w ≤ 16
  nd : ∀ μ ∈ ms, μ.w.Nodup

section
variable {ext : Nat → List AV → AH → Option (AV × AH)} {a : Nat} {ms : List Mu} {ts : List Tk} {sm : SV} {ws : List SV} {L : List Asr}

theorem mIs_tri (t : Int) : Tri tab ext F.mtx_is [i64 t] [] fun v P' => v = bl (decide (1 ≤ t ∧ t ≤ 16)) ∧ P' = [] := by
  refine Tri.go tab_mtx_is rfl ?_
  refine RUN ?_
  refine RP.gp rfl (fun h => ?_) fun h => ?_
  · refine RUN ?_
    exact rt_r rfl ⟨by simp [show 1 ≤ t from h], rfl⟩ (LEnt.refl _)
  · refine RUN ?_
    exact rt_r rfl ⟨by simp [show ¬ 1 ≤ t from h], rfl⟩ (LEnt.refl _)
theorem mMay_tri (t : Int) : Tri tab ext F.mtx_may [i64 t] [] fun v P' => v = bl (decide (1 ≤ t ∧ t ≤ 16)) ∧ P' = [] := by
  refine Tri.go tab_mtx_may rfl ?_
  refine RUN ?_
  refine RP.gp rfl (fun h => ?_) fun h => ?_
  · refine RUN ?_
    exact rt_r rfl ⟨by simp [show 1 ≤ t from h], rfl⟩ (LEnt.refl _)
  · refine RUN ?_
    exact rt_r rfl ⟨by simp [show ¬ 1 ≤ t from h], rfl⟩ (LEnt.refl _)
theorem mIn_tri (m : Int) (hl : ws.length = ms.length) : Tri tab ext F.mtx_All_in [ptr a, i64 m] [MxB a ms ts sm ws] fun v P' => v = bl (decide (1 ≤ m ∧ m < ms.length)) ∧ P' = [MxB a ms ts sm ws] := by
  have hz : (ms.zip ws).length = ms.length := by rw [List.length_zip]; omega
  refine Tri.go tab_mtx_All_in rfl ?_
  refine RUNM ?_
  refine RP.gp rfl (fun h => ?_) fun h => ?_
  · refine RUNM ?_
    exact rt_r rfl ⟨by simp [hz, show 1 ≤ m from h], rfl⟩ (LEnt.refl _)
  · refine RUNM ?_
    exact rt_r rfl ⟨by simp [show ¬ 1 ≤ m from h], rfl⟩ (LEnt.refl _)

theorem tsGet {n : Int} (ht : ts.length = 17) (h : 1 ≤ n ∧ n ≤ 16) : ∃ τ, ts[n.toNat]? = some τ := ⟨_, List.getElem?_eq_getElem (by omega)⟩

theorem drop1_get {α : Type} {l : List α} {i : Nat} : (l.drop 1)[i]? = l[1 + i]? := by rw [List.getElem?_drop]

/-- One mutex more. -/
def rkS (ms : List Mu) (ts : List Tk) : Nat → Int → Int → Mu → Int
  | 0, _, p, _ => p
  | f + 1, n, p, x => if x.ow ≠ n then p else if x.at_ = 3 then mn p x.ce else if x.at_ = 2 then x.w.foldl (fun p w => mn p (rk ms ts f w)) p else p

theorem rk_S (f : Nat) (n : Int) : rk ms ts f n = (ms.drop 1).foldl (rkS ms ts f n) (tkb ts n) := by
  cases f with
  | zero =>
    have : ∀ (l : List Mu) (p : Int), l.foldl (rkS ms ts 0 n) p = p := by
      intro l
      induction l with
      | nil => intro p; rfl
      | cons x l ih => intro p; rw [List.foldl_cons]; exact ih _
    rw [this]; rfl
  | succ f => rfl

theorem foldl_take_succ {α β : Type} {f : β → α → β} {l : List α} {i : Nat} {x : α} {b : β} (h : l[i]? = some x) : (l.take (i + 1)).foldl f b = f ((l.take i).foldl f b) x := by
  rw [List.take_add_one, h, List.foldl_append]; rfl

theorem rk_tri (hv : MuV ms) (hl : ws.length = ms.length) (ht : ts.length = 17) (hw16 : ∀ μ ∈ ms, μ.w.length ≤ 16) : ∀ (f : Nat) (n deep : Int), deep = 17 - f → f ≤ 17 → 1 ≤ n ∧ n ≤ 16 → Tri tab ext F.mtx_All_reckon [ptr a, i64 n, i64 deep] [MxB a ms ts sm ws] fun v P' => v = i64 (rk ms ts f n) ∧ P' = [MxB a ms ts sm ws] := by
  have hz : (ms.zip ws).length = ms.length := by rw [List.length_zip]; omega
  have h0 := hv.l0
  have h9 := hv.l1
  intro f
  induction f using Nat.strongRecOn with
  | _ f ih =>
    intro n deep hd hf hn
    obtain ⟨τ, hτ⟩ := tsGet ht hn
    have hb : tkb ts n = τ.b := by simp [tkb, hτ]
    refine Tri.go tab_mtx_All_reckon rfl ?_
    refine RUNM ?_
    refine RP.pt rfl RowIn.mm (by omega) rfl rfl rfl (fun hc => bds rfl rfl (bA (n := 1) (by omega))) rfl ?_
    refine RUNM ?_
    refine TC.loop (fun i : Nat => ms.length - i) (fun i => i ≤ ms.length - 1) (fun i => [(0, ptr a), (1, i64 n), (2, i64 deep), (7, i64 (((ms.drop 1).take i).foldl (rkS ms ts f n) (tkb ts n))), (23, .s (.slice (some (sb sm, 1 * 4)) ((ms.zip ws).length - 1) (sc sm - 1) 4)), (24, i64 ((ms.length - 1 : Nat) : Int)), (25, i64 i)]) (fun _ => [MxB a ms ts sm ws]) 0 (by omega) ⟨rfl, rfl, rfl, by rw [List.take_zero, List.foldl_nil, hb]; rfl, rfl, by rw [← hz]; rfl, rfl, trivial⟩ (LEnt.refl _) ?_
    intro i hi
    refine RUNM ?_
    refine TC.cP rfl (fun h => ?_) fun h => ?_
    · obtain ⟨μ, hμ⟩ : ∃ μ, ms[1 + i]? = some μ := ⟨_, List.getElem?_eq_getElem (by omega)⟩
      obtain ⟨s, hs⟩ : ∃ s, ws[1 + i]? = some s := ⟨_, List.getElem?_eq_getElem (by omega)⟩
      have hμ' : (ms.drop 1)[i]? = some μ := by rw [drop1_get]; exact hμ
      have hm := List.mem_of_getElem? hμ
      have hw := hw16 μ hm
      have fin : rkS ms ts f n (((ms.drop 1).take i).foldl (rkS ms ts f n) (tkb ts n)) μ = ((ms.drop 1).take (i + 1)).foldl (rkS ms ts f n) (tkb ts n) := (foldl_take_succ hμ').symm
      generalize hp : ((ms.drop 1).take i).foldl (rkS ms ts f n) (tkb ts n) = p at *
      refine RUNM ?_
      refine RP.nw rfl fun b => ?_
      refine RUNM ?_
      refine RP.gq rfl (fun h1 => ?_) fun h1 => ?_
      · have h1 : μ.ow = n := by simpa using h1
        refine RUNM ?_
        refine TC.cP rfl (fun h2 => ?_) fun h2 => ?_
        · have : f = 0 := by omega
          subst this
          refine RUNM ?_
          refine lp_n (i + 1) (by omega) (by omega) ⟨rfl, rfl, rfl, by rw [← fin]; rfl, rfl, rfl, rfl, trivial⟩ (LEnt.of (.c (.n .h) .e))
        · obtain ⟨f', rfl⟩ : ∃ f', f = f' + 1 := ⟨f - 1, by omega⟩
          simp only [rkS, h1, ne_eq, not_true, if_false] at fin
          refine RUNM ?_
          refine TC.cP rfl (fun h3 => ?_) fun h3 => ?_
          · have h3 : μ.at_ = 3 := h3
            rw [if_pos h3] at fin
            refine RUNM ?_
            refine lp_n (i + 1) (by omega) (by omega) ⟨rfl, rfl, rfl, by rw [← fin]; rfl, rfl, rfl, rfl, trivial⟩ (LEnt.of (.c (.n .h) .e))
          · have h3 : ¬ μ.at_ = 3 := h3
            rw [if_neg h3] at fin
            refine RUNM ?_
            refine TC.cP rfl (fun h4 => ?_) fun h4 => ?_
            · have h4 : μ.at_ = 2 := h4
              rw [if_pos h4] at fin
              refine RUNM ?_
              refine TC.loop (fun k : Nat => μ.w.length - k) (fun k => k ≤ μ.w.length) (fun k => [(0, ptr a), (1, i64 n), (2, i64 deep), (7, i64 ((μ.w.take k).foldl (fun p w => mn p (rk ms ts f' w)) p)), (23, .s (.slice (some (sb sm, 1 * 4)) ((ms.zip ws).length - 1) (sc sm - 1) 4)), (24, i64 ((ms.length - 1 : Nat) : Int)), (25, i64 i), (54, .s s), (55, i64 μ.w.length), (56, i64 k)]) (fun _ => [MxB a ms ts sm ws]) 0 (by omega) ⟨rfl, rfl, rfl, rfl, rfl, rfl, rfl, rfl, rfl, rfl, trivial⟩ (LEnt.of (.c (.n .h) .e)) ?_
              intro k hk
              refine RUNM ?_
              refine TC.cP rfl (fun h5 => ?_) fun h5 => ?_
              · obtain ⟨x, hx⟩ : ∃ x, μ.w[k]? = some x := ⟨_, List.getElem?_eq_getElem (by omega)⟩
                refine RUNM ?_
                refine RP.c rfl (ih f' (by omega) x _ (by omega) (by omega) (hv.w μ hm x (List.mem_of_getElem? hx))) (.c .h .e) rfl ?_
                rintro v P' ⟨rfl, rfl⟩
                refine RUNM ?_
                refine lp_n (k + 1) (by omega) (by omega) ⟨rfl, rfl, rfl, by rw [foldl_take_succ hx]; rfl, rfl, rfl, rfl, rfl, rfl, rfl, trivial⟩ (LEnt.refl _)
              · have : k = μ.w.length := by omega
                subst this
                rw [List.take_length, fin]
                refine RUNM ?_
                refine lp_n (i + 1) (by omega) (by omega) ⟨rfl, rfl, rfl, rfl, rfl, rfl, rfl, trivial⟩ (LEnt.refl _)
            · have h4 : ¬ μ.at_ = 2 := h4
              rw [if_neg h4] at fin
              refine RUNM ?_
              refine lp_n (i + 1) (by omega) (by omega) ⟨rfl, rfl, rfl, by rw [← fin]; rfl, rfl, rfl, rfl, trivial⟩ (LEnt.of (.c (.n .h) .e))
      · have h1 : ¬ μ.ow = n := h1
        have fin : p = ((ms.drop 1).take (i + 1)).foldl (rkS ms ts f n) (tkb ts n) := by
          rw [← fin]
          cases f with
          | zero => rfl
          | succ f => simp [rkS, h1]
        refine RUNM ?_
        refine lp_n (i + 1) (by omega) (by omega) ⟨rfl, rfl, rfl, by rw [← fin]; rfl, rfl, rfl, rfl, trivial⟩ (LEnt.of (.c (.n .h) .e))
    · have : i = ms.length - 1 := by omega
      subst this
      rw [show ((ms.drop 1).take (ms.length - 1)) = ms.drop 1 from List.take_of_length_le (by rw [List.length_drop]; exact Nat.le_refl _), ← rk_S]
      refine RUNM ?_
      refine rt_r rfl ⟨rfl, rfl⟩ (LEnt.refl _)
end
end Go.AM

/-
  slices.Insert of one number, as the abstract machine takes it: the row goes on under a new name.
-/
namespace Go.AM

def insI (args : List AV) (H : AH) : Option (AV × AH) :=
  match args with
  | [.s (.slice a len _ e), .s (.int .i64 i), .s (.slice (some (xb, xo)) 1 _ 1)] =>
    match H.blk xb with
    | some (.cells false lx) => (lx[xo]?).bind fun x =>
      match a with
      | none => if i = 0 then ((H.bump 1).new H.next (.cells false [x])).map fun H' => (.s (.slice (some (H.next, 0)) 1 1 1), H') else none
      | some (b, o) =>
        match H.blk b with
        | some (.cells false l) =>
          if xb ≠ b ∧ e = 1 ∧ 0 ≤ i ∧ i ≤ (len : Int) ∧ o + len ≤ l.length ∧ (len + 1) * 8 ≤ 70368744177664 then
            (((H.bump 1).set b .dead).new H.next (.cells false ((l.drop o).take i.toNat ++ (x :: ((l.drop o).take len).drop i.toNat)))).map fun H' => (.s (.slice (some (H.next, 0)) (len + 1) (len + 1) 1), H')
          else none
        | _ => none
    | _ => none
  | _ => none

def mext (f : Nat) (args : List AV) (H : AH) : Option (AV × AH) := if f = F.slices_Insert__int_int then insI args H else none

theorem CallP_ext {tab : Nat → Option RFunc} {ext : Nat → List AV → AH → Option (AV × AH)} {f : Nat} {args : List AV} {H H' : AH} {v : AV} {K : AV → AH → Prop} (hf : tab f = none) (h : ext f args H = some (v, H')) (hK : K v H') : CallP tab ext f args H K := ⟨1, v, H', by simp [run, hf, h], hK⟩

theorem xInsert_tri (s : SV) (r : List Int) (i : Nat) (x : Int) (xb c : Nat) (hi : i ≤ r.length) (hr : r.length ≤ 1000000) : Tri tab mext F.slices_Insert__int_int [.s s, i64 i, .s (.slice (some (xb, 0)) 1 c 1)] [Row encI 1 s r, Cel xb [.int .i64 x]] fun v P' => ∃ s', v = .s s' ∧ P' = [Row encI 1 s' (r.take i ++ x :: r.drop i)] := by
  intro ρ H R hs
  have hs : Sat ρ H (Row encI 1 s r :: Cel xb [.int .i64 x] :: R) := hs
  have hx := (hs.front 1 (by simp)).cel
  rcases hs.rowInv with ⟨e, rfl, rfl, h1⟩ | ⟨b, cp, j, rfl, h1, h2, h3⟩
  · have hi0 : i = 0 := by simpa using hi
    subst hi0
    have h4 := Sat.free h1 1 0 (by omega)
    refine CallP_ext rfl (by simp only [mext, if_true, insI, hx]; simp only [List.getElem?_cons_zero, Option.bind_some, Int.natCast_zero, if_true]; rw [new_of _ (show (H.bump 1).blk H.next = none from h4.fre)]; rfl) ?_
    refine ⟨_, ⟨_, rfl, rfl⟩, ?_⟩
    have h5 := Sat.mk h4 [.int .i64 x]
    have h6 : Sat ρ _ (Cel H.next (flat encI [x] ++ []) :: Cel xb [.int .i64 x] :: R) := h5
    exact ((h6.mkRow (c := 1) (by simp [flat_len encI_len]) (by simp)).perm (List.Perm.swap _ _ _)).drop
  · have hb := h1.cel
    have hne : xb ≠ b := by
      rintro rfl
      obtain ⟨_, S, k1, _⟩ := h1
      obtain ⟨S1, S2, _, ⟨rfl, _⟩, k2, k3⟩ := SatL.cons_inv k1
      obtain ⟨T1, T2, rfl, ⟨rfl, _⟩, _, _⟩ := SatL.cons_inv k2
      exact k3 xb (by simp) (by simp)
    have h4 := (Sat.free h1 1 0 (by omega)).perm (List.Perm.swap _ _ _)
    have h5 := Sat.kill h4
    have efl : (flat encI r).length = r.length := by rw [flat_len encI_len]; omega
    have e1 : ((flat encI r ++ j).drop 0).take i = flat encI (r.take i) := by
      have := flat_part encI_len r j 0 i (by omega)
      simpa using this
    have e2 : (((flat encI r ++ j).drop 0).take r.length).drop i = flat encI (r.drop i) := by
      rw [List.drop_zero, ← efl, List.take_left]
      have := flat_part encI_len r [] i (r.length - i) (by omega)
      rw [List.append_nil, Nat.mul_one, Nat.mul_one, List.take_of_length_le (by rw [List.length_drop, efl]; exact Nat.le_refl _), List.take_of_length_le (by rw [List.length_drop]; exact Nat.le_refl _)] at this
      exact this
    refine CallP_ext rfl (by
      simp only [mext, if_true, insI, hx, hb]
      simp only [List.getElem?_cons_zero, Option.bind_some]
      rw [if_pos ⟨hne, trivial, by omega, by omega, by rw [List.length_append, efl]; omega, by omega⟩, Int.toNat_natCast, e1, e2, new_of _ (show ((H.bump 1).set b .dead).blk H.next = none from h5.fre)]
      rfl) ?_
    refine ⟨_, ⟨_, rfl, rfl⟩, ?_⟩
    have h6 := Sat.mk h5 (flat encI (r.take i) ++ (.int .i64 x :: flat encI (r.drop i)))
    have e3 : flat encI (r.take i) ++ (.int .i64 x :: flat encI (r.drop i)) = flat encI (r.take i ++ x :: r.drop i) ++ [] := by simp [flat, encI]
    have e4 : (r.take i ++ x :: r.drop i).length = r.length + 1 := by simp; omega
    rw [e3] at h6
    have h7 : Sat ρ _ (Cel H.next (flat encI (r.take i ++ x :: r.drop i) ++ []) :: Cel xb [.int .i64 x] :: R) := h6
    have h8 := h7.mkRow (k := 1) (c := r.length + 1) (by rw [List.length_append, flat_len encI_len, e4]; simp) (by omega)
    rw [e4, ← e3] at h8
    exact (h8.perm (List.Perm.swap _ _ _)).drop
end Go.AM

/-
  mtx: rows that change: stand, leave, rejoin; the small ones that ask.
-/
namespace Go.AM
set_option maxHeartbeats 8000000
attribute [local irreducible] sq bk lpK mdx rt TC RP WK Cel Ro Row Fre RowsA RowsBut

def tkp (ts : List Tk) (n : Int) : Int := ((ts[n.toNat]?).map Tk.p).getD 0
/-- Where a task of a priority is put. -/
def posW (ts : List Tk) (pn : Int) (w : List Int) : Nat → Nat
  | 0 => 0
  | i + 1 => if tkp ts ((w[i]?).getD 0) > pn then posW ts pn w i else i + 1
def posF (ts : List Tk) (at_ : Int) (n : Int) (w : List Int) : Nat := if at_ = 0 then w.length else posW ts (tkp ts n) w w.length
def insF (ts : List Tk) (at_ : Int) (n : Int) (w : List Int) : List Int := w.take (posF ts at_ n w) ++ n :: w.drop (posF ts at_ n w)

theorem posW_le (ts : List Tk) (pn : Int) (w : List Int) : ∀ i, posW ts pn w i ≤ i
  | 0 => Nat.le_refl _
  | i + 1 => by
    simp only [posW]
    split
    · have := posW_le ts pn w i; omega
    · omega

theorem nodup_le : ∀ (N : Nat) {w : List Int}, w.Nodup → (∀ x ∈ w, 1 ≤ x ∧ x ≤ (N : Int)) → w.length ≤ N
  | 0, w, _, h => by
    cases w with
    | nil => simp
    | cons x w => have := h x (by simp); omega
  | N + 1, w, hd, h => by
    by_cases hm : ((N : Int) + 1) ∈ w
    · have h1 := nodup_le N (w := w.erase ((N : Int) + 1)) (hd.erase _) (fun x hx => by
        have h2 := (hd.mem_erase_iff).1 hx
        have h3 := h x h2.2
        have : x ≠ (N : Int) + 1 := h2.1
        omega)
      rw [List.length_erase_of_mem hm] at h1
      have : 0 < w.length := List.length_pos_of_mem hm
      omega
    · have h1 := nodup_le N hd (fun x hx => by
        have h3 := h x hx
        have : x ≠ (N : Int) + 1 := fun e => hm (e ▸ hx)
        omega)
      omega
theorem nodup_le16 {w : List Int} (h1 : w.Nodup) (h2 : ∀ x ∈ w, 1 ≤ x ∧ x ≤ 16) : w.length ≤ 16 := nodup_le 16 h1 h2

section
variable {a : Nat} {ms : List Mu} {ts : List Tk} {sm : SV} {ws : List SV} {L : List Asr}

theorem leave1_tri {ext : Nat → List AV → AH → Option (AV × AH)} (w n : Int) (b : Nat) : Tri tab ext F.mtx_All_leave_1 ([i64 w] ++ [(b, 0)].map fun a => .s (.ptr (some a))) [Cel b [.int .i64 n]] fun v P' => v = bl (decide (w = n)) ∧ P' = [Cel b [.int .i64 n]] := by
  refine Tri.go tab_mtx_All_leave_1 rfl ?_
  refine RUN ?_
  exact rt_r rfl ⟨rfl, rfl⟩ (LEnt.refl _)
theorem drop1_tri {ext : Nat → List AV → AH → Option (AV × AH)} (w n : Int) (b : Nat) : Tri tab ext F.mtx_All_Drop_1 ([i64 w] ++ [(b, 0)].map fun a => .s (.ptr (some a))) [Cel b [.int .i64 n]] fun v P' => v = bl (decide (w = n)) ∧ P' = [Cel b [.int .i64 n]] := by
  refine Tri.go tab_mtx_All_Drop_1 rfl ?_
  refine RUN ?_
  exact rt_r rfl ⟨rfl, rfl⟩ (LEnt.refl _)

theorem stand_tri {m : Nat} {n : Int} {μ : Mu} (hm : ms[m]? = some μ) (hn : 1 ≤ n ∧ n ≤ 16) (hv : ∀ w ∈ μ.w, 1 ≤ w ∧ w ≤ 16) (hl16 : μ.w.length ≤ 16) : Tri tab mext F.mtx_All_stand [ptr a, i64 m, i64 n] [MxA a ms ts] fun v P' => v = unit ∧ P' = [MxA a (ms.set m { μ with w := insF ts μ.at_ n μ.w }) ts] := by
  refine Tri.go tab_mtx_All_stand rfl ?_
  refine TC.mx fun sm ws hl ht => ?_
  have hz : (ms.zip ws).length = ms.length := by rw [List.length_zip]; omega
  have hmlt := (List.getElem?_eq_some_iff.1 hm).1
  obtain ⟨s, hs⟩ : ∃ s, ws[m]? = some s := ⟨_, List.getElem?_eq_getElem (by omega)⟩
  obtain ⟨τ, hτ⟩ := tsGet ht hn
  have hp : tkp ts n = τ.p := by simp [tkp, hτ]
  refine RUNM ?_
  refine TC.midb (fun i : Nat => i ≤ μ.w.length ∧ posF ts μ.at_ n μ.w = i) (fun i => [(0, ptr a), (2, i64 n), (6, .s (.ptr (some (sb sm, ix 0 m 4 0)))), (7, i64 i)]) (fun _ => [MxB a ms ts sm ws]) ?_ ?_
  rotate_left
  · rintro i ⟨hi, hpi⟩
    refine RUNM ?_
    refine RP.bs rfl rfl rfl fun b => ?_
    refine RP.ent (L' := [Row encI 1 s μ.w, MxO m a ms ts sm ws, Cel b [.int .i64 n]]) (fun ρ H R hq => (mx_out hm hs (L := [Cel b [.int .i64 n]]) ρ H R (hq.perm (List.Perm.swap _ _ _)))) ?_
    refine RP.c rfl (xInsert_tri s μ.w i n b 1 hi (by omega)) (.c .h (.c (.n .h) .e)) rfl ?_
    rintro v P' ⟨s', rfl, rfl⟩
    refine RUNM ?_
    refine RP.s rfl rfl rfl rfl (Stw.mo hm hs) ?_
    refine RUNM ?_
    refine rt_n ⟨[], rfl, trivial⟩ ⟨rfl, rfl⟩ ?_
    have e : insF ts μ.at_ n μ.w = μ.w.take i ++ n :: μ.w.drop i := by unfold insF; rw [hpi]
    rw [e]
    exact mx_hide
  refine TC.loop (fun i : Nat => i) (fun i => i ≤ μ.w.length ∧ posF ts μ.at_ n μ.w = (if μ.at_ = 0 then i else posW ts (tkp ts n) μ.w i)) (fun i => [(0, ptr a), (2, i64 n), (6, .s (.ptr (some (sb sm, ix 0 m 4 0)))), (7, i64 i)]) (fun _ => [MxB a ms ts sm ws]) μ.w.length ⟨Nat.le_refl _, rfl⟩ ⟨rfl, rfl, rfl, rfl, trivial⟩ (LEnt.refl _) ?_
  rintro i ⟨hi, hpos⟩
  refine RUNM ?_
  refine RP.gp rfl (fun h1 => ?_) fun h1 => ?_
  · have h1 : ¬ μ.at_ = 0 := h1
    rw [if_neg h1] at hpos
    refine RUNM ?_
    refine RP.gp rfl (fun h2 => ?_) fun h2 => ?_
    · obtain ⟨k, rfl⟩ : ∃ k : Nat, i = k + 1 := ⟨i - 1, by omega⟩
      obtain ⟨w, hw⟩ : ∃ w, μ.w[k]? = some w := ⟨_, List.getElem?_eq_getElem (by omega)⟩
      have hw16 := hv w (List.mem_of_getElem? hw)
      obtain ⟨τw, hτw⟩ := tsGet ht hw16
      have hpw : tkp ts w = τw.p := by simp [tkp, hτw]
      have e1 : ((μ.w[k]?).getD 0) = w := by rw [hw]; rfl
      simp only [posW, e1, hp, hpw] at hpos
      refine RUNM ?_
      refine TC.cP rfl (fun h3 => ?_) fun h3 => ?_
      · rw [if_pos h3] at hpos
        refine RUNM ?_
        refine lp_n k ⟨by omega, by rw [hpos, if_neg h1, hp]⟩ (by omega) ⟨rfl, rfl, rfl, rfl, trivial⟩ (LEnt.refl _)
      · rw [if_neg h3] at hpos
        refine RUNM ?_
        exact md_n (k + 1) ⟨hi, hpos⟩ ⟨rfl, rfl, rfl, rfl, trivial⟩ (LEnt.refl _)
    · have : i = 0 := by omega
      subst this
      refine RUNM ?_
      exact md_n 0 ⟨hi, by rw [hpos]; rfl⟩ ⟨rfl, rfl, rfl, rfl, trivial⟩ (LEnt.refl _)
  · have h1 : μ.at_ = 0 := by simpa using h1
    rw [if_pos h1] at hpos
    refine RUNM ?_
    exact md_n i ⟨hi, hpos⟩ ⟨rfl, rfl, rfl, rfl, trivial⟩ (LEnt.refl _)

theorem leave_tri {m : Nat} {n : Int} {μ : Mu} (hm : ms[m]? = some μ) (hl16 : μ.w.length ≤ 16) : Tri tab mext F.mtx_All_leave [ptr a, i64 m, i64 n] [MxA a ms ts] fun v P' => v = unit ∧ P' = [MxA a (if μ.at_ = 0 then ms else ms.set m { μ with w := μ.w.filter (fun w => decide (w ≠ n)) }) ts] := by
  refine Tri.go tab_mtx_All_leave rfl ?_
  refine TC.mx fun sm ws hl ht => ?_
  have hz : (ms.zip ws).length = ms.length := by rw [List.length_zip]; omega
  have hmlt := (List.getElem?_eq_some_iff.1 hm).1
  obtain ⟨s, hs⟩ : ∃ s, ws[m]? = some s := ⟨_, List.getElem?_eq_getElem (by omega)⟩
  refine RUNM ?_
  refine RP.bx rfl rfl rfl fun b => ?_
  refine RUNM ?_
  refine TC.cP rfl (fun h1 => ?_) fun h1 => ?_
  · have h1 : ¬ μ.at_ = 0 := h1
    rw [if_neg h1]
    refine RUNM ?_
    refine RP.ent (L' := [Row encI 1 s μ.w, MxO m a ms ts sm ws, Cel b [.int .i64 n]]) (fun ρ H R hq => (mx_out hm hs (L := [Cel b [.int .i64 n]]) ρ H R (hq.perm (List.Perm.swap _ _ _)))) ?_
    refine RP.c rfl (xDeleteFunc_tri s μ.w (by omega) _ _ n (Cel b [.int .i64 n]) (fun w => leave1_tri w n b)) (.c .h (.c (.n .h) .e)) rfl ?_
    rintro v P' ⟨s', rfl, rfl⟩
    refine RUNM ?_
    refine RP.ent (L' := [Row encI 1 s' (μ.w.filter (fun w => decide (w ≠ n))), MxO m a ms ts sm ws]) (LEnt.of (.c .h (.c (.n .h) .e))) ?_
    refine RP.s rfl rfl rfl rfl (Stw.mo hm hs) ?_
    refine RUNM ?_
    refine rt_n ⟨[], rfl, trivial⟩ ⟨rfl, rfl⟩ mx_hide
  · have h1 : μ.at_ = 0 := by simpa using h1
    rw [if_pos h1]
    refine RUNM ?_
    refine rt_n ⟨[], rfl, trivial⟩ ⟨rfl, rfl⟩ (LEnt.trans (LEnt.of (.c (.n .h) .e)) mx_hide)

theorem rejoin_tri {m : Nat} {n : Int} {μ : Mu} (hm : ms[m]? = some μ) (hn : 1 ≤ n ∧ n ≤ 16) (hv : ∀ w ∈ μ.w, 1 ≤ w ∧ w ≤ 16) (hl16 : μ.w.length ≤ 16) : Tri tab mext F.mtx_All_rejoin [ptr a, i64 m, i64 n] [MxA a ms ts] fun v P' => v = unit ∧ P' = [MxA a (if μ.at_ = 0 then ms else ms.set m { μ with w := insF ts μ.at_ n μ.w }) ts] := by
  refine Tri.go tab_mtx_All_rejoin rfl ?_
  refine TC.mx fun sm ws hl ht => ?_
  have hz : (ms.zip ws).length = ms.length := by rw [List.length_zip]; omega
  have hmlt := (List.getElem?_eq_some_iff.1 hm).1
  obtain ⟨s, hs⟩ : ∃ s, ws[m]? = some s := ⟨_, List.getElem?_eq_getElem (by omega)⟩
  refine RUNM ?_
  refine TC.cP rfl (fun h1 => ?_) fun h1 => ?_
  · have h1 : ¬ μ.at_ = 0 := h1
    rw [if_neg h1]
    refine RUNM ?_
    refine RP.ent mx_hide ?_
    refine RP.c rfl (stand_tri hm hn hv hl16) (.c .h .e) rfl ?_
    rintro v P' ⟨rfl, rfl⟩
    refine RUNM ?_
    refine rt_n ⟨[], rfl, trivial⟩ ⟨rfl, rfl⟩ (LEnt.refl _)
  · have h1 : μ.at_ = 0 := by simpa using h1
    rw [if_pos h1]
    refine RUNM ?_
    refine rt_n ⟨[], rfl, trivial⟩ ⟨rfl, rfl⟩ mx_hide
end
end Go.AM

/-
  mtx: settle.
-/
namespace Go.AM
set_option maxHeartbeats 8000000
attribute [local irreducible] sq bk lpK mdx rt TC RP WK Cel Ro Row Fre RowsA RowsBut

/-- A mutex's row in another form. -/
def muW (ms : List Mu) (m : Nat) (f : Mu → List Int) : List Mu := match ms[m]? with | some μ => ms.set m { μ with w := f μ } | none => ms
def muw (ms : List Mu) (m : Nat) : List Int := ((ms[m]?).map Mu.w).getD []
def setp (ts : List Tk) (n : Int) (p : Int) : List Tk := match ts[n.toNat]? with | some τ => ts.set n.toNat { τ with p := p } | none => ts
def leaveF (ms : List Mu) (m : Nat) (n : Int) : List Mu := muW ms m fun μ => if μ.at_ = 0 then μ.w else μ.w.filter (fun w => decide (w ≠ n))
def rejoinF (ms : List Mu) (ts : List Tk) (m : Nat) (n : Int) : List Mu := muW ms m fun μ => if μ.at_ = 0 then μ.w else insF ts μ.at_ n μ.w
def stlN (pri : Int → Int) (m : Nat) (st : List Mu × List Tk) (n : Int) : List Mu × List Tk :=
  if pri n = tkp st.2 n then st else (rejoinF (leaveF st.1 m n) (setp st.2 n (pri n)) m n, setp st.2 n (pri n))
def stlM (pri : Int → Int) (st : List Mu × List Tk) (m : Nat) : List Mu × List Tk := (muw st.1 m).foldl (stlN pri m) st
def settleF (ms : List Mu) (ts : List Tk) : List Mu × List Tk :=
  let st := (List.range' 1 (ms.length - 1)).foldl (stlM (rk ms ts 17)) (ms, ts)
  (st.1, (List.range' 1 16).foldl (fun t (k : Nat) => setp t k (rk ms ts 17 k)) st.2)

theorem muW_len {ms : List Mu} {m : Nat} {f : Mu → List Int} : (muW ms m f).length = ms.length := by unfold muW; split <;> simp
theorem muW_some {ms : List Mu} {m : Nat} {f : Mu → List Int} {μ : Mu} (h : ms[m]? = some μ) : muW ms m f = ms.set m { μ with w := f μ } := by unfold muW; rw [h]
theorem muW_get {ms : List Mu} {m : Nat} {f : Mu → List Int} {μ : Mu} (h : ms[m]? = some μ) : (muW ms m f)[m]? = some { μ with w := f μ } := by
  rw [muW_some h, List.getElem?_set_self (List.getElem?_eq_some_iff.1 h).1]
theorem muW_ne {ms : List Mu} {m i : Nat} {f : Mu → List Int} (h : i ≠ m) : (muW ms m f)[i]? = ms[i]? := by
  unfold muW; split
  · rw [List.getElem?_set_ne (Ne.symm h)]
  · rfl
theorem muW_mem {ms : List Mu} {m : Nat} {f : Mu → List Int} {x : Mu} (h : x ∈ muW ms m f) : x ∈ ms ∨ ∃ μ, ms[m]? = some μ ∧ x = { μ with w := f μ } := by
  unfold muW at h; split at h
  · rename_i μ hμ
    rcases List.mem_or_eq_of_mem_set h with h | h
    · exact .inl h
    · exact .inr ⟨μ, hμ, h⟩
  · exact .inl h
theorem setp_len {ts : List Tk} {n p : Int} : (setp ts n p).length = ts.length := by unfold setp; split <;> simp
theorem muw_some {ms : List Mu} {m : Nat} {μ : Mu} (h : ms[m]? = some μ) : muw ms m = μ.w := by simp [muw, h]

theorem MuV.of {ms : List Mu} (h : MuV ms) {m : Nat} {f : Mu → List Int} (hf : ∀ μ, ms[m]? = some μ → (∀ w ∈ f μ, 1 ≤ w ∧ w ≤ 16) ∧ (f μ).Nodup) : MuV (muW ms m f) where
  l0 := by rw [muW_len]; exact h.l0
  l1 := by rw [muW_len]; exact h.l1
  w := fun μ hμ => by
    rcases muW_mem hμ with h1 | ⟨μ', h1, rfl⟩
    · exact h.w μ h1
    · exact (hf μ' h1).1
  nd := fun μ hμ => by
    rcases muW_mem hμ with h1 | ⟨μ', h1, rfl⟩
    · exact h.nd μ h1
    · exact (hf μ' h1).2

theorem insF_mem {ts : List Tk} {at_ n : Int} {w : List Int} {x : Int} : x ∈ insF ts at_ n w ↔ x = n ∨ x ∈ w := by
  unfold insF
  constructor
  · intro h
    rcases List.mem_append.1 h with h | h
    · exact .inr (List.mem_of_mem_take h)
    · rcases List.mem_cons.1 h with h | h
      · exact .inl h
      · exact .inr (List.mem_of_mem_drop h)
  · rintro (rfl | h)
    · simp
    · rw [← List.take_append_drop (posF ts at_ n w) w] at h
      rcases List.mem_append.1 h with h | h
      · exact List.mem_append.2 (.inl h)
      · exact List.mem_append.2 (.inr (List.mem_cons.2 (.inr h)))
theorem insF_perm {ts : List Tk} {at_ n : Int} {w : List Int} : (insF ts at_ n w).Perm (n :: w) := by
  unfold insF
  have := (List.perm_middle (a := n) (l₁ := w.take (posF ts at_ n w)) (l₂ := w.drop (posF ts at_ n w)))
  rwa [List.take_append_drop] at this
theorem insF_nodup {ts : List Tk} {at_ n : Int} {w : List Int} (h : w.Nodup) (hn : n ∉ w) : (insF ts at_ n w).Nodup := insF_perm.nodup_iff.2 (List.nodup_cons.2 ⟨hn, h⟩)

theorem MuV.leave {ms : List Mu} (h : MuV ms) (m : Nat) (n : Int) : MuV (leaveF ms m n) := h.of fun μ hμ => by
  have hm := List.mem_of_getElem? hμ
  split
  · exact ⟨h.w μ hm, h.nd μ hm⟩
  · exact ⟨fun w hw => h.w μ hm w (List.mem_filter.1 hw).1, (h.nd μ hm).filter _⟩
theorem MuV.rejoin {ms : List Mu} (h : MuV ms) {ts : List Tk} (m : Nat) {n : Int} (hn : 1 ≤ n ∧ n ≤ 16) (hni : ∀ μ, ms[m]? = some μ → μ.at_ ≠ 0 → n ∉ μ.w) : MuV (rejoinF ms ts m n) := h.of fun μ hμ => by
  have hm := List.mem_of_getElem? hμ
  split
  · exact ⟨h.w μ hm, h.nd μ hm⟩
  · rename_i h0
    refine ⟨fun w hw => ?_, insF_nodup (h.nd μ hm) (hni μ hμ h0)⟩
    rcases insF_mem.1 hw with rfl | hw
    · exact hn
    · exact h.w μ hm w hw
theorem leaveF_not {ms : List Mu} {m : Nat} {n : Int} {μ : Mu} (h : (leaveF ms m n)[m]? = some μ) (h0 : μ.at_ ≠ 0) : n ∉ μ.w := by
  unfold leaveF at h
  cases hm : ms[m]? with
  | none =>
    have : muW ms m (fun μ => if μ.at_ = 0 then μ.w else μ.w.filter (fun w => decide (w ≠ n))) = ms := by unfold muW; rw [hm]
    rw [this, hm] at h; cases h
  | some μ' =>
    rw [muW_get hm] at h
    cases h
    have h0 : ¬ μ'.at_ = 0 := h0
    simp [h0]
theorem MuV.stlN {st : List Mu × List Tk} (h : MuV st.1) {pri : Int → Int} {m : Nat} {n : Int} (hn : 1 ≤ n ∧ n ≤ 16) : MuV (stlN pri m st n).1 := by
  unfold Go.AM.stlN
  split
  · exact h
  · exact (h.leave m n).rejoin m hn fun μ hμ h0 => leaveF_not hμ h0
theorem stlN_len {st : List Mu × List Tk} {pri : Int → Int} {m : Nat} {n : Int} : (stlN pri m st n).1.length = st.1.length ∧ (stlN pri m st n).2.length = st.2.length := by
  unfold stlN
  split
  · exact ⟨rfl, rfl⟩
  · exact ⟨by simp only [rejoinF, leaveF, muW_len], setp_len⟩
theorem MuV.stls {pri : Int → Int} {m : Nat} : ∀ (l : List Int) {st : List Mu × List Tk}, MuV st.1 → (∀ n ∈ l, 1 ≤ n ∧ n ≤ 16) → MuV (l.foldl (Go.AM.stlN pri m) st).1 ∧ (l.foldl (Go.AM.stlN pri m) st).1.length = st.1.length
  | [], st, h, _ => ⟨h, rfl⟩
  | n :: l, st, h, hl => by
    have h1 := MuV.stls (pri := pri) (m := m) l (h.stlN (pri := pri) (m := m) (hl n (by simp))) (fun x hx => hl x (by simp [hx]))
    exact ⟨h1.1, h1.2.trans stlN_len.1⟩
theorem muw_ok {ms : List Mu} (h : MuV ms) (m : Nat) : (∀ n ∈ muw ms m, 1 ≤ n ∧ n ≤ 16) ∧ (muw ms m).Nodup := by
  unfold muw
  cases hm : ms[m]? with
  | none => simp
  | some μ => exact ⟨h.w μ (List.mem_of_getElem? hm), h.nd μ (List.mem_of_getElem? hm)⟩
theorem MuV.stlMs {pri : Int → Int} : ∀ (l : List Nat) {st : List Mu × List Tk}, MuV st.1 → MuV (l.foldl (stlM pri) st).1 ∧ (l.foldl (stlM pri) st).1.length = st.1.length
  | [], st, h => ⟨h, rfl⟩
  | m :: l, st, h => by
    have h0 := MuV.stls (pri := pri) (m := m) (muw st.1 m) h (muw_ok h m).1
    have h1 := MuV.stlMs (pri := pri) l (st := stlM pri st m) h0.1
    exact ⟨h1.1, h1.2.trans h0.2⟩
end Go.AM

/-
  mtx: settle, walked.
-/
namespace Go.AM
set_option maxHeartbeats 8000000
attribute [local irreducible] sq bk lpK mdx rt TC RP WK Cel Ro Row Fre RowsA RowsBut

/-- The priorities that are reckoned, so far. -/
def priL (pri : Int → Int) (i : Nat) : List Int := (List.range 17).map fun k => if 1 ≤ k ∧ k < i then pri k else 0
theorem priL_get {pri : Int → Int} {i k : Nat} (h : k < 17) : (priL pri i)[k]? = some (if 1 ≤ k ∧ k < i then pri k else 0) := by
  unfold priL
  rw [List.getElem?_map, List.getElem?_range h]; rfl
theorem priL_set {pri : Int → Int} {i : Nat} (h1 : 1 ≤ i) : (priL pri i).set i (pri i) = priL pri (i + 1) := by
  unfold priL
  apply List.ext_getElem?
  intro k
  by_cases hk : k < 17
  · rw [List.getElem?_set]
    split
    · rename_i e; subst e
      simp [hk, h1]
    · rename_i e
      simp only [List.getElem?_map, List.getElem?_range hk, Option.map_some]
      congr 1
      by_cases h : 1 ≤ k ∧ k < i
      · rw [if_pos h, if_pos ⟨h.1, by omega⟩]
      · rw [if_neg h, if_neg (by omega)]
  · rw [List.getElem?_eq_none (by simp; omega), List.getElem?_eq_none (by simp; omega)]
theorem priL_done {pri : Int → Int} {n : Int} (h : 1 ≤ n ∧ n ≤ 16) : (priL pri 17)[n.toNat]? = some (pri n) := by
  rw [priL_get (by omega), if_pos (by omega)]
  congr 2; omega

section
variable {a : Nat} {ms : List Mu} {ts : List Tk} {sm : SV} {ws : List SV} {L : List Asr}

theorem tkp_some {n : Int} {τ : Tk} (h : ts[n.toNat]? = some τ) : tkp ts n = τ.p := by simp [tkp, h]
theorem setp_some {n p : Int} {τ : Tk} (h : ts[n.toNat]? = some τ) : setp ts n p = ts.set n.toNat { τ with p := p } := by unfold setp; rw [h]

theorem leaveF_eq {m : Nat} {n : Int} {μ : Mu} (h : ms[m]? = some μ) : (if μ.at_ = 0 then ms else ms.set m { μ with w := μ.w.filter (fun w => decide (w ≠ n)) }) = leaveF ms m n := by
  rw [leaveF, muW_some h]
  by_cases h0 : μ.at_ = 0
  · rw [if_pos h0, if_pos h0, set_same h]
  · rw [if_neg h0, if_neg h0]
theorem rejoinF_eq {m : Nat} {n : Int} {μ : Mu} (h : ms[m]? = some μ) : (if μ.at_ = 0 then ms else ms.set m { μ with w := insF ts μ.at_ n μ.w }) = rejoinF ms ts m n := by
  rw [rejoinF, muW_some h]
  by_cases h0 : μ.at_ = 0
  · rw [if_pos h0, if_pos h0, set_same h]
  · rw [if_neg h0, if_neg h0]

theorem settle_tri (hv : MuV ms) : Tri tab mext F.mtx_All_settle [ptr a] [MxA a ms ts] fun v P' => v = unit ∧ P' = [MxA a (settleF ms ts).1 (settleF ms ts).2] := by
  refine Tri.go tab_mtx_All_settle rfl ?_
  refine TC.mx fun sm ws hl ht => ?_
  have h9 := hv.l1
  generalize hpri : rk ms ts 17 = pri
  refine RUNM ?_
  refine RP.nw rfl fun b => ?_
  refine RUNM ?_
  refine TC.loop (fun i : Nat => 17 - i) (fun i => 1 ≤ i ∧ i ≤ 17) (fun i => [(0, ptr a), (2, ptr b), (3, i64 i)]) (fun i => [Cel b ([] ++ (flat encI (priL pri i) ++ [])), MxB a ms ts sm ws]) 1 (by omega) ⟨rfl, rfl, rfl, trivial⟩ (LEnt.refl _) ?_
  rintro i ⟨hi1, hi2⟩
  refine RUNM ?_
  refine TC.cP rfl (fun h => ?_) fun h => ?_
  · refine RUNM ?_
    refine RP.c rfl (rk_tri hv hl ht (fun μ hμ => nodup_le16 (hv.nd μ hμ) (hv.w μ hμ)) 17 i 0 rfl (by omega) (by omega)) (.c (.n .h) .e) rfl ?_
    rintro v P' ⟨rfl, rfl⟩
    rw [hpri]
    refine RUNM ?_
    refine RP.ent (LEnt.of (.c (.n .h) (.c .h .e))) ?_
    refine RP.s rfl rfl rfl rfl (Stw.a (c := 0) (i := i) (k := 1) (d := 0) (pre := []) rfl encI_len (pri i) (priL_get (by omega)) rfl rfl) ?_
    rw [priL_set hi1]
    refine RUNM ?_
    refine lp_n (i + 1) (by omega) (by omega) ⟨rfl, rfl, rfl, trivial⟩ (LEnt.refl _)
  · have : i = 17 := by omega
    subst this
    have hdone : ∀ {n : Int}, 1 ≤ n ∧ n ≤ 16 → (priL pri 17)[n.toNat]? = some (pri n) := priL_done
    generalize priL pri 17 = PL at *
    refine RUNM ?_
    have hst : ∀ m, MuV ((List.range' 1 (m - 1)).foldl (stlM pri) (ms, ts)).1 ∧ ((List.range' 1 (m - 1)).foldl (stlM pri) (ms, ts)).1.length = ms.length := fun m => MuV.stlMs _ hv
    refine TC.loop (fun m : Nat => ms.length - m) (fun m => 1 ≤ m ∧ m ≤ ms.length) (fun m => [(0, ptr a), (2, ptr b), (4, i64 m)]) (fun m => [MxA a ((List.range' 1 (m - 1)).foldl (stlM pri) (ms, ts)).1 ((List.range' 1 (m - 1)).foldl (stlM pri) (ms, ts)).2, Cel b ([] ++ (flat encI PL ++ []))]) 1 ⟨Nat.le_refl _, hv.l0⟩ ⟨rfl, rfl, rfl, trivial⟩ (LEnt.trans (LEnt.of (.c (.n .h) (.c .h .e))) mx_hide) ?_
    rintro m ⟨hm1, hm2⟩
    obtain ⟨hv1, hl1⟩ := hst m
    generalize hS : (List.range' 1 (m - 1)).foldl (stlM pri) (ms, ts) = S at *
    replace hS := hS.symm
    obtain ⟨ms1, ts1⟩ := S
    dsimp only at hv1 hl1 ⊢
    refine TC.mx fun sm1 ws1 hwl ht1 => ?_
    have hz : (ms1.zip ws1).length = ms1.length := by rw [List.length_zip]; omega
    refine RUNM ?_
    refine TC.cP rfl (fun h2 => ?_) fun h2 => ?_
    · obtain ⟨μ, hμ⟩ : ∃ μ, ms1[m]? = some μ := ⟨_, List.getElem?_eq_getElem (by omega)⟩
      obtain ⟨s, hs⟩ : ∃ s, ws1[m]? = some s := ⟨_, List.getElem?_eq_getElem (by omega)⟩
      have hmem := List.mem_of_getElem? hμ
      have hw16 := nodup_le16 (hv1.nd μ hmem) (hv1.w μ hmem)
      have hmw : muw ms1 m = μ.w := muw_some hμ
      refine RUNM ?_
      refine RP.ent (mx_out hμ hs) ?_
      refine RP.c rfl (xClone_tri s μ.w (by omega)) (.c .h .e) rfl ?_
      rintro v P' ⟨s', rfl, rfl⟩
      refine WK.z ?_
      refine RP.ent (L' := [MxB a ms1 ts1 sm1 ws1, Row encI 1 s' μ.w, Cel b ([] ++ (flat encI PL ++ []))]) (fun ρ H R hq => mx_back hμ hs (L := [Row encI 1 s' μ.w, Cel b ([] ++ (flat encI PL ++ []))]) ρ H R (Sat.re hq [1, 2, 0] (by simp) (by decide))) ?_
      refine RUNM ?_
      refine TC.loop (fun k : Nat => μ.w.length - k) (fun k => k ≤ μ.w.length) (fun k => [(0, ptr a), (2, ptr b), (4, i64 m), (34, .s s'), (35, i64 μ.w.length), (36, i64 k)]) (fun k => [MxA a ((μ.w.take k).foldl (stlN pri m) (ms1, ts1)).1 ((μ.w.take k).foldl (stlN pri m) (ms1, ts1)).2, Row encI 1 s' μ.w, Cel b ([] ++ (flat encI PL ++ []))]) 0 (by omega) ⟨rfl, rfl, rfl, rfl, rfl, rfl, trivial⟩ mx_hide ?_
      intro k hk
      have hv2 := MuV.stls (pri := pri) (m := m) (st := (ms1, ts1)) (μ.w.take k) hv1 (fun n hn => hv1.w μ hmem n (List.mem_of_mem_take hn))
      generalize hS2 : (μ.w.take k).foldl (stlN pri m) (ms1, ts1) = S2 at *
      replace hS2 := hS2.symm
      obtain ⟨ms2, ts2⟩ := S2
      dsimp only at hv2 ⊢
      obtain ⟨hv2, hl2⟩ := hv2
      refine TC.mx fun sm2 ws2 hwl2 ht2 => ?_
      have hz2 : (ms2.zip ws2).length = ms2.length := by rw [List.length_zip]; omega
      refine RUNM ?_
      refine TC.cP rfl (fun h3 => ?_) fun h3 => ?_
      · obtain ⟨n, hn⟩ : ∃ n, μ.w[k]? = some n := ⟨_, List.getElem?_eq_getElem (by omega)⟩
        have hn16 := hv1.w μ hmem n (List.mem_of_getElem? hn)
        obtain ⟨τ, hτ⟩ := tsGet ht2 hn16
        have hpn := hdone hn16
        have hstep : stlN pri m (ms2, ts2) n = (μ.w.take (k + 1)).foldl (stlN pri m) (ms1, ts1) := by rw [foldl_take_succ hn, ← hS2]
        refine RUNM ?_
        refine TC.cP rfl (fun h4 => ?_) fun h4 => ?_
        · refine RUNM ?_
          refine lp_n (k + 1) (by omega) (by omega) ⟨rfl, rfl, rfl, rfl, rfl, rfl, trivial⟩ ?_
          rw [← hstep, stlN, if_pos (by rw [tkp_some hτ]; exact h4)]
          exact mx_hide
        · have h4 : ¬ pri n = tkp ts2 n := by rw [tkp_some hτ]; exact h4
          obtain ⟨μ2, hμ2⟩ : ∃ μ2, ms2[m]? = some μ2 := ⟨_, List.getElem?_eq_getElem (by omega)⟩
          have hmem2 := List.mem_of_getElem? hμ2
          refine RUNM ?_
          refine RP.ent mx_hide ?_
          refine RP.c rfl (leave_tri hμ2 (nodup_le16 (hv2.nd μ2 hmem2) (hv2.w μ2 hmem2))) (.c .h .e) rfl ?_
          rintro v P' ⟨rfl, rfl⟩
          rw [leaveF_eq hμ2]
          have hv3 := hv2.leave m n
          obtain ⟨μ3, hμ3⟩ : ∃ μ3, (leaveF ms2 m n)[m]? = some μ3 := ⟨_, muW_get hμ2⟩
          have hst2 : stlN pri m (ms2, ts2) n = (rejoinF (leaveF ms2 m n) (setp ts2 n (pri n)) m n, setp ts2 n (pri n)) := by rw [stlN, if_neg h4]
          rw [hst2] at hstep
          generalize leaveF ms2 m n = ms3 at *
          refine WK.z ?_
          refine RP.mx fun sm3 ws3 hwl3 ht3 => ?_
          refine RUNM ?_
          refine RP.s rfl rfl rfl rfl (by refine Stw.mt ({ τ with p := pri n }) hτ ?_ ?_ <;> rfl) ?_
          rw [← setp_some hτ]
          generalize setp ts2 n (pri n) = ts3 at *
          have hmem3 := List.mem_of_getElem? hμ3
          refine RUNM ?_
          refine RP.ent mx_hide ?_
          refine RP.c rfl (rejoin_tri hμ3 hn16 (hv3.w μ3 hmem3) (nodup_le16 (hv3.nd μ3 hmem3) (hv3.w μ3 hmem3))) (.c .h .e) rfl ?_
          rintro v P' ⟨rfl, rfl⟩
          rw [rejoinF_eq hμ3]
          refine RUNM ?_
          refine lp_n (k + 1) (by omega) (by omega) ⟨rfl, rfl, rfl, rfl, rfl, rfl, trivial⟩ ?_
          rw [← hstep]
          exact LEnt.refl _
      · have : k = μ.w.length := by omega
        subst this
        rw [List.take_length] at hS2
        refine RUNM ?_
        refine lp_n (m + 1) (by omega) (by omega) ⟨rfl, rfl, rfl, trivial⟩ ?_
        have e : (List.range' 1 (m + 1 - 1)).foldl (stlM pri) (ms, ts) = (ms2, ts2) := by
          rw [show m + 1 - 1 = (m - 1) + 1 by omega, List.range'_concat, List.foldl_append, ← hS, show 1 + 1 * (m - 1) = m by omega]
          show stlM pri (ms1, ts1) m = _
          rw [stlM, hmw, ← hS2]
        rw [e]
        exact LEnt.trans mx_hide (LEnt.of (.c .h (.c (.n .h) .e)))
    · have : m = ms.length := by omega
      subst this
      refine RUNM ?_
      refine TC.loop (fun i : Nat => 17 - i) (fun i => 1 ≤ i ∧ i ≤ 17) (fun i => [(0, ptr a), (2, ptr b), (7, i64 i)]) (fun i => [MxA a ms1 ((List.range' 1 (i - 1)).foldl (fun t (k : Nat) => setp t k (pri k)) ts1), Cel b ([] ++ (flat encI PL ++ []))]) 1 (by omega) ⟨rfl, rfl, rfl, trivial⟩ mx_hide ?_
      rintro i ⟨g1, g2⟩
      generalize hT : (List.range' 1 (i - 1)).foldl (fun t (k : Nat) => setp t k (pri k)) ts1 = t1 at *
      replace hT := hT.symm
      refine TC.mx fun sm2 ws2 hwl2 ht2 => ?_
      refine RUNM ?_
      refine TC.cP rfl (fun h3 => ?_) fun h3 => ?_
      · have hn16 : 1 ≤ (i : Int) ∧ (i : Int) ≤ 16 := by omega
        obtain ⟨τ, hτ⟩ := tsGet ht2 hn16
        have hpn := hdone hn16
        have hτ' : t1[i]? = some τ := by simpa using hτ
        have hpn' : PL[i]? = some (pri i) := by simpa using hpn
        refine RUNM ?_
        refine RP.s rfl rfl rfl rfl (by refine Stw.mt ({ τ with p := pri i }) hτ' ?_ ?_ <;> rfl) ?_
        refine RUNM ?_
        refine lp_n (i + 1) (by omega) (by omega) ⟨rfl, rfl, rfl, trivial⟩ ?_
        have e : (List.range' 1 (i + 1 - 1)).foldl (fun t (k : Nat) => setp t k (pri k)) ts1 = t1.set i { τ with p := pri i } := by
          rw [show i + 1 - 1 = (i - 1) + 1 by omega, List.range'_concat, List.foldl_append, ← hT, show 1 + 1 * (i - 1) = i by omega]
          show setp t1 i (pri i) = _
          rw [setp_some hτ]; simp
        rw [e]
        exact mx_hide
      · have : i = 17 := by omega
        subst this
        refine RUNM ?_
        refine rt_n ⟨[], rfl, trivial⟩ ⟨rfl, rfl⟩ ?_
        have e : settleF ms ts = (ms1, t1) := by
          simp only [settleF, hpri, ← hS, ← hT]
        rw [e]
        exact LEnt.trans mx_hide (LEnt.of (.c .h .e))
end
end Go.AM

/-
  mtx: over, TryLock, Lock, Unlock, SetBase, Drop; what is told.
-/
namespace Go.AM
set_option maxHeartbeats 8000000
attribute [local irreducible] sq bk lpK mdx rt TC RP WK Cel Ro Row Fre RowsA RowsBut

def tkw (ts : List Tk) (n : Int) : Int := ((ts[n.toNat]?).map Tk.w).getD 0
def mow (ms : List Mu) (m : Int) : Int := ((ms[m.toNat]?).map Mu.ow).getD 0
def setw (ts : List Tk) (n : Int) (w : Int) : List Tk := match ts[n.toNat]? with | some τ => ts.set n.toNat { τ with w := w } | none => ts
def setb (ts : List Tk) (n : Int) (b : Int) : List Tk := match ts[n.toNat]? with | some τ => ts.set n.toNat { τ with b := b } | none => ts
def setO (ms : List Mu) (m : Int) (o : Int) : List Mu := match ms[m.toNat]? with | some μ => ms.set m.toNat { μ with ow := o } | none => ms
theorem tkw_some {ts : List Tk} {n : Int} {τ : Tk} (h : ts[n.toNat]? = some τ) : tkw ts n = τ.w := by simp [tkw, h]
theorem tkb_some {ts : List Tk} {n : Int} {τ : Tk} (h : ts[n.toNat]? = some τ) : tkb ts n = τ.b := by simp [tkb, h]
theorem mow_some {ms : List Mu} {m : Int} {μ : Mu} (h : ms[m.toNat]? = some μ) : mow ms m = μ.ow := by simp [mow, h]
theorem setw_some {ts : List Tk} {n w : Int} {τ : Tk} (h : ts[n.toNat]? = some τ) : setw ts n w = ts.set n.toNat { τ with w := w } := by unfold setw; rw [h]
theorem setb_some {ts : List Tk} {n w : Int} {τ : Tk} (h : ts[n.toNat]? = some τ) : setb ts n w = ts.set n.toNat { τ with b := w } := by unfold setb; rw [h]
theorem setO_some {ms : List Mu} {m o : Int} {μ : Mu} (h : ms[m.toNat]? = some μ) : setO ms m o = ms.set m.toNat { μ with ow := o } := by unfold setO; rw [h]

/-- Does a task wait, over others too, for what another one holds? -/
def ovF (ms : List Mu) (ts : List Tk) (h : Int) : Nat → Int → Bool
  | 0, _ => false
  | k + 1, n => if tkw ts n = 0 then false else if mow ms (tkw ts n) = h then true else if mow ms (tkw ts n) = 0 then false else ovF ms ts h k (mow ms (tkw ts n))

/-- Numbers that may be. -/
structure MuI (ms : List Mu) (ts : List Tk) : Prop where
  v : MuV ms
  o : ∀ μ ∈ ms, 0 ≤ μ.ow ∧ μ.ow ≤ 16
  t : ∀ τ ∈ ts, 0 ≤ τ.w ∧ τ.w < ms.length

section
variable {a : Nat} {ms : List Mu} {ts : List Tk} {sm : SV} {ws : List SV} {L : List Asr}

theorem Pri_tri (n : Int) : Tri tab mext F.mtx_All_Pri [ptr a, i64 n] [MxA a ms ts] fun v P' => v = i64 (if 1 ≤ n ∧ n ≤ 16 then tkp ts n else 0) ∧ P' = [MxA a ms ts] := by
  refine Tri.go tab_mtx_All_Pri rfl ?_
  refine TC.mx fun sm ws hl ht => ?_
  refine RUNM ?_
  refine RP.c rfl (mIs_tri n) .e rfl ?_
  rintro v P' ⟨rfl, rfl⟩
  refine RUNM ?_
  refine TC.cB rfl (fun h => ?_) fun h => ?_
  · have h := notd h
    refine RUNM ?_
    exact rt_r rfl ⟨by rw [if_neg h], rfl⟩ mx_hide
  · have h := yesd h
    obtain ⟨τ, hτ⟩ := tsGet ht h
    refine RUNM ?_
    exact rt_r rfl ⟨by rw [if_pos h, tkp_some hτ], rfl⟩ mx_hide
theorem Base_tri (n : Int) : Tri tab mext F.mtx_All_Base [ptr a, i64 n] [MxA a ms ts] fun v P' => v = i64 (if 1 ≤ n ∧ n ≤ 16 then tkb ts n else 0) ∧ P' = [MxA a ms ts] := by
  refine Tri.go tab_mtx_All_Base rfl ?_
  refine TC.mx fun sm ws hl ht => ?_
  refine RUNM ?_
  refine RP.c rfl (mIs_tri n) .e rfl ?_
  rintro v P' ⟨rfl, rfl⟩
  refine RUNM ?_
  refine TC.cB rfl (fun h => ?_) fun h => ?_
  · have h := notd h
    refine RUNM ?_
    exact rt_r rfl ⟨by rw [if_neg h], rfl⟩ mx_hide
  · have h := yesd h
    obtain ⟨τ, hτ⟩ := tsGet ht h
    refine RUNM ?_
    exact rt_r rfl ⟨by rw [if_pos h, tkb_some hτ], rfl⟩ mx_hide

theorem msGet {m : Int} (h : 1 ≤ m ∧ m < ms.length) (hl : ws.length = ms.length) : ∃ k : Nat, m = k ∧ ∃ μ s, ms[k]? = some μ ∧ ws[k]? = some s := by
  refine ⟨m.toNat, by omega, _, _, List.getElem?_eq_getElem (by omega), List.getElem?_eq_getElem (by omega)⟩
theorem cast_get {α : Type} {l : List α} {k : Nat} {x : α} (h : l[k]? = some x) : l[((k : Nat) : Int).toNat]? = some x := by simpa using h

theorem Owner_tri (m : Int) : Tri tab mext F.mtx_All_Owner [ptr a, i64 m] [MxA a ms ts] fun v P' => v = i64 (if 1 ≤ m ∧ m < ms.length then mow ms m else 0) ∧ P' = [MxA a ms ts] := by
  refine Tri.go tab_mtx_All_Owner rfl ?_
  refine TC.mx fun sm ws hl ht => ?_
  have hz : (ms.zip ws).length = ms.length := by rw [List.length_zip]; omega
  refine RUNM ?_
  refine RP.c rfl (mIn_tri m hl) (.c .h .e) rfl ?_
  rintro v P' ⟨rfl, rfl⟩
  refine RUNM ?_
  refine TC.cB rfl (fun h => ?_) fun h => ?_
  · have h := notd h
    refine RUNM ?_
    exact rt_r rfl ⟨by rw [if_neg h], rfl⟩ mx_hide
  · have h := yesd h
    obtain ⟨k, rfl, μ, s, hμ, hs⟩ := msGet h hl
    refine RUNM ?_
    exact rt_r rfl ⟨by rw [if_pos h, mow_some (cast_get hμ)], rfl⟩ mx_hide

theorem over_tri (hi : MuI ms ts) {n h : Int} (hn : 1 ≤ n ∧ n ≤ 16) : Tri tab mext F.mtx_All_over [ptr a, i64 n, i64 h] [MxA a ms ts] fun v P' => v = bl (ovF ms ts h 17 n) ∧ P' = [MxA a ms ts] := by
  refine Tri.go tab_mtx_All_over rfl ?_
  refine TC.mx fun sm ws hl ht => ?_
  have hz : (ms.zip ws).length = ms.length := by rw [List.length_zip]; omega
  generalize hR : ovF ms ts h 17 n = R0
  replace hR := hR.symm
  refine RUNM ?_
  refine TC.loop (fun q : Nat × Int => 17 - q.1) (fun q => q.1 ≤ 17 ∧ (1 ≤ q.2 ∧ q.2 ≤ 16) ∧ R0 = ovF ms ts h (17 - q.1) q.2) (fun q => [(0, ptr a), (1, i64 q.2), (2, i64 h), (8, i64 q.1)]) (fun _ => [MxB a ms ts sm ws]) (0, n) ⟨by omega, hn, hR⟩ ⟨rfl, rfl, rfl, rfl, trivial⟩ (LEnt.refl _) ?_
  rintro ⟨i, x⟩ ⟨h1, h2, h3⟩
  dsimp only at h1 h2 h3 ⊢
  refine RUNM ?_
  refine TC.cP rfl (fun h4 => ?_) fun h4 => ?_
  · obtain ⟨τ, hτ⟩ := tsGet ht h2
    have hw := hi.t τ (List.mem_of_getElem? hτ)
    rw [show 17 - i = (17 - (i + 1)) + 1 by omega, ovF, tkw_some hτ] at h3
    refine RUNM ?_
    refine TC.cP rfl (fun h5 => ?_) fun h5 => ?_
    · rw [if_pos h5] at h3
      refine RUNM ?_
      exact rt_r rfl ⟨by rw [h3], rfl⟩ mx_hide
    · rw [if_neg h5] at h3
      obtain ⟨k, hk, μ, s, hμ, hs⟩ := msGet (ms := ms) (ws := ws) (m := τ.w) (by omega) hl
      have ho := hi.o μ (List.mem_of_getElem? hμ)
      have hm : mow ms τ.w = μ.ow := by rw [hk]; exact mow_some (cast_get hμ)
      rw [hm] at h3
      have hμ' : ms[τ.w.toNat]? = some μ := by rw [hk]; exact cast_get hμ
      have hs' : ws[τ.w.toNat]? = some s := by rw [hk]; exact cast_get hs
      refine RUNM ?_
      refine TC.cP rfl (fun h6 => ?_) fun h6 => ?_
      · rw [if_pos h6] at h3
        refine RUNM ?_
        exact rt_r rfl ⟨by rw [h3], rfl⟩ mx_hide
      · rw [if_neg h6] at h3
        refine RUNM ?_
        refine TC.cP rfl (fun h7 => ?_) fun h7 => ?_
        · rw [if_pos h7] at h3
          refine RUNM ?_
          exact rt_r rfl ⟨by rw [h3], rfl⟩ mx_hide
        · have h7 : ¬ μ.ow = 0 := h7
          rw [if_neg h7] at h3
          refine RUNM ?_
          exact lp_n (i + 1, μ.ow) ⟨by simp only; omega, by simp only; omega, h3⟩ (by simp only; omega) ⟨rfl, rfl, rfl, rfl, trivial⟩ (LEnt.refl _)
  · have : i = 17 := by omega
    subst this
    refine RUNM ?_
    exact rt_r rfl ⟨by rw [h3]; rfl, rfl⟩ mx_hide
end
end Go.AM

/-
  mtx: TryLock, Lock, Unlock, SetBase, Drop.
-/
namespace Go.AM
set_option maxHeartbeats 8000000
attribute [local irreducible] sq bk lpK mdx rt TC RP WK Cel Ro Row Fre RowsA RowsBut

def mat (ms : List Mu) (m : Int) : Int := ((ms[m.toNat]?).map Mu.at_).getD 0
def mce (ms : List Mu) (m : Int) : Int := ((ms[m.toNat]?).map Mu.ce).getD 0
theorem mat_some {ms : List Mu} {m : Int} {μ : Mu} (h : ms[m.toNat]? = some μ) : mat ms m = μ.at_ := by simp [mat, h]
theorem mce_some {ms : List Mu} {m : Int} {μ : Mu} (h : ms[m.toNat]? = some μ) : mce ms m = μ.ce := by simp [mce, h]
abbrev MS := List Mu × List Tk
def tryF (ms : List Mu) (ts : List Tk) (m n : Int) : (Bool × Int) × MS :=
  if ¬ (1 ≤ m ∧ m < ms.length) ∨ ¬ (1 ≤ n ∧ n ≤ 16) then ((false, -18), (ms, ts))
  else if mow ms m = n ∨ (mat ms m = 3 ∧ tkb ts n < mce ms m) then ((false, -28), (ms, ts))
  else if tkw ts n > 0 then ((false, -41), (ms, ts))
  else if mow ms m = 0 then ((true, 0), settleF (setO ms m n) ts)
  else ((false, 0), (ms, ts))
def standM (ms : List Mu) (ts : List Tk) (m n : Int) : List Mu := muW ms m.toNat fun μ => insF ts μ.at_ n μ.w
def lockF (ms : List Mu) (ts : List Tk) (m n : Int) : (Bool × Int) × MS :=
  if (tryF ms ts m n).1.1 = true ∨ ¬ (tryF ms ts m n).1.2 = 0 then tryF ms ts m n
  else if ovF ms ts n 17 (mow ms m) then ((false, -28), (ms, ts))
  else ((false, 0), settleF (standM ms ts m n) (setw ts n m))
abbrev bc (r : Bool × Int) : AV := .tup [.s (.bool r.1), .s (.int .i64 r.2)]

theorem setO_len {ms : List Mu} {m o : Int} : (setO ms m o).length = ms.length := by unfold setO; split <;> simp
theorem setO_mem {ms : List Mu} {m o : Int} {x : Mu} (h : x ∈ setO ms m o) : x ∈ ms ∨ ∃ μ, μ ∈ ms ∧ x = { μ with ow := o } := by
  unfold setO at h; split at h
  · rename_i μ hμ
    rcases List.mem_or_eq_of_mem_set h with h | h
    · exact .inl h
    · exact .inr ⟨μ, List.mem_of_getElem? hμ, h⟩
  · exact .inl h
theorem MuV.setO {ms : List Mu} (h : MuV ms) {m o : Int} : MuV (setO ms m o) where
  l0 := by rw [setO_len]; exact h.l0
  l1 := by rw [setO_len]; exact h.l1
  w := fun μ hμ => by
    rcases setO_mem hμ with h1 | ⟨μ', h1, rfl⟩
    · exact h.w μ h1
    · exact h.w μ' h1
  nd := fun μ hμ => by
    rcases setO_mem hμ with h1 | ⟨μ', h1, rfl⟩
    · exact h.nd μ h1
    · exact h.nd μ' h1

section
variable {a : Nat} {ms : List Mu} {ts : List Tk} {sm : SV} {ws : List SV} {L : List Asr}

theorem try_tri (hi : MuI ms ts) (m n : Int) : Tri tab mext F.mtx_All_TryLock [ptr a, i64 m, i64 n] [MxA a ms ts] fun v P' => v = bc (tryF ms ts m n).1 ∧ P' = [MxA a (tryF ms ts m n).2.1 (tryF ms ts m n).2.2] := by
  refine Tri.go tab_mtx_All_TryLock rfl ?_
  refine TC.mx fun sm ws hl ht => ?_
  have hz : (ms.zip ws).length = ms.length := by rw [List.length_zip]; omega
  refine RUNM ?_
  refine RP.c rfl (mIn_tri m hl) (.c .h .e) rfl ?_
  rintro v P' ⟨rfl, rfl⟩
  refine RUNM ?_
  refine RP.g rfl (fun h => ?_) (fun h => ?_)
  rotate_left
  · have h := notd h
    have e : tryF ms ts m n = ((false, -18), (ms, ts)) := by rw [tryF, if_pos (.inl h)]
    rw [e]
    refine RUNM ?_
    exact rt_r (resE2 rfl rfl) ⟨rfl, rfl⟩ mx_hide
  have h := yesd h
  obtain ⟨k, rfl, μ, s, hμ, hs⟩ := msGet h hl
  refine RUNM ?_
  refine RP.c rfl (mIs_tri n) .e rfl ?_
  rintro v P' ⟨rfl, rfl⟩
  refine RUNM ?_
  refine TC.cB rfl (fun h1 => ?_) fun h1 => ?_
  · have h1 := notd h1
    have e : tryF ms ts k n = ((false, -18), (ms, ts)) := by rw [tryF, if_pos (.inr h1)]
    rw [e]
    refine RUNM ?_
    exact rt_r (resE2 rfl rfl) ⟨rfl, rfl⟩ mx_hide
  have h1 := yesd h1
  obtain ⟨τ, hτ⟩ := tsGet ht h1
  have e0 : tryF ms ts k n = if μ.ow = n ∨ (μ.at_ = 3 ∧ τ.b < μ.ce) then ((false, -28), (ms, ts)) else if τ.w > 0 then ((false, -41), (ms, ts)) else if μ.ow = 0 then ((true, 0), settleF (setO ms k n) ts) else ((false, 0), (ms, ts)) := by
    rw [tryF, if_neg (fun hc => hc.elim (fun hc => hc h) (fun hc => hc h1)), mow_some (cast_get hμ), mat_some (cast_get hμ), mce_some (cast_get hμ), tkb_some hτ, tkw_some hτ]
  have w := hi.t τ (List.mem_of_getElem? hτ)
  have bad : μ.ow = n ∨ (μ.at_ = 3 ∧ τ.b < μ.ce) → tryF ms ts k n = ((false, -28), (ms, ts)) := fun hb => by rw [e0, if_pos hb]
  refine RUNM ?_
  refine TC.mid (α := Bool) (fun p => p = decide (μ.ow = n ∨ (μ.at_ = 3 ∧ τ.b < μ.ce))) (fun p => [(0, ptr a), (2, i64 n), (6, bl false), (7, i64 0), (8, .s (.ptr (some (sb sm, ix 0 k 4 0)))), (24, bl p)]) (fun _ => [MxB a ms ts sm ws]) ?_ ?_
  · refine TC.cP rfl (fun h2 => ?_) fun h2 => ?_
    · have h2 : μ.ow = n := h2
      refine RUNM ?_
      exact md_n _ (by simp [h2]) ⟨rfl, rfl, rfl, rfl, rfl, rfl, trivial⟩ (LEnt.refl _)
    · have h2 : ¬ μ.ow = n := h2
      refine RUNM ?_
      refine RP.gp rfl (fun h3 => ?_) fun h3 => ?_
      · have h3 : μ.at_ = 3 := h3
        refine RUNM ?_
        exact md_n _ (by simp [h2, h3]) ⟨rfl, rfl, rfl, rfl, rfl, rfl, trivial⟩ (LEnt.refl _)
      · have h3 : ¬ μ.at_ = 3 := h3
        refine RUNM ?_
        exact md_n _ (by simp [h2, h3]) ⟨rfl, rfl, rfl, rfl, rfl, rfl, trivial⟩ (LEnt.refl _)
  rintro p rfl
  refine RUNM ?_
  refine TC.cP rfl (fun h2 => ?_) fun h2 => ?_
  · rw [bad h2]
    refine RUNM ?_
    exact rt_r (resE2 rfl rfl) ⟨rfl, rfl⟩ mx_hide
  rw [if_neg h2] at e0
  refine RUNM ?_
  refine TC.cP rfl (fun h3 => ?_) fun h3 => ?_
  · have e : tryF ms ts k n = ((false, -41), (ms, ts)) := by rw [e0, if_pos h3]
    rw [e]
    refine RUNM ?_
    exact rt_r (resE2 rfl rfl) ⟨rfl, rfl⟩ mx_hide
  rw [if_neg h3] at e0
  refine RUNM ?_
  refine TC.cP rfl (fun h4 => ?_) fun h4 => ?_
  · have h4 : μ.ow = 0 := h4
    have e : tryF ms ts k n = ((true, 0), settleF (setO ms k n) ts) := by rw [e0, if_pos h4]
    rw [e]
    refine RUNM ?_
    refine RP.s rfl rfl rfl rfl (by refine Stw.mu ({ μ with ow := n }) hμ hs ?_ ?_ ?_ <;> rfl) ?_
    have e5 : ms.set k { μ with ow := n } = setO ms k n := by rw [setO_some (cast_get hμ)]; simp
    rw [e5]
    refine RUNM ?_
    refine RP.ent mx_hide ?_
    refine RP.c rfl (settle_tri hi.v.setO) (.c .h .e) rfl ?_
    rintro v P' ⟨rfl, rfl⟩
    refine RUNM ?_
    exact rt_r (resE2 rfl rfl) ⟨rfl, rfl⟩ (LEnt.refl _)
  · have h4 : ¬ μ.ow = 0 := h4
    have e : tryF ms ts k n = ((false, 0), (ms, ts)) := by rw [e0, if_neg h4]
    rw [e]
    refine RUNM ?_
    exact rt_r (resE2 rfl rfl) ⟨rfl, rfl⟩ mx_hide

theorem tryF_self {m n : Int} (h1 : ¬ ((tryF ms ts m n).1.1 = true ∨ ¬ (tryF ms ts m n).1.2 = 0)) : (tryF ms ts m n).2 = (ms, ts) ∧ (1 ≤ m ∧ m < ms.length) ∧ (1 ≤ n ∧ n ≤ 16) ∧ tkw ts n ≤ 0 ∧ mow ms m ≠ 0 := by
  unfold tryF at *
  by_cases h2 : ¬ (1 ≤ m ∧ m < ms.length) ∨ ¬ (1 ≤ n ∧ n ≤ 16)
  · rw [if_pos h2] at h1; simp at h1
  · rw [if_neg h2] at *
    by_cases h3 : mow ms m = n ∨ (mat ms m = 3 ∧ tkb ts n < mce ms m)
    · rw [if_pos h3] at h1; simp at h1
    · rw [if_neg h3] at *
      by_cases h4 : tkw ts n > 0
      · rw [if_pos h4] at h1; simp at h1
      · rw [if_neg h4] at *
        by_cases h5 : mow ms m = 0
        · rw [if_pos h5] at h1; simp at h1
        · rw [if_neg h5] at *
          have h2' : (1 ≤ m ∧ m < ms.length) ∧ (1 ≤ n ∧ n ≤ 16) := by
            constructor
            · exact Classical.byContradiction fun hc => h2 (.inl hc)
            · exact Classical.byContradiction fun hc => h2 (.inr hc)
          exact ⟨rfl, h2'.1, h2'.2, by omega, h5⟩

theorem setw_len {ts : List Tk} {n w : Int} : (setw ts n w).length = ts.length := by unfold setw; split <;> simp

theorem MuV.stand {ms : List Mu} (h : MuV ms) {ts : List Tk} (m : Int) {n : Int} (hn : 1 ≤ n ∧ n ≤ 16) (hni : ∀ μ, ms[m.toNat]? = some μ → n ∉ μ.w) : MuV (standM ms ts m n) := h.of fun μ hμ => by
  have hm := List.mem_of_getElem? hμ
  refine ⟨fun w hw => ?_, insF_nodup (h.nd μ hm) (hni μ hμ)⟩
  rcases insF_mem.1 hw with rfl | hw
  · exact hn
  · exact h.w μ hm w hw

theorem lock_tri (hi : MuI ms ts) (m n : Int) (hni : tkw ts n = 0 → ∀ μ, ms[m.toNat]? = some μ → n ∉ μ.w) : Tri tab mext F.mtx_All_Lock [ptr a, i64 m, i64 n] [MxA a ms ts] fun v P' => v = bc (lockF ms ts m n).1 ∧ P' = [MxA a (lockF ms ts m n).2.1 (lockF ms ts m n).2.2] := by
  refine Tri.go tab_mtx_All_Lock rfl ?_
  refine RUNM ?_
  refine RP.c rfl (try_tri hi m n) (.c .h .e) rfl ?_
  rintro v P' ⟨rfl, rfl⟩
  have hself := tryF_self (ms := ms) (ts := ts) (m := m) (n := n)
  have hlock : lockF ms ts m n = if (tryF ms ts m n).1.1 = true ∨ ¬ (tryF ms ts m n).1.2 = 0 then tryF ms ts m n else if ovF ms ts n 17 (mow ms m) then ((false, -28), (ms, ts)) else ((false, 0), settleF (standM ms ts m n) (setw ts n m)) := rfl
  generalize tryF ms ts m n = r at *
  obtain ⟨⟨ok, c⟩, ms1, ts1⟩ := r
  dsimp only at hself hlock ⊢
  refine RUNM ?_
  refine RP.g rfl (fun h => ?_) (fun h => ?_)
  rotate_left
  · have h : ok = true := by simpa using h
    rw [if_pos (.inl h)] at hlock
    rw [hlock, h]
    refine RUNM ?_
    exact rt_r (resE2 rfl rfl) ⟨rfl, rfl⟩ (LEnt.refl _)
  have h : ok = false := h
  subst h
  refine RUNM ?_
  refine TC.cP rfl (fun h1 => ?_) fun h1 => ?_
  · rw [if_pos (.inr h1)] at hlock
    rw [hlock]
    refine RUNM ?_
    exact rt_r (resE2 rfl rfl) ⟨rfl, rfl⟩ (LEnt.refl _)
  have hnot : ¬ (false = true ∨ ¬ c = 0) := fun hc => hc.elim (fun hc => by cases hc) h1
  obtain ⟨e1, hm, hn, hw0, ho⟩ := hself hnot
  cases e1
  rw [if_neg hnot] at hlock
  refine TC.ent (L' := [MxA a ms ts]) (LEnt.refl _) ?_
  refine TC.mx fun sm ws hl ht => ?_
  have hz : (ms.zip ws).length = ms.length := by rw [List.length_zip]; omega
  obtain ⟨k, rfl, μ, s, hμ, hs⟩ := msGet hm hl
  obtain ⟨τ, hτ⟩ := tsGet ht hn
  have hmo : mow ms k = μ.ow := mow_some (cast_get hμ)
  have hoi := hi.o μ (List.mem_of_getElem? hμ)
  have hmem := List.mem_of_getElem? hμ
  have hwi := hi.t τ (List.mem_of_getElem? hτ)
  have hw1 : tkw ts n = 0 := by rw [tkw_some hτ] at hw0 ⊢; omega
  rw [hmo] at hlock ho
  refine RUNM ?_
  refine RP.ent mx_hide ?_
  refine RP.c rfl (over_tri hi (n := μ.ow) (by omega)) (.c .h .e) rfl ?_
  rintro v P' ⟨rfl, rfl⟩
  refine RUNM ?_
  refine TC.cB rfl (fun h2 => ?_) fun h2 => ?_
  · rw [if_pos h2] at hlock
    rw [hlock]
    refine RUNM ?_
    exact rt_r (resE2 rfl rfl) ⟨rfl, rfl⟩ (LEnt.refl _)
  rw [if_neg (by rw [h2]; simp)] at hlock
  rw [hlock]
  refine RUNM ?_
  refine RP.c rfl (stand_tri hμ hn (hi.v.w μ hmem) (nodup_le16 (hi.v.nd μ hmem) (hi.v.w μ hmem))) (.c .h .e) rfl ?_
  rintro v P' ⟨rfl, rfl⟩
  have e2 : ms.set k { μ with w := insF ts μ.at_ n μ.w } = standM ms ts k n := by rw [standM, muW_some (cast_get hμ)]; simp
  rw [e2]
  refine WK.z ?_
  have hv2 : MuV (standM ms ts k n) := hi.v.stand k hn (hni hw1)
  generalize standM ms ts k n = ms2 at *
  refine RP.ent (L' := [MxA a ms2 ts]) (LEnt.refl _) ?_
  refine RP.mx fun sm2 ws2 hl2 ht2 => ?_
  refine RUNM ?_
  refine RP.s rfl rfl rfl rfl (by refine Stw.mt ({ τ with w := k }) hτ ?_ ?_ <;> rfl) ?_
  rw [← setw_some hτ]
  refine RUNM ?_
  refine RP.ent mx_hide ?_
  refine RP.c rfl (settle_tri hv2) (.c .h .e) rfl ?_
  rintro v P' ⟨rfl, rfl⟩
  refine RUNM ?_
  exact rt_r (resE2 rfl rfl) ⟨rfl, rfl⟩ (LEnt.refl _)
end
end Go.AM

/-
  mtx: Unlock, SetBase, Drop; what stays as it must be.
-/
namespace Go.AM
set_option maxHeartbeats 8000000
attribute [local irreducible] sq bk lpK mdx rt TC RP WK Cel Ro Row Fre RowsA RowsBut

def passF (ms : List Mu) (ts : List Tk) (m : Int) : MS :=
  match muw ms m.toNat with
  | [] => (setO ms m 0, ts)
  | x :: r => (muW (setO ms m x) m.toNat (fun _ => r), setw ts x 0)
def stF (S : MS) : MS := settleF S.1 S.2
def unlF (ms : List Mu) (ts : List Tk) (m n : Int) : (Int × Int) × MS :=
  if ¬ (1 ≤ m ∧ m < ms.length) ∨ ¬ (1 ≤ n ∧ n ≤ 16) then ((0, -18), (ms, ts))
  else if ¬ mow ms m = n then ((0, -28), (ms, ts))
  else ((mow (stF (passF ms ts m)).1 m, 0), stF (passF ms ts m))
abbrev cc (r : Int × Int) : AV := .tup [.s (.int .i64 r.1), .s (.int .i64 r.2)]
def sbBad (ms : List Mu) (ts : List Tk) (n pri : Int) (i : Nat) : Bool := (List.range' 1 i).any fun m => decide (mat ms m = 3 ∧ mce ms m > pri ∧ (mow ms m = n ∨ tkw ts n = m))
def setBF (ms : List Mu) (ts : List Tk) (n pri : Int) : Int × MS :=
  if ¬ (1 ≤ n ∧ n ≤ 16) then (-18, (ms, ts))
  else if ¬ (1 ≤ pri ∧ pri ≤ 16) then (-17, (ms, ts))
  else if sbBad ms ts n pri (ms.length - 1) then (-28, (ms, ts))
  else (0, settleF ms (setb ts n pri))
def dropF (ms : List Mu) (ts : List Tk) (n : Int) : Bool × MS :=
  if ¬ (1 ≤ n ∧ n ≤ 16) ∨ tkw ts n = 0 then (false, (ms, ts))
  else (true, settleF (muW ms (tkw ts n).toNat fun μ => μ.w.filter (fun w => decide (w ≠ n))) (setw ts n 0))

/- ---- what stays ---- -/
theorem setp_mem {ts : List Tk} {n p : Int} {x : Tk} (h : x ∈ setp ts n p) : ∃ τ ∈ ts, x.w = τ.w ∧ x.b = τ.b := by
  unfold setp at h; split at h
  · rename_i τ hτ
    rcases List.mem_or_eq_of_mem_set h with h | rfl
    · exact ⟨x, h, rfl, rfl⟩
    · exact ⟨τ, List.mem_of_getElem? hτ, rfl, rfl⟩
  · exact ⟨x, h, rfl, rfl⟩
theorem muW_ow {ms : List Mu} {m : Nat} {f : Mu → List Int} {x : Mu} (h : x ∈ muW ms m f) : ∃ μ ∈ ms, x.ow = μ.ow := by
  rcases muW_mem h with h | ⟨μ, h1, rfl⟩
  · exact ⟨x, h, rfl⟩
  · exact ⟨μ, List.mem_of_getElem? h1, rfl⟩

/-- Owners and waits as they were. -/
def Kept (S S' : MS) : Prop := S'.1.length = S.1.length ∧ (∀ x ∈ S'.1, ∃ μ ∈ S.1, x.ow = μ.ow) ∧ (∀ x ∈ S'.2, ∃ τ ∈ S.2, x.w = τ.w ∧ x.b = τ.b)
theorem Kept.refl (S : MS) : Kept S S := ⟨rfl, fun x h => ⟨x, h, rfl⟩, fun x h => ⟨x, h, rfl, rfl⟩⟩
theorem Kept.trans {S S1 S2 : MS} (h : Kept S S1) (h' : Kept S1 S2) : Kept S S2 :=
  ⟨h'.1.trans h.1, fun x hx => by obtain ⟨y, hy, e⟩ := h'.2.1 x hx; obtain ⟨z, hz, e2⟩ := h.2.1 y hy; exact ⟨z, hz, e.trans e2⟩,
   fun x hx => by obtain ⟨y, hy, e, e'⟩ := h'.2.2 x hx; obtain ⟨z, hz, e2, e2'⟩ := h.2.2 y hy; exact ⟨z, hz, e.trans e2, e'.trans e2'⟩⟩
theorem Kept.stlN {pri : Int → Int} {m : Nat} {S : MS} {n : Int} : Kept S (stlN pri m S n) := by
  unfold Go.AM.stlN; split
  · exact Kept.refl S
  · refine ⟨by simp only [rejoinF, leaveF, muW_len], fun x hx => ?_, fun x hx => setp_mem hx⟩
    obtain ⟨y, hy, e⟩ := muW_ow hx
    obtain ⟨z, hz, e2⟩ := muW_ow hy
    exact ⟨z, hz, e.trans e2⟩
theorem Kept.fold {α : Type} {f : MS → α → MS} (hf : ∀ S x, Kept S (f S x)) : ∀ (l : List α) (S : MS), Kept S (l.foldl f S)
  | [], S => Kept.refl S
  | x :: l, S => (hf S x).trans (Kept.fold hf l (f S x))
theorem setps_mem {pri : Nat → Int} : ∀ (l : List Nat) {ts : List Tk} {x : Tk}, x ∈ l.foldl (fun t (k : Nat) => setp t k (pri k)) ts → ∃ τ ∈ ts, x.w = τ.w ∧ x.b = τ.b
  | [], ts, x, h => ⟨x, h, rfl, rfl⟩
  | k :: l, ts, x, h => by
    obtain ⟨y, hy, e, e'⟩ := setps_mem l h
    obtain ⟨z, hz, e2, e2'⟩ := setp_mem hy
    exact ⟨z, hz, e.trans e2, e'.trans e2'⟩
theorem Kept.settle (ms : List Mu) (ts : List Tk) : Kept (ms, ts) (settleF ms ts) := by
  unfold settleF
  generalize List.range' 1 16 = l2
  generalize List.range' 1 (ms.length - 1) = l1
  generalize rk ms ts 17 = pri
  have h1 : Kept (ms, ts) (l1.foldl (stlM pri) (ms, ts)) := Kept.fold (fun S m => Kept.fold (fun S n => Kept.stlN) (muw S.1 m) S) l1 (ms, ts)
  generalize l1.foldl (stlM pri) (ms, ts) = S1 at *
  refine ⟨h1.1, h1.2.1, fun x hx => ?_⟩
  obtain ⟨y, hy, e, e'⟩ := setps_mem (pri := fun k => pri k) l2 (ts := S1.2) hx
  obtain ⟨z, hz, e2, e2'⟩ := h1.2.2 y hy
  exact ⟨z, hz, e.trans e2, e'.trans e2'⟩
theorem settleF_len {ms : List Mu} {ts : List Tk} : (settleF ms ts).1.length = ms.length := (Kept.settle ms ts).1
theorem MuI.settle {ms : List Mu} {ts : List Tk} (h : MuI ms ts) : MuI (settleF ms ts).1 (settleF ms ts).2 where
  v := by
    unfold settleF
    generalize List.range' 1 16 = l2
    generalize List.range' 1 (ms.length - 1) = l1
    exact (MuV.stlMs (pri := rk ms ts 17) l1 (st := (ms, ts)) h.v).1
  o := fun x hx => by obtain ⟨μ, hμ, e⟩ := (Kept.settle ms ts).2.1 x hx; rw [e]; exact h.o μ hμ
  t := fun x hx => by obtain ⟨τ, hτ, e, _⟩ := (Kept.settle ms ts).2.2 x hx; rw [e, settleF_len]; exact h.t τ hτ
theorem setw_mem {ts : List Tk} {n w : Int} {x : Tk} (h : x ∈ setw ts n w) : x ∈ ts ∨ x.w = w := by
  unfold setw at h; split at h
  · rcases List.mem_or_eq_of_mem_set h with h | rfl
    · exact .inl h
    · exact .inr rfl
  · exact .inl h
theorem setb_mem {ts : List Tk} {n b : Int} {x : Tk} (h : x ∈ setb ts n b) : ∃ τ ∈ ts, x.w = τ.w := by
  unfold setb at h; split at h
  · rename_i τ hτ
    rcases List.mem_or_eq_of_mem_set h with h | rfl
    · exact ⟨x, h, rfl⟩
    · exact ⟨τ, List.mem_of_getElem? hτ, rfl⟩
  · exact ⟨x, h, rfl⟩
theorem passF_len {ms : List Mu} {ts : List Tk} {m : Int} : (passF ms ts m).1.length = ms.length := by
  unfold passF; split
  · exact setO_len
  · simp only [muW_len, setO_len]
theorem MuI.pass {ms : List Mu} {ts : List Tk} (h : MuI ms ts) (m : Int) : MuI (passF ms ts m).1 (passF ms ts m).2 := by
  have hw := muw_ok h.v m.toNat
  unfold passF
  split
  · refine ⟨h.v.setO, fun x hx => ?_, fun x hx => by simp only [setO_len]; exact h.t x hx⟩
    rcases setO_mem hx with hx | ⟨μ, _, rfl⟩
    · exact h.o x hx
    · exact ⟨Int.le_refl 0, by simp⟩
  · rename_i x r hr
    rw [hr] at hw
    have hx := hw.1 x (by simp)
    refine ⟨h.v.setO.of fun μ hμ => ⟨fun w hw' => hw.1 w (by simp [hw']), (List.nodup_cons.1 hw.2).2⟩, fun y hy => ?_, fun y hy => ?_⟩
    · obtain ⟨z, hz, e⟩ := muW_ow hy
      rw [e]
      rcases setO_mem hz with hz | ⟨μ, _, rfl⟩
      · exact h.o z hz
      · exact ⟨by simp only; omega, by simp only; omega⟩
    · simp only [muW_len, setO_len]
      have hl := h.v.l0
      rcases setw_mem hy with hy | e
      · exact h.t y hy
      · rw [e]; omega

attribute [local irreducible] settleF stF passF unlF tryF lockF muW setO setw setp setb rk muw mow tkw tkb tkp insF standM sbBad setBF dropF

section
variable {a : Nat} {ms : List Mu} {ts : List Tk} {sm : SV} {ws : List SV} {L : List Asr}

theorem unl_tri (hi : MuI ms ts) (m n : Int) : Tri tab mext F.mtx_All_Unlock [ptr a, i64 m, i64 n] [MxA a ms ts] fun v P' => v = cc (unlF ms ts m n).1 ∧ P' = [MxA a (unlF ms ts m n).2.1 (unlF ms ts m n).2.2] := by
  refine Tri.go tab_mtx_All_Unlock rfl ?_
  refine TC.mx fun sm ws hl ht => ?_
  have hz : (ms.zip ws).length = ms.length := by rw [List.length_zip]; omega
  refine RUNM ?_
  refine RP.c rfl (mIn_tri m hl) (.c .h .e) rfl ?_
  rintro v P' ⟨rfl, rfl⟩
  refine RUNM ?_
  refine RP.g rfl (fun h => ?_) (fun h => ?_)
  rotate_left
  · have h := notd h
    have e : unlF ms ts m n = ((0, -18), (ms, ts)) := by rw [unlF, if_pos (.inl h)]
    rw [e]
    refine RUNM ?_
    exact rt_r (resE2 rfl rfl) ⟨rfl, rfl⟩ mx_hide
  have h := yesd h
  obtain ⟨k, rfl, μ, s, hμ, hs⟩ := msGet h hl
  refine RUNM ?_
  refine RP.c rfl (mIs_tri n) .e rfl ?_
  rintro v P' ⟨rfl, rfl⟩
  refine RUNM ?_
  refine TC.cB rfl (fun h1 => ?_) fun h1 => ?_
  · have h1 := notd h1
    have e : unlF ms ts k n = ((0, -18), (ms, ts)) := by rw [unlF, if_pos (.inr h1)]
    rw [e]
    refine RUNM ?_
    exact rt_r (resE2 rfl rfl) ⟨rfl, rfl⟩ mx_hide
  have h1 := yesd h1
  have e0 : unlF ms ts k n = if ¬ μ.ow = n then ((0, -28), (ms, ts)) else ((mow (stF (passF ms ts k)).1 k, 0), stF (passF ms ts k)) := by
    rw [unlF, if_neg (fun hc => hc.elim (fun hc => hc h) (fun hc => hc h1)), mow_some (cast_get hμ)]
  refine RUNM ?_
  refine TC.cP rfl (fun h2 => ?_) fun h2 => ?_
  · rw [if_pos h2] at e0
    rw [e0]
    refine RUNM ?_
    exact rt_r (resE2 rfl rfl) ⟨rfl, rfl⟩ mx_hide
  rw [if_neg h2] at e0
  rw [e0]
  clear e0
  have hip := hi.pass k
  have hpl : (passF ms ts k).1.length = ms.length := passF_len
  have hpass : passF ms ts k = match μ.w with | [] => (setO ms k 0, ts) | x :: r => (muW (setO ms k x) k (fun _ => r), setw ts x 0) := by
    unfold passF; rw [Int.toNat_natCast, muw_some hμ]
  generalize passF ms ts k = S at *
  obtain ⟨ms1, ts1⟩ := S
  have hmem := List.mem_of_getElem? hμ
  have hw16 := nodup_le16 (hi.v.nd μ hmem) (hi.v.w μ hmem)
  refine RUNM ?_
  refine RP.s rfl rfl rfl rfl (by refine Stw.mu ({ μ with ow := 0 }) hμ hs ?_ ?_ ?_ <;> rfl) ?_
  have hμ0 : (ms.set k { μ with ow := 0 })[k]? = some { μ with ow := 0 } := List.getElem?_set_self (List.getElem?_eq_some_iff.1 hμ).1
  refine RUNM ?_
  refine TC.mid (α := Unit) (fun _ => True) (fun _ => [(0, ptr a), (1, i64 k)]) (fun _ => [MxA a ms1 ts1]) ?_ ?_
  · refine TC.cP rfl (fun h3 => ?_) fun h3 => ?_
    · have h3 : (μ.w.length : Int) > 0 := h3
      obtain ⟨x, hx⟩ : ∃ x, μ.w[0]? = some x := ⟨_, List.getElem?_eq_getElem (by omega)⟩
      have hx' : ({ μ with ow := 0 } : Mu).w[0]? = some x := hx
      obtain ⟨r, hr⟩ : ∃ r, μ.w = x :: r := by
        cases hw : μ.w with
        | nil => rw [hw] at h3; simp at h3
        | cons y r => rw [hw] at hx; simp at hx; subst hx; exact ⟨r, rfl⟩
      have hx16 := hi.v.w μ hmem x (by rw [hr]; simp)
      rw [hr] at hpass
      simp only [Prod.mk.injEq] at hpass
      obtain ⟨hp1, hp2⟩ := hpass
      clear hpl
      refine RUNM ?_
      refine RP.s rfl rfl rfl rfl (by refine Stw.mu ({ μ with ow := x }) hμ0 hs ?_ ?_ ?_ <;> rfl) ?_
      rw [List.set_set]
      have hμ1 : (ms.set k { μ with ow := x })[k]? = some { μ with ow := x } := List.getElem?_set_self (List.getElem?_eq_some_iff.1 hμ).1
      have hs1 : (ms.set k { μ with ow := x }).map Mu.w = ms.map Mu.w := by rw [List.map_set]; exact set_same (by rw [List.getElem?_map, hμ]; rfl)
      refine RUNM ?_
      refine RP.ent (mx_out hμ1 hs) ?_
      refine RP.c rfl (xDelete_tri s μ.w 0 (by omega) (by omega)) (.c .h .e) rfl ?_
      rintro v P' ⟨s', rfl, rfl⟩
      refine RUNM ?_
      refine RP.s rfl rfl rfl rfl (Stw.mo hμ1 hs) ?_
      rw [List.set_set]
      have e2 : ms.set k { ({ μ with ow := x } : Mu) with w := μ.w.take 0 ++ μ.w.drop (0 + 1) } = ms1 := by
        rw [hp1, muW_some (μ := { μ with ow := x }) (by rw [setO_some (cast_get hμ), Int.toNat_natCast]; exact hμ1), setO_some (cast_get hμ), Int.toNat_natCast, List.set_set, hr]
        rfl
      rw [e2]
      obtain ⟨τ, hτ⟩ := tsGet ht hx16
      have hms1 : ms1[k]? = some (⟨μ.at_, μ.ce, x, μ.w.take 0 ++ μ.w.drop (0 + 1)⟩ : Mu) := by rw [← e2]; exact List.getElem?_set_self (List.getElem?_eq_some_iff.1 hμ).1
      have hws1 : (ws.set k s')[k]? = some s' := List.getElem?_set_self (List.getElem?_eq_some_iff.1 hs).1
      have hz1 : (ms1.zip (ws.set k s')).length = ms1.length := by rw [List.length_zip, List.length_set, ← e2, List.length_set]; omega
      refine RUNM ?_
      refine RP.ia (a := x) rfl rfl (by omega) rfl ?_
      refine RUNM ?_
      refine RP.s rfl rfl rfl rfl (by refine Stw.mt ({ τ with w := 0 }) hτ ?_ ?_ <;> rfl) ?_
      rw [← setw_some hτ, ← hp2]
      refine RUNM ?_
      exact md_n () trivial ⟨rfl, rfl, trivial⟩ mx_hide
    · have h3 : ¬ (μ.w.length : Int) > 0 := h3
      have hr : μ.w = [] := List.length_eq_zero_iff.1 (by omega)
      rw [hr] at hpass
      simp only [Prod.mk.injEq] at hpass
      obtain ⟨hp1, hp2⟩ := hpass
      refine RUNM ?_
      refine md_n () trivial ⟨rfl, rfl, trivial⟩ ?_
      rw [hp1, hp2, setO_some (cast_get hμ), Int.toNat_natCast]
      exact mx_hide
  · rintro _ _
    refine RUNM ?_
    refine RP.c rfl (settle_tri hip.v) (.c .h .e) rfl ?_
    rintro v P' ⟨rfl, rfl⟩
    have hst : stF (ms1, ts1) = settleF ms1 ts1 := by unfold stF; rfl
    have hlen : (settleF ms1 ts1).1.length = ms.length := settleF_len.trans hpl
    rw [hst]
    generalize settleF ms1 ts1 = S2 at *
    obtain ⟨ms2, ts2⟩ := S2
    dsimp only at hlen ⊢
    refine WK.z ?_
    refine RUNM ?_
    refine RP.ent (L' := [MxA a ms2 ts2]) (LEnt.refl _) ?_
    refine RP.mx fun sm2 ws2 hl2 ht2 => ?_
    have hz2 : (ms2.zip ws2).length = ms2.length := by rw [List.length_zip]; omega
    obtain ⟨μ2, hμ2⟩ : ∃ μ2, ms2[k]? = some μ2 := ⟨_, List.getElem?_eq_getElem (by omega)⟩
    obtain ⟨s2, hs2⟩ : ∃ s2, ws2[k]? = some s2 := ⟨_, List.getElem?_eq_getElem (by omega)⟩
    rw [mow_some (cast_get hμ2)]
    refine RUNM ?_
    exact rt_r (resE2 rfl rfl) ⟨rfl, rfl⟩ mx_hide

theorem setb_len {ts : List Tk} {n w : Int} : (setb ts n w).length = ts.length := by unfold setb; split <;> simp

theorem setB_tri (hi : MuI ms ts) (n pri : Int) : Tri tab mext F.mtx_All_SetBase [ptr a, i64 n, i64 pri] [MxA a ms ts] fun v P' => v = i64 (setBF ms ts n pri).1 ∧ P' = [MxA a (setBF ms ts n pri).2.1 (setBF ms ts n pri).2.2] := by
  refine Tri.go tab_mtx_All_SetBase rfl ?_
  have h9 := hi.v.l1
  have h1 := hi.v.l0
  refine RUNM ?_
  refine RP.c rfl (mIs_tri n) .e rfl ?_
  rintro v P' ⟨rfl, rfl⟩
  refine RUNM ?_
  refine TC.cB rfl (fun h => ?_) fun h => ?_
  · have h := notd h
    have e : setBF ms ts n pri = (-18, (ms, ts)) := by rw [setBF, if_pos h]
    rw [e]
    refine RUNM ?_
    exact rt_r rfl ⟨rfl, rfl⟩ (LEnt.refl _)
  have hn := yesd h
  refine RUNM ?_
  refine RP.c rfl (mMay_tri pri) .e rfl ?_
  rintro v P' ⟨rfl, rfl⟩
  refine RUNM ?_
  refine TC.cB rfl (fun h => ?_) fun h => ?_
  · have h := notd h
    have e : setBF ms ts n pri = (-17, (ms, ts)) := by rw [setBF, if_neg (fun hc => hc hn), if_pos h]
    rw [e]
    refine RUNM ?_
    exact rt_r rfl ⟨rfl, rfl⟩ (LEnt.refl _)
  have hp := yesd h
  have e0 : setBF ms ts n pri = if sbBad ms ts n pri (ms.length - 1) then (-28, (ms, ts)) else (0, settleF ms (setb ts n pri)) := by rw [setBF, if_neg (fun hc => hc hn), if_neg (fun hc => hc hp)]
  refine TC.ent (L' := [MxA a ms ts]) (LEnt.refl _) ?_
  refine TC.mx fun sm ws hl ht => ?_
  have hz : (ms.zip ws).length = ms.length := by rw [List.length_zip]; omega
  obtain ⟨τ, hτ⟩ := tsGet ht hn
  have hbad : ∀ i, i < ms.length → sbBad ms ts n pri i = true → sbBad ms ts n pri (ms.length - 1) = true := by
    intro i hi' hb
    unfold sbBad at *
    rw [List.any_eq_true] at *
    obtain ⟨m, hm, hm2⟩ := hb
    refine ⟨m, ?_, hm2⟩
    rw [List.mem_range'_1] at *
    omega
  have hstep : ∀ i, sbBad ms ts n pri (i + 1) = (sbBad ms ts n pri i || decide (mat ms ((i + 1 : Nat) : Int) = 3 ∧ mce ms ((i + 1 : Nat) : Int) > pri ∧ (mow ms ((i + 1 : Nat) : Int) = n ∨ tkw ts n = ((i + 1 : Nat) : Int)))) := by
    intro i
    unfold sbBad
    rw [List.range'_concat, List.any_append, show 1 + 1 * i = i + 1 by omega]
    simp
  have hfirst : sbBad ms ts n pri 0 = false := by unfold sbBad; rfl
  generalize sbBad ms ts n pri = B at *
  refine RUNM ?_
  refine TC.midb (α := Unit) (fun _ => B (ms.length - 1) = false) (fun _ => [(0, ptr a), (1, i64 n), (2, i64 pri)]) (fun _ => [MxB a ms ts sm ws]) ?_ ?_
  · refine TC.loop (fun m : Nat => ms.length - m) (fun m => 1 ≤ m ∧ m ≤ ms.length ∧ B (m - 1) = false) (fun m => [(0, ptr a), (1, i64 n), (2, i64 pri), (7, i64 m)]) (fun _ => [MxB a ms ts sm ws]) 1 ⟨by omega, by omega, hfirst⟩ ⟨rfl, rfl, rfl, rfl, trivial⟩ (LEnt.refl _) ?_
    rintro m ⟨hm1, hm2, hb⟩
    refine RUNM ?_
    refine TC.cP rfl (fun h2 => ?_) fun h2 => ?_
    · obtain ⟨k, hk, μ, s, hμ, hs⟩ := msGet (ms := ms) (ws := ws) (m := (m : Int)) (by omega) hl
      have hk : k = m := by omega
      subst hk
      have e1 := hstep (k - 1)
      rw [show k - 1 + 1 = k by omega, hb, Bool.false_or, mat_some (cast_get hμ), mce_some (cast_get hμ), mow_some (cast_get hμ), tkw_some hτ] at e1
      have yes : (μ.at_ = 3 ∧ μ.ce > pri ∧ (μ.ow = n ∨ τ.w = (k : Int))) → setBF ms ts n pri = (-28, (ms, ts)) := by
        intro hc
        rw [e0, if_pos (hbad k (by omega) (by rw [e1]; exact decide_eq_true hc))]
      have no : ¬ (μ.at_ = 3 ∧ μ.ce > pri ∧ (μ.ow = n ∨ τ.w = (k : Int))) → B (k + 1 - 1) = false := by
        intro hc
        rw [Nat.add_sub_cancel, e1]; exact decide_eq_false hc
      clear e0 hbad hstep e1
      refine RUNM ?_
      refine RP.nw rfl fun b => ?_
      refine RUNM ?_
      have dn : LEnt ([Cel b (splice [SV.int IntKind.i64 0, SV.int IntKind.i64 0, SV.int IntKind.i64 0, SV.slice none 0 0 1] 0 (encM (μ, s))), MxB a ms ts sm ws]) [MxB a ms ts sm ws] := LEnt.of (.c (.n .h) .e)
      refine RP.gp rfl (fun h3 => ?_) fun h3 => ?_
      · have h3 : μ.at_ = 3 := h3
        refine RUNM ?_
        refine RP.gp rfl (fun h4 => ?_) fun h4 => ?_
        · have h4 : μ.ce > pri := h4
          refine RUNM ?_
          refine RP.gq rfl (fun h5 => ?_) fun h5 => ?_
          · have h5 : ¬ μ.ow = n := h5
            refine RUNM ?_
            refine TC.cP rfl (fun h6 => ?_) fun h6 => ?_
            · rw [yes ⟨h3, h4, .inr h6⟩]
              refine RUNM ?_
              exact rt_r rfl ⟨rfl, rfl⟩ (dn.trans mx_hide)
            · refine RUNM ?_
              exact lp_n (k + 1) ⟨by omega, by omega, no fun hc => hc.2.2.elim h5 h6⟩ (by omega) ⟨rfl, rfl, rfl, rfl, trivial⟩ dn
          · have h5 : μ.ow = n := h5
            rw [yes ⟨h3, h4, .inl h5⟩]
            refine RUNM ?_
            exact rt_r rfl ⟨rfl, rfl⟩ (dn.trans mx_hide)
        · have h4 : ¬ μ.ce > pri := h4
          refine RUNM ?_
          exact lp_n (k + 1) ⟨by omega, by omega, no fun hc => h4 hc.2.1⟩ (by omega) ⟨rfl, rfl, rfl, rfl, trivial⟩ dn
      · have h3 : ¬ μ.at_ = 3 := h3
        refine RUNM ?_
        exact lp_n (k + 1) ⟨by omega, by omega, no fun hc => h3 hc.1⟩ (by omega) ⟨rfl, rfl, rfl, rfl, trivial⟩ dn
    · have : m = ms.length := by omega
      subst this
      refine RUNM ?_
      exact md_n () hb ⟨rfl, rfl, rfl, trivial⟩ (LEnt.refl _)
  · rintro _ hB
    rw [e0, if_neg (by rw [hB]; simp)]
    clear e0 hbad hstep
    refine RUNM ?_
    refine RP.s rfl rfl rfl rfl (by refine Stw.mt ({ τ with b := pri }) hτ ?_ ?_ <;> rfl) ?_
    rw [← setb_some hτ]
    refine RUNM ?_
    refine RP.ent mx_hide ?_
    refine RP.c rfl (settle_tri hi.v) (.c .h .e) rfl ?_
    rintro v P' ⟨rfl, rfl⟩
    refine RUNM ?_
    exact rt_r rfl ⟨rfl, rfl⟩ (LEnt.refl _)

theorem drop_tri (hi : MuI ms ts) (n : Int) : Tri tab mext F.mtx_All_Drop [ptr a, i64 n] [MxA a ms ts] fun v P' => v = bl (dropF ms ts n).1 ∧ P' = [MxA a (dropF ms ts n).2.1 (dropF ms ts n).2.2] := by
  refine Tri.go tab_mtx_All_Drop rfl ?_
  refine TC.mx fun sm ws hl ht => ?_
  have hz : (ms.zip ws).length = ms.length := by rw [List.length_zip]; omega
  refine RUNM ?_
  refine RP.bx rfl rfl rfl fun b => ?_
  refine RUNM ?_
  refine RP.c rfl (mIs_tri n) .e rfl ?_
  rintro v P' ⟨rfl, rfl⟩
  refine RUNM ?_
  refine RP.g rfl (fun h => ?_) (fun h => ?_)
  rotate_left
  · have h := notd h
    have e : dropF ms ts n = (false, (ms, ts)) := by rw [dropF, if_pos (.inl h)]
    rw [e]
    refine RUNM ?_
    exact rt_r rfl ⟨rfl, rfl⟩ (LEnt.trans (LEnt.of (.c (.n .h) .e)) mx_hide)
  have hn := yesd h
  obtain ⟨τ, hτ⟩ := tsGet ht hn
  have hw := hi.t τ (List.mem_of_getElem? hτ)
  have e0 : dropF ms ts n = if τ.w = 0 then (false, (ms, ts)) else (true, settleF (muW ms τ.w.toNat fun μ => μ.w.filter (fun w => decide (w ≠ n))) (setw ts n 0)) := by
    rw [dropF, tkw_some hτ]
    by_cases h0 : τ.w = 0
    · rw [if_pos (.inr h0), if_pos h0]
    · rw [if_neg (fun hc => hc.elim (fun hc => hc hn) h0), if_neg h0]
  refine RP.ent (L' := [MxB a ms ts sm ws, Cel b [.int .i64 n]]) (LEnt.of (.c (.n .h) (.c .h .e))) ?_
  refine RUNM ?_
  refine TC.cP rfl (fun h1 => ?_) fun h1 => ?_
  · rw [e0, if_pos h1]
    clear e0
    refine RUNM ?_
    exact rt_r rfl ⟨rfl, rfl⟩ (LEnt.trans (LEnt.of (.c .h .e)) mx_hide)
  rw [if_neg h1] at e0
  rw [e0]
  clear e0
  have h1 : ¬ τ.w = 0 := h1
  obtain ⟨k, hk, μ, s, hμ, hs⟩ := msGet (ms := ms) (ws := ws) (m := τ.w) (by omega) hl
  obtain rfl : k = τ.w.toNat := by omega
  have hmem := List.mem_of_getElem? hμ
  have hw16 := nodup_le16 (hi.v.nd μ hmem) (hi.v.w μ hmem)
  have hv2 : MuV (muW ms τ.w.toNat fun μ => μ.w.filter (fun w => decide (w ≠ n))) := hi.v.of fun μ hμ => ⟨fun w hw => hi.v.w μ (List.mem_of_getElem? hμ) w (List.mem_filter.1 hw).1, (hi.v.nd μ (List.mem_of_getElem? hμ)).filter _⟩
  have e2 : ms.set τ.w.toNat { μ with w := μ.w.filter (fun w => decide (w ≠ n)) } = muW ms τ.w.toNat fun μ => μ.w.filter (fun w => decide (w ≠ n)) := by rw [muW_some hμ]
  rw [← e2] at hv2 ⊢
  clear e2
  refine RUNM ?_
  refine RP.ent (mx_out hμ hs) ?_
  refine RP.c rfl (xDeleteFunc_tri s μ.w (by omega) _ _ n (Cel b [.int .i64 n]) (fun w => drop1_tri w n b)) (.c .h (.c (.n .h) .e)) rfl ?_
  rintro v P' ⟨s', rfl, rfl⟩
  refine RUNM ?_
  refine RP.ent (L' := [Row encI 1 s' (μ.w.filter (fun w => decide (w ≠ n))), MxO τ.w.toNat a ms ts sm ws, Cel b [.int .i64 n]]) (LEnt.of (.c .h (.c (.n .h) (.c .h .e)))) ?_
  refine RP.s rfl rfl rfl rfl (Stw.mo hμ hs) ?_
  refine RUNM ?_
  refine RP.s rfl rfl rfl rfl (by refine Stw.mt ({ τ with w := 0 }) hτ ?_ ?_ <;> rfl) ?_
  rw [← setw_some hτ]
  refine RUNM ?_
  refine RP.ent (LEnt.trans (LEnt.of (.c .h .e)) mx_hide) ?_
  refine RP.c rfl (settle_tri hv2) (.c .h .e) rfl ?_
  rintro v P' ⟨rfl, rfl⟩
  refine RUNM ?_
  exact rt_r rfl ⟨rfl, rfl⟩ (LEnt.refl _)
end
end Go.AM

/-
  mtx: New, Held, Free.
-/
namespace Go.AM
set_option maxHeartbeats 8000000
attribute [local irreducible] sq bk lpK mdx rt TC RP WK Cel Ro Row Fre RowsA RowsBut

def encK (k : Int × Int) : List SV := [.int .i64 k.1, .int .i64 k.2]
def rightF (k : Int × Int) : Bool := if k.1 = 0 ∨ k.1 = 1 ∨ k.1 = 2 then decide (k.2 = 0) else if k.1 = 3 then decide (1 ≤ k.2 ∧ k.2 ≤ 16) else false
def mu0 : Mu := ⟨0, 0, 0, []⟩
def muK (k : Int × Int) : Mu := ⟨k.1, k.2, 0, []⟩
def tk0 : Tk := ⟨16, 16, 0⟩
def nilS : SV := .slice none 0 0 1

section
variable {a : Nat} {ms : List Mu} {ts : List Tk} {sm : SV} {ws : List SV} {L : List Asr}

theorem right_tri (k : Int × Int) : Tri tab mext F.mtx_Kind_right [.agg (encK k)] [] fun v P' => v = bl (rightF k) ∧ P' = [] := by
  refine Tri.go tab_mtx_Kind_right rfl ?_
  refine RUN ?_
  refine RP.bx rfl rfl rfl fun b => ?_
  refine RUN ?_
  refine TC.mid (α := Bool) (fun p => p = decide (k.1 = 0 ∨ k.1 = 1 ∨ k.1 = 2)) (fun p => [(1, .s (.ptr (some (b, 0)))), (2, bl false), (4, i64 k.1), (5, bl p)]) (fun _ => [Cel b (encK k)]) ?_ ?_
  · refine TC.cP rfl (fun h1 => ?_) fun h1 => ?_
    · refine RUN ?_
      exact md_n _ (by simp [h1]) ⟨rfl, rfl, rfl, rfl, trivial⟩ (LEnt.refl _)
    · refine RUN ?_
      refine TC.cP rfl (fun h2 => ?_) fun h2 => ?_
      · refine RUN ?_
        exact md_n _ (by simp [h2]) ⟨rfl, rfl, rfl, rfl, trivial⟩ (LEnt.refl _)
      · refine RUN ?_
        exact md_n _ (by simp [h1, h2]) ⟨rfl, rfl, rfl, rfl, trivial⟩ (LEnt.refl _)
  rintro p rfl
  refine RUN ?_
  refine TC.cP rfl (fun h => ?_) fun h => ?_
  · refine RUN ?_
    exact rt_r rfl ⟨by rw [rightF, if_pos h], rfl⟩ (LEnt.of .e)
  · refine RUN ?_
    refine TC.cP rfl (fun h3 => ?_) fun h3 => ?_
    · refine RUN ?_
      refine RP.c rfl (mMay_tri k.2) .e rfl ?_
      rintro v P' ⟨rfl, rfl⟩
      refine RUN ?_
      exact rt_r rfl ⟨by rw [rightF, if_neg h, if_pos h3], rfl⟩ (LEnt.of .e)
    · refine RUN ?_
      exact rt_r rfl ⟨by rw [rightF, if_neg h, if_neg h3], rfl⟩ (LEnt.of .e)

theorem rows_nil : ∀ (n : Nat) {L : List Asr}, LEnt L (RowsA (List.replicate n nilS) (List.replicate n []) :: L) := fun n L ρ H R hs => by
  unfold RowsA
  refine Sat.mkAll ?_
  induction n with
  | zero => simpa [rowsL] using hs
  | succ n ih =>
    simp only [rowsL, List.replicate_succ, List.zipWith_cons_cons, List.cons_append]
    exact Sat.mkNil ih 1
theorem map_zip_rep {α β : Type} : ∀ (l : List α) (c : β), (l.map fun x => (x, c)) = l.zip (List.replicate l.length c)
  | [], _ => rfl
  | x :: l, c => by rw [List.map_cons, map_zip_rep l c]; rfl
theorem new_tri (s : SV) (ks : List (Int × Int)) : Tri tab mext F.mtx_New [.s s] [Row encK 2 s ks] fun v P' =>
    (8 < ks.length ∨ ¬ (∀ k ∈ ks, rightF k = true)) ∧ v = .tup [.s (.ptr none), .s (.int .i64 (-17))] ∧ P' = [] ∨
    (ks.length ≤ 8 ∧ ∀ k ∈ ks, rightF k = true) ∧ ∃ a, v = .tup [.s (.ptr (some (a, 0))), .s (.int .i64 0)] ∧ P' = [MxA a (mu0 :: ks.map muK) (List.replicate 17 tk0), Row encK 2 s ks] := by
  refine Tri.go tab_mtx_New rfl ?_
  refine RUN ?_
  refine TC.cP rfl (fun h => ?_) fun h => ?_
  · refine RUN ?_
    exact rt_r (resE2 rfl rfl) (.inl ⟨.inl (by omega), rfl, rfl⟩) (LEnt.of .e)
  · have h : ks.length ≤ 8 := by omega
    refine RUN ?_
    refine RP.mk rfl rfl (mkA_ok (l := 1) (c := ks.length + 1) (by omega) (by omega) (by omega) rfl) rfl fun b => ?_
    refine RP.ent (row_made (enc := encM) (k := 4) (c := ks.length + 1) (r := [(mu0, nilS)]) rfl (by rw [rep_length]; simp) (by simp)) ?_
    refine RUN ?_
    refine RP.bx rfl rfl rfl fun a => ?_
    refine RUN ?_
    refine TC.midb (α := SV) (fun _ => ∀ k ∈ ks, rightF k = true) (fun sm => [(2, .s (.ptr none)), (3, i64 0), (4, ptr a)]) (fun sm => [Cel a ([sm] ++ (flat encT (List.replicate 17 ⟨0, 0, 0⟩) ++ [])), Row encM 4 sm ((mu0 :: ks.map muK).map fun μ => (μ, nilS)), Row encK 2 s ks]) ?_ ?_
    · refine TC.loop (fun q : Nat × SV => ks.length - q.1) (fun q => q.1 ≤ ks.length ∧ ∀ k ∈ ks.take q.1, rightF k = true) (fun q => [(2, .s (.ptr none)), (3, i64 0), (4, ptr a), (17, .s s), (18, i64 ks.length), (19, i64 q.1)]) (fun q => [Cel a ([q.2] ++ (flat encT (List.replicate 17 ⟨0, 0, 0⟩) ++ [])), Row encM 4 q.2 ((mu0 :: (ks.take q.1).map muK).map fun μ => (μ, nilS)), Row encK 2 s ks]) (0, .slice (some (b, 0)) 1 (ks.length + 1) 4) ⟨by omega, by simp⟩ ⟨rfl, rfl, rfl, rfl, rfl, rfl, trivial⟩ (LEnt.refl _) ?_
      rintro ⟨i, sm⟩ ⟨h1, h2⟩
      dsimp only at h1 h2 ⊢
      refine RUN ?_
      refine TC.cP rfl (fun h3 => ?_) fun h3 => ?_
      · obtain ⟨k, hk⟩ : ∃ k, ks[i]? = some k := ⟨_, List.getElem?_eq_getElem (by omega)⟩
        refine RUN ?_
        refine RP.nw rfl fun c => ?_
        refine RUN ?_
        refine RP.c rfl (right_tri k) .e rfl ?_
        rintro v P' ⟨rfl, rfl⟩
        refine RUN ?_
        refine TC.cB rfl (fun h4 => ?_) fun h4 => ?_
        · have h4 : ¬ rightF k = true := by simpa using h4
          refine RUN ?_
          exact rt_r (resE2 rfl rfl) (.inl ⟨.inr fun hc => h4 (hc k (List.mem_of_getElem? hk)), rfl, rfl⟩) (LEnt.of .e)
        · have h4 : rightF k = true := by simpa using h4
          refine RUN ?_
          refine RP.bs rfl rfl rfl fun c2 => ?_
          refine RP.ent (L' := [Cel a ([sm] ++ (flat encT (List.replicate 17 ⟨0, 0, 0⟩) ++ [])), Row encM 4 sm ((mu0 :: (ks.take i).map muK).map fun μ => (μ, nilS)), Cel c2 (encM (muK k, nilS)), Row encK 2 s ks]) (LEnt.of (.c (.n (.n .h)) (.c (.n (.n .h)) (.c .h (.c (.n .h) .e))))) ?_
          refine RP.ap rfl rfl rfl (ap_one encM_len (.c (.n .h) (.c (.n .h) .e)) (by simp; omega)) fun sm' => ?_
          refine RUN ?_
          have e : ((mu0 :: (ks.take (i + 1)).map muK).map fun μ => (μ, nilS)) = ((mu0 :: (ks.take i).map muK).map fun μ => (μ, nilS)) ++ [(muK k, nilS)] := by
            rw [List.take_add_one, hk]; simp
          refine lp_n (i + 1, sm') ⟨by simp only; omega, ?_⟩ (by simp only; omega) ⟨rfl, rfl, rfl, rfl, rfl, rfl, trivial⟩ ?_
          · intro x hx
            simp only at hx
            rw [List.take_add_one, hk] at hx
            rcases List.mem_append.1 hx with hx | hx
            · exact h2 x hx
            · simp at hx; rw [hx]; exact h4
          · simp only
            rw [e]
            exact LEnt.of (.c (.n .h) (.c .h (.c .h .e)))
      · have : i = ks.length := by omega
        subst this
        rw [List.take_length] at h2
        rw [List.take_length]
        refine RUN ?_
        exact md_n sm h2 ⟨rfl, rfl, rfl, trivial⟩ (LEnt.refl _)
    · intro sm hr
      refine RUN ?_
      refine TC.loop (fun i : Nat => 17 - i) (fun i => i ≤ 17) (fun i => [(2, .s (.ptr none)), (3, i64 0), (4, ptr a), (38, i64 i)]) (fun i => [Cel a ([sm] ++ (flat encT (List.replicate i tk0 ++ List.replicate (17 - i) ⟨0, 0, 0⟩) ++ [])), Row encM 4 sm ((mu0 :: ks.map muK).map fun μ => (μ, nilS)), Row encK 2 s ks]) 0 (by omega) ⟨rfl, rfl, rfl, rfl, trivial⟩ (LEnt.refl _) ?_
      intro i hi
      refine RUN ?_
      refine TC.cP rfl (fun h3 => ?_) fun h3 => ?_
      · refine RUN ?_
        refine RP.s rfl rfl rfl rfl (Stw.ae (c := 1) (pre := [sm]) rfl encT_len tk0 (by simp; omega)) ?_
        have e : (List.replicate i tk0 ++ List.replicate (17 - i) (⟨0, 0, 0⟩ : Tk)).set i tk0 = List.replicate (i + 1) tk0 ++ List.replicate (17 - (i + 1)) (⟨0, 0, 0⟩ : Tk) := by
          rw [List.set_append_right _ _ (by simp), List.length_replicate, Nat.sub_self, show 17 - i = (17 - (i + 1)) + 1 by omega, List.replicate_succ, List.set_cons_zero, List.replicate_succ', List.append_assoc]
          rfl
        rw [e]
        refine RUN ?_
        exact lp_n (i + 1) (by omega) (by omega) ⟨rfl, rfl, rfl, rfl, trivial⟩ (LEnt.refl _)
      · have : i = 17 := by omega
        subst this
        refine RUN ?_
        refine rt_r (resE2 rfl rfl) (.inr ⟨⟨h, hr⟩, a, rfl, rfl⟩) ?_
        have e1 : (mu0 :: ks.map muK).map Mu.w = List.replicate (ks.length + 1) [] := by
          rw [List.map_cons, List.map_map, List.replicate_succ]
          congr 1
          rw [List.eq_replicate_iff]
          exact ⟨by simp, fun x hx => by obtain ⟨y, _, rfl⟩ := List.mem_map.1 hx; rfl⟩
        have e2 : ((mu0 :: ks.map muK).map fun μ => (μ, nilS)) = (mu0 :: ks.map muK).zip (List.replicate (ks.length + 1) nilS) := by
          have := map_zip_rep (mu0 :: ks.map muK) nilS
          simpa using this
        intro ρ H R hs
        have h5 := rows_nil (ks.length + 1) (L := []) ρ H _ hs
        rw [e2] at h5
        have h6 : Sat ρ H (MxB a (mu0 :: ks.map muK) (List.replicate 17 tk0) sm (List.replicate (ks.length + 1) nilS) :: Row encK 2 s ks :: R) := by
          refine Sat.mxClose (by simp) (by simp) ?_
          rw [e1]
          exact Sat.re h5 [1, 2, 0] (by simp) (by decide)
        exact mx_hide (L := []) ρ H _ h6
end
end Go.AM
