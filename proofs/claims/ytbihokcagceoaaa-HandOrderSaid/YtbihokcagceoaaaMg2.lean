/-
  The code of the functions, as the abstract machine has it; it is the program's.
-/
import Derived.Test.YtbihokcagceoaaaMg1
import Derived.Test.YtbihokcagceoaaaProg
import Derived.KernelRfl
set_option maxRecDepth 100000
namespace Go.AM.R
open Go.AM
def detentlaw20_HandCycles_l0 : RC :=
  RC.seq (RC.seq (RC.region 4 [
    ⟨(some 80), .move (.t 16), none, 0, []⟩,
    ⟨(some 81), .move (.t 13), none, 1, []⟩,
    ⟨(some 82), .len (.t 81), none, 2, []⟩,
    ⟨(some 83), .bin .lss (.t 80) (.t 82), none, 3, []⟩]) (RC.cond (.t 83) (RC.skip) (RC.exit 2))) (RC.seq (RC.block 3 (RC.seq (RC.seq (RC.region 28 [
    ⟨(some 86), .move (.t 13), none, 0, []⟩,
    ⟨(some 87), .move (.t 16), none, 1, []⟩,
    ⟨(some 88), .indexSl 3 (.t 86) (.t 87), none, 2, []⟩,
    ⟨(some 89), .fieldAddr 0 (.t 88), none, 3, []⟩,
    ⟨(some 90), .load none (.t 89), none, 4, []⟩,
    ⟨(some 91), .un .not (.t 90), none, 5, []⟩,
    ⟨(some 92), .move (.t 91), none, 6, []⟩,
    ⟨(some 93), .move (.t 13), (some (92, false)), 7, []⟩,
    ⟨(some 94), .move (.t 16), (some (92, false)), 8, []⟩,
    ⟨(some 95), .indexSl 3 (.t 93) (.t 94), (some (92, false)), 9, []⟩,
    ⟨(some 96), .fieldAddr 1 (.t 95), (some (92, false)), 10, []⟩,
    ⟨(some 97), .load none (.t 96), (some (92, false)), 11, []⟩,
    ⟨(some 98), .bin .neq (.t 97) (.c (.s (.int .i64 1))), (some (92, false)), 12, []⟩,
    ⟨(some 99), .pick (.t 92) (.c (.s (.bool true))) (.t 98), none, 13, []⟩,
    ⟨(some 100), .move (.t 99), none, 14, []⟩,
    ⟨(some 101), .move (.t 13), (some (100, false)), 15, []⟩,
    ⟨(some 102), .move (.t 16), (some (100, false)), 16, []⟩,
    ⟨(some 103), .indexSl 3 (.t 101) (.t 102), (some (100, false)), 17, []⟩,
    ⟨(some 104), .fieldAddr 2 (.t 103), (some (100, false)), 18, []⟩,
    ⟨(some 105), .load none (.t 104), (some (100, false)), 19, []⟩,
    ⟨(some 106), .move (.t 11), (some (100, false)), 20, []⟩,
    ⟨(some 107), .bin .neq (.t 105) (.t 106), (some (100, false)), 21, []⟩,
    ⟨(some 108), .pick (.t 100) (.c (.s (.bool true))) (.t 107), none, 22, []⟩,
    ⟨(some 109), .move (.t 108), none, 23, []⟩,
    ⟨(some 110), .move (.t 11), (some (109, false)), 24, []⟩,
    ⟨(some 111), .move (.t 15), (some (109, false)), 25, []⟩,
    ⟨(some 112), .bin .gtr (.t 110) (.t 111), (some (109, false)), 26, []⟩,
    ⟨(some 113), .pick (.t 109) (.c (.s (.bool true))) (.t 112), none, 27, []⟩]) (RC.cond (.t 113) (RC.seq (RC.region 1 [
    ⟨(some 8), .move (.c (.s (.bool false))), none, 0, []⟩]) (RC.ret)) (RC.skip))) (RC.region 5 [
    ⟨(some 114), .move (.t 11), none, 0, []⟩,
    ⟨(some 115), .move (.t 1), none, 1, []⟩,
    ⟨(some 116), .conv .u64 (.t 115), none, 2, []⟩,
    ⟨(some 117), .bin .add (.t 114) (.t 116), none, 3, []⟩,
    ⟨(some 11), .move (.t 117), none, 4, []⟩]))) (RC.region 3 [
    ⟨(some 84), .move (.t 16), none, 0, []⟩,
    ⟨(some 85), .bin .add (.t 84) (.c (.s (.int .i64 1))), none, 1, []⟩,
    ⟨(some 16), .move (.t 85), none, 2, []⟩]))
def detentlaw20_HandCycles_s1 : RC :=
  RC.seq (RC.region 3 [
    ⟨(some 118), .move (.t 11), none, 0, []⟩,
    ⟨(some 119), .move (.t 15), none, 1, []⟩,
    ⟨(some 120), .bin .leq (.t 118) (.t 119), none, 2, []⟩]) (RC.cond (.t 120) (RC.seq (RC.region 1 [
    ⟨(some 8), .move (.c (.s (.bool false))), none, 0, []⟩]) (RC.ret)) (RC.skip))
def detentlaw20_HandCycles_s2 : RC :=
  RC.region 3 [
    ⟨(some 69), .move (.t 12), none, 0, []⟩,
    ⟨(some 70), .bin .add (.t 69) (.c (.s (.int .i64 1))), none, 1, []⟩,
    ⟨(some 12), .move (.t 70), none, 2, []⟩]
def detentlaw20_HandCycles_l3 : RC :=
  RC.seq (RC.seq (RC.region 3 [
    ⟨(some 66), .move (.t 12), none, 0, []⟩,
    ⟨(some 67), .move (.t 3), none, 1, []⟩,
    ⟨(some 68), .bin .leq (.t 66) (.t 67), none, 2, []⟩]) (RC.cond (.t 68) (RC.skip) (RC.exit 0))) (RC.seq (RC.block 1 (RC.seq (RC.region 7 [
    ⟨(some 72), .move (.t 9), none, 0, []⟩,
    ⟨(some 73), .call F.cyc_Hands_Pass [(.t 72)], none, 1, []⟩,
    ⟨(some 71), .move (.t 73), none, 2, []⟩,
    ⟨(some 74), .extract 0 (.t 71), none, 3, []⟩,
    ⟨(some 75), .extract 1 (.t 71), none, 4, []⟩,
    ⟨(some 13), .move (.t 74), none, 5, []⟩,
    ⟨(some 14), .move (.t 75), none, 6, []⟩]) (RC.seq (RC.region 5 [
    ⟨(some 76), .move (.t 12), none, 0, []⟩,
    ⟨(some 77), .move (.t 0), none, 1, []⟩,
    ⟨(some 78), .bin .mul (.t 76) (.t 77), none, 2, []⟩,
    ⟨(some 79), .conv .u64 (.t 78), none, 3, []⟩,
    ⟨(some 15), .move (.t 79), none, 4, []⟩]) (RC.seq (RC.seq (RC.region 1 [
    ⟨(some 16), .move (.c (.s (.int .i64 0))), none, 0, []⟩]) (RC.block 2 (RC.loop R.detentlaw20_HandCycles_l0))) R.detentlaw20_HandCycles_s1)))) R.detentlaw20_HandCycles_s2)
def detentlaw20_HandCycles_s4 : RC :=
  RC.seq (RC.region 1 [
    ⟨(some 8), .move (.c (.s (.bool true))), none, 0, []⟩]) (RC.ret)
def detentlaw20_HandCycles : RFunc := RFunc.mk 121 [.tmp 8] (
  RC.seq (RC.region 1 [
    ⟨(some 8), .move (.c (.s (.bool false))), none, 0, []⟩]) (RC.seq (RC.seq (RC.region 2 [
    ⟨(some 17), .call F.detentlaw20_known [], none, 0, []⟩,
    ⟨(some 18), .un .not (.t 17), none, 1, []⟩]) (RC.cond (.t 18) (RC.seq (RC.region 1 [
    ⟨(some 8), .move (.c (.s (.bool false))), none, 0, []⟩]) (RC.ret)) (RC.skip))) (RC.seq (RC.seq (RC.region 36 [
    ⟨(some 19), .move (.t 0), none, 0, []⟩,
    ⟨(some 20), .bin .lss (.t 19) (.c (.s (.int .i64 1))), none, 1, []⟩,
    ⟨(some 21), .move (.t 20), none, 2, []⟩,
    ⟨(some 22), .move (.t 0), (some (21, false)), 3, []⟩,
    ⟨(some 23), .bin .gtr (.t 22) (.c (.s (.int .i64 100))), (some (21, false)), 4, []⟩,
    ⟨(some 24), .pick (.t 21) (.c (.s (.bool true))) (.t 23), none, 5, []⟩,
    ⟨(some 25), .move (.t 24), none, 6, []⟩,
    ⟨(some 26), .move (.t 1), (some (25, false)), 7, []⟩,
    ⟨(some 27), .bin .lss (.t 26) (.c (.s (.int .i64 1))), (some (25, false)), 8, []⟩,
    ⟨(some 28), .pick (.t 25) (.c (.s (.bool true))) (.t 27), none, 9, []⟩,
    ⟨(some 29), .move (.t 28), none, 10, []⟩,
    ⟨(some 30), .move (.t 0), (some (29, false)), 11, []⟩,
    ⟨(some 31), .move (.t 1), (some (29, false)), 12, []⟩,
    ⟨(some 32), .bin .mul (.c (.s (.int .i64 100))) (.t 31), (some (29, false)), 13, []⟩,
    ⟨(some 33), .bin .gtr (.t 30) (.t 32), (some (29, false)), 14, []⟩,
    ⟨(some 34), .pick (.t 29) (.c (.s (.bool true))) (.t 33), none, 15, []⟩,
    ⟨(some 35), .move (.t 34), none, 16, []⟩,
    ⟨(some 36), .move (.t 1), (some (35, false)), 17, []⟩,
    ⟨(some 37), .bin .gtr (.t 36) (.c (.s (.int .i64 1000))), (some (35, false)), 18, []⟩,
    ⟨(some 38), .pick (.t 35) (.c (.s (.bool true))) (.t 37), none, 19, []⟩,
    ⟨(some 39), .move (.t 38), none, 20, []⟩,
    ⟨(some 40), .move (.t 2), (some (39, false)), 21, []⟩,
    ⟨(some 41), .bin .lss (.t 40) (.c (.s (.int .i64 0))), (some (39, false)), 22, []⟩,
    ⟨(some 42), .pick (.t 39) (.c (.s (.bool true))) (.t 41), none, 23, []⟩,
    ⟨(some 43), .move (.t 42), none, 24, []⟩,
    ⟨(some 44), .move (.t 2), (some (43, false)), 25, []⟩,
    ⟨(some 45), .bin .gtr (.t 44) (.c (.s (.int .i64 1000))), (some (43, false)), 26, []⟩,
    ⟨(some 46), .pick (.t 43) (.c (.s (.bool true))) (.t 45), none, 27, []⟩,
    ⟨(some 47), .move (.t 46), none, 28, []⟩,
    ⟨(some 48), .move (.t 3), (some (47, false)), 29, []⟩,
    ⟨(some 49), .bin .lss (.t 48) (.c (.s (.int .i64 0))), (some (47, false)), 30, []⟩,
    ⟨(some 50), .pick (.t 47) (.c (.s (.bool true))) (.t 49), none, 31, []⟩,
    ⟨(some 51), .move (.t 50), none, 32, []⟩,
    ⟨(some 52), .move (.t 3), (some (51, false)), 33, []⟩,
    ⟨(some 53), .bin .gtr (.t 52) (.c (.s (.int .i64 100))), (some (51, false)), 34, []⟩,
    ⟨(some 54), .pick (.t 51) (.c (.s (.bool true))) (.t 53), none, 35, []⟩]) (RC.cond (.t 54) (RC.seq (RC.region 1 [
    ⟨(some 8), .move (.c (.s (.bool true))), none, 0, []⟩]) (RC.ret)) (RC.skip))) (RC.seq (RC.region 7 [
    ⟨(some 56), .move (.t 0), none, 0, []⟩,
    ⟨(some 57), .call F.cyc_NewHands [(.t 56)], none, 1, []⟩,
    ⟨(some 55), .move (.t 57), none, 2, []⟩,
    ⟨(some 58), .extract 0 (.t 55), none, 3, []⟩,
    ⟨(some 59), .extract 1 (.t 55), none, 4, []⟩,
    ⟨(some 9), .move (.t 58), none, 5, []⟩,
    ⟨(some 10), .move (.t 59), none, 6, []⟩]) (RC.seq (RC.region 4 [
    ⟨(some 60), .move (.t 9), none, 0, []⟩,
    ⟨(some 61), .move (.t 1), none, 1, []⟩,
    ⟨(some 62), .move (.t 2), none, 2, []⟩,
    ⟨(some 63), .call F.cyc_Hands_Cyclic [(.t 60), (.t 61), (.t 62), (.c (.s (.bool true))), (.c (.s (.bool true)))], none, 3, []⟩]) (RC.seq (RC.region 3 [
    ⟨(some 64), .move (.t 2), none, 0, []⟩,
    ⟨(some 65), .conv .u64 (.t 64), none, 1, []⟩,
    ⟨(some 11), .move (.t 65), none, 2, []⟩]) (RC.seq (RC.seq (RC.region 1 [
    ⟨(some 12), .move (.c (.s (.int .i64 1))), none, 0, []⟩]) (RC.block 0 (RC.loop R.detentlaw20_HandCycles_l3))) R.detentlaw20_HandCycles_s4)))))))
theorem detentlaw20_HandCycles_ok : chkFunc Go.Proofs.Try.prog [] Go.Proofs.Try.f3 detentlaw20_HandCycles = true := by kernel_rfl
def detentlaw20_HandOrder_l0 : RC :=
  RC.seq (RC.seq (RC.region 4 [
    ⟨(some 30), .move (.t 7), none, 0, []⟩,
    ⟨(some 31), .move (.t 0), none, 1, []⟩,
    ⟨(some 32), .len (.t 31), none, 2, []⟩,
    ⟨(some 33), .bin .lss (.t 30) (.t 32), none, 3, []⟩]) (RC.cond (.t 33) (RC.skip) (RC.exit 0))) (RC.seq (RC.block 1 (RC.region 13 [
    ⟨(some 36), .move (.t 5), none, 0, []⟩,
    ⟨(some 37), .move (.t 0), none, 1, []⟩,
    ⟨(some 38), .move (.t 7), none, 2, []⟩,
    ⟨(some 39), .indexSl 1 (.t 37) (.t 38), none, 3, []⟩,
    ⟨(some 40), .load none (.t 39), none, 4, []⟩,
    ⟨(some 41), .conv .i64 (.t 40), none, 5, []⟩,
    ⟨(some 42), .bin .add (.c (.s (.int .i64 20))) (.t 41), none, 6, []⟩,
    ⟨(some 43), .move (.t 0), none, 7, []⟩,
    ⟨(some 44), .move (.t 7), none, 8, []⟩,
    ⟨(some 45), .indexSl 1 (.t 43) (.t 44), none, 9, []⟩,
    ⟨(some 46), .load none (.t 45), none, 10, []⟩,
    ⟨(some 47), .conv .i64 (.t 46), none, 11, []⟩,
    ⟨(some 48), .call F.cyc_Hands_Cyclic [(.t 36), (.t 42), (.t 47), (.c (.s (.bool true))), (.c (.s (.bool false)))], none, 12, []⟩])) (RC.region 3 [
    ⟨(some 34), .move (.t 7), none, 0, []⟩,
    ⟨(some 35), .bin .add (.t 34) (.c (.s (.int .i64 1))), none, 1, []⟩,
    ⟨(some 7), .move (.t 35), none, 2, []⟩]))
def detentlaw20_HandOrder_l1 : RC :=
  RC.seq (RC.seq (RC.region 4 [
    ⟨(some 49), .move (.t 8), none, 0, []⟩,
    ⟨(some 50), .move (.t 1), none, 1, []⟩,
    ⟨(some 51), .len (.t 50), none, 2, []⟩,
    ⟨(some 52), .bin .lss (.t 49) (.t 51), none, 3, []⟩]) (RC.cond (.t 52) (RC.skip) (RC.exit 2))) (RC.seq (RC.block 3 (RC.seq (RC.region 2 [
    ⟨(some 55), .move (.t 5), none, 0, []⟩,
    ⟨(some 56), .call F.cyc_Hands_Alarm [(.t 55)], none, 1, []⟩]) (RC.region 9 [
    ⟨(some 57), .move (.t 5), none, 0, []⟩,
    ⟨(some 58), .move (.t 8), none, 1, []⟩,
    ⟨(some 59), .bin .add (.t 58) (.c (.s (.int .i64 1))), none, 2, []⟩,
    ⟨(some 60), .move (.t 1), none, 3, []⟩,
    ⟨(some 61), .move (.t 8), none, 4, []⟩,
    ⟨(some 62), .indexSl 1 (.t 60) (.t 61), none, 5, []⟩,
    ⟨(some 63), .load none (.t 62), none, 6, []⟩,
    ⟨(some 64), .conv .i64 (.t 63), none, 7, []⟩,
    ⟨(some 65), .call F.cyc_Hands_Set [(.t 57), (.t 59), (.t 64)], none, 8, []⟩]))) (RC.region 3 [
    ⟨(some 53), .move (.t 8), none, 0, []⟩,
    ⟨(some 54), .bin .add (.t 53) (.c (.s (.int .i64 1))), none, 1, []⟩,
    ⟨(some 8), .move (.t 54), none, 2, []⟩]))
def detentlaw20_HandOrder_l2 : RC :=
  RC.seq (RC.seq (RC.region 4 [
    ⟨(some 75), .move (.t 12), none, 0, []⟩,
    ⟨(some 76), .move (.t 10), none, 1, []⟩,
    ⟨(some 77), .len (.t 76), none, 2, []⟩,
    ⟨(some 78), .bin .lss (.t 75) (.t 77), none, 3, []⟩]) (RC.cond (.t 78) (RC.skip) (RC.exit 6))) (RC.seq (RC.block 7 (RC.seq (RC.region 7 [
    ⟨(some 81), .move (.t 10), none, 0, []⟩,
    ⟨(some 82), .move (.t 12), none, 1, []⟩,
    ⟨(some 83), .bin .sub (.t 82) (.c (.s (.int .i64 1))), none, 2, []⟩,
    ⟨(some 84), .indexSl 3 (.t 81) (.t 83), none, 3, []⟩,
    ⟨(some 85), .load (some 3) (.t 84), none, 4, []⟩,
    ⟨(some 13), .newc [.bool false, .int .i64 0, .int .u64 0], none, 5, []⟩,
    ⟨none, .store 3 (.t 13) (.t 85), none, 6, []⟩]) (RC.seq (RC.region 6 [
    ⟨(some 86), .move (.t 10), none, 0, []⟩,
    ⟨(some 87), .move (.t 12), none, 1, []⟩,
    ⟨(some 88), .indexSl 3 (.t 86) (.t 87), none, 2, []⟩,
    ⟨(some 89), .load (some 3) (.t 88), none, 3, []⟩,
    ⟨(some 14), .newc [.bool false, .int .i64 0, .int .u64 0], none, 4, []⟩,
    ⟨none, .store 3 (.t 14) (.t 89), none, 5, []⟩]) (RC.seq (RC.region 35 [
    ⟨(some 90), .fieldAddr 2 (.t 13), none, 0, []⟩,
    ⟨(some 91), .load none (.t 90), none, 1, []⟩,
    ⟨(some 92), .fieldAddr 2 (.t 14), none, 2, []⟩,
    ⟨(some 93), .load none (.t 92), none, 3, []⟩,
    ⟨(some 94), .bin .gtr (.t 91) (.t 93), none, 4, []⟩,
    ⟨(some 95), .move (.t 94), none, 5, []⟩,
    ⟨(some 96), .fieldAddr 2 (.t 13), (some (95, false)), 6, []⟩,
    ⟨(some 97), .load none (.t 96), (some (95, false)), 7, []⟩,
    ⟨(some 98), .fieldAddr 2 (.t 14), (some (95, false)), 8, []⟩,
    ⟨(some 99), .load none (.t 98), (some (95, false)), 9, []⟩,
    ⟨(some 100), .bin .eql (.t 97) (.t 99), (some (95, false)), 10, []⟩,
    ⟨(some 101), .move (.t 100), (some (95, false)), 11, []⟩,
    ⟨(some 102), .fieldAddr 0 (.t 13), (some (101, true)), 12, []⟩,
    ⟨(some 103), .load none (.t 102), (some (101, true)), 13, []⟩,
    ⟨(some 104), .un .not (.t 103), (some (101, true)), 14, []⟩,
    ⟨(some 105), .move (.t 104), (some (101, true)), 15, []⟩,
    ⟨(some 106), .fieldAddr 0 (.t 14), (some (105, true)), 16, []⟩,
    ⟨(some 107), .load none (.t 106), (some (105, true)), 17, []⟩,
    ⟨(some 108), .pick (.t 105) (.t 107) (.c (.s (.bool false))), (some (101, true)), 18, []⟩,
    ⟨(some 109), .move (.t 108), (some (101, true)), 19, []⟩,
    ⟨(some 110), .fieldAddr 0 (.t 13), (some (109, false)), 20, []⟩,
    ⟨(some 111), .load none (.t 110), (some (109, false)), 21, []⟩,
    ⟨(some 112), .fieldAddr 0 (.t 14), (some (109, false)), 22, []⟩,
    ⟨(some 113), .load none (.t 112), (some (109, false)), 23, []⟩,
    ⟨(some 114), .eqs .bool false (.t 111) (.t 113), (some (109, false)), 24, []⟩,
    ⟨(some 115), .move (.t 114), (some (109, false)), 25, []⟩,
    ⟨(some 116), .fieldAddr 1 (.t 13), (some (115, true)), 26, []⟩,
    ⟨(some 117), .load none (.t 116), (some (115, true)), 27, []⟩,
    ⟨(some 118), .fieldAddr 1 (.t 14), (some (115, true)), 28, []⟩,
    ⟨(some 119), .load none (.t 118), (some (115, true)), 29, []⟩,
    ⟨(some 120), .bin .geq (.t 117) (.t 119), (some (115, true)), 30, []⟩,
    ⟨(some 121), .pick (.t 115) (.t 120) (.c (.s (.bool false))), (some (109, false)), 31, []⟩,
    ⟨(some 122), .pick (.t 109) (.c (.s (.bool true))) (.t 121), (some (101, true)), 32, []⟩,
    ⟨(some 123), .pick (.t 101) (.t 122) (.c (.s (.bool false))), (some (95, false)), 33, []⟩,
    ⟨(some 124), .pick (.t 95) (.c (.s (.bool true))) (.t 123), none, 34, []⟩]) (RC.cond (.t 124) (RC.seq (RC.region 1 [
    ⟨(some 4), .move (.c (.s (.bool false))), none, 0, []⟩]) (RC.ret)) (RC.skip)))))) (RC.region 3 [
    ⟨(some 79), .move (.t 12), none, 0, []⟩,
    ⟨(some 80), .bin .add (.t 79) (.c (.s (.int .i64 1))), none, 1, []⟩,
    ⟨(some 12), .move (.t 80), none, 2, []⟩]))
def detentlaw20_HandOrder_l3 : RC :=
  RC.seq (RC.seq (RC.region 4 [
    ⟨(some 125), .move (.t 15), none, 0, []⟩,
    ⟨(some 126), .move (.t 10), none, 1, []⟩,
    ⟨(some 127), .len (.t 126), none, 2, []⟩,
    ⟨(some 128), .bin .lss (.t 125) (.t 127), none, 3, []⟩]) (RC.cond (.t 128) (RC.skip) (RC.exit 8))) (RC.seq (RC.block 9 (RC.seq (RC.region 25 [
    ⟨(some 131), .move (.t 10), none, 0, []⟩,
    ⟨(some 132), .move (.t 15), none, 1, []⟩,
    ⟨(some 133), .indexSl 3 (.t 131) (.t 132), none, 2, []⟩,
    ⟨(some 134), .fieldAddr 2 (.t 133), none, 3, []⟩,
    ⟨(some 135), .load none (.t 134), none, 4, []⟩,
    ⟨(some 136), .move (.t 5), none, 5, []⟩,
    ⟨(some 137), .nilCheck (.t 136), none, 6, []⟩,
    ⟨(some 138), .fieldAddr 0 (.t 137), none, 7, []⟩,
    ⟨(some 139), .load none (.t 138), none, 8, []⟩,
    ⟨(some 140), .call F.clock_Clock_Up [(.t 139)], none, 9, [⟨135, none, (.t 134), none⟩]⟩,
    ⟨(some 141), .bin .gtr (.t 135) (.t 140), none, 10, []⟩,
    ⟨(some 142), .move (.t 141), none, 11, []⟩,
    ⟨(some 143), .move (.t 10), (some (142, false)), 12, []⟩,
    ⟨(some 144), .move (.t 15), (some (142, false)), 13, []⟩,
    ⟨(some 145), .indexSl 3 (.t 143) (.t 144), (some (142, false)), 14, []⟩,
    ⟨(some 146), .fieldAddr 2 (.t 145), (some (142, false)), 15, []⟩,
    ⟨(some 147), .load none (.t 146), (some (142, false)), 16, []⟩,
    ⟨(some 148), .bin .add (.t 147) (.c (.s (.int .u64 100))), (some (142, false)), 17, []⟩,
    ⟨(some 149), .move (.t 5), (some (142, false)), 18, []⟩,
    ⟨(some 150), .nilCheck (.t 149), (some (142, false)), 19, []⟩,
    ⟨(some 151), .fieldAddr 0 (.t 150), (some (142, false)), 20, []⟩,
    ⟨(some 152), .load none (.t 151), (some (142, false)), 21, []⟩,
    ⟨(some 153), .call F.clock_Clock_Up [(.t 152)], (some (142, false)), 22, [⟨147, none, (.t 146), (some (142, false))⟩]⟩,
    ⟨(some 154), .bin .lss (.t 148) (.t 153), (some (142, false)), 23, []⟩,
    ⟨(some 155), .pick (.t 142) (.c (.s (.bool true))) (.t 154), none, 24, []⟩]) (RC.cond (.t 155) (RC.seq (RC.region 1 [
    ⟨(some 4), .move (.c (.s (.bool false))), none, 0, []⟩]) (RC.ret)) (RC.skip)))) (RC.region 3 [
    ⟨(some 129), .move (.t 15), none, 0, []⟩,
    ⟨(some 130), .bin .add (.t 129) (.c (.s (.int .i64 1))), none, 1, []⟩,
    ⟨(some 15), .move (.t 130), none, 2, []⟩]))
def detentlaw20_HandOrder_s4 : RC :=
  RC.seq (RC.region 1 [
    ⟨(some 15), .move (.c (.s (.int .i64 0))), none, 0, []⟩]) (RC.block 8 (RC.loop R.detentlaw20_HandOrder_l3))
def detentlaw20_HandOrder_s5 : RC :=
  RC.region 3 [
    ⟨(some 68), .move (.t 9), none, 0, []⟩,
    ⟨(some 69), .bin .add (.t 68) (.c (.s (.int .i64 1))), none, 1, []⟩,
    ⟨(some 9), .move (.t 69), none, 2, []⟩]
def detentlaw20_HandOrder_l6 : RC :=
  RC.seq (RC.seq (RC.region 2 [
    ⟨(some 66), .move (.t 9), none, 0, []⟩,
    ⟨(some 67), .bin .lss (.t 66) (.c (.s (.int .i64 4))), none, 1, []⟩]) (RC.cond (.t 67) (RC.skip) (RC.exit 4))) (RC.seq (RC.block 5 (RC.seq (RC.region 7 [
    ⟨(some 71), .move (.t 5), none, 0, []⟩,
    ⟨(some 72), .call F.cyc_Hands_Pass [(.t 71)], none, 1, []⟩,
    ⟨(some 70), .move (.t 72), none, 2, []⟩,
    ⟨(some 73), .extract 0 (.t 70), none, 3, []⟩,
    ⟨(some 74), .extract 1 (.t 70), none, 4, []⟩,
    ⟨(some 10), .move (.t 73), none, 5, []⟩,
    ⟨(some 11), .move (.t 74), none, 6, []⟩]) (RC.seq (RC.seq (RC.region 1 [
    ⟨(some 12), .move (.c (.s (.int .i64 1))), none, 0, []⟩]) (RC.block 6 (RC.loop R.detentlaw20_HandOrder_l2))) R.detentlaw20_HandOrder_s4))) R.detentlaw20_HandOrder_s5)
def detentlaw20_HandOrder_s7 : RC :=
  RC.seq (RC.region 1 [
    ⟨(some 4), .move (.c (.s (.bool true))), none, 0, []⟩]) (RC.ret)
def detentlaw20_HandOrder_s8 : RC :=
  RC.seq (RC.seq (RC.region 1 [
    ⟨(some 9), .move (.c (.s (.int .i64 0))), none, 0, []⟩]) (RC.block 4 (RC.loop R.detentlaw20_HandOrder_l6))) R.detentlaw20_HandOrder_s7
def detentlaw20_HandOrder_s9 : RC :=
  RC.seq (RC.seq (RC.region 1 [
    ⟨(some 8), .move (.c (.s (.int .i64 0))), none, 0, []⟩]) (RC.block 2 (RC.loop R.detentlaw20_HandOrder_l1))) R.detentlaw20_HandOrder_s8
def detentlaw20_HandOrder : RFunc := RFunc.mk 156 [.tmp 4] (
  RC.seq (RC.region 1 [
    ⟨(some 4), .move (.c (.s (.bool false))), none, 0, []⟩]) (RC.seq (RC.seq (RC.region 2 [
    ⟨(some 16), .call F.detentlaw20_known [], none, 0, []⟩,
    ⟨(some 17), .un .not (.t 16), none, 1, []⟩]) (RC.cond (.t 17) (RC.seq (RC.region 1 [
    ⟨(some 4), .move (.c (.s (.bool false))), none, 0, []⟩]) (RC.ret)) (RC.skip))) (RC.seq (RC.seq (RC.region 8 [
    ⟨(some 18), .move (.t 0), none, 0, []⟩,
    ⟨(some 19), .len (.t 18), none, 1, []⟩,
    ⟨(some 20), .bin .gtr (.t 19) (.c (.s (.int .i64 8))), none, 2, []⟩,
    ⟨(some 21), .move (.t 20), none, 3, []⟩,
    ⟨(some 22), .move (.t 1), (some (21, false)), 4, []⟩,
    ⟨(some 23), .len (.t 22), (some (21, false)), 5, []⟩,
    ⟨(some 24), .bin .gtr (.t 23) (.c (.s (.int .i64 8))), (some (21, false)), 6, []⟩,
    ⟨(some 25), .pick (.t 21) (.c (.s (.bool true))) (.t 24), none, 7, []⟩]) (RC.cond (.t 25) (RC.seq (RC.region 1 [
    ⟨(some 4), .move (.c (.s (.bool true))), none, 0, []⟩]) (RC.ret)) (RC.skip))) (RC.seq (RC.region 6 [
    ⟨(some 27), .call F.cyc_NewHands [(.c (.s (.int .i64 100)))], none, 0, []⟩,
    ⟨(some 26), .move (.t 27), none, 1, []⟩,
    ⟨(some 28), .extract 0 (.t 26), none, 2, []⟩,
    ⟨(some 29), .extract 1 (.t 26), none, 3, []⟩,
    ⟨(some 5), .move (.t 28), none, 4, []⟩,
    ⟨(some 6), .move (.t 29), none, 5, []⟩]) (RC.seq (RC.seq (RC.region 1 [
    ⟨(some 7), .move (.c (.s (.int .i64 0))), none, 0, []⟩]) (RC.block 0 (RC.loop R.detentlaw20_HandOrder_l0))) R.detentlaw20_HandOrder_s9)))))
theorem detentlaw20_HandOrder_ok : chkFunc Go.Proofs.Try.prog [] Go.Proofs.Try.f4 detentlaw20_HandOrder = true := by kernel_rfl
def detentlaw20_HandRefuses_l0 : RC :=
  RC.seq (RC.seq (RC.region 2 [
    ⟨(some 95), .move (.t 16), none, 0, []⟩,
    ⟨(some 96), .bin .leq (.t 95) (.c (.s (.int .i64 8))), none, 1, []⟩]) (RC.cond (.t 96) (RC.skip) (RC.exit 1))) (RC.seq (RC.block 2 (RC.seq (RC.region 7 [
    ⟨(some 100), .move (.t 9), none, 0, []⟩,
    ⟨(some 101), .call F.cyc_Hands_Alarm [(.t 100)], none, 1, []⟩,
    ⟨(some 99), .move (.t 101), none, 2, []⟩,
    ⟨(some 102), .extract 0 (.t 99), none, 3, []⟩,
    ⟨(some 103), .extract 1 (.t 99), none, 4, []⟩,
    ⟨(some 17), .move (.t 102), none, 5, []⟩,
    ⟨(some 18), .move (.t 103), none, 6, []⟩]) (RC.seq (RC.region 7 [
    ⟨(some 104), .move (.t 17), none, 0, []⟩,
    ⟨(some 105), .move (.t 16), none, 1, []⟩,
    ⟨(some 106), .bin .neq (.t 104) (.t 105), none, 2, []⟩,
    ⟨(some 107), .move (.t 106), none, 3, []⟩,
    ⟨(some 108), .move (.t 18), (some (107, false)), 4, []⟩,
    ⟨(some 109), .bin .neq (.t 108) (.c (.s (.int .i64 0))), (some (107, false)), 5, []⟩,
    ⟨(some 110), .pick (.t 107) (.c (.s (.bool true))) (.t 109), none, 6, []⟩]) (RC.cond (.t 110) (RC.seq (RC.region 1 [
    ⟨(some 8), .move (.c (.s (.bool false))), none, 0, []⟩]) (RC.ret)) (RC.skip))))) (RC.region 3 [
    ⟨(some 97), .move (.t 16), none, 0, []⟩,
    ⟨(some 98), .bin .add (.t 97) (.c (.s (.int .i64 1))), none, 1, []⟩,
    ⟨(some 16), .move (.t 98), none, 2, []⟩]))
def detentlaw20_HandRefuses_s1 : RC :=
  RC.seq (RC.region 7 [
    ⟨(some 112), .move (.t 9), none, 0, []⟩,
    ⟨(some 113), .call F.cyc_Hands_Alarm [(.t 112)], none, 1, []⟩,
    ⟨(some 111), .move (.t 113), none, 2, []⟩,
    ⟨(some 114), .extract 0 (.t 111), none, 3, []⟩,
    ⟨(some 115), .extract 1 (.t 111), none, 4, []⟩,
    ⟨(some 19), .move (.t 114), none, 5, []⟩,
    ⟨(some 20), .move (.t 115), none, 6, []⟩]) (RC.seq (RC.region 3 [
    ⟨(some 116), .move (.t 20), none, 0, []⟩,
    ⟨(some 117), .bin .eql (.t 116) (.c (.s (.int .i64 (-33)))), none, 1, []⟩,
    ⟨(some 8), .move (.t 117), none, 2, []⟩]) (RC.ret))
def detentlaw20_HandRefuses_s2 : RC :=
  RC.seq (RC.seq (RC.region 1 [
    ⟨(some 16), .move (.c (.s (.int .i64 2))), none, 0, []⟩]) (RC.block 1 (RC.loop R.detentlaw20_HandRefuses_l0))) R.detentlaw20_HandRefuses_s1
def detentlaw20_HandRefuses : RFunc := RFunc.mk 118 [.tmp 8] (
  RC.seq (RC.region 1 [
    ⟨(some 8), .move (.c (.s (.bool false))), none, 0, []⟩]) (RC.seq (RC.seq (RC.region 2 [
    ⟨(some 21), .call F.detentlaw20_known [], none, 0, []⟩,
    ⟨(some 22), .un .not (.t 21), none, 1, []⟩]) (RC.cond (.t 22) (RC.seq (RC.region 1 [
    ⟨(some 8), .move (.c (.s (.bool false))), none, 0, []⟩]) (RC.ret)) (RC.skip))) (RC.seq (RC.region 6 [
    ⟨(some 24), .call F.cyc_NewHands [(.c (.s (.int .i64 1)))], none, 0, []⟩,
    ⟨(some 23), .move (.t 24), none, 1, []⟩,
    ⟨(some 25), .extract 0 (.t 23), none, 2, []⟩,
    ⟨(some 26), .extract 1 (.t 23), none, 3, []⟩,
    ⟨(some 9), .move (.t 25), none, 4, []⟩,
    ⟨(some 10), .move (.t 26), none, 5, []⟩]) (RC.seq (RC.region 9 [
    ⟨(some 28), .move (.t 9), none, 0, []⟩,
    ⟨(some 29), .move (.t 0), none, 1, []⟩,
    ⟨(some 30), .move (.t 1), none, 2, []⟩,
    ⟨(some 31), .call F.cyc_Hands_Cyclic [(.t 28), (.t 29), (.t 30), (.c (.s (.bool false))), (.c (.s (.bool false)))], none, 3, []⟩,
    ⟨(some 27), .move (.t 31), none, 4, []⟩,
    ⟨(some 32), .extract 0 (.t 27), none, 5, []⟩,
    ⟨(some 33), .extract 1 (.t 27), none, 6, []⟩,
    ⟨(some 11), .move (.t 32), none, 7, []⟩,
    ⟨(some 12), .move (.t 33), none, 8, []⟩]) (RC.seq (RC.region 15 [
    ⟨(some 34), .move (.t 0), none, 0, []⟩,
    ⟨(some 35), .bin .geq (.t 34) (.c (.s (.int .i64 1))), none, 1, []⟩,
    ⟨(some 36), .move (.t 35), none, 2, []⟩,
    ⟨(some 37), .move (.t 0), (some (36, true)), 3, []⟩,
    ⟨(some 38), .bin .lss (.t 37) (.c (.s (.int .i64 2147483648))), (some (36, true)), 4, []⟩,
    ⟨(some 39), .pick (.t 36) (.t 38) (.c (.s (.bool false))), none, 5, []⟩,
    ⟨(some 40), .move (.t 39), none, 6, []⟩,
    ⟨(some 41), .move (.t 1), (some (40, true)), 7, []⟩,
    ⟨(some 42), .bin .geq (.t 41) (.c (.s (.int .i64 0))), (some (40, true)), 8, []⟩,
    ⟨(some 43), .pick (.t 40) (.t 42) (.c (.s (.bool false))), none, 9, []⟩,
    ⟨(some 44), .move (.t 43), none, 10, []⟩,
    ⟨(some 45), .move (.t 1), (some (44, true)), 11, []⟩,
    ⟨(some 46), .bin .lss (.t 45) (.c (.s (.int .i64 2147483648))), (some (44, true)), 12, []⟩,
    ⟨(some 47), .pick (.t 44) (.t 46) (.c (.s (.bool false))), none, 13, []⟩,
    ⟨(some 13), .move (.t 47), none, 14, []⟩]) (RC.seq (RC.seq (RC.region 23 [
    ⟨(some 48), .move (.t 12), none, 0, []⟩,
    ⟨(some 49), .bin .eql (.t 48) (.c (.s (.int .i64 0))), none, 1, []⟩,
    ⟨(some 50), .move (.t 13), none, 2, []⟩,
    ⟨(some 51), .eqs .bool true (.t 49) (.t 50), none, 3, []⟩,
    ⟨(some 52), .move (.t 51), none, 4, []⟩,
    ⟨(some 53), .move (.t 13), (some (52, false)), 5, []⟩,
    ⟨(some 54), .move (.t 53), (some (52, false)), 6, []⟩,
    ⟨(some 55), .move (.t 11), (some (54, true)), 7, []⟩,
    ⟨(some 56), .bin .neq (.t 55) (.c (.s (.int .i64 1))), (some (54, true)), 8, []⟩,
    ⟨(some 57), .pick (.t 54) (.t 56) (.c (.s (.bool false))), (some (52, false)), 9, []⟩,
    ⟨(some 58), .pick (.t 52) (.c (.s (.bool true))) (.t 57), none, 10, []⟩,
    ⟨(some 59), .move (.t 58), none, 11, []⟩,
    ⟨(some 60), .move (.t 13), (some (59, false)), 12, []⟩,
    ⟨(some 61), .un .not (.t 60), (some (59, false)), 13, []⟩,
    ⟨(some 62), .move (.t 61), (some (59, false)), 14, []⟩,
    ⟨(some 63), .move (.t 11), (some (62, true)), 15, []⟩,
    ⟨(some 64), .bin .neq (.t 63) (.c (.s (.int .i64 0))), (some (62, true)), 16, []⟩,
    ⟨(some 65), .move (.t 64), (some (62, true)), 17, []⟩,
    ⟨(some 66), .move (.t 12), (some (65, false)), 18, []⟩,
    ⟨(some 67), .bin .neq (.t 66) (.c (.s (.int .i64 (-17)))), (some (65, false)), 19, []⟩,
    ⟨(some 68), .pick (.t 65) (.c (.s (.bool true))) (.t 67), (some (62, true)), 20, []⟩,
    ⟨(some 69), .pick (.t 62) (.t 68) (.c (.s (.bool false))), (some (59, false)), 21, []⟩,
    ⟨(some 70), .pick (.t 59) (.c (.s (.bool true))) (.t 69), none, 22, []⟩]) (RC.cond (.t 70) (RC.seq (RC.region 1 [
    ⟨(some 8), .move (.c (.s (.bool false))), none, 0, []⟩]) (RC.ret)) (RC.skip))) (RC.seq (RC.region 2 [
    ⟨(some 71), .move (.t 9), none, 0, []⟩,
    ⟨(some 72), .call F.cyc_Hands_Alarm [(.t 71)], none, 1, []⟩]) (RC.seq (RC.region 5 [
    ⟨(some 73), .move (.t 9), none, 0, []⟩,
    ⟨(some 74), .move (.t 2), none, 1, []⟩,
    ⟨(some 75), .move (.t 3), none, 2, []⟩,
    ⟨(some 76), .call F.cyc_Hands_Set [(.t 73), (.t 74), (.t 75)], none, 3, []⟩,
    ⟨(some 14), .move (.t 76), none, 4, []⟩]) (RC.seq (RC.region 7 [
    ⟨(some 77), .move (.t 3), none, 0, []⟩,
    ⟨(some 78), .bin .geq (.t 77) (.c (.s (.int .i64 0))), none, 1, []⟩,
    ⟨(some 79), .move (.t 78), none, 2, []⟩,
    ⟨(some 80), .move (.t 3), (some (79, true)), 3, []⟩,
    ⟨(some 81), .bin .lss (.t 80) (.c (.s (.int .i64 2147483648))), (some (79, true)), 4, []⟩,
    ⟨(some 82), .pick (.t 79) (.t 81) (.c (.s (.bool false))), none, 5, []⟩,
    ⟨(some 15), .move (.t 82), none, 6, []⟩]) (RC.seq (RC.block 0 (RC.seq (RC.region 3 [
    ⟨(some 86), .move (.t 2), none, 0, []⟩,
    ⟨(some 87), .bin .neq (.t 86) (.c (.s (.int .i64 1))), none, 1, []⟩,
    ⟨(some 85), .move (.t 87), none, 2, []⟩]) (RC.cond (.t 85) (RC.seq (RC.region 2 [
    ⟨(some 88), .move (.t 14), none, 0, []⟩,
    ⟨(some 89), .bin .neq (.t 88) (.c (.s (.int .i64 (-18)))), none, 1, []⟩]) (RC.cond (.t 89) (RC.seq (RC.region 1 [
    ⟨(some 8), .move (.c (.s (.bool false))), none, 0, []⟩]) (RC.ret)) (RC.skip))) (RC.seq (RC.region 3 [
    ⟨(some 91), .move (.t 15), none, 0, []⟩,
    ⟨(some 92), .un .not (.t 91), none, 1, []⟩,
    ⟨(some 90), .move (.t 92), none, 2, []⟩]) (RC.cond (.t 90) (RC.seq (RC.region 2 [
    ⟨(some 93), .move (.t 14), none, 0, []⟩,
    ⟨(some 94), .bin .neq (.t 93) (.c (.s (.int .i64 (-17)))), none, 1, []⟩]) (RC.cond (.t 94) (RC.seq (RC.region 1 [
    ⟨(some 8), .move (.c (.s (.bool false))), none, 0, []⟩]) (RC.ret)) (RC.skip))) (RC.seq (RC.region 2 [
    ⟨(some 83), .move (.t 14), none, 0, []⟩,
    ⟨(some 84), .bin .neq (.t 83) (.c (.s (.int .i64 0))), none, 1, []⟩]) (RC.cond (.t 84) (RC.seq (RC.region 1 [
    ⟨(some 8), .move (.c (.s (.bool false))), none, 0, []⟩]) (RC.ret)) (RC.skip)))))))) R.detentlaw20_HandRefuses_s2))))))))))
theorem detentlaw20_HandRefuses_ok : chkFunc Go.Proofs.Try.prog [] Go.Proofs.Try.f5 detentlaw20_HandRefuses = true := by kernel_rfl
def detentlaw20_HandAlarms_l0 : RC :=
  RC.seq (RC.seq (RC.region 2 [
    ⟨(some 67), .move (.t 15), none, 0, []⟩,
    ⟨(some 68), .bin .leq (.t 67) (.c (.s (.int .i64 30))), none, 1, []⟩]) (RC.cond (.t 68) (RC.skip) (RC.exit 0))) (RC.seq (RC.block 1 (RC.seq (RC.region 7 [
    ⟨(some 72), .move (.t 11), none, 0, []⟩,
    ⟨(some 73), .call F.cyc_Hands_Pass [(.t 72)], none, 1, []⟩,
    ⟨(some 71), .move (.t 73), none, 2, []⟩,
    ⟨(some 74), .extract 0 (.t 71), none, 3, []⟩,
    ⟨(some 75), .extract 1 (.t 71), none, 4, []⟩,
    ⟨(some 16), .move (.t 74), none, 5, []⟩,
    ⟨(some 17), .move (.t 75), none, 6, []⟩]) (RC.seq (RC.region 4 [
    ⟨(some 76), .move (.t 15), none, 0, []⟩,
    ⟨(some 77), .move (.t 0), none, 1, []⟩,
    ⟨(some 78), .bin .mul (.t 76) (.t 77), none, 2, []⟩,
    ⟨(some 18), .move (.t 78), none, 3, []⟩]) (RC.seq (RC.region 19 [
    ⟨(some 79), .move (.t 18), none, 0, []⟩,
    ⟨(some 80), .move (.t 13), none, 1, []⟩,
    ⟨(some 81), .move (.t 0), none, 2, []⟩,
    ⟨(some 82), .bin .add (.t 80) (.t 81), none, 3, []⟩,
    ⟨(some 83), .bin .geq (.t 79) (.t 82), none, 4, []⟩,
    ⟨(some 84), .move (.t 83), none, 5, []⟩,
    ⟨(some 85), .move (.t 18), (some (84, true)), 6, []⟩,
    ⟨(some 86), .move (.t 0), (some (84, true)), 7, []⟩,
    ⟨(some 87), .bin .sub (.t 85) (.t 86), (some (84, true)), 8, []⟩,
    ⟨(some 88), .move (.t 13), (some (84, true)), 9, []⟩,
    ⟨(some 89), .move (.t 0), (some (84, true)), 10, []⟩,
    ⟨(some 90), .bin .add (.t 88) (.t 89), (some (84, true)), 11, []⟩,
    ⟨(some 91), .bin .lss (.t 87) (.t 90), (some (84, true)), 12, []⟩,
    ⟨(some 92), .pick (.t 84) (.t 91) (.c (.s (.bool false))), none, 13, []⟩,
    ⟨(some 93), .move (.t 92), none, 14, []⟩,
    ⟨(some 94), .move (.t 4), (some (93, true)), 15, []⟩,
    ⟨(some 95), .un .not (.t 94), (some (93, true)), 16, []⟩,
    ⟨(some 96), .pick (.t 93) (.t 95) (.c (.s (.bool false))), none, 17, []⟩,
    ⟨(some 19), .move (.t 96), none, 18, []⟩]) (RC.seq (RC.seq (RC.region 37 [
    ⟨(some 97), .move (.t 16), none, 0, []⟩,
    ⟨(some 98), .len (.t 97), none, 1, []⟩,
    ⟨(some 99), .bin .eql (.t 98) (.c (.s (.int .i64 1))), none, 2, []⟩,
    ⟨(some 100), .move (.t 19), none, 3, []⟩,
    ⟨(some 101), .eqs .bool true (.t 99) (.t 100), none, 4, []⟩,
    ⟨(some 102), .move (.t 101), none, 5, []⟩,
    ⟨(some 103), .move (.t 16), (some (102, false)), 6, []⟩,
    ⟨(some 104), .len (.t 103), (some (102, false)), 7, []⟩,
    ⟨(some 105), .bin .gtr (.t 104) (.c (.s (.int .i64 1))), (some (102, false)), 8, []⟩,
    ⟨(some 106), .pick (.t 102) (.c (.s (.bool true))) (.t 105), none, 9, []⟩,
    ⟨(some 107), .move (.t 106), none, 10, []⟩,
    ⟨(some 108), .move (.t 19), (some (107, false)), 11, []⟩,
    ⟨(some 109), .move (.t 108), (some (107, false)), 12, []⟩,
    ⟨(some 110), .move (.t 16), (some (109, true)), 13, []⟩,
    ⟨(some 111), .indexSl 3 (.t 110) (.c (.s (.int .i64 0))), (some (109, true)), 14, []⟩,
    ⟨(some 112), .fieldAddr 0 (.t 111), (some (109, true)), 15, []⟩,
    ⟨(some 113), .load none (.t 112), (some (109, true)), 16, []⟩,
    ⟨(some 114), .move (.t 113), (some (109, true)), 17, []⟩,
    ⟨(some 115), .move (.t 16), (some (114, false)), 18, []⟩,
    ⟨(some 116), .indexSl 3 (.t 115) (.c (.s (.int .i64 0))), (some (114, false)), 19, []⟩,
    ⟨(some 117), .fieldAddr 1 (.t 116), (some (114, false)), 20, []⟩,
    ⟨(some 118), .load none (.t 117), (some (114, false)), 21, []⟩,
    ⟨(some 119), .bin .neq (.t 118) (.c (.s (.int .i64 1))), (some (114, false)), 22, []⟩,
    ⟨(some 120), .pick (.t 114) (.c (.s (.bool true))) (.t 119), (some (109, true)), 23, []⟩,
    ⟨(some 121), .move (.t 120), (some (109, true)), 24, []⟩,
    ⟨(some 122), .move (.t 16), (some (121, false)), 25, []⟩,
    ⟨(some 123), .indexSl 3 (.t 122) (.c (.s (.int .i64 0))), (some (121, false)), 26, []⟩,
    ⟨(some 124), .fieldAddr 2 (.t 123), (some (121, false)), 27, []⟩,
    ⟨(some 125), .load none (.t 124), (some (121, false)), 28, []⟩,
    ⟨(some 126), .conv .i64 (.t 125), (some (121, false)), 29, []⟩,
    ⟨(some 127), .move (.t 13), (some (121, false)), 30, []⟩,
    ⟨(some 128), .move (.t 0), (some (121, false)), 31, []⟩,
    ⟨(some 129), .bin .add (.t 127) (.t 128), (some (121, false)), 32, []⟩,
    ⟨(some 130), .bin .neq (.t 126) (.t 129), (some (121, false)), 33, []⟩,
    ⟨(some 131), .pick (.t 121) (.c (.s (.bool true))) (.t 130), (some (109, true)), 34, []⟩,
    ⟨(some 132), .pick (.t 109) (.t 131) (.c (.s (.bool false))), (some (107, false)), 35, []⟩,
    ⟨(some 133), .pick (.t 107) (.c (.s (.bool true))) (.t 132), none, 36, []⟩]) (RC.cond (.t 133) (RC.seq (RC.region 1 [
    ⟨(some 10), .move (.c (.s (.bool false))), none, 0, []⟩]) (RC.ret)) (RC.skip))) (RC.region 5 [
    ⟨(some 134), .move (.t 14), none, 0, []⟩,
    ⟨(some 135), .move (.t 16), none, 1, []⟩,
    ⟨(some 136), .len (.t 135), none, 2, []⟩,
    ⟨(some 137), .bin .add (.t 134) (.t 136), none, 3, []⟩,
    ⟨(some 14), .move (.t 137), none, 4, []⟩])))))) (RC.region 3 [
    ⟨(some 69), .move (.t 15), none, 0, []⟩,
    ⟨(some 70), .bin .add (.t 69) (.c (.s (.int .i64 1))), none, 1, []⟩,
    ⟨(some 15), .move (.t 70), none, 2, []⟩]))
def detentlaw20_HandAlarms_s1 : RC :=
  RC.seq (RC.region 14 [
    ⟨(some 138), .move (.t 4), none, 0, []⟩,
    ⟨(some 139), .move (.t 138), none, 1, []⟩,
    ⟨(some 140), .move (.t 14), (some (139, true)), 2, []⟩,
    ⟨(some 141), .bin .eql (.t 140) (.c (.s (.int .i64 0))), (some (139, true)), 3, []⟩,
    ⟨(some 142), .pick (.t 139) (.t 141) (.c (.s (.bool false))), none, 4, []⟩,
    ⟨(some 143), .move (.t 142), none, 5, []⟩,
    ⟨(some 144), .move (.t 4), (some (143, false)), 6, []⟩,
    ⟨(some 145), .un .not (.t 144), (some (143, false)), 7, []⟩,
    ⟨(some 146), .move (.t 145), (some (143, false)), 8, []⟩,
    ⟨(some 147), .move (.t 14), (some (146, true)), 9, []⟩,
    ⟨(some 148), .bin .eql (.t 147) (.c (.s (.int .i64 1))), (some (146, true)), 10, []⟩,
    ⟨(some 149), .pick (.t 146) (.t 148) (.c (.s (.bool false))), (some (143, false)), 11, []⟩,
    ⟨(some 150), .pick (.t 143) (.c (.s (.bool true))) (.t 149), none, 12, []⟩,
    ⟨(some 10), .move (.t 150), none, 13, []⟩]) (RC.ret)
def detentlaw20_HandAlarms_s2 : RC :=
  RC.seq (RC.region 1 [
    ⟨(some 14), .move (.c (.s (.int .i64 0))), none, 0, []⟩]) (RC.seq (RC.seq (RC.region 1 [
    ⟨(some 15), .move (.c (.s (.int .i64 1))), none, 0, []⟩]) (RC.block 0 (RC.loop R.detentlaw20_HandAlarms_l0))) R.detentlaw20_HandAlarms_s1)
def detentlaw20_HandAlarms_s3 : RC :=
  RC.seq (RC.seq (RC.region 1 [
    ⟨(some 64), .move (.t 4), none, 0, []⟩]) (RC.cond (.t 64) (RC.region 2 [
    ⟨(some 65), .move (.t 11), none, 0, []⟩,
    ⟨(some 66), .call F.cyc_Hands_Clear [(.t 65), (.c (.s (.int .i64 1)))], none, 1, []⟩]) (RC.skip))) R.detentlaw20_HandAlarms_s2
def detentlaw20_HandAlarms : RFunc := RFunc.mk 151 [.tmp 10] (
  RC.seq (RC.region 1 [
    ⟨(some 10), .move (.c (.s (.bool false))), none, 0, []⟩]) (RC.seq (RC.seq (RC.region 2 [
    ⟨(some 20), .call F.detentlaw20_known [], none, 0, []⟩,
    ⟨(some 21), .un .not (.t 20), none, 1, []⟩]) (RC.cond (.t 21) (RC.seq (RC.region 1 [
    ⟨(some 10), .move (.c (.s (.bool false))), none, 0, []⟩]) (RC.ret)) (RC.skip))) (RC.seq (RC.seq (RC.region 26 [
    ⟨(some 22), .move (.t 0), none, 0, []⟩,
    ⟨(some 23), .bin .lss (.t 22) (.c (.s (.int .i64 1))), none, 1, []⟩,
    ⟨(some 24), .move (.t 23), none, 2, []⟩,
    ⟨(some 25), .move (.t 0), (some (24, false)), 3, []⟩,
    ⟨(some 26), .bin .gtr (.t 25) (.c (.s (.int .i64 50))), (some (24, false)), 4, []⟩,
    ⟨(some 27), .pick (.t 24) (.c (.s (.bool true))) (.t 26), none, 5, []⟩,
    ⟨(some 28), .move (.t 27), none, 6, []⟩,
    ⟨(some 29), .move (.t 1), (some (28, false)), 7, []⟩,
    ⟨(some 30), .bin .lss (.t 29) (.c (.s (.int .i64 0))), (some (28, false)), 8, []⟩,
    ⟨(some 31), .pick (.t 28) (.c (.s (.bool true))) (.t 30), none, 9, []⟩,
    ⟨(some 32), .move (.t 31), none, 10, []⟩,
    ⟨(some 33), .move (.t 2), (some (32, false)), 11, []⟩,
    ⟨(some 34), .bin .lss (.t 33) (.c (.s (.int .i64 0))), (some (32, false)), 12, []⟩,
    ⟨(some 35), .pick (.t 32) (.c (.s (.bool true))) (.t 34), none, 13, []⟩,
    ⟨(some 36), .move (.t 35), none, 14, []⟩,
    ⟨(some 37), .move (.t 1), (some (36, false)), 15, []⟩,
    ⟨(some 38), .move (.t 0), (some (36, false)), 16, []⟩,
    ⟨(some 39), .bin .mul (.c (.s (.int .i64 20))) (.t 38), (some (36, false)), 17, []⟩,
    ⟨(some 40), .bin .gtr (.t 37) (.t 39), (some (36, false)), 18, []⟩,
    ⟨(some 41), .pick (.t 36) (.c (.s (.bool true))) (.t 40), none, 19, []⟩,
    ⟨(some 42), .move (.t 41), none, 20, []⟩,
    ⟨(some 43), .move (.t 2), (some (42, false)), 21, []⟩,
    ⟨(some 44), .move (.t 0), (some (42, false)), 22, []⟩,
    ⟨(some 45), .bin .mul (.c (.s (.int .i64 20))) (.t 44), (some (42, false)), 23, []⟩,
    ⟨(some 46), .bin .gtr (.t 43) (.t 45), (some (42, false)), 24, []⟩,
    ⟨(some 47), .pick (.t 42) (.c (.s (.bool true))) (.t 46), none, 25, []⟩]) (RC.cond (.t 47) (RC.seq (RC.region 1 [
    ⟨(some 10), .move (.c (.s (.bool true))), none, 0, []⟩]) (RC.ret)) (RC.skip))) (RC.seq (RC.region 7 [
    ⟨(some 49), .move (.t 0), none, 0, []⟩,
    ⟨(some 50), .call F.cyc_NewHands [(.t 49)], none, 1, []⟩,
    ⟨(some 48), .move (.t 50), none, 2, []⟩,
    ⟨(some 51), .extract 0 (.t 48), none, 3, []⟩,
    ⟨(some 52), .extract 1 (.t 48), none, 4, []⟩,
    ⟨(some 11), .move (.t 51), none, 5, []⟩,
    ⟨(some 12), .move (.t 52), none, 6, []⟩]) (RC.seq (RC.region 2 [
    ⟨(some 53), .move (.t 11), none, 0, []⟩,
    ⟨(some 54), .call F.cyc_Hands_Alarm [(.t 53)], none, 1, []⟩]) (RC.seq (RC.region 3 [
    ⟨(some 55), .move (.t 11), none, 0, []⟩,
    ⟨(some 56), .move (.t 1), none, 1, []⟩,
    ⟨(some 57), .call F.cyc_Hands_Set [(.t 55), (.c (.s (.int .i64 1))), (.t 56)], none, 2, []⟩]) (RC.seq (RC.region 2 [
    ⟨(some 58), .move (.t 1), none, 0, []⟩,
    ⟨(some 13), .move (.t 58), none, 1, []⟩]) (RC.seq (RC.seq (RC.region 1 [
    ⟨(some 59), .move (.t 3), none, 0, []⟩]) (RC.cond (.t 59) (RC.seq (RC.region 3 [
    ⟨(some 60), .move (.t 11), none, 0, []⟩,
    ⟨(some 61), .move (.t 2), none, 1, []⟩,
    ⟨(some 62), .call F.cyc_Hands_Set [(.t 60), (.c (.s (.int .i64 1))), (.t 61)], none, 2, []⟩]) (RC.region 2 [
    ⟨(some 63), .move (.t 2), none, 0, []⟩,
    ⟨(some 13), .move (.t 63), none, 1, []⟩])) (RC.skip))) R.detentlaw20_HandAlarms_s3))))))))
theorem detentlaw20_HandAlarms_ok : chkFunc Go.Proofs.Try.prog [] Go.Proofs.Try.f6 detentlaw20_HandAlarms = true := by kernel_rfl
def detentlaw20_HandKeeps_l0 : RC :=
  RC.seq (RC.seq (RC.region 3 [
    ⟨(some 53), .move (.t 11), none, 0, []⟩,
    ⟨(some 54), .move (.t 2), none, 1, []⟩,
    ⟨(some 55), .bin .lss (.t 53) (.t 54), none, 2, []⟩]) (RC.cond (.t 55) (RC.skip) (RC.exit 0))) (RC.seq (RC.block 1 (RC.region 2 [
    ⟨(some 58), .move (.t 9), none, 0, []⟩,
    ⟨(some 59), .call F.cyc_Hands_Pass [(.t 58)], none, 1, []⟩])) (RC.region 3 [
    ⟨(some 56), .move (.t 11), none, 0, []⟩,
    ⟨(some 57), .bin .add (.t 56) (.c (.s (.int .i64 1))), none, 1, []⟩,
    ⟨(some 11), .move (.t 57), none, 2, []⟩]))
def detentlaw20_HandKeeps_l1 : RC :=
  RC.seq (RC.seq (RC.region 3 [
    ⟨(some 62), .move (.t 12), none, 0, []⟩,
    ⟨(some 63), .move (.t 3), none, 1, []⟩,
    ⟨(some 64), .bin .lss (.t 62) (.t 63), none, 2, []⟩]) (RC.cond (.t 64) (RC.skip) (RC.exit 2))) (RC.seq (RC.block 3 (RC.seq (RC.region 7 [
    ⟨(some 68), .move (.t 9), none, 0, []⟩,
    ⟨(some 69), .call F.cyc_Hands_Pass [(.t 68)], none, 1, []⟩,
    ⟨(some 67), .move (.t 69), none, 2, []⟩,
    ⟨(some 70), .extract 0 (.t 67), none, 3, []⟩,
    ⟨(some 71), .extract 1 (.t 67), none, 4, []⟩,
    ⟨(some 13), .move (.t 70), none, 5, []⟩,
    ⟨(some 14), .move (.t 71), none, 6, []⟩]) (RC.seq (RC.region 3 [
    ⟨(some 72), .move (.t 13), none, 0, []⟩,
    ⟨(some 73), .len (.t 72), none, 1, []⟩,
    ⟨(some 74), .bin .neq (.t 73) (.c (.s (.int .i64 0))), none, 2, []⟩]) (RC.cond (.t 74) (RC.seq (RC.region 1 [
    ⟨(some 8), .move (.c (.s (.bool false))), none, 0, []⟩]) (RC.ret)) (RC.skip))))) (RC.region 3 [
    ⟨(some 65), .move (.t 12), none, 0, []⟩,
    ⟨(some 66), .bin .add (.t 65) (.c (.s (.int .i64 1))), none, 1, []⟩,
    ⟨(some 12), .move (.t 66), none, 2, []⟩]))
def detentlaw20_HandKeeps_l2 : RC :=
  RC.seq (RC.seq (RC.region 3 [
    ⟨(some 92), .move (.t 17), none, 0, []⟩,
    ⟨(some 93), .move (.t 16), none, 1, []⟩,
    ⟨(some 94), .bin .leq (.t 92) (.t 93), none, 2, []⟩]) (RC.cond (.t 94) (RC.skip) (RC.exit 4))) (RC.seq (RC.block 5 (RC.seq (RC.region 7 [
    ⟨(some 98), .move (.t 9), none, 0, []⟩,
    ⟨(some 99), .call F.cyc_Hands_Pass [(.t 98)], none, 1, []⟩,
    ⟨(some 97), .move (.t 99), none, 2, []⟩,
    ⟨(some 100), .extract 0 (.t 97), none, 3, []⟩,
    ⟨(some 101), .extract 1 (.t 97), none, 4, []⟩,
    ⟨(some 18), .move (.t 100), none, 5, []⟩,
    ⟨(some 19), .move (.t 101), none, 6, []⟩]) (RC.seq (RC.region 21 [
    ⟨(some 102), .move (.t 18), none, 0, []⟩,
    ⟨(some 103), .len (.t 102), none, 1, []⟩,
    ⟨(some 104), .bin .eql (.t 103) (.c (.s (.int .i64 1))), none, 2, []⟩,
    ⟨(some 105), .move (.t 17), none, 3, []⟩,
    ⟨(some 106), .move (.t 16), none, 4, []⟩,
    ⟨(some 107), .bin .eql (.t 105) (.t 106), none, 5, []⟩,
    ⟨(some 108), .eqs .bool true (.t 104) (.t 107), none, 6, []⟩,
    ⟨(some 109), .move (.t 108), none, 7, []⟩,
    ⟨(some 110), .move (.t 18), (some (109, false)), 8, []⟩,
    ⟨(some 111), .len (.t 110), (some (109, false)), 9, []⟩,
    ⟨(some 112), .bin .eql (.t 111) (.c (.s (.int .i64 1))), (some (109, false)), 10, []⟩,
    ⟨(some 113), .move (.t 112), (some (109, false)), 11, []⟩,
    ⟨(some 114), .move (.t 18), (some (113, true)), 12, []⟩,
    ⟨(some 115), .indexSl 3 (.t 114) (.c (.s (.int .i64 0))), (some (113, true)), 13, []⟩,
    ⟨(some 116), .fieldAddr 2 (.t 115), (some (113, true)), 14, []⟩,
    ⟨(some 117), .load none (.t 116), (some (113, true)), 15, []⟩,
    ⟨(some 118), .conv .i64 (.t 117), (some (113, true)), 16, []⟩,
    ⟨(some 119), .move (.t 16), (some (113, true)), 17, []⟩,
    ⟨(some 120), .bin .neq (.t 118) (.t 119), (some (113, true)), 18, []⟩,
    ⟨(some 121), .pick (.t 113) (.t 120) (.c (.s (.bool false))), (some (109, false)), 19, []⟩,
    ⟨(some 122), .pick (.t 109) (.c (.s (.bool true))) (.t 121), none, 20, []⟩]) (RC.cond (.t 122) (RC.seq (RC.region 1 [
    ⟨(some 8), .move (.c (.s (.bool false))), none, 0, []⟩]) (RC.ret)) (RC.skip))))) (RC.region 3 [
    ⟨(some 95), .move (.t 17), none, 0, []⟩,
    ⟨(some 96), .bin .add (.t 95) (.c (.s (.int .i64 1))), none, 1, []⟩,
    ⟨(some 17), .move (.t 96), none, 2, []⟩]))
def detentlaw20_HandKeeps_s3 : RC :=
  RC.seq (RC.region 1 [
    ⟨(some 8), .move (.c (.s (.bool true))), none, 0, []⟩]) (RC.ret)
def detentlaw20_HandKeeps_s4 : RC :=
  RC.seq (RC.seq (RC.region 3 [
    ⟨(some 90), .move (.t 15), none, 0, []⟩,
    ⟨(some 91), .bin .add (.t 90) (.c (.s (.int .i64 1))), none, 1, []⟩,
    ⟨(some 17), .move (.t 91), none, 2, []⟩]) (RC.block 4 (RC.loop R.detentlaw20_HandKeeps_l2))) R.detentlaw20_HandKeeps_s3
def detentlaw20_HandKeeps_s5 : RC :=
  RC.seq (RC.region 4 [
    ⟨(some 75), .move (.t 2), none, 0, []⟩,
    ⟨(some 76), .move (.t 3), none, 1, []⟩,
    ⟨(some 77), .bin .add (.t 75) (.t 76), none, 2, []⟩,
    ⟨(some 15), .move (.t 77), none, 3, []⟩]) (RC.seq (RC.region 2 [
    ⟨(some 78), .move (.t 9), none, 0, []⟩,
    ⟨(some 79), .call F.cyc_Hands_Start [(.t 78), (.c (.s (.int .i64 1)))], none, 1, []⟩]) (RC.seq (RC.region 4 [
    ⟨(some 80), .move (.t 15), none, 0, []⟩,
    ⟨(some 81), .move (.t 1), none, 1, []⟩,
    ⟨(some 82), .bin .add (.t 80) (.t 81), none, 2, []⟩,
    ⟨(some 16), .move (.t 82), none, 3, []⟩]) (RC.seq (RC.seq (RC.region 1 [
    ⟨(some 83), .move (.t 0), none, 0, []⟩]) (RC.cond (.t 83) (RC.region 7 [
    ⟨(some 84), .move (.t 15), none, 0, []⟩,
    ⟨(some 85), .move (.t 1), none, 1, []⟩,
    ⟨(some 86), .bin .quo (.t 84) (.t 85), none, 2, []⟩,
    ⟨(some 87), .bin .add (.t 86) (.c (.s (.int .i64 1))), none, 3, []⟩,
    ⟨(some 88), .move (.t 1), none, 4, []⟩,
    ⟨(some 89), .bin .mul (.t 87) (.t 88), none, 5, []⟩,
    ⟨(some 16), .move (.t 89), none, 6, []⟩]) (RC.skip))) R.detentlaw20_HandKeeps_s4)))
def detentlaw20_HandKeeps_s6 : RC :=
  RC.seq (RC.region 2 [
    ⟨(some 60), .move (.t 9), none, 0, []⟩,
    ⟨(some 61), .call F.cyc_Hands_Stop [(.t 60), (.c (.s (.int .i64 1)))], none, 1, []⟩]) (RC.seq (RC.seq (RC.region 1 [
    ⟨(some 12), .move (.c (.s (.int .i64 0))), none, 0, []⟩]) (RC.block 2 (RC.loop R.detentlaw20_HandKeeps_l1))) R.detentlaw20_HandKeeps_s5)
def detentlaw20_HandKeeps : RFunc := RFunc.mk 123 [.tmp 8] (
  RC.seq (RC.region 1 [
    ⟨(some 8), .move (.c (.s (.bool false))), none, 0, []⟩]) (RC.seq (RC.seq (RC.region 2 [
    ⟨(some 20), .call F.detentlaw20_known [], none, 0, []⟩,
    ⟨(some 21), .un .not (.t 20), none, 1, []⟩]) (RC.cond (.t 21) (RC.seq (RC.region 1 [
    ⟨(some 8), .move (.c (.s (.bool false))), none, 0, []⟩]) (RC.ret)) (RC.skip))) (RC.seq (RC.seq (RC.region 22 [
    ⟨(some 22), .move (.t 1), none, 0, []⟩,
    ⟨(some 23), .bin .lss (.t 22) (.c (.s (.int .i64 1))), none, 1, []⟩,
    ⟨(some 24), .move (.t 23), none, 2, []⟩,
    ⟨(some 25), .move (.t 1), (some (24, false)), 3, []⟩,
    ⟨(some 26), .bin .gtr (.t 25) (.c (.s (.int .i64 50))), (some (24, false)), 4, []⟩,
    ⟨(some 27), .pick (.t 24) (.c (.s (.bool true))) (.t 26), none, 5, []⟩,
    ⟨(some 28), .move (.t 27), none, 6, []⟩,
    ⟨(some 29), .move (.t 2), (some (28, false)), 7, []⟩,
    ⟨(some 30), .bin .lss (.t 29) (.c (.s (.int .i64 0))), (some (28, false)), 8, []⟩,
    ⟨(some 31), .pick (.t 28) (.c (.s (.bool true))) (.t 30), none, 9, []⟩,
    ⟨(some 32), .move (.t 31), none, 10, []⟩,
    ⟨(some 33), .move (.t 2), (some (32, false)), 11, []⟩,
    ⟨(some 34), .bin .gtr (.t 33) (.c (.s (.int .i64 60))), (some (32, false)), 12, []⟩,
    ⟨(some 35), .pick (.t 32) (.c (.s (.bool true))) (.t 34), none, 13, []⟩,
    ⟨(some 36), .move (.t 35), none, 14, []⟩,
    ⟨(some 37), .move (.t 3), (some (36, false)), 15, []⟩,
    ⟨(some 38), .bin .lss (.t 37) (.c (.s (.int .i64 0))), (some (36, false)), 16, []⟩,
    ⟨(some 39), .pick (.t 36) (.c (.s (.bool true))) (.t 38), none, 17, []⟩,
    ⟨(some 40), .move (.t 39), none, 18, []⟩,
    ⟨(some 41), .move (.t 3), (some (40, false)), 19, []⟩,
    ⟨(some 42), .bin .gtr (.t 41) (.c (.s (.int .i64 60))), (some (40, false)), 20, []⟩,
    ⟨(some 43), .pick (.t 40) (.c (.s (.bool true))) (.t 42), none, 21, []⟩]) (RC.cond (.t 43) (RC.seq (RC.region 1 [
    ⟨(some 8), .move (.c (.s (.bool true))), none, 0, []⟩]) (RC.ret)) (RC.skip))) (RC.seq (RC.region 6 [
    ⟨(some 45), .call F.cyc_NewHands [(.c (.s (.int .i64 1)))], none, 0, []⟩,
    ⟨(some 44), .move (.t 45), none, 1, []⟩,
    ⟨(some 46), .extract 0 (.t 44), none, 2, []⟩,
    ⟨(some 47), .extract 1 (.t 44), none, 3, []⟩,
    ⟨(some 9), .move (.t 46), none, 4, []⟩,
    ⟨(some 10), .move (.t 47), none, 5, []⟩]) (RC.seq (RC.region 5 [
    ⟨(some 48), .move (.t 9), none, 0, []⟩,
    ⟨(some 49), .move (.t 1), none, 1, []⟩,
    ⟨(some 50), .move (.t 1), none, 2, []⟩,
    ⟨(some 51), .move (.t 0), none, 3, []⟩,
    ⟨(some 52), .call F.cyc_Hands_Cyclic [(.t 48), (.t 49), (.t 50), (.c (.s (.bool true))), (.t 51)], none, 4, []⟩]) (RC.seq (RC.seq (RC.region 1 [
    ⟨(some 11), .move (.c (.s (.int .i64 0))), none, 0, []⟩]) (RC.block 0 (RC.loop R.detentlaw20_HandKeeps_l0))) R.detentlaw20_HandKeeps_s6))))))
theorem detentlaw20_HandKeeps_ok : chkFunc Go.Proofs.Try.prog [] Go.Proofs.Try.f7 detentlaw20_HandKeeps = true := by kernel_rfl
def detentlaw20_HandPlays_s0 : RC :=
  RC.seq (RC.region 58 [
    ⟨(some 241), .move (.t 11), none, 0, []⟩,
    ⟨(some 242), .move (.t 12), none, 1, []⟩,
    ⟨(some 243), .bin .neq (.t 241) (.t 242), none, 2, []⟩,
    ⟨(some 244), .move (.t 243), none, 3, []⟩,
    ⟨(some 245), .move (.t 13), (some (244, false)), 4, []⟩,
    ⟨(some 246), .move (.t 14), (some (244, false)), 5, []⟩,
    ⟨(some 247), .bin .neq (.t 245) (.t 246), (some (244, false)), 6, []⟩,
    ⟨(some 248), .pick (.t 244) (.c (.s (.bool true))) (.t 247), none, 7, []⟩,
    ⟨(some 249), .move (.t 248), none, 8, []⟩,
    ⟨(some 250), .move (.t 5), (some (249, false)), 9, []⟩,
    ⟨(some 251), .nilCheck (.t 250), (some (249, false)), 10, []⟩,
    ⟨(some 252), .fieldAddr 0 (.t 251), (some (249, false)), 11, []⟩,
    ⟨(some 253), .load none (.t 252), (some (249, false)), 12, []⟩,
    ⟨(some 255), .move (.t 7), (some (249, false)), 14, []⟩,
    ⟨(some 256), .nilCheck (.t 255), (some (249, false)), 15, []⟩,
    ⟨(some 257), .fieldAddr 0 (.t 256), (some (249, false)), 16, []⟩,
    ⟨(some 258), .load none (.t 257), (some (249, false)), 17, []⟩,
    ⟨(some 259), .nilCheck (.t 258), (some (249, false)), 18, []⟩,
    ⟨(some 260), .fieldAddr 2 (.t 259), (some (249, false)), 19, []⟩,
    ⟨(some 261), .load none (.t 260), (some (249, false)), 20, []⟩,
    ⟨(some 254), .call F.clock_Clock_Up [(.t 253)], (some (249, false)), 13, [⟨258, none, (.t 257), (some (249, false))⟩, ⟨261, none, (.t 260), (some (249, false))⟩]⟩,
    ⟨(some 262), .bin .neq (.t 254) (.t 261), (some (249, false)), 21, []⟩,
    ⟨(some 263), .pick (.t 249) (.c (.s (.bool true))) (.t 262), none, 22, []⟩,
    ⟨(some 264), .move (.t 263), none, 23, []⟩,
    ⟨(some 265), .move (.t 5), (some (264, false)), 24, []⟩,
    ⟨(some 266), .nilCheck (.t 265), (some (264, false)), 25, []⟩,
    ⟨(some 267), .fieldAddr 0 (.t 266), (some (264, false)), 26, []⟩,
    ⟨(some 268), .load none (.t 267), (some (264, false)), 27, []⟩,
    ⟨(some 270), .move (.t 7), (some (264, false)), 29, []⟩,
    ⟨(some 271), .nilCheck (.t 270), (some (264, false)), 30, []⟩,
    ⟨(some 272), .fieldAddr 0 (.t 271), (some (264, false)), 31, []⟩,
    ⟨(some 273), .load none (.t 272), (some (264, false)), 32, []⟩,
    ⟨(some 269), .call F.clock_Clock_Now [(.t 268)], (some (264, false)), 28, [⟨273, none, (.t 272), (some (264, false))⟩]⟩,
    ⟨(some 274), .call F.detentref8_Clock_Now [(.t 273)], (some (264, false)), 33, []⟩,
    ⟨(some 275), .bin .neq (.t 269) (.t 274), (some (264, false)), 34, []⟩,
    ⟨(some 276), .pick (.t 264) (.c (.s (.bool true))) (.t 275), none, 35, []⟩,
    ⟨(some 277), .move (.t 276), none, 36, []⟩,
    ⟨(some 278), .move (.t 5), (some (277, false)), 37, []⟩,
    ⟨(some 279), .nilCheck (.t 278), (some (277, false)), 38, []⟩,
    ⟨(some 280), .fieldAddr 0 (.t 279), (some (277, false)), 39, []⟩,
    ⟨(some 281), .load none (.t 280), (some (277, false)), 40, []⟩,
    ⟨(some 282), .nilCheck (.t 281), (some (277, false)), 41, []⟩,
    ⟨(some 283), .fieldAddr 0 (.t 282), (some (277, false)), 42, []⟩,
    ⟨(some 284), .load none (.t 283), (some (277, false)), 43, []⟩,
    ⟨(some 286), .move (.t 7), (some (277, false)), 45, []⟩,
    ⟨(some 287), .nilCheck (.t 286), (some (277, false)), 46, []⟩,
    ⟨(some 288), .fieldAddr 0 (.t 287), (some (277, false)), 47, []⟩,
    ⟨(some 289), .load none (.t 288), (some (277, false)), 48, []⟩,
    ⟨(some 290), .nilCheck (.t 289), (some (277, false)), 49, []⟩,
    ⟨(some 291), .fieldAddr 0 (.t 290), (some (277, false)), 50, []⟩,
    ⟨(some 292), .load none (.t 291), (some (277, false)), 51, []⟩,
    ⟨(some 293), .nilCheck (.t 292), (some (277, false)), 52, []⟩,
    ⟨(some 294), .fieldAddr 0 (.t 293), (some (277, false)), 53, []⟩,
    ⟨(some 295), .load none (.t 294), (some (277, false)), 54, []⟩,
    ⟨(some 296), .len (.t 295), (some (277, false)), 55, []⟩,
    ⟨(some 285), .call F.heap_Timers_Len [(.t 284)], (some (277, false)), 44, [⟨289, none, (.t 288), (some (277, false))⟩, ⟨292, none, (.t 291), (some (277, false))⟩, ⟨295, none, (.t 294), (some (277, false))⟩]⟩,
    ⟨(some 297), .bin .neq (.t 285) (.t 296), (some (277, false)), 56, []⟩,
    ⟨(some 298), .pick (.t 277) (.c (.s (.bool true))) (.t 297), none, 57, []⟩]) (RC.cond (.t 298) (RC.seq (RC.region 1 [
    ⟨(some 4), .move (.c (.s (.bool false))), none, 0, []⟩]) (RC.ret)) (RC.skip))
def detentlaw20_HandPlays_s1 : RC :=
  RC.region 3 [
    ⟨(some 62), .move (.t 9), none, 0, []⟩,
    ⟨(some 63), .bin .add (.t 62) (.c (.s (.int .i64 1))), none, 1, []⟩,
    ⟨(some 9), .move (.t 63), none, 2, []⟩]
def detentlaw20_HandPlays_l2 : RC :=
  RC.seq (RC.seq (RC.region 4 [
    ⟨(some 58), .move (.t 9), none, 0, []⟩,
    ⟨(some 59), .move (.t 1), none, 1, []⟩,
    ⟨(some 60), .len (.t 59), none, 2, []⟩,
    ⟨(some 61), .bin .lss (.t 58) (.t 60), none, 3, []⟩]) (RC.cond (.t 61) (RC.skip) (RC.exit 0))) (RC.seq (RC.block 1 (RC.seq (RC.region 6 [
    ⟨(some 64), .move (.t 1), none, 0, []⟩,
    ⟨(some 65), .move (.t 9), none, 1, []⟩,
    ⟨(some 66), .indexSl 6 (.t 64) (.t 65), none, 2, []⟩,
    ⟨(some 67), .load (some 6) (.t 66), none, 3, []⟩,
    ⟨(some 10), .newc [.int .i64 0, .int .i64 0, .int .i64 0, .int .i64 0, .bool false, .bool false], none, 4, []⟩,
    ⟨none, .store 6 (.t 10) (.t 67), none, 5, []⟩]) (RC.seq (RC.region 1 [
    ⟨(some 11), .move (.c (.s (.int .i64 0))), none, 0, []⟩]) (RC.seq (RC.region 1 [
    ⟨(some 12), .move (.c (.s (.int .i64 0))), none, 0, []⟩]) (RC.seq (RC.region 1 [
    ⟨(some 13), .move (.c (.s (.int .i64 0))), none, 0, []⟩]) (RC.seq (RC.region 1 [
    ⟨(some 14), .move (.c (.s (.int .i64 0))), none, 0, []⟩]) (RC.seq (RC.seq (RC.region 2 [
    ⟨(some 68), .fieldAddr 0 (.t 10), none, 0, []⟩,
    ⟨(some 69), .load none (.t 68), none, 1, []⟩]) (RC.block 2 (RC.seq (RC.region 2 [
    ⟨(some 71), .bin .eql (.t 69) (.c (.s (.int .i64 1))), none, 0, []⟩,
    ⟨(some 70), .move (.t 71), none, 1, []⟩]) (RC.cond (.t 70) (RC.seq (RC.seq (RC.region 10 [
    ⟨(some 72), .fieldAddr 2 (.t 10), none, 0, []⟩,
    ⟨(some 73), .load none (.t 72), none, 1, []⟩,
    ⟨(some 74), .bin .geq (.t 73) (.c (.s (.int .i64 1))), none, 2, []⟩,
    ⟨(some 75), .move (.t 74), none, 3, []⟩,
    ⟨(some 76), .fieldAddr 2 (.t 10), (some (75, true)), 4, []⟩,
    ⟨(some 77), .load none (.t 76), (some (75, true)), 5, []⟩,
    ⟨(some 78), .move (.t 0), (some (75, true)), 6, []⟩,
    ⟨(some 79), .bin .quo (.t 78) (.c (.s (.int .i64 20))), (some (75, true)), 7, []⟩,
    ⟨(some 80), .bin .lss (.t 77) (.t 79), (some (75, true)), 8, []⟩,
    ⟨(some 81), .pick (.t 75) (.t 80) (.c (.s (.bool false))), none, 9, []⟩]) (RC.cond (.t 81) (RC.seq (RC.region 1 [
    ⟨(some 4), .move (.c (.s (.bool true))), none, 0, []⟩]) (RC.ret)) (RC.skip))) (RC.seq (RC.region 15 [
    ⟨(some 83), .move (.t 5), none, 0, []⟩,
    ⟨(some 84), .fieldAddr 2 (.t 10), none, 1, []⟩,
    ⟨(some 85), .load none (.t 84), none, 2, []⟩,
    ⟨(some 86), .fieldAddr 3 (.t 10), none, 3, []⟩,
    ⟨(some 87), .load none (.t 86), none, 4, []⟩,
    ⟨(some 88), .fieldAddr 4 (.t 10), none, 5, []⟩,
    ⟨(some 89), .load none (.t 88), none, 6, []⟩,
    ⟨(some 90), .fieldAddr 5 (.t 10), none, 7, []⟩,
    ⟨(some 91), .load none (.t 90), none, 8, []⟩,
    ⟨(some 92), .call F.cyc_Hands_Cyclic [(.t 83), (.t 85), (.t 87), (.t 89), (.t 91)], none, 9, []⟩,
    ⟨(some 82), .move (.t 92), none, 10, []⟩,
    ⟨(some 93), .extract 0 (.t 82), none, 11, []⟩,
    ⟨(some 94), .extract 1 (.t 82), none, 12, []⟩,
    ⟨(some 15), .move (.t 93), none, 13, []⟩,
    ⟨(some 16), .move (.t 94), none, 14, []⟩]) (RC.seq (RC.region 15 [
    ⟨(some 96), .move (.t 7), none, 0, []⟩,
    ⟨(some 97), .fieldAddr 2 (.t 10), none, 1, []⟩,
    ⟨(some 98), .load none (.t 97), none, 2, []⟩,
    ⟨(some 99), .fieldAddr 3 (.t 10), none, 3, []⟩,
    ⟨(some 100), .load none (.t 99), none, 4, []⟩,
    ⟨(some 101), .fieldAddr 4 (.t 10), none, 5, []⟩,
    ⟨(some 102), .load none (.t 101), none, 6, []⟩,
    ⟨(some 103), .fieldAddr 5 (.t 10), none, 7, []⟩,
    ⟨(some 104), .load none (.t 103), none, 8, []⟩,
    ⟨(some 105), .call F.detentref20_Hands_Cyclic [(.t 96), (.t 98), (.t 100), (.t 102), (.t 104)], none, 9, []⟩,
    ⟨(some 95), .move (.t 105), none, 10, []⟩,
    ⟨(some 106), .extract 0 (.t 95), none, 11, []⟩,
    ⟨(some 107), .extract 1 (.t 95), none, 12, []⟩,
    ⟨(some 17), .move (.t 106), none, 13, []⟩,
    ⟨(some 18), .move (.t 107), none, 14, []⟩]) (RC.region 8 [
    ⟨(some 108), .move (.t 15), none, 0, []⟩,
    ⟨(some 109), .move (.t 17), none, 1, []⟩,
    ⟨(some 110), .move (.t 16), none, 2, []⟩,
    ⟨(some 111), .move (.t 18), none, 3, []⟩,
    ⟨(some 13), .move (.t 108), none, 4, []⟩,
    ⟨(some 14), .move (.t 109), none, 5, []⟩,
    ⟨(some 11), .move (.t 110), none, 6, []⟩,
    ⟨(some 12), .move (.t 111), none, 7, []⟩])))) (RC.seq (RC.region 2 [
    ⟨(some 113), .bin .eql (.t 69) (.c (.s (.int .i64 2))), none, 0, []⟩,
    ⟨(some 112), .move (.t 113), none, 1, []⟩]) (RC.cond (.t 112) (RC.seq (RC.region 7 [
    ⟨(some 115), .move (.t 5), none, 0, []⟩,
    ⟨(some 116), .call F.cyc_Hands_Alarm [(.t 115)], none, 1, []⟩,
    ⟨(some 114), .move (.t 116), none, 2, []⟩,
    ⟨(some 117), .extract 0 (.t 114), none, 3, []⟩,
    ⟨(some 118), .extract 1 (.t 114), none, 4, []⟩,
    ⟨(some 19), .move (.t 117), none, 5, []⟩,
    ⟨(some 20), .move (.t 118), none, 6, []⟩]) (RC.seq (RC.region 7 [
    ⟨(some 120), .move (.t 7), none, 0, []⟩,
    ⟨(some 121), .call F.detentref20_Hands_NewAlarm [(.t 120)], none, 1, []⟩,
    ⟨(some 119), .move (.t 121), none, 2, []⟩,
    ⟨(some 122), .extract 0 (.t 119), none, 3, []⟩,
    ⟨(some 123), .extract 1 (.t 119), none, 4, []⟩,
    ⟨(some 21), .move (.t 122), none, 5, []⟩,
    ⟨(some 22), .move (.t 123), none, 6, []⟩]) (RC.region 8 [
    ⟨(some 124), .move (.t 19), none, 0, []⟩,
    ⟨(some 125), .move (.t 21), none, 1, []⟩,
    ⟨(some 126), .move (.t 20), none, 2, []⟩,
    ⟨(some 127), .move (.t 22), none, 3, []⟩,
    ⟨(some 13), .move (.t 124), none, 4, []⟩,
    ⟨(some 14), .move (.t 125), none, 5, []⟩,
    ⟨(some 11), .move (.t 126), none, 6, []⟩,
    ⟨(some 12), .move (.t 127), none, 7, []⟩]))) (RC.seq (RC.region 2 [
    ⟨(some 129), .bin .eql (.t 69) (.c (.s (.int .i64 3))), none, 0, []⟩,
    ⟨(some 128), .move (.t 129), none, 1, []⟩]) (RC.cond (.t 128) (RC.seq (RC.region 5 [
    ⟨(some 130), .move (.t 5), none, 0, []⟩,
    ⟨(some 131), .fieldAddr 1 (.t 10), none, 1, []⟩,
    ⟨(some 132), .load none (.t 131), none, 2, []⟩,
    ⟨(some 133), .call F.cyc_Hands_Start [(.t 130), (.t 132)], none, 3, []⟩,
    ⟨(some 11), .move (.t 133), none, 4, []⟩]) (RC.region 5 [
    ⟨(some 134), .move (.t 7), none, 0, []⟩,
    ⟨(some 135), .fieldAddr 1 (.t 10), none, 1, []⟩,
    ⟨(some 136), .load none (.t 135), none, 2, []⟩,
    ⟨(some 137), .call F.detentref20_Hands_Start [(.t 134), (.t 136)], none, 3, []⟩,
    ⟨(some 12), .move (.t 137), none, 4, []⟩])) (RC.seq (RC.region 2 [
    ⟨(some 139), .bin .eql (.t 69) (.c (.s (.int .i64 4))), none, 0, []⟩,
    ⟨(some 138), .move (.t 139), none, 1, []⟩]) (RC.cond (.t 138) (RC.seq (RC.region 5 [
    ⟨(some 140), .move (.t 5), none, 0, []⟩,
    ⟨(some 141), .fieldAddr 1 (.t 10), none, 1, []⟩,
    ⟨(some 142), .load none (.t 141), none, 2, []⟩,
    ⟨(some 143), .call F.cyc_Hands_Stop [(.t 140), (.t 142)], none, 3, []⟩,
    ⟨(some 11), .move (.t 143), none, 4, []⟩]) (RC.region 5 [
    ⟨(some 144), .move (.t 7), none, 0, []⟩,
    ⟨(some 145), .fieldAddr 1 (.t 10), none, 1, []⟩,
    ⟨(some 146), .load none (.t 145), none, 2, []⟩,
    ⟨(some 147), .call F.detentref20_Hands_Stop [(.t 144), (.t 146)], none, 3, []⟩,
    ⟨(some 12), .move (.t 147), none, 4, []⟩])) (RC.seq (RC.region 2 [
    ⟨(some 149), .bin .eql (.t 69) (.c (.s (.int .i64 5))), none, 0, []⟩,
    ⟨(some 148), .move (.t 149), none, 1, []⟩]) (RC.cond (.t 148) (RC.seq (RC.region 7 [
    ⟨(some 150), .move (.t 5), none, 0, []⟩,
    ⟨(some 151), .fieldAddr 1 (.t 10), none, 1, []⟩,
    ⟨(some 152), .load none (.t 151), none, 2, []⟩,
    ⟨(some 153), .fieldAddr 2 (.t 10), none, 3, []⟩,
    ⟨(some 154), .load none (.t 153), none, 4, []⟩,
    ⟨(some 155), .call F.cyc_Hands_Set [(.t 150), (.t 152), (.t 154)], none, 5, []⟩,
    ⟨(some 11), .move (.t 155), none, 6, []⟩]) (RC.region 7 [
    ⟨(some 156), .move (.t 7), none, 0, []⟩,
    ⟨(some 157), .fieldAddr 1 (.t 10), none, 1, []⟩,
    ⟨(some 158), .load none (.t 157), none, 2, []⟩,
    ⟨(some 159), .fieldAddr 2 (.t 10), none, 3, []⟩,
    ⟨(some 160), .load none (.t 159), none, 4, []⟩,
    ⟨(some 161), .call F.detentref20_Hands_Set [(.t 156), (.t 158), (.t 160)], none, 5, []⟩,
    ⟨(some 12), .move (.t 161), none, 6, []⟩])) (RC.seq (RC.region 2 [
    ⟨(some 163), .bin .eql (.t 69) (.c (.s (.int .i64 6))), none, 0, []⟩,
    ⟨(some 162), .move (.t 163), none, 1, []⟩]) (RC.cond (.t 162) (RC.seq (RC.region 5 [
    ⟨(some 164), .move (.t 5), none, 0, []⟩,
    ⟨(some 165), .fieldAddr 1 (.t 10), none, 1, []⟩,
    ⟨(some 166), .load none (.t 165), none, 2, []⟩,
    ⟨(some 167), .call F.cyc_Hands_Clear [(.t 164), (.t 166)], none, 3, []⟩,
    ⟨(some 11), .move (.t 167), none, 4, []⟩]) (RC.region 5 [
    ⟨(some 168), .move (.t 7), none, 0, []⟩,
    ⟨(some 169), .fieldAddr 1 (.t 10), none, 1, []⟩,
    ⟨(some 170), .load none (.t 169), none, 2, []⟩,
    ⟨(some 171), .call F.detentref20_Hands_Clear [(.t 168), (.t 170)], none, 3, []⟩,
    ⟨(some 12), .move (.t 171), none, 4, []⟩])) (RC.seq (RC.region 2 [
    ⟨(some 173), .bin .eql (.t 69) (.c (.s (.int .i64 7))), none, 0, []⟩,
    ⟨(some 172), .move (.t 173), none, 1, []⟩]) (RC.cond (.t 172) (RC.seq (RC.region 11 [
    ⟨(some 175), .move (.t 5), none, 0, []⟩,
    ⟨(some 176), .fieldAddr 2 (.t 10), none, 1, []⟩,
    ⟨(some 177), .load none (.t 176), none, 2, []⟩,
    ⟨(some 178), .fieldAddr 1 (.t 10), none, 3, []⟩,
    ⟨(some 179), .load none (.t 178), none, 4, []⟩,
    ⟨(some 180), .call F.cyc_Hands_Wait [(.t 175), (.t 177), (.t 179)], none, 5, []⟩,
    ⟨(some 174), .move (.t 180), none, 6, []⟩,
    ⟨(some 181), .extract 0 (.t 174), none, 7, []⟩,
    ⟨(some 182), .extract 1 (.t 174), none, 8, []⟩,
    ⟨(some 23), .move (.t 181), none, 9, []⟩,
    ⟨(some 24), .move (.t 182), none, 10, []⟩]) (RC.seq (RC.region 11 [
    ⟨(some 184), .move (.t 7), none, 0, []⟩,
    ⟨(some 185), .fieldAddr 2 (.t 10), none, 1, []⟩,
    ⟨(some 186), .load none (.t 185), none, 2, []⟩,
    ⟨(some 187), .fieldAddr 1 (.t 10), none, 3, []⟩,
    ⟨(some 188), .load none (.t 187), none, 4, []⟩,
    ⟨(some 189), .call F.detentref20_Hands_Wait [(.t 184), (.t 186), (.t 188)], none, 5, []⟩,
    ⟨(some 183), .move (.t 189), none, 6, []⟩,
    ⟨(some 190), .extract 0 (.t 183), none, 7, []⟩,
    ⟨(some 191), .extract 1 (.t 183), none, 8, []⟩,
    ⟨(some 25), .move (.t 190), none, 9, []⟩,
    ⟨(some 26), .move (.t 191), none, 10, []⟩]) (RC.region 8 [
    ⟨(some 192), .move (.t 23), none, 0, []⟩,
    ⟨(some 193), .move (.t 25), none, 1, []⟩,
    ⟨(some 194), .move (.t 24), none, 2, []⟩,
    ⟨(some 195), .move (.t 26), none, 3, []⟩,
    ⟨(some 13), .move (.t 192), none, 4, []⟩,
    ⟨(some 14), .move (.t 193), none, 5, []⟩,
    ⟨(some 11), .move (.t 194), none, 6, []⟩,
    ⟨(some 12), .move (.t 195), none, 7, []⟩]))) (RC.seq (RC.region 2 [
    ⟨(some 197), .bin .eql (.t 69) (.c (.s (.int .i64 8))), none, 0, []⟩,
    ⟨(some 196), .move (.t 197), none, 1, []⟩]) (RC.cond (.t 196) (RC.seq (RC.region 7 [
    ⟨(some 199), .move (.t 5), none, 0, []⟩,
    ⟨(some 200), .call F.cyc_Hands_Pass [(.t 199)], none, 1, []⟩,
    ⟨(some 198), .move (.t 200), none, 2, []⟩,
    ⟨(some 201), .extract 0 (.t 198), none, 3, []⟩,
    ⟨(some 202), .extract 1 (.t 198), none, 4, []⟩,
    ⟨(some 27), .move (.t 201), none, 5, []⟩,
    ⟨(some 28), .move (.t 202), none, 6, []⟩]) (RC.seq (RC.region 7 [
    ⟨(some 204), .move (.t 7), none, 0, []⟩,
    ⟨(some 205), .call F.detentref20_Hands_Pass [(.t 204)], none, 1, []⟩,
    ⟨(some 203), .move (.t 205), none, 2, []⟩,
    ⟨(some 206), .extract 0 (.t 203), none, 3, []⟩,
    ⟨(some 207), .extract 1 (.t 203), none, 4, []⟩,
    ⟨(some 29), .move (.t 206), none, 5, []⟩,
    ⟨(some 30), .move (.t 207), none, 6, []⟩]) (RC.seq (RC.region 10 [
    ⟨(some 208), .move (.t 27), none, 0, []⟩,
    ⟨(some 209), .move (.t 29), none, 1, []⟩,
    ⟨(some 210), .call F.detentlaw20_Fired [(.t 208), (.t 209)], none, 2, []⟩,
    ⟨(some 211), .un .not (.t 210), none, 3, []⟩,
    ⟨(some 212), .move (.t 211), none, 4, []⟩,
    ⟨(some 213), .move (.t 28), (some (212, false)), 5, []⟩,
    ⟨(some 214), .move (.t 30), (some (212, false)), 6, []⟩,
    ⟨(some 215), .call F.detentlaw3_Same [(.t 213), (.t 214)], (some (212, false)), 7, []⟩,
    ⟨(some 216), .un .not (.t 215), (some (212, false)), 8, []⟩,
    ⟨(some 217), .pick (.t 212) (.c (.s (.bool true))) (.t 216), none, 9, []⟩]) (RC.cond (.t 217) (RC.seq (RC.region 1 [
    ⟨(some 4), .move (.c (.s (.bool false))), none, 0, []⟩]) (RC.ret)) (RC.skip))))) (RC.seq (RC.region 2 [
    ⟨(some 219), .bin .eql (.t 69) (.c (.s (.int .i64 9))), none, 0, []⟩,
    ⟨(some 218), .move (.t 219), none, 1, []⟩]) (RC.cond (.t 218) (RC.seq (RC.region 21 [
    ⟨(some 220), .move (.t 5), none, 0, []⟩,
    ⟨(some 221), .nilCheck (.t 220), none, 1, []⟩,
    ⟨(some 222), .fieldAddr 0 (.t 221), none, 2, []⟩,
    ⟨(some 223), .load none (.t 222), none, 3, []⟩,
    ⟨(some 224), .nilCheck (.t 223), none, 4, []⟩,
    ⟨(some 225), .fieldAddr 0 (.t 224), none, 5, []⟩,
    ⟨(some 226), .load none (.t 225), none, 6, []⟩,
    ⟨(some 227), .fieldAddr 1 (.t 10), none, 7, []⟩,
    ⟨(some 228), .load none (.t 227), none, 8, []⟩,
    ⟨(some 230), .move (.t 7), none, 10, []⟩,
    ⟨(some 231), .nilCheck (.t 230), none, 11, []⟩,
    ⟨(some 232), .fieldAddr 0 (.t 231), none, 12, []⟩,
    ⟨(some 233), .load none (.t 232), none, 13, []⟩,
    ⟨(some 234), .nilCheck (.t 233), none, 14, []⟩,
    ⟨(some 235), .fieldAddr 0 (.t 234), none, 15, []⟩,
    ⟨(some 236), .load none (.t 235), none, 16, []⟩,
    ⟨(some 237), .fieldAddr 1 (.t 10), none, 17, []⟩,
    ⟨(some 238), .load none (.t 237), none, 18, []⟩,
    ⟨(some 229), .call F.heap_Timers_Cancel [(.t 226), (.t 228)], none, 9, [⟨233, none, (.t 232), none⟩, ⟨236, none, (.t 235), none⟩, ⟨238, none, (.t 237), none⟩]⟩,
    ⟨(some 239), .call F.detentref7_Timers_Cancel [(.t 236), (.t 238)], none, 19, []⟩,
    ⟨(some 240), .eqs .bool true (.t 229) (.t 239), none, 20, []⟩]) (RC.cond (.t 240) (RC.seq (RC.region 1 [
    ⟨(some 4), .move (.c (.s (.bool false))), none, 0, []⟩]) (RC.ret)) (RC.skip))) (RC.skip))))))))))))))))))))) R.detentlaw20_HandPlays_s0))))))) R.detentlaw20_HandPlays_s1)
def detentlaw20_HandPlays_s3 : RC :=
  RC.seq (RC.region 1 [
    ⟨(some 4), .move (.c (.s (.bool true))), none, 0, []⟩]) (RC.ret)
def detentlaw20_HandPlays : RFunc := RFunc.mk 299 [.tmp 4] (
  RC.seq (RC.region 1 [
    ⟨(some 4), .move (.c (.s (.bool false))), none, 0, []⟩]) (RC.seq (RC.seq (RC.region 2 [
    ⟨(some 31), .call F.detentlaw20_known [], none, 0, []⟩,
    ⟨(some 32), .un .not (.t 31), none, 1, []⟩]) (RC.cond (.t 32) (RC.seq (RC.region 1 [
    ⟨(some 4), .move (.c (.s (.bool false))), none, 0, []⟩]) (RC.ret)) (RC.skip))) (RC.seq (RC.seq (RC.region 3 [
    ⟨(some 33), .move (.t 1), none, 0, []⟩,
    ⟨(some 34), .len (.t 33), none, 1, []⟩,
    ⟨(some 35), .bin .gtr (.t 34) (.c (.s (.int .i64 80))), none, 2, []⟩]) (RC.cond (.t 35) (RC.seq (RC.region 1 [
    ⟨(some 4), .move (.c (.s (.bool true))), none, 0, []⟩]) (RC.ret)) (RC.skip))) (RC.seq (RC.region 7 [
    ⟨(some 37), .move (.t 0), none, 0, []⟩,
    ⟨(some 38), .call F.cyc_NewHands [(.t 37)], none, 1, []⟩,
    ⟨(some 36), .move (.t 38), none, 2, []⟩,
    ⟨(some 39), .extract 0 (.t 36), none, 3, []⟩,
    ⟨(some 40), .extract 1 (.t 36), none, 4, []⟩,
    ⟨(some 5), .move (.t 39), none, 5, []⟩,
    ⟨(some 6), .move (.t 40), none, 6, []⟩]) (RC.seq (RC.region 7 [
    ⟨(some 42), .move (.t 0), none, 0, []⟩,
    ⟨(some 43), .call F.detentref20_New [(.t 42)], none, 1, []⟩,
    ⟨(some 41), .move (.t 43), none, 2, []⟩,
    ⟨(some 44), .extract 0 (.t 41), none, 3, []⟩,
    ⟨(some 45), .extract 1 (.t 41), none, 4, []⟩,
    ⟨(some 7), .move (.t 44), none, 5, []⟩,
    ⟨(some 8), .move (.t 45), none, 6, []⟩]) (RC.seq (RC.seq (RC.region 10 [
    ⟨(some 46), .move (.t 6), none, 0, []⟩,
    ⟨(some 47), .move (.t 8), none, 1, []⟩,
    ⟨(some 48), .bin .neq (.t 46) (.t 47), none, 2, []⟩,
    ⟨(some 49), .move (.t 48), none, 3, []⟩,
    ⟨(some 50), .move (.t 5), (some (49, false)), 4, []⟩,
    ⟨(some 51), .eqs .ptr false (.t 50) (.c (.s (.ptr none))), (some (49, false)), 5, []⟩,
    ⟨(some 52), .move (.t 8), (some (49, false)), 6, []⟩,
    ⟨(some 53), .bin .neq (.t 52) (.c (.s (.int .i64 0))), (some (49, false)), 7, []⟩,
    ⟨(some 54), .eqs .bool true (.t 51) (.t 53), (some (49, false)), 8, []⟩,
    ⟨(some 55), .pick (.t 49) (.c (.s (.bool true))) (.t 54), none, 9, []⟩]) (RC.cond (.t 55) (RC.seq (RC.region 1 [
    ⟨(some 4), .move (.c (.s (.bool false))), none, 0, []⟩]) (RC.ret)) (RC.skip))) (RC.seq (RC.seq (RC.region 2 [
    ⟨(some 56), .move (.t 7), none, 0, []⟩,
    ⟨(some 57), .eqs .ptr false (.t 56) (.c (.s (.ptr none))), none, 1, []⟩]) (RC.cond (.t 57) (RC.seq (RC.region 1 [
    ⟨(some 4), .move (.c (.s (.bool true))), none, 0, []⟩]) (RC.ret)) (RC.skip))) (RC.seq (RC.seq (RC.region 1 [
    ⟨(some 9), .move (.c (.s (.int .i64 0))), none, 0, []⟩]) (RC.block 0 (RC.loop R.detentlaw20_HandPlays_l2))) R.detentlaw20_HandPlays_s3))))))))
theorem detentlaw20_HandPlays_ok : chkFunc Go.Proofs.Try.prog [] Go.Proofs.Try.f8 detentlaw20_HandPlays = true := by kernel_rfl
def detentlaw20_Fired_l0 : RC :=
  RC.seq (RC.seq (RC.region 4 [
    ⟨(some 11), .move (.t 5), none, 0, []⟩,
    ⟨(some 12), .move (.t 0), none, 1, []⟩,
    ⟨(some 13), .len (.t 12), none, 2, []⟩,
    ⟨(some 14), .bin .lss (.t 11) (.t 13), none, 3, []⟩]) (RC.cond (.t 14) (RC.skip) (RC.exit 0))) (RC.seq (RC.block 1 (RC.seq (RC.region 37 [
    ⟨(some 17), .move (.t 0), none, 0, []⟩,
    ⟨(some 18), .move (.t 5), none, 1, []⟩,
    ⟨(some 19), .indexSl 3 (.t 17) (.t 18), none, 2, []⟩,
    ⟨(some 20), .fieldAddr 0 (.t 19), none, 3, []⟩,
    ⟨(some 21), .load none (.t 20), none, 4, []⟩,
    ⟨(some 22), .move (.t 1), none, 5, []⟩,
    ⟨(some 23), .move (.t 5), none, 6, []⟩,
    ⟨(some 24), .indexSl 3 (.t 22) (.t 23), none, 7, []⟩,
    ⟨(some 25), .fieldAddr 0 (.t 24), none, 8, []⟩,
    ⟨(some 26), .load none (.t 25), none, 9, []⟩,
    ⟨(some 27), .eqs .bool true (.t 21) (.t 26), none, 10, []⟩,
    ⟨(some 28), .move (.t 27), none, 11, []⟩,
    ⟨(some 29), .move (.t 0), (some (28, false)), 12, []⟩,
    ⟨(some 30), .move (.t 5), (some (28, false)), 13, []⟩,
    ⟨(some 31), .indexSl 3 (.t 29) (.t 30), (some (28, false)), 14, []⟩,
    ⟨(some 32), .fieldAddr 1 (.t 31), (some (28, false)), 15, []⟩,
    ⟨(some 33), .load none (.t 32), (some (28, false)), 16, []⟩,
    ⟨(some 34), .move (.t 1), (some (28, false)), 17, []⟩,
    ⟨(some 35), .move (.t 5), (some (28, false)), 18, []⟩,
    ⟨(some 36), .indexSl 3 (.t 34) (.t 35), (some (28, false)), 19, []⟩,
    ⟨(some 37), .fieldAddr 1 (.t 36), (some (28, false)), 20, []⟩,
    ⟨(some 38), .load none (.t 37), (some (28, false)), 21, []⟩,
    ⟨(some 39), .bin .neq (.t 33) (.t 38), (some (28, false)), 22, []⟩,
    ⟨(some 40), .pick (.t 28) (.c (.s (.bool true))) (.t 39), none, 23, []⟩,
    ⟨(some 41), .move (.t 40), none, 24, []⟩,
    ⟨(some 42), .move (.t 0), (some (41, false)), 25, []⟩,
    ⟨(some 43), .move (.t 5), (some (41, false)), 26, []⟩,
    ⟨(some 44), .indexSl 3 (.t 42) (.t 43), (some (41, false)), 27, []⟩,
    ⟨(some 45), .fieldAddr 2 (.t 44), (some (41, false)), 28, []⟩,
    ⟨(some 46), .load none (.t 45), (some (41, false)), 29, []⟩,
    ⟨(some 47), .move (.t 1), (some (41, false)), 30, []⟩,
    ⟨(some 48), .move (.t 5), (some (41, false)), 31, []⟩,
    ⟨(some 49), .indexSl 3 (.t 47) (.t 48), (some (41, false)), 32, []⟩,
    ⟨(some 50), .fieldAddr 2 (.t 49), (some (41, false)), 33, []⟩,
    ⟨(some 51), .load none (.t 50), (some (41, false)), 34, []⟩,
    ⟨(some 52), .bin .neq (.t 46) (.t 51), (some (41, false)), 35, []⟩,
    ⟨(some 53), .pick (.t 41) (.c (.s (.bool true))) (.t 52), none, 36, []⟩]) (RC.cond (.t 53) (RC.seq (RC.region 1 [
    ⟨(some 4), .move (.c (.s (.bool false))), none, 0, []⟩]) (RC.ret)) (RC.skip)))) (RC.region 3 [
    ⟨(some 15), .move (.t 5), none, 0, []⟩,
    ⟨(some 16), .bin .add (.t 15) (.c (.s (.int .i64 1))), none, 1, []⟩,
    ⟨(some 5), .move (.t 16), none, 2, []⟩]))
def detentlaw20_Fired_s1 : RC :=
  RC.seq (RC.region 1 [
    ⟨(some 4), .move (.c (.s (.bool true))), none, 0, []⟩]) (RC.ret)
def detentlaw20_Fired : RFunc := RFunc.mk 54 [.tmp 4] (
  RC.seq (RC.region 1 [
    ⟨(some 4), .move (.c (.s (.bool false))), none, 0, []⟩]) (RC.seq (RC.seq (RC.region 5 [
    ⟨(some 6), .move (.t 0), none, 0, []⟩,
    ⟨(some 7), .len (.t 6), none, 1, []⟩,
    ⟨(some 8), .move (.t 1), none, 2, []⟩,
    ⟨(some 9), .len (.t 8), none, 3, []⟩,
    ⟨(some 10), .bin .neq (.t 7) (.t 9), none, 4, []⟩]) (RC.cond (.t 10) (RC.seq (RC.region 1 [
    ⟨(some 4), .move (.c (.s (.bool false))), none, 0, []⟩]) (RC.ret)) (RC.skip))) (RC.seq (RC.seq (RC.region 1 [
    ⟨(some 5), .move (.c (.s (.int .i64 0))), none, 0, []⟩]) (RC.block 0 (RC.loop R.detentlaw20_Fired_l0))) R.detentlaw20_Fired_s1)))
theorem detentlaw20_Fired_ok : chkFunc Go.Proofs.Try.prog [] Go.Proofs.Try.f29 detentlaw20_Fired = true := by kernel_rfl
def detentlaw3_Same_l0 : RC :=
  RC.seq (RC.seq (RC.region 4 [
    ⟨(some 11), .move (.t 5), none, 0, []⟩,
    ⟨(some 12), .move (.t 0), none, 1, []⟩,
    ⟨(some 13), .len (.t 12), none, 2, []⟩,
    ⟨(some 14), .bin .lss (.t 11) (.t 13), none, 3, []⟩]) (RC.cond (.t 14) (RC.skip) (RC.exit 0))) (RC.seq (RC.block 1 (RC.seq (RC.region 9 [
    ⟨(some 17), .move (.t 0), none, 0, []⟩,
    ⟨(some 18), .move (.t 5), none, 1, []⟩,
    ⟨(some 19), .indexSl 1 (.t 17) (.t 18), none, 2, []⟩,
    ⟨(some 20), .load none (.t 19), none, 3, []⟩,
    ⟨(some 21), .move (.t 1), none, 4, []⟩,
    ⟨(some 22), .move (.t 5), none, 5, []⟩,
    ⟨(some 23), .indexSl 1 (.t 21) (.t 22), none, 6, []⟩,
    ⟨(some 24), .load none (.t 23), none, 7, []⟩,
    ⟨(some 25), .bin .neq (.t 20) (.t 24), none, 8, []⟩]) (RC.cond (.t 25) (RC.seq (RC.region 1 [
    ⟨(some 4), .move (.c (.s (.bool false))), none, 0, []⟩]) (RC.ret)) (RC.skip)))) (RC.region 3 [
    ⟨(some 15), .move (.t 5), none, 0, []⟩,
    ⟨(some 16), .bin .add (.t 15) (.c (.s (.int .i64 1))), none, 1, []⟩,
    ⟨(some 5), .move (.t 16), none, 2, []⟩]))
def detentlaw3_Same_s1 : RC :=
  RC.seq (RC.region 1 [
    ⟨(some 4), .move (.c (.s (.bool true))), none, 0, []⟩]) (RC.ret)
def detentlaw3_Same : RFunc := RFunc.mk 26 [.tmp 4] (
  RC.seq (RC.region 1 [
    ⟨(some 4), .move (.c (.s (.bool false))), none, 0, []⟩]) (RC.seq (RC.seq (RC.region 5 [
    ⟨(some 6), .move (.t 0), none, 0, []⟩,
    ⟨(some 7), .len (.t 6), none, 1, []⟩,
    ⟨(some 8), .move (.t 1), none, 2, []⟩,
    ⟨(some 9), .len (.t 8), none, 3, []⟩,
    ⟨(some 10), .bin .neq (.t 7) (.t 9), none, 4, []⟩]) (RC.cond (.t 10) (RC.seq (RC.region 1 [
    ⟨(some 4), .move (.c (.s (.bool false))), none, 0, []⟩]) (RC.ret)) (RC.skip))) (RC.seq (RC.seq (RC.region 1 [
    ⟨(some 5), .move (.c (.s (.int .i64 0))), none, 0, []⟩]) (RC.block 0 (RC.loop R.detentlaw3_Same_l0))) R.detentlaw3_Same_s1)))
theorem detentlaw3_Same_ok : chkFunc Go.Proofs.Try.prog [] Go.Proofs.Try.f30 detentlaw3_Same = true := by kernel_rfl
def detentlaw20_known : RFunc := RFunc.mk 139 [.tmp 0] (
  RC.seq (RC.region 1 [
    ⟨(some 0), .move (.c (.s (.bool false))), none, 0, []⟩]) (RC.seq (RC.region 6 [
    ⟨(some 13), .call F.cyc_NewHands [(.c (.s (.int .i64 10)))], none, 0, []⟩,
    ⟨(some 12), .move (.t 13), none, 1, []⟩,
    ⟨(some 14), .extract 0 (.t 12), none, 2, []⟩,
    ⟨(some 15), .extract 1 (.t 12), none, 3, []⟩,
    ⟨(some 1), .move (.t 14), none, 4, []⟩,
    ⟨(some 2), .move (.t 15), none, 5, []⟩]) (RC.seq (RC.seq (RC.region 23 [
    ⟨(some 16), .move (.t 2), none, 0, []⟩,
    ⟨(some 17), .bin .neq (.t 16) (.c (.s (.int .i64 0))), none, 1, []⟩,
    ⟨(some 18), .move (.t 17), none, 2, []⟩,
    ⟨(some 19), .move (.t 1), (some (18, false)), 3, []⟩,
    ⟨(some 20), .eqs .ptr false (.t 19) (.c (.s (.ptr none))), (some (18, false)), 4, []⟩,
    ⟨(some 21), .pick (.t 18) (.c (.s (.bool true))) (.t 20), none, 5, []⟩,
    ⟨(some 22), .move (.t 21), none, 6, []⟩,
    ⟨(some 23), .move (.t 1), (some (22, false)), 7, []⟩,
    ⟨(some 24), .nilCheck (.t 23), (some (22, false)), 8, []⟩,
    ⟨(some 25), .fieldAddr 0 (.t 24), (some (22, false)), 9, []⟩,
    ⟨(some 26), .load none (.t 25), (some (22, false)), 10, []⟩,
    ⟨(some 27), .eqs .ptr false (.t 26) (.c (.s (.ptr none))), (some (22, false)), 11, []⟩,
    ⟨(some 28), .pick (.t 22) (.c (.s (.bool true))) (.t 27), none, 12, []⟩,
    ⟨(some 29), .move (.t 28), none, 13, []⟩,
    ⟨(some 30), .move (.t 1), (some (29, false)), 14, []⟩,
    ⟨(some 31), .nilCheck (.t 30), (some (29, false)), 15, []⟩,
    ⟨(some 32), .fieldAddr 0 (.t 31), (some (29, false)), 16, []⟩,
    ⟨(some 33), .load none (.t 32), (some (29, false)), 17, []⟩,
    ⟨(some 34), .nilCheck (.t 33), (some (29, false)), 18, []⟩,
    ⟨(some 35), .fieldAddr 0 (.t 34), (some (29, false)), 19, []⟩,
    ⟨(some 36), .load none (.t 35), (some (29, false)), 20, []⟩,
    ⟨(some 37), .eqs .ptr false (.t 36) (.c (.s (.ptr none))), (some (29, false)), 21, []⟩,
    ⟨(some 38), .pick (.t 29) (.c (.s (.bool true))) (.t 37), none, 22, []⟩]) (RC.cond (.t 38) (RC.seq (RC.region 1 [
    ⟨(some 0), .move (.c (.s (.bool false))), none, 0, []⟩]) (RC.ret)) (RC.skip))) (RC.seq (RC.region 7 [
    ⟨(some 40), .move (.t 1), none, 0, []⟩,
    ⟨(some 41), .call F.cyc_Hands_Cyclic [(.t 40), (.c (.s (.int .i64 20))), (.c (.s (.int .i64 5))), (.c (.s (.bool true))), (.c (.s (.bool false)))], none, 1, []⟩,
    ⟨(some 39), .move (.t 41), none, 2, []⟩,
    ⟨(some 42), .extract 0 (.t 39), none, 3, []⟩,
    ⟨(some 43), .extract 1 (.t 39), none, 4, []⟩,
    ⟨(some 3), .move (.t 42), none, 5, []⟩,
    ⟨(some 4), .move (.t 43), none, 6, []⟩]) (RC.seq (RC.region 7 [
    ⟨(some 45), .move (.t 1), none, 0, []⟩,
    ⟨(some 46), .call F.cyc_Hands_Alarm [(.t 45)], none, 1, []⟩,
    ⟨(some 44), .move (.t 46), none, 2, []⟩,
    ⟨(some 47), .extract 0 (.t 44), none, 3, []⟩,
    ⟨(some 48), .extract 1 (.t 44), none, 4, []⟩,
    ⟨(some 5), .move (.t 47), none, 5, []⟩,
    ⟨(some 6), .move (.t 48), none, 6, []⟩]) (RC.seq (RC.region 3 [
    ⟨(some 49), .move (.t 1), none, 0, []⟩,
    ⟨(some 50), .call F.cyc_Hands_Set [(.t 49), (.c (.s (.int .i64 1))), (.c (.s (.int .i64 0)))], none, 1, []⟩,
    ⟨(some 7), .move (.t 50), none, 2, []⟩]) (RC.seq (RC.region 7 [
    ⟨(some 52), .move (.t 1), none, 0, []⟩,
    ⟨(some 53), .call F.cyc_Hands_Wait [(.t 52), (.c (.s (.int .i64 0))), (.c (.s (.int .i64 7)))], none, 1, []⟩,
    ⟨(some 51), .move (.t 53), none, 2, []⟩,
    ⟨(some 54), .extract 0 (.t 51), none, 3, []⟩,
    ⟨(some 55), .extract 1 (.t 51), none, 4, []⟩,
    ⟨(some 8), .move (.t 54), none, 5, []⟩,
    ⟨(some 9), .move (.t 55), none, 6, []⟩]) (RC.seq (RC.region 7 [
    ⟨(some 57), .move (.t 1), none, 0, []⟩,
    ⟨(some 58), .call F.cyc_Hands_Pass [(.t 57)], none, 1, []⟩,
    ⟨(some 56), .move (.t 58), none, 2, []⟩,
    ⟨(some 59), .extract 0 (.t 56), none, 3, []⟩,
    ⟨(some 60), .extract 1 (.t 56), none, 4, []⟩,
    ⟨(some 10), .move (.t 59), none, 5, []⟩,
    ⟨(some 11), .move (.t 60), none, 6, []⟩]) (RC.seq (RC.region 79 [
    ⟨(some 61), .move (.t 4), none, 0, []⟩,
    ⟨(some 62), .move (.t 6), none, 1, []⟩,
    ⟨(some 63), .bin .add (.t 61) (.t 62), none, 2, []⟩,
    ⟨(some 64), .move (.t 7), none, 3, []⟩,
    ⟨(some 65), .bin .add (.t 63) (.t 64), none, 4, []⟩,
    ⟨(some 66), .move (.t 9), none, 5, []⟩,
    ⟨(some 67), .bin .add (.t 65) (.t 66), none, 6, []⟩,
    ⟨(some 68), .bin .eql (.t 67) (.c (.s (.int .i64 0))), none, 7, []⟩,
    ⟨(some 69), .move (.t 68), none, 8, []⟩,
    ⟨(some 70), .move (.t 3), (some (69, true)), 9, []⟩,
    ⟨(some 71), .bin .eql (.t 70) (.c (.s (.int .i64 1))), (some (69, true)), 10, []⟩,
    ⟨(some 72), .pick (.t 69) (.t 71) (.c (.s (.bool false))), none, 11, []⟩,
    ⟨(some 73), .move (.t 72), none, 12, []⟩,
    ⟨(some 74), .move (.t 5), (some (73, true)), 13, []⟩,
    ⟨(some 75), .bin .eql (.t 74) (.c (.s (.int .i64 1))), (some (73, true)), 14, []⟩,
    ⟨(some 76), .pick (.t 73) (.t 75) (.c (.s (.bool false))), none, 15, []⟩,
    ⟨(some 77), .move (.t 76), none, 16, []⟩,
    ⟨(some 78), .move (.t 10), (some (77, true)), 17, []⟩,
    ⟨(some 79), .len (.t 78), (some (77, true)), 18, []⟩,
    ⟨(some 80), .bin .eql (.t 79) (.c (.s (.int .i64 2))), (some (77, true)), 19, []⟩,
    ⟨(some 81), .pick (.t 77) (.t 80) (.c (.s (.bool false))), none, 20, []⟩,
    ⟨(some 82), .move (.t 81), none, 21, []⟩,
    ⟨(some 83), .move (.t 10), (some (82, true)), 22, []⟩,
    ⟨(some 84), .indexSl 3 (.t 83) (.c (.s (.int .i64 0))), (some (82, true)), 23, []⟩,
    ⟨(some 85), .fieldAddr 0 (.t 84), (some (82, true)), 24, []⟩,
    ⟨(some 86), .load none (.t 85), (some (82, true)), 25, []⟩,
    ⟨(some 87), .pick (.t 82) (.t 86) (.c (.s (.bool false))), none, 26, []⟩,
    ⟨(some 88), .move (.t 87), none, 27, []⟩,
    ⟨(some 89), .move (.t 10), (some (88, true)), 28, []⟩,
    ⟨(some 90), .indexSl 3 (.t 89) (.c (.s (.int .i64 0))), (some (88, true)), 29, []⟩,
    ⟨(some 91), .fieldAddr 2 (.t 90), (some (88, true)), 30, []⟩,
    ⟨(some 92), .load none (.t 91), (some (88, true)), 31, []⟩,
    ⟨(some 93), .bin .eql (.t 92) (.c (.s (.int .u64 5))), (some (88, true)), 32, []⟩,
    ⟨(some 94), .pick (.t 88) (.t 93) (.c (.s (.bool false))), none, 33, []⟩,
    ⟨(some 95), .move (.t 94), none, 34, []⟩,
    ⟨(some 96), .move (.t 10), (some (95, true)), 35, []⟩,
    ⟨(some 97), .indexSl 3 (.t 96) (.c (.s (.int .i64 1))), (some (95, true)), 36, []⟩,
    ⟨(some 98), .fieldAddr 0 (.t 97), (some (95, true)), 37, []⟩,
    ⟨(some 99), .load none (.t 98), (some (95, true)), 38, []⟩,
    ⟨(some 100), .un .not (.t 99), (some (95, true)), 39, []⟩,
    ⟨(some 101), .pick (.t 95) (.t 100) (.c (.s (.bool false))), none, 40, []⟩,
    ⟨(some 102), .move (.t 101), none, 41, []⟩,
    ⟨(some 103), .move (.t 10), (some (102, true)), 42, []⟩,
    ⟨(some 104), .indexSl 3 (.t 103) (.c (.s (.int .i64 1))), (some (102, true)), 43, []⟩,
    ⟨(some 105), .fieldAddr 2 (.t 104), (some (102, true)), 44, []⟩,
    ⟨(some 106), .load none (.t 105), (some (102, true)), 45, []⟩,
    ⟨(some 107), .bin .eql (.t 106) (.c (.s (.int .u64 10))), (some (102, true)), 46, []⟩,
    ⟨(some 108), .pick (.t 102) (.t 107) (.c (.s (.bool false))), none, 47, []⟩,
    ⟨(some 109), .move (.t 108), none, 48, []⟩,
    ⟨(some 110), .move (.t 11), (some (109, true)), 49, []⟩,
    ⟨(some 111), .len (.t 110), (some (109, true)), 50, []⟩,
    ⟨(some 112), .bin .eql (.t 111) (.c (.s (.int .i64 1))), (some (109, true)), 51, []⟩,
    ⟨(some 113), .pick (.t 109) (.t 112) (.c (.s (.bool false))), none, 52, []⟩,
    ⟨(some 114), .move (.t 113), none, 53, []⟩,
    ⟨(some 115), .move (.t 11), (some (114, true)), 54, []⟩,
    ⟨(some 116), .indexSl 1 (.t 115) (.c (.s (.int .i64 0))), (some (114, true)), 55, []⟩,
    ⟨(some 117), .load none (.t 116), (some (114, true)), 56, []⟩,
    ⟨(some 118), .bin .eql (.t 117) (.c (.s (.int .i64 7))), (some (114, true)), 57, []⟩,
    ⟨(some 119), .pick (.t 114) (.t 118) (.c (.s (.bool false))), none, 58, []⟩,
    ⟨(some 120), .move (.t 119), none, 59, []⟩,
    ⟨(some 121), .move (.t 1), (some (120, true)), 60, []⟩,
    ⟨(some 122), .nilCheck (.t 121), (some (120, true)), 61, []⟩,
    ⟨(some 123), .fieldAddr 0 (.t 122), (some (120, true)), 62, []⟩,
    ⟨(some 124), .load none (.t 123), (some (120, true)), 63, []⟩,
    ⟨(some 125), .call F.clock_Clock_Up [(.t 124)], (some (120, true)), 64, []⟩,
    ⟨(some 126), .bin .eql (.t 125) (.c (.s (.int .u64 10))), (some (120, true)), 65, []⟩,
    ⟨(some 127), .pick (.t 120) (.t 126) (.c (.s (.bool false))), none, 66, []⟩,
    ⟨(some 128), .move (.t 127), none, 67, []⟩,
    ⟨(some 129), .move (.t 1), (some (128, true)), 68, []⟩,
    ⟨(some 130), .nilCheck (.t 129), (some (128, true)), 69, []⟩,
    ⟨(some 131), .fieldAddr 0 (.t 130), (some (128, true)), 70, []⟩,
    ⟨(some 132), .load none (.t 131), (some (128, true)), 71, []⟩,
    ⟨(some 133), .nilCheck (.t 132), (some (128, true)), 72, []⟩,
    ⟨(some 134), .fieldAddr 0 (.t 133), (some (128, true)), 73, []⟩,
    ⟨(some 135), .load none (.t 134), (some (128, true)), 74, []⟩,
    ⟨(some 136), .call F.heap_Timers_Len [(.t 135)], (some (128, true)), 75, []⟩,
    ⟨(some 137), .bin .eql (.t 136) (.c (.s (.int .i64 0))), (some (128, true)), 76, []⟩,
    ⟨(some 138), .pick (.t 128) (.t 137) (.c (.s (.bool false))), none, 77, []⟩,
    ⟨(some 0), .move (.t 138), none, 78, []⟩]) (RC.ret))))))))))
theorem detentlaw20_known_ok : chkFunc Go.Proofs.Try.prog [] Go.Proofs.Try.f9 detentlaw20_known = true := by kernel_rfl
def cyc_NewHands : RFunc := RFunc.mk 19 [.tmp 2, .tmp 3] (
  RC.seq (RC.region 2 [
    ⟨(some 2), .move (.c (.s (.ptr none))), none, 0, []⟩,
    ⟨(some 3), .move (.c (.s (.int .i64 0))), none, 1, []⟩]) (RC.seq (RC.region 7 [
    ⟨(some 7), .move (.t 0), none, 0, []⟩,
    ⟨(some 8), .call F.clock_NewClock [(.t 7)], none, 1, []⟩,
    ⟨(some 6), .move (.t 8), none, 2, []⟩,
    ⟨(some 9), .extract 0 (.t 6), none, 3, []⟩,
    ⟨(some 10), .extract 1 (.t 6), none, 4, []⟩,
    ⟨(some 4), .move (.t 9), none, 5, []⟩,
    ⟨(some 5), .move (.t 10), none, 6, []⟩]) (RC.seq (RC.seq (RC.region 2 [
    ⟨(some 11), .move (.t 5), none, 0, []⟩,
    ⟨(some 12), .bin .neq (.t 11) (.c (.s (.int .i64 0))), none, 1, []⟩]) (RC.cond (.t 12) (RC.seq (RC.region 3 [
    ⟨(some 13), .move (.t 5), none, 0, []⟩,
    ⟨(some 2), .move (.c (.s (.ptr none))), none, 1, []⟩,
    ⟨(some 3), .move (.t 13), none, 2, []⟩]) (RC.ret)) (RC.skip))) (RC.seq (RC.region 7 [
    ⟨(some 14), .move (.t 4), none, 0, []⟩,
    ⟨(some 15), .move (.t 0), none, 1, []⟩,
    ⟨(some 16), .conv .u64 (.t 15), none, 2, []⟩,
    ⟨(some 17), .build [.ptr none, .int .u64 0, .slice none 0 0 1, .slice none 0 0 1] [(0, 1, (.t 14)), (1, 1, (.t 16))], none, 3, []⟩,
    ⟨(some 18), .box (.t 17), none, 4, []⟩,
    ⟨(some 2), .move (.t 18), none, 5, []⟩,
    ⟨(some 3), .move (.c (.s (.int .i64 0))), none, 6, []⟩]) (RC.ret)))))
theorem cyc_NewHands_ok : chkFunc Go.Proofs.Try.prog [] Go.Proofs.Try.f10 cyc_NewHands = true := by kernel_rfl
def cyc_Hands_Cyclic : RFunc := RFunc.mk 67 [.tmp 10, .tmp 11] (
  RC.seq (RC.region 2 [
    ⟨(some 10), .move (.c (.s (.int .i64 0))), none, 0, []⟩,
    ⟨(some 11), .move (.c (.s (.int .i64 0))), none, 1, []⟩]) (RC.seq (RC.region 7 [
    ⟨(some 17), .move (.t 1), none, 0, []⟩,
    ⟨(some 18), .call F.nums_Rel [(.t 17)], none, 1, []⟩,
    ⟨(some 16), .move (.t 18), none, 2, []⟩,
    ⟨(some 19), .extract 0 (.t 16), none, 3, []⟩,
    ⟨(some 20), .extract 1 (.t 16), none, 4, []⟩,
    ⟨(some 12), .move (.t 19), none, 5, []⟩,
    ⟨(some 13), .move (.t 20), none, 6, []⟩]) (RC.seq (RC.region 7 [
    ⟨(some 22), .move (.t 2), none, 0, []⟩,
    ⟨(some 23), .call F.nums_Rel [(.t 22)], none, 1, []⟩,
    ⟨(some 21), .move (.t 23), none, 2, []⟩,
    ⟨(some 24), .extract 0 (.t 21), none, 3, []⟩,
    ⟨(some 25), .extract 1 (.t 21), none, 4, []⟩,
    ⟨(some 14), .move (.t 24), none, 5, []⟩,
    ⟨(some 15), .move (.t 25), none, 6, []⟩]) (RC.seq (RC.block 0 (RC.seq (RC.region 7 [
    ⟨(some 27), .move (.t 12), none, 0, []⟩,
    ⟨(some 28), .bin .eql (.t 27) (.c (.s (.int .u64 0))), none, 1, []⟩,
    ⟨(some 29), .move (.t 28), none, 2, []⟩,
    ⟨(some 30), .move (.t 15), (some (29, false)), 3, []⟩,
    ⟨(some 31), .bin .neq (.t 30) (.c (.s (.int .i64 0))), (some (29, false)), 4, []⟩,
    ⟨(some 32), .pick (.t 29) (.c (.s (.bool true))) (.t 31), none, 5, []⟩,
    ⟨(some 26), .move (.t 32), none, 6, []⟩]) (RC.cond (.t 26) (RC.seq (RC.region 2 [
    ⟨(some 10), .move (.c (.s (.int .i64 0))), none, 0, []⟩,
    ⟨(some 11), .move (.c (.s (.int .i64 (-17)))), none, 1, []⟩]) (RC.ret)) (RC.seq (RC.region 7 [
    ⟨(some 34), .move (.t 0), none, 0, []⟩,
    ⟨(some 35), .nilCheck (.t 34), none, 1, []⟩,
    ⟨(some 36), .fieldAddr 2 (.t 35), none, 2, []⟩,
    ⟨(some 37), .load none (.t 36), none, 3, []⟩,
    ⟨(some 38), .len (.t 37), none, 4, []⟩,
    ⟨(some 39), .bin .geq (.t 38) (.c (.s (.int .i64 8))), none, 5, []⟩,
    ⟨(some 33), .move (.t 39), none, 6, []⟩]) (RC.cond (.t 33) (RC.seq (RC.region 2 [
    ⟨(some 10), .move (.c (.s (.int .i64 0))), none, 0, []⟩,
    ⟨(some 11), .move (.c (.s (.int .i64 (-33)))), none, 1, []⟩]) (RC.ret)) (RC.skip)))))) (RC.seq (RC.region 8 [
    ⟨(some 40), .move (.t 14), none, 0, []⟩,
    ⟨(some 41), .move (.t 0), none, 1, []⟩,
    ⟨(some 42), .nilCheck (.t 41), none, 2, []⟩,
    ⟨(some 43), .fieldAddr 0 (.t 42), none, 3, []⟩,
    ⟨(some 44), .load none (.t 43), none, 4, []⟩,
    ⟨(some 45), .call F.clock_Clock_Up [(.t 44)], none, 5, []⟩,
    ⟨(some 46), .bin .add (.t 40) (.t 45), none, 6, []⟩,
    ⟨(some 14), .move (.t 46), none, 7, []⟩]) (RC.seq (RC.region 16 [
    ⟨(some 47), .move (.t 0), none, 0, []⟩,
    ⟨(some 48), .move (.t 0), none, 1, []⟩,
    ⟨(some 49), .nilCheck (.t 48), none, 2, []⟩,
    ⟨(some 50), .fieldAddr 2 (.t 49), none, 3, []⟩,
    ⟨(some 51), .load none (.t 50), none, 4, []⟩,
    ⟨(some 52), .move (.t 14), none, 5, []⟩,
    ⟨(some 53), .move (.t 14), none, 6, []⟩,
    ⟨(some 54), .move (.t 12), none, 7, []⟩,
    ⟨(some 55), .move (.t 3), none, 8, []⟩,
    ⟨(some 56), .move (.t 4), none, 9, []⟩,
    ⟨(some 57), .build [.int .u64 0, .int .u64 0, .int .u64 0, .bool false, .bool false] [(0, 1, (.t 52)), (1, 1, (.t 53)), (2, 1, (.t 54)), (3, 1, (.t 55)), (4, 1, (.t 56))], none, 10, []⟩,
    ⟨(some 58), .buildSlice 5 1 [.int .u64 0, .int .u64 0, .int .u64 0, .bool false, .bool false] [(0, 5, (.t 57))], none, 11, []⟩,
    ⟨(some 59), .append 5 32 (.t 51) (.t 58), none, 12, []⟩,
    ⟨(some 60), .nilCheck (.t 47), none, 13, []⟩,
    ⟨(some 61), .fieldAddr 2 (.t 60), none, 14, []⟩,
    ⟨none, .store 1 (.t 61) (.t 59), none, 15, []⟩]) (RC.seq (RC.region 7 [
    ⟨(some 62), .move (.t 0), none, 0, []⟩,
    ⟨(some 63), .nilCheck (.t 62), none, 1, []⟩,
    ⟨(some 64), .fieldAddr 2 (.t 63), none, 2, []⟩,
    ⟨(some 65), .load none (.t 64), none, 3, []⟩,
    ⟨(some 66), .len (.t 65), none, 4, []⟩,
    ⟨(some 10), .move (.t 66), none, 5, []⟩,
    ⟨(some 11), .move (.c (.s (.int .i64 0))), none, 6, []⟩]) (RC.ret))))))))
theorem cyc_Hands_Cyclic_ok : chkFunc Go.Proofs.Try.prog [] Go.Proofs.Try.f11 cyc_Hands_Cyclic = true := by kernel_rfl
def cyc_Hands_Pass_l0 : RC :=
  RC.seq (RC.seq (RC.region 12 [
    ⟨(some 35), .move (.t 8), none, 0, []⟩,
    ⟨(some 36), .nilCheck (.t 35), none, 1, []⟩,
    ⟨(some 37), .fieldAddr 3 (.t 36), none, 2, []⟩,
    ⟨(some 38), .load none (.t 37), none, 3, []⟩,
    ⟨(some 39), .move (.t 38), none, 4, []⟩,
    ⟨(some 40), .move (.t 8), (some (39, true)), 5, []⟩,
    ⟨(some 41), .nilCheck (.t 40), (some (39, true)), 6, []⟩,
    ⟨(some 42), .fieldAddr 1 (.t 41), (some (39, true)), 7, []⟩,
    ⟨(some 43), .load none (.t 42), (some (39, true)), 8, []⟩,
    ⟨(some 44), .move (.t 5), (some (39, true)), 9, []⟩,
    ⟨(some 45), .bin .leq (.t 43) (.t 44), (some (39, true)), 10, []⟩,
    ⟨(some 46), .pick (.t 39) (.t 45) (.c (.s (.bool false))), none, 11, []⟩]) (RC.cond (.t 46) (RC.skip) (RC.exit 2))) (RC.seq (RC.block 3 (RC.region 11 [
    ⟨(some 58), .move (.t 6), none, 0, []⟩,
    ⟨(some 59), .move (.t 7), none, 1, []⟩,
    ⟨(some 60), .bin .add (.t 59) (.c (.s (.int .i64 1))), none, 2, []⟩,
    ⟨(some 61), .move (.t 8), none, 3, []⟩,
    ⟨(some 62), .nilCheck (.t 61), none, 4, []⟩,
    ⟨(some 63), .fieldAddr 1 (.t 62), none, 5, []⟩,
    ⟨(some 64), .load none (.t 63), none, 6, []⟩,
    ⟨(some 65), .build [.bool false, .int .i64 0, .int .u64 0] [(0, 1, (.c (.s (.bool true)))), (1, 1, (.t 60)), (2, 1, (.t 64))], none, 7, []⟩,
    ⟨(some 66), .buildSlice 3 1 [.bool false, .int .i64 0, .int .u64 0] [(0, 3, (.t 65))], none, 8, []⟩,
    ⟨(some 67), .append 3 24 (.t 58) (.t 66), none, 9, []⟩,
    ⟨(some 6), .move (.t 67), none, 10, []⟩])) (RC.region 12 [
    ⟨(some 47), .move (.t 8), none, 0, []⟩,
    ⟨(some 48), .nilCheck (.t 47), none, 1, []⟩,
    ⟨(some 49), .fieldAddr 1 (.t 48), none, 2, []⟩,
    ⟨(some 50), .load none (.t 49), none, 3, []⟩,
    ⟨(some 51), .move (.t 8), none, 4, []⟩,
    ⟨(some 52), .nilCheck (.t 51), none, 5, []⟩,
    ⟨(some 53), .fieldAddr 2 (.t 52), none, 6, []⟩,
    ⟨(some 54), .load none (.t 53), none, 7, []⟩,
    ⟨(some 55), .bin .add (.t 50) (.t 54), none, 8, []⟩,
    ⟨(some 56), .nilCheck (.t 47), none, 9, []⟩,
    ⟨(some 57), .fieldAddr 1 (.t 56), none, 10, []⟩,
    ⟨none, .store 1 (.t 57) (.t 55), none, 11, []⟩]))
def cyc_Hands_Pass_s1 : RC :=
  RC.region 2 [
    ⟨(some 68), .bin .add (.t 26) (.c (.s (.int .i64 1))), none, 0, []⟩,
    ⟨(some 26), .move (.t 68), none, 1, []⟩]
def cyc_Hands_Pass_l2 : RC :=
  RC.seq (RC.region 1 [
    ⟨(some 27), .bin .lss (.t 26) (.t 25), none, 0, []⟩]) (RC.seq (RC.cond (.t 27) (RC.skip) (RC.exit 0)) (RC.seq (RC.block 1 (RC.seq (RC.region 2 [
    ⟨(some 28), .move (.t 26), none, 0, []⟩,
    ⟨(some 7), .move (.t 28), none, 1, []⟩]) (RC.seq (RC.region 7 [
    ⟨(some 29), .move (.t 0), none, 0, []⟩,
    ⟨(some 30), .nilCheck (.t 29), none, 1, []⟩,
    ⟨(some 31), .fieldAddr 2 (.t 30), none, 2, []⟩,
    ⟨(some 32), .load none (.t 31), none, 3, []⟩,
    ⟨(some 33), .move (.t 7), none, 4, []⟩,
    ⟨(some 34), .indexSl 5 (.t 32) (.t 33), none, 5, []⟩,
    ⟨(some 8), .move (.t 34), none, 6, []⟩]) (RC.block 2 (RC.loop R.cyc_Hands_Pass_l0))))) R.cyc_Hands_Pass_s1))
def cyc_Hands_Pass_l3 : RC :=
  RC.seq (RC.region 1 [
    ⟨(some 75), .bin .lss (.t 74) (.t 73), none, 0, []⟩]) (RC.seq (RC.cond (.t 75) (RC.skip) (RC.exit 4)) (RC.seq (RC.block 5 (RC.seq (RC.region 2 [
    ⟨(some 76), .move (.t 74), none, 0, []⟩,
    ⟨(some 9), .move (.t 76), none, 1, []⟩]) (RC.seq (RC.region 7 [
    ⟨(some 77), .move (.t 0), none, 0, []⟩,
    ⟨(some 78), .nilCheck (.t 77), none, 1, []⟩,
    ⟨(some 79), .fieldAddr 3 (.t 78), none, 2, []⟩,
    ⟨(some 80), .load none (.t 79), none, 3, []⟩,
    ⟨(some 81), .move (.t 9), none, 4, []⟩,
    ⟨(some 82), .indexSl 2 (.t 80) (.t 81), none, 5, []⟩,
    ⟨(some 10), .move (.t 82), none, 6, []⟩]) (RC.seq (RC.region 12 [
    ⟨(some 83), .move (.t 10), none, 0, []⟩,
    ⟨(some 84), .nilCheck (.t 83), none, 1, []⟩,
    ⟨(some 85), .fieldAddr 0 (.t 84), none, 2, []⟩,
    ⟨(some 86), .load none (.t 85), none, 3, []⟩,
    ⟨(some 87), .move (.t 86), none, 4, []⟩,
    ⟨(some 88), .move (.t 10), (some (87, true)), 5, []⟩,
    ⟨(some 89), .nilCheck (.t 88), (some (87, true)), 6, []⟩,
    ⟨(some 90), .fieldAddr 1 (.t 89), (some (87, true)), 7, []⟩,
    ⟨(some 91), .load none (.t 90), (some (87, true)), 8, []⟩,
    ⟨(some 92), .move (.t 5), (some (87, true)), 9, []⟩,
    ⟨(some 93), .bin .leq (.t 91) (.t 92), (some (87, true)), 10, []⟩,
    ⟨(some 94), .pick (.t 87) (.t 93) (.c (.s (.bool false))), none, 11, []⟩]) (RC.cond (.t 94) (RC.seq (RC.region 11 [
    ⟨(some 95), .move (.t 6), none, 0, []⟩,
    ⟨(some 96), .move (.t 9), none, 1, []⟩,
    ⟨(some 97), .bin .add (.t 96) (.c (.s (.int .i64 1))), none, 2, []⟩,
    ⟨(some 98), .move (.t 10), none, 3, []⟩,
    ⟨(some 99), .nilCheck (.t 98), none, 4, []⟩,
    ⟨(some 100), .fieldAddr 1 (.t 99), none, 5, []⟩,
    ⟨(some 101), .load none (.t 100), none, 6, []⟩,
    ⟨(some 102), .build [.bool false, .int .i64 0, .int .u64 0] [(0, 1, (.c (.s (.bool false)))), (1, 1, (.t 97)), (2, 1, (.t 101))], none, 7, []⟩,
    ⟨(some 103), .buildSlice 3 1 [.bool false, .int .i64 0, .int .u64 0] [(0, 3, (.t 102))], none, 8, []⟩,
    ⟨(some 104), .append 3 24 (.t 95) (.t 103), none, 9, []⟩,
    ⟨(some 6), .move (.t 104), none, 10, []⟩]) (RC.region 4 [
    ⟨(some 105), .move (.t 10), none, 0, []⟩,
    ⟨(some 106), .build [.bool false, .int .u64 0] [], none, 1, []⟩,
    ⟨(some 107), .nilCheck (.t 105), none, 2, []⟩,
    ⟨none, .store 2 (.t 107) (.t 106), none, 3, []⟩])) (RC.skip)))))) (RC.region 2 [
    ⟨(some 108), .bin .add (.t 74) (.c (.s (.int .i64 1))), none, 0, []⟩,
    ⟨(some 74), .move (.t 108), none, 1, []⟩])))
def cyc_Hands_Pass_s4 : RC :=
  RC.seq (RC.region 2 [
    ⟨(some 109), .move (.t 6), none, 0, []⟩,
    ⟨(some 110), .call F.slices_SortStableFunc__cyc_Fired_cyc_Fired [(.t 109), (.c (.s (.fn F.cyc_order [])))], none, 1, []⟩]) (RC.seq (RC.region 5 [
    ⟨(some 111), .move (.t 6), none, 0, []⟩,
    ⟨(some 112), .call F.slices_Clip__cyc_Fired_cyc_Fired [(.t 111)], none, 1, []⟩,
    ⟨(some 113), .move (.t 4), none, 2, []⟩,
    ⟨(some 2), .move (.t 112), none, 3, []⟩,
    ⟨(some 3), .move (.t 113), none, 4, []⟩]) (RC.ret))
def cyc_Hands_Pass_s5 : RC :=
  RC.seq (RC.seq (RC.region 6 [
    ⟨(some 69), .move (.t 0), none, 0, []⟩,
    ⟨(some 70), .nilCheck (.t 69), none, 1, []⟩,
    ⟨(some 71), .fieldAddr 3 (.t 70), none, 2, []⟩,
    ⟨(some 72), .load none (.t 71), none, 3, []⟩,
    ⟨(some 73), .len (.t 72), none, 4, []⟩,
    ⟨(some 74), .move (.c (.s (.int .i64 0))), none, 5, []⟩]) (RC.block 4 (RC.loop R.cyc_Hands_Pass_l3))) R.cyc_Hands_Pass_s4
def cyc_Hands_Pass : RFunc := RFunc.mk 114 [.tmp 2, .tmp 3] (
  RC.seq (RC.region 2 [
    ⟨(some 2), .move (.c (.s (.slice none 0 0 1))), none, 0, []⟩,
    ⟨(some 3), .move (.c (.s (.slice none 0 0 1))), none, 1, []⟩]) (RC.seq (RC.region 6 [
    ⟨(some 11), .move (.t 0), none, 0, []⟩,
    ⟨(some 12), .nilCheck (.t 11), none, 1, []⟩,
    ⟨(some 13), .fieldAddr 0 (.t 12), none, 2, []⟩,
    ⟨(some 14), .load none (.t 13), none, 3, []⟩,
    ⟨(some 15), .call F.clock_Clock_Tick [(.t 14)], none, 4, []⟩,
    ⟨(some 4), .move (.t 15), none, 5, []⟩]) (RC.seq (RC.region 6 [
    ⟨(some 16), .move (.t 0), none, 0, []⟩,
    ⟨(some 17), .nilCheck (.t 16), none, 1, []⟩,
    ⟨(some 18), .fieldAddr 0 (.t 17), none, 2, []⟩,
    ⟨(some 19), .load none (.t 18), none, 3, []⟩,
    ⟨(some 20), .call F.clock_Clock_Up [(.t 19)], none, 4, []⟩,
    ⟨(some 5), .move (.t 20), none, 5, []⟩]) (RC.seq (RC.region 1 [
    ⟨(some 6), .move (.c (.s (.slice none 0 0 1))), none, 0, []⟩]) (RC.seq (RC.seq (RC.region 6 [
    ⟨(some 21), .move (.t 0), none, 0, []⟩,
    ⟨(some 22), .nilCheck (.t 21), none, 1, []⟩,
    ⟨(some 23), .fieldAddr 2 (.t 22), none, 2, []⟩,
    ⟨(some 24), .load none (.t 23), none, 3, []⟩,
    ⟨(some 25), .len (.t 24), none, 4, []⟩,
    ⟨(some 26), .move (.c (.s (.int .i64 0))), none, 5, []⟩]) (RC.block 0 (RC.loop R.cyc_Hands_Pass_l2))) R.cyc_Hands_Pass_s5)))))
theorem cyc_Hands_Pass_ok : chkFunc Go.Proofs.Try.prog [] Go.Proofs.Try.f12 cyc_Hands_Pass = true := by kernel_rfl
def cyc_Hands_Alarm : RFunc := RFunc.mk 25 [.tmp 2, .tmp 3] (
  RC.seq (RC.region 2 [
    ⟨(some 2), .move (.c (.s (.int .i64 0))), none, 0, []⟩,
    ⟨(some 3), .move (.c (.s (.int .i64 0))), none, 1, []⟩]) (RC.seq (RC.seq (RC.region 6 [
    ⟨(some 4), .move (.t 0), none, 0, []⟩,
    ⟨(some 5), .nilCheck (.t 4), none, 1, []⟩,
    ⟨(some 6), .fieldAddr 3 (.t 5), none, 2, []⟩,
    ⟨(some 7), .load none (.t 6), none, 3, []⟩,
    ⟨(some 8), .len (.t 7), none, 4, []⟩,
    ⟨(some 9), .bin .geq (.t 8) (.c (.s (.int .i64 8))), none, 5, []⟩]) (RC.cond (.t 9) (RC.seq (RC.region 2 [
    ⟨(some 2), .move (.c (.s (.int .i64 0))), none, 0, []⟩,
    ⟨(some 3), .move (.c (.s (.int .i64 (-33)))), none, 1, []⟩]) (RC.ret)) (RC.skip))) (RC.seq (RC.region 11 [
    ⟨(some 10), .move (.t 0), none, 0, []⟩,
    ⟨(some 11), .move (.t 0), none, 1, []⟩,
    ⟨(some 12), .nilCheck (.t 11), none, 2, []⟩,
    ⟨(some 13), .fieldAddr 3 (.t 12), none, 3, []⟩,
    ⟨(some 14), .load none (.t 13), none, 4, []⟩,
    ⟨(some 15), .build [.bool false, .int .u64 0] [], none, 5, []⟩,
    ⟨(some 16), .buildSlice 2 1 [.bool false, .int .u64 0] [(0, 2, (.t 15))], none, 6, []⟩,
    ⟨(some 17), .append 2 16 (.t 14) (.t 16), none, 7, []⟩,
    ⟨(some 18), .nilCheck (.t 10), none, 8, []⟩,
    ⟨(some 19), .fieldAddr 3 (.t 18), none, 9, []⟩,
    ⟨none, .store 1 (.t 19) (.t 17), none, 10, []⟩]) (RC.seq (RC.region 7 [
    ⟨(some 20), .move (.t 0), none, 0, []⟩,
    ⟨(some 21), .nilCheck (.t 20), none, 1, []⟩,
    ⟨(some 22), .fieldAddr 3 (.t 21), none, 2, []⟩,
    ⟨(some 23), .load none (.t 22), none, 3, []⟩,
    ⟨(some 24), .len (.t 23), none, 4, []⟩,
    ⟨(some 2), .move (.t 24), none, 5, []⟩,
    ⟨(some 3), .move (.c (.s (.int .i64 0))), none, 6, []⟩]) (RC.ret)))))
theorem cyc_Hands_Alarm_ok : chkFunc Go.Proofs.Try.prog [] Go.Proofs.Try.f13 cyc_Hands_Alarm = true := by kernel_rfl
def cyc_Hands_Set : RFunc := RFunc.mk 38 [.tmp 6] (
  RC.seq (RC.region 1 [
    ⟨(some 6), .move (.c (.s (.int .i64 0))), none, 0, []⟩]) (RC.seq (RC.region 4 [
    ⟨(some 10), .move (.t 0), none, 0, []⟩,
    ⟨(some 11), .move (.t 1), none, 1, []⟩,
    ⟨(some 12), .call F.cyc_Hands_alarm [(.t 10), (.t 11)], none, 2, []⟩,
    ⟨(some 7), .move (.t 12), none, 3, []⟩]) (RC.seq (RC.seq (RC.region 2 [
    ⟨(some 13), .move (.t 7), none, 0, []⟩,
    ⟨(some 14), .eqs .ptr false (.t 13) (.c (.s (.ptr none))), none, 1, []⟩]) (RC.cond (.t 14) (RC.seq (RC.region 1 [
    ⟨(some 6), .move (.c (.s (.int .i64 (-18)))), none, 0, []⟩]) (RC.ret)) (RC.skip))) (RC.seq (RC.region 7 [
    ⟨(some 16), .move (.t 2), none, 0, []⟩,
    ⟨(some 17), .call F.nums_Rel [(.t 16)], none, 1, []⟩,
    ⟨(some 15), .move (.t 17), none, 2, []⟩,
    ⟨(some 18), .extract 0 (.t 15), none, 3, []⟩,
    ⟨(some 19), .extract 1 (.t 15), none, 4, []⟩,
    ⟨(some 8), .move (.t 18), none, 5, []⟩,
    ⟨(some 9), .move (.t 19), none, 6, []⟩]) (RC.seq (RC.seq (RC.region 2 [
    ⟨(some 20), .move (.t 9), none, 0, []⟩,
    ⟨(some 21), .bin .neq (.t 20) (.c (.s (.int .i64 0))), none, 1, []⟩]) (RC.cond (.t 21) (RC.seq (RC.region 2 [
    ⟨(some 22), .move (.t 9), none, 0, []⟩,
    ⟨(some 6), .move (.t 22), none, 1, []⟩]) (RC.ret)) (RC.skip))) (RC.seq (RC.region 16 [
    ⟨(some 23), .move (.t 7), none, 0, []⟩,
    ⟨(some 24), .move (.t 0), none, 1, []⟩,
    ⟨(some 25), .nilCheck (.t 24), none, 2, []⟩,
    ⟨(some 26), .fieldAddr 0 (.t 25), none, 3, []⟩,
    ⟨(some 27), .load none (.t 26), none, 4, []⟩,
    ⟨(some 29), .move (.t 8), none, 6, []⟩,
    ⟨(some 31), .move (.t 0), none, 8, []⟩,
    ⟨(some 32), .nilCheck (.t 31), none, 9, []⟩,
    ⟨(some 33), .fieldAddr 1 (.t 32), none, 10, []⟩,
    ⟨(some 34), .load none (.t 33), none, 11, []⟩,
    ⟨(some 28), .call F.clock_Clock_Up [(.t 27)], none, 5, [⟨34, none, (.t 33), none⟩]⟩,
    ⟨(some 30), .bin .add (.t 28) (.t 29), none, 7, []⟩,
    ⟨(some 35), .bin .add (.t 30) (.t 34), none, 12, []⟩,
    ⟨(some 36), .build [.bool false, .int .u64 0] [(0, 1, (.c (.s (.bool true)))), (1, 1, (.t 35))], none, 13, []⟩,
    ⟨(some 37), .nilCheck (.t 23), none, 14, []⟩,
    ⟨none, .store 2 (.t 37) (.t 36), none, 15, []⟩]) (RC.seq (RC.region 1 [
    ⟨(some 6), .move (.c (.s (.int .i64 0))), none, 0, []⟩]) (RC.ret))))))))
theorem cyc_Hands_Set_ok : chkFunc Go.Proofs.Try.prog [] Go.Proofs.Try.f14 cyc_Hands_Set = true := by kernel_rfl
def clock_Clock_Up : RFunc := RFunc.mk 7 [.tmp 2] (
  RC.seq (RC.region 1 [
    ⟨(some 2), .move (.c (.s (.int .u64 0))), none, 0, []⟩]) (RC.seq (RC.region 5 [
    ⟨(some 3), .move (.t 0), none, 0, []⟩,
    ⟨(some 4), .nilCheck (.t 3), none, 1, []⟩,
    ⟨(some 5), .fieldAddr 2 (.t 4), none, 2, []⟩,
    ⟨(some 6), .load none (.t 5), none, 3, []⟩,
    ⟨(some 2), .move (.t 6), none, 4, []⟩]) (RC.ret)))
theorem clock_Clock_Up_ok : chkFunc Go.Proofs.Try.prog [] Go.Proofs.Try.f15 clock_Clock_Up = true := by kernel_rfl
def cyc_Hands_Clear : RFunc := RFunc.mk 14 [.tmp 4] (
  RC.seq (RC.region 1 [
    ⟨(some 4), .move (.c (.s (.int .i64 0))), none, 0, []⟩]) (RC.seq (RC.region 4 [
    ⟨(some 6), .move (.t 0), none, 0, []⟩,
    ⟨(some 7), .move (.t 1), none, 1, []⟩,
    ⟨(some 8), .call F.cyc_Hands_alarm [(.t 6), (.t 7)], none, 2, []⟩,
    ⟨(some 5), .move (.t 8), none, 3, []⟩]) (RC.seq (RC.seq (RC.region 2 [
    ⟨(some 9), .move (.t 5), none, 0, []⟩,
    ⟨(some 10), .eqs .ptr false (.t 9) (.c (.s (.ptr none))), none, 1, []⟩]) (RC.cond (.t 10) (RC.seq (RC.region 1 [
    ⟨(some 4), .move (.c (.s (.int .i64 (-18)))), none, 0, []⟩]) (RC.ret)) (RC.skip))) (RC.seq (RC.region 4 [
    ⟨(some 11), .move (.t 5), none, 0, []⟩,
    ⟨(some 12), .build [.bool false, .int .u64 0] [], none, 1, []⟩,
    ⟨(some 13), .nilCheck (.t 11), none, 2, []⟩,
    ⟨none, .store 2 (.t 13) (.t 12), none, 3, []⟩]) (RC.seq (RC.region 1 [
    ⟨(some 4), .move (.c (.s (.int .i64 0))), none, 0, []⟩]) (RC.ret))))))
theorem cyc_Hands_Clear_ok : chkFunc Go.Proofs.Try.prog [] Go.Proofs.Try.f16 cyc_Hands_Clear = true := by kernel_rfl
def cyc_Hands_Stop : RFunc := RFunc.mk 14 [.tmp 4] (
  RC.seq (RC.region 1 [
    ⟨(some 4), .move (.c (.s (.int .i64 0))), none, 0, []⟩]) (RC.seq (RC.region 4 [
    ⟨(some 6), .move (.t 0), none, 0, []⟩,
    ⟨(some 7), .move (.t 1), none, 1, []⟩,
    ⟨(some 8), .call F.cyc_Hands_cyc [(.t 6), (.t 7)], none, 2, []⟩,
    ⟨(some 5), .move (.t 8), none, 3, []⟩]) (RC.seq (RC.seq (RC.region 2 [
    ⟨(some 9), .move (.t 5), none, 0, []⟩,
    ⟨(some 10), .eqs .ptr false (.t 9) (.c (.s (.ptr none))), none, 1, []⟩]) (RC.cond (.t 10) (RC.seq (RC.region 1 [
    ⟨(some 4), .move (.c (.s (.int .i64 (-18)))), none, 0, []⟩]) (RC.ret)) (RC.skip))) (RC.seq (RC.region 4 [
    ⟨(some 11), .move (.t 5), none, 0, []⟩,
    ⟨(some 12), .nilCheck (.t 11), none, 1, []⟩,
    ⟨(some 13), .fieldAddr 3 (.t 12), none, 2, []⟩,
    ⟨none, .store 1 (.t 13) (.c (.s (.bool false))), none, 3, []⟩]) (RC.seq (RC.region 1 [
    ⟨(some 4), .move (.c (.s (.int .i64 0))), none, 0, []⟩]) (RC.ret))))))
theorem cyc_Hands_Stop_ok : chkFunc Go.Proofs.Try.prog [] Go.Proofs.Try.f17 cyc_Hands_Stop = true := by kernel_rfl
def cyc_Hands_Start : RFunc := RFunc.mk 74 [.tmp 4] (
  RC.seq (RC.region 1 [
    ⟨(some 4), .move (.c (.s (.int .i64 0))), none, 0, []⟩]) (RC.seq (RC.region 4 [
    ⟨(some 7), .move (.t 0), none, 0, []⟩,
    ⟨(some 8), .move (.t 1), none, 1, []⟩,
    ⟨(some 9), .call F.cyc_Hands_cyc [(.t 7), (.t 8)], none, 2, []⟩,
    ⟨(some 5), .move (.t 9), none, 3, []⟩]) (RC.seq (RC.seq (RC.region 2 [
    ⟨(some 10), .move (.t 5), none, 0, []⟩,
    ⟨(some 11), .eqs .ptr false (.t 10) (.c (.s (.ptr none))), none, 1, []⟩]) (RC.cond (.t 11) (RC.seq (RC.region 1 [
    ⟨(some 4), .move (.c (.s (.int .i64 (-18)))), none, 0, []⟩]) (RC.ret)) (RC.skip))) (RC.seq (RC.region 4 [
    ⟨(some 12), .move (.t 5), none, 0, []⟩,
    ⟨(some 13), .nilCheck (.t 12), none, 1, []⟩,
    ⟨(some 14), .fieldAddr 3 (.t 13), none, 2, []⟩,
    ⟨none, .store 1 (.t 14) (.c (.s (.bool true))), none, 3, []⟩]) (RC.seq (RC.seq (RC.region 6 [
    ⟨(some 15), .move (.t 0), none, 0, []⟩,
    ⟨(some 16), .nilCheck (.t 15), none, 1, []⟩,
    ⟨(some 17), .fieldAddr 0 (.t 16), none, 2, []⟩,
    ⟨(some 18), .load none (.t 17), none, 3, []⟩,
    ⟨(some 19), .call F.clock_Clock_Up [(.t 18)], none, 4, []⟩,
    ⟨(some 6), .move (.t 19), none, 5, []⟩]) (RC.block 0 (RC.seq (RC.region 6 [
    ⟨(some 46), .move (.t 5), none, 0, []⟩,
    ⟨(some 47), .nilCheck (.t 46), none, 1, []⟩,
    ⟨(some 48), .fieldAddr 4 (.t 47), none, 2, []⟩,
    ⟨(some 49), .load none (.t 48), none, 3, []⟩,
    ⟨(some 50), .un .not (.t 49), none, 4, []⟩,
    ⟨(some 45), .move (.t 50), none, 5, []⟩]) (RC.cond (.t 45) (RC.region 10 [
    ⟨(some 51), .move (.t 5), none, 0, []⟩,
    ⟨(some 52), .move (.t 6), none, 1, []⟩,
    ⟨(some 53), .move (.t 5), none, 2, []⟩,
    ⟨(some 54), .nilCheck (.t 53), none, 3, []⟩,
    ⟨(some 55), .fieldAddr 2 (.t 54), none, 4, []⟩,
    ⟨(some 56), .load none (.t 55), none, 5, []⟩,
    ⟨(some 57), .bin .add (.t 52) (.t 56), none, 6, []⟩,
    ⟨(some 58), .nilCheck (.t 51), none, 7, []⟩,
    ⟨(some 59), .fieldAddr 1 (.t 58), none, 8, []⟩,
    ⟨none, .store 1 (.t 59) (.t 57), none, 9, []⟩]) (RC.seq (RC.region 7 [
    ⟨(some 61), .move (.t 5), none, 0, []⟩,
    ⟨(some 62), .nilCheck (.t 61), none, 1, []⟩,
    ⟨(some 63), .fieldAddr 0 (.t 62), none, 2, []⟩,
    ⟨(some 64), .load none (.t 63), none, 3, []⟩,
    ⟨(some 65), .move (.t 6), none, 4, []⟩,
    ⟨(some 66), .bin .gtr (.t 64) (.t 65), none, 5, []⟩,
    ⟨(some 60), .move (.t 66), none, 6, []⟩]) (RC.cond (.t 60) (RC.region 8 [
    ⟨(some 67), .move (.t 5), none, 0, []⟩,
    ⟨(some 68), .move (.t 5), none, 1, []⟩,
    ⟨(some 69), .nilCheck (.t 68), none, 2, []⟩,
    ⟨(some 70), .fieldAddr 0 (.t 69), none, 3, []⟩,
    ⟨(some 71), .load none (.t 70), none, 4, []⟩,
    ⟨(some 72), .nilCheck (.t 67), none, 5, []⟩,
    ⟨(some 73), .fieldAddr 1 (.t 72), none, 6, []⟩,
    ⟨none, .store 1 (.t 73) (.t 71), none, 7, []⟩]) (RC.region 26 [
    ⟨(some 20), .move (.t 5), none, 0, []⟩,
    ⟨(some 21), .move (.t 5), none, 1, []⟩,
    ⟨(some 22), .nilCheck (.t 21), none, 2, []⟩,
    ⟨(some 23), .fieldAddr 0 (.t 22), none, 3, []⟩,
    ⟨(some 24), .load none (.t 23), none, 4, []⟩,
    ⟨(some 25), .move (.t 6), none, 5, []⟩,
    ⟨(some 26), .move (.t 5), none, 6, []⟩,
    ⟨(some 27), .nilCheck (.t 26), none, 7, []⟩,
    ⟨(some 28), .fieldAddr 0 (.t 27), none, 8, []⟩,
    ⟨(some 29), .load none (.t 28), none, 9, []⟩,
    ⟨(some 30), .bin .sub (.t 25) (.t 29), none, 10, []⟩,
    ⟨(some 31), .move (.t 5), none, 11, []⟩,
    ⟨(some 32), .nilCheck (.t 31), none, 12, []⟩,
    ⟨(some 33), .fieldAddr 2 (.t 32), none, 13, []⟩,
    ⟨(some 34), .load none (.t 33), none, 14, []⟩,
    ⟨(some 35), .bin .quo (.t 30) (.t 34), none, 15, []⟩,
    ⟨(some 36), .bin .add (.t 35) (.c (.s (.int .u64 1))), none, 16, []⟩,
    ⟨(some 37), .move (.t 5), none, 17, []⟩,
    ⟨(some 38), .nilCheck (.t 37), none, 18, []⟩,
    ⟨(some 39), .fieldAddr 2 (.t 38), none, 19, []⟩,
    ⟨(some 40), .load none (.t 39), none, 20, []⟩,
    ⟨(some 41), .bin .mul (.t 36) (.t 40), none, 21, []⟩,
    ⟨(some 42), .bin .add (.t 24) (.t 41), none, 22, []⟩,
    ⟨(some 43), .nilCheck (.t 20), none, 23, []⟩,
    ⟨(some 44), .fieldAddr 1 (.t 43), none, 24, []⟩,
    ⟨none, .store 1 (.t 44) (.t 42), none, 25, []⟩]))))))) (RC.seq (RC.region 1 [
    ⟨(some 4), .move (.c (.s (.int .i64 0))), none, 0, []⟩]) (RC.ret)))))))
theorem cyc_Hands_Start_ok : chkFunc Go.Proofs.Try.prog [] Go.Proofs.Try.f18 cyc_Hands_Start = true := by kernel_rfl
def detentref20_New : RFunc := RFunc.mk 17 [.tmp 2, .tmp 3] (
  RC.seq (RC.region 2 [
    ⟨(some 2), .move (.c (.s (.ptr none))), none, 0, []⟩,
    ⟨(some 3), .move (.c (.s (.int .i64 0))), none, 1, []⟩]) (RC.seq (RC.region 7 [
    ⟨(some 7), .move (.t 0), none, 0, []⟩,
    ⟨(some 8), .call F.detentref8_New [(.t 7)], none, 1, []⟩,
    ⟨(some 6), .move (.t 8), none, 2, []⟩,
    ⟨(some 9), .extract 0 (.t 6), none, 3, []⟩,
    ⟨(some 10), .extract 1 (.t 6), none, 4, []⟩,
    ⟨(some 4), .move (.t 9), none, 5, []⟩,
    ⟨(some 5), .move (.t 10), none, 6, []⟩]) (RC.seq (RC.seq (RC.region 2 [
    ⟨(some 11), .move (.t 5), none, 0, []⟩,
    ⟨(some 12), .bin .neq (.t 11) (.c (.s (.int .i64 0))), none, 1, []⟩]) (RC.cond (.t 12) (RC.seq (RC.region 3 [
    ⟨(some 13), .move (.t 5), none, 0, []⟩,
    ⟨(some 2), .move (.c (.s (.ptr none))), none, 1, []⟩,
    ⟨(some 3), .move (.t 13), none, 2, []⟩]) (RC.ret)) (RC.skip))) (RC.seq (RC.region 5 [
    ⟨(some 14), .move (.t 4), none, 0, []⟩,
    ⟨(some 15), .build [.ptr none, .slice none 0 0 1, .slice none 0 0 1] [(0, 1, (.t 14))], none, 1, []⟩,
    ⟨(some 16), .box (.t 15), none, 2, []⟩,
    ⟨(some 2), .move (.t 16), none, 3, []⟩,
    ⟨(some 3), .move (.c (.s (.int .i64 0))), none, 4, []⟩]) (RC.ret)))))
theorem detentref20_New_ok : chkFunc Go.Proofs.Try.prog [] Go.Proofs.Try.f19 detentref20_New = true := by kernel_rfl
def detentref20_Hands_Cyclic : RFunc := RFunc.mk 66 [.tmp 10, .tmp 11] (
  RC.seq (RC.region 2 [
    ⟨(some 10), .move (.c (.s (.int .i64 0))), none, 0, []⟩,
    ⟨(some 11), .move (.c (.s (.int .i64 0))), none, 1, []⟩]) (RC.seq (RC.seq (RC.region 14 [
    ⟨(some 13), .move (.t 1), none, 0, []⟩,
    ⟨(some 14), .bin .lss (.t 13) (.c (.s (.int .i64 1))), none, 1, []⟩,
    ⟨(some 15), .move (.t 14), none, 2, []⟩,
    ⟨(some 16), .move (.t 1), (some (15, false)), 3, []⟩,
    ⟨(some 17), .bin .gtr (.t 16) (.c (.s (.int .i64 2147483647))), (some (15, false)), 4, []⟩,
    ⟨(some 18), .pick (.t 15) (.c (.s (.bool true))) (.t 17), none, 5, []⟩,
    ⟨(some 19), .move (.t 18), none, 6, []⟩,
    ⟨(some 20), .move (.t 2), (some (19, false)), 7, []⟩,
    ⟨(some 21), .bin .lss (.t 20) (.c (.s (.int .i64 0))), (some (19, false)), 8, []⟩,
    ⟨(some 22), .pick (.t 19) (.c (.s (.bool true))) (.t 21), none, 9, []⟩,
    ⟨(some 23), .move (.t 22), none, 10, []⟩,
    ⟨(some 24), .move (.t 2), (some (23, false)), 11, []⟩,
    ⟨(some 25), .bin .gtr (.t 24) (.c (.s (.int .i64 2147483647))), (some (23, false)), 12, []⟩,
    ⟨(some 26), .pick (.t 23) (.c (.s (.bool true))) (.t 25), none, 13, []⟩]) (RC.cond (.t 26) (RC.seq (RC.region 2 [
    ⟨(some 10), .move (.c (.s (.int .i64 0))), none, 0, []⟩,
    ⟨(some 11), .move (.c (.s (.int .i64 (-17)))), none, 1, []⟩]) (RC.ret)) (RC.skip))) (RC.seq (RC.seq (RC.region 6 [
    ⟨(some 27), .move (.t 0), none, 0, []⟩,
    ⟨(some 28), .nilCheck (.t 27), none, 1, []⟩,
    ⟨(some 29), .fieldAddr 1 (.t 28), none, 2, []⟩,
    ⟨(some 30), .load none (.t 29), none, 3, []⟩,
    ⟨(some 31), .len (.t 30), none, 4, []⟩,
    ⟨(some 32), .bin .geq (.t 31) (.c (.s (.int .i64 8))), none, 5, []⟩]) (RC.cond (.t 32) (RC.seq (RC.region 2 [
    ⟨(some 10), .move (.c (.s (.int .i64 0))), none, 0, []⟩,
    ⟨(some 11), .move (.c (.s (.int .i64 (-33)))), none, 1, []⟩]) (RC.ret)) (RC.skip))) (RC.seq (RC.region 11 [
    ⟨(some 33), .move (.t 0), none, 0, []⟩,
    ⟨(some 34), .nilCheck (.t 33), none, 1, []⟩,
    ⟨(some 35), .fieldAddr 0 (.t 34), none, 2, []⟩,
    ⟨(some 36), .load none (.t 35), none, 3, []⟩,
    ⟨(some 37), .nilCheck (.t 36), none, 4, []⟩,
    ⟨(some 38), .fieldAddr 2 (.t 37), none, 5, []⟩,
    ⟨(some 39), .load none (.t 38), none, 6, []⟩,
    ⟨(some 40), .move (.t 2), none, 7, []⟩,
    ⟨(some 41), .conv .u64 (.t 40), none, 8, []⟩,
    ⟨(some 42), .bin .add (.t 39) (.t 41), none, 9, []⟩,
    ⟨(some 12), .move (.t 42), none, 10, []⟩]) (RC.seq (RC.region 19 [
    ⟨(some 43), .move (.t 0), none, 0, []⟩,
    ⟨(some 44), .buildSlice 5 0 [] [], none, 1, []⟩,
    ⟨(some 45), .move (.t 0), none, 2, []⟩,
    ⟨(some 46), .nilCheck (.t 45), none, 3, []⟩,
    ⟨(some 47), .fieldAddr 1 (.t 46), none, 4, []⟩,
    ⟨(some 48), .load none (.t 47), none, 5, []⟩,
    ⟨(some 49), .append 5 32 (.t 44) (.t 48), none, 6, []⟩,
    ⟨(some 50), .move (.t 12), none, 7, []⟩,
    ⟨(some 51), .move (.t 1), none, 8, []⟩,
    ⟨(some 52), .conv .u64 (.t 51), none, 9, []⟩,
    ⟨(some 53), .move (.t 3), none, 10, []⟩,
    ⟨(some 54), .move (.t 4), none, 11, []⟩,
    ⟨(some 55), .move (.t 12), none, 12, []⟩,
    ⟨(some 56), .build [.int .u64 0, .int .u64 0, .bool false, .bool false, .int .u64 0] [(0, 1, (.t 50)), (1, 1, (.t 52)), (2, 1, (.t 53)), (3, 1, (.t 54)), (4, 1, (.t 55))], none, 13, []⟩,
    ⟨(some 57), .buildSlice 5 1 [.int .u64 0, .int .u64 0, .bool false, .bool false, .int .u64 0] [(0, 5, (.t 56))], none, 14, []⟩,
    ⟨(some 58), .append 5 32 (.t 49) (.t 57), none, 15, []⟩,
    ⟨(some 59), .nilCheck (.t 43), none, 16, []⟩,
    ⟨(some 60), .fieldAddr 1 (.t 59), none, 17, []⟩,
    ⟨none, .store 1 (.t 60) (.t 58), none, 18, []⟩]) (RC.seq (RC.region 7 [
    ⟨(some 61), .move (.t 0), none, 0, []⟩,
    ⟨(some 62), .nilCheck (.t 61), none, 1, []⟩,
    ⟨(some 63), .fieldAddr 1 (.t 62), none, 2, []⟩,
    ⟨(some 64), .load none (.t 63), none, 3, []⟩,
    ⟨(some 65), .len (.t 64), none, 4, []⟩,
    ⟨(some 10), .move (.t 65), none, 5, []⟩,
    ⟨(some 11), .move (.c (.s (.int .i64 0))), none, 6, []⟩]) (RC.ret)))))))
theorem detentref20_Hands_Cyclic_ok : chkFunc Go.Proofs.Try.prog [] Go.Proofs.Try.f20 detentref20_Hands_Cyclic = true := by kernel_rfl
def detentref20_Hands_NewAlarm : RFunc := RFunc.mk 27 [.tmp 2, .tmp 3] (
  RC.seq (RC.region 2 [
    ⟨(some 2), .move (.c (.s (.int .i64 0))), none, 0, []⟩,
    ⟨(some 3), .move (.c (.s (.int .i64 0))), none, 1, []⟩]) (RC.seq (RC.seq (RC.region 6 [
    ⟨(some 4), .move (.t 0), none, 0, []⟩,
    ⟨(some 5), .nilCheck (.t 4), none, 1, []⟩,
    ⟨(some 6), .fieldAddr 2 (.t 5), none, 2, []⟩,
    ⟨(some 7), .load none (.t 6), none, 3, []⟩,
    ⟨(some 8), .len (.t 7), none, 4, []⟩,
    ⟨(some 9), .bin .geq (.t 8) (.c (.s (.int .i64 8))), none, 5, []⟩]) (RC.cond (.t 9) (RC.seq (RC.region 2 [
    ⟨(some 2), .move (.c (.s (.int .i64 0))), none, 0, []⟩,
    ⟨(some 3), .move (.c (.s (.int .i64 (-33)))), none, 1, []⟩]) (RC.ret)) (RC.skip))) (RC.seq (RC.region 13 [
    ⟨(some 10), .move (.t 0), none, 0, []⟩,
    ⟨(some 11), .buildSlice 2 0 [] [], none, 1, []⟩,
    ⟨(some 12), .move (.t 0), none, 2, []⟩,
    ⟨(some 13), .nilCheck (.t 12), none, 3, []⟩,
    ⟨(some 14), .fieldAddr 2 (.t 13), none, 4, []⟩,
    ⟨(some 15), .load none (.t 14), none, 5, []⟩,
    ⟨(some 16), .append 2 16 (.t 11) (.t 15), none, 6, []⟩,
    ⟨(some 17), .build [.bool false, .int .u64 0] [], none, 7, []⟩,
    ⟨(some 18), .buildSlice 2 1 [.bool false, .int .u64 0] [(0, 2, (.t 17))], none, 8, []⟩,
    ⟨(some 19), .append 2 16 (.t 16) (.t 18), none, 9, []⟩,
    ⟨(some 20), .nilCheck (.t 10), none, 10, []⟩,
    ⟨(some 21), .fieldAddr 2 (.t 20), none, 11, []⟩,
    ⟨none, .store 1 (.t 21) (.t 19), none, 12, []⟩]) (RC.seq (RC.region 7 [
    ⟨(some 22), .move (.t 0), none, 0, []⟩,
    ⟨(some 23), .nilCheck (.t 22), none, 1, []⟩,
    ⟨(some 24), .fieldAddr 2 (.t 23), none, 2, []⟩,
    ⟨(some 25), .load none (.t 24), none, 3, []⟩,
    ⟨(some 26), .len (.t 25), none, 4, []⟩,
    ⟨(some 2), .move (.t 26), none, 5, []⟩,
    ⟨(some 3), .move (.c (.s (.int .i64 0))), none, 6, []⟩]) (RC.ret)))))
theorem detentref20_Hands_NewAlarm_ok : chkFunc Go.Proofs.Try.prog [] Go.Proofs.Try.f21 detentref20_Hands_NewAlarm = true := by kernel_rfl
def detentref20_Hands_Start : RFunc := RFunc.mk 97 [.tmp 4] (
  RC.seq (RC.region 1 [
    ⟨(some 4), .move (.c (.s (.int .i64 0))), none, 0, []⟩]) (RC.seq (RC.seq (RC.region 11 [
    ⟨(some 6), .move (.t 1), none, 0, []⟩,
    ⟨(some 7), .bin .lss (.t 6) (.c (.s (.int .i64 1))), none, 1, []⟩,
    ⟨(some 8), .move (.t 7), none, 2, []⟩,
    ⟨(some 9), .move (.t 1), (some (8, false)), 3, []⟩,
    ⟨(some 10), .move (.t 0), (some (8, false)), 4, []⟩,
    ⟨(some 11), .nilCheck (.t 10), (some (8, false)), 5, []⟩,
    ⟨(some 12), .fieldAddr 1 (.t 11), (some (8, false)), 6, []⟩,
    ⟨(some 13), .load none (.t 12), (some (8, false)), 7, []⟩,
    ⟨(some 14), .len (.t 13), (some (8, false)), 8, []⟩,
    ⟨(some 15), .bin .gtr (.t 9) (.t 14), (some (8, false)), 9, []⟩,
    ⟨(some 16), .pick (.t 8) (.c (.s (.bool true))) (.t 15), none, 10, []⟩]) (RC.cond (.t 16) (RC.seq (RC.region 1 [
    ⟨(some 4), .move (.c (.s (.int .i64 (-18)))), none, 0, []⟩]) (RC.ret)) (RC.skip))) (RC.seq (RC.region 8 [
    ⟨(some 17), .move (.t 0), none, 0, []⟩,
    ⟨(some 18), .nilCheck (.t 17), none, 1, []⟩,
    ⟨(some 19), .fieldAddr 1 (.t 18), none, 2, []⟩,
    ⟨(some 20), .load none (.t 19), none, 3, []⟩,
    ⟨(some 21), .move (.t 1), none, 4, []⟩,
    ⟨(some 22), .bin .sub (.t 21) (.c (.s (.int .i64 1))), none, 5, []⟩,
    ⟨(some 23), .indexSl 5 (.t 20) (.t 22), none, 6, []⟩,
    ⟨(some 5), .move (.t 23), none, 7, []⟩]) (RC.seq (RC.region 4 [
    ⟨(some 24), .move (.t 5), none, 0, []⟩,
    ⟨(some 25), .nilCheck (.t 24), none, 1, []⟩,
    ⟨(some 26), .fieldAddr 2 (.t 25), none, 2, []⟩,
    ⟨none, .store 1 (.t 26) (.c (.s (.bool true))), none, 3, []⟩]) (RC.seq (RC.seq (RC.region 5 [
    ⟨(some 27), .move (.t 5), none, 0, []⟩,
    ⟨(some 28), .nilCheck (.t 27), none, 1, []⟩,
    ⟨(some 29), .fieldAddr 3 (.t 28), none, 2, []⟩,
    ⟨(some 30), .load none (.t 29), none, 3, []⟩,
    ⟨(some 31), .un .not (.t 30), none, 4, []⟩]) (RC.cond (.t 31) (RC.seq (RC.region 16 [
    ⟨(some 32), .move (.t 5), none, 0, []⟩,
    ⟨(some 33), .move (.t 0), none, 1, []⟩,
    ⟨(some 34), .nilCheck (.t 33), none, 2, []⟩,
    ⟨(some 35), .fieldAddr 0 (.t 34), none, 3, []⟩,
    ⟨(some 36), .load none (.t 35), none, 4, []⟩,
    ⟨(some 37), .nilCheck (.t 36), none, 5, []⟩,
    ⟨(some 38), .fieldAddr 2 (.t 37), none, 6, []⟩,
    ⟨(some 39), .load none (.t 38), none, 7, []⟩,
    ⟨(some 40), .move (.t 5), none, 8, []⟩,
    ⟨(some 41), .nilCheck (.t 40), none, 9, []⟩,
    ⟨(some 42), .fieldAddr 1 (.t 41), none, 10, []⟩,
    ⟨(some 43), .load none (.t 42), none, 11, []⟩,
    ⟨(some 44), .bin .add (.t 39) (.t 43), none, 12, []⟩,
    ⟨(some 45), .nilCheck (.t 32), none, 13, []⟩,
    ⟨(some 46), .fieldAddr 4 (.t 45), none, 14, []⟩,
    ⟨none, .store 1 (.t 46) (.t 44), none, 15, []⟩]) (RC.seq (RC.region 1 [
    ⟨(some 4), .move (.c (.s (.int .i64 0))), none, 0, []⟩]) (RC.ret))) (RC.skip))) (RC.seq (RC.region 8 [
    ⟨(some 47), .move (.t 5), none, 0, []⟩,
    ⟨(some 48), .move (.t 5), none, 1, []⟩,
    ⟨(some 49), .nilCheck (.t 48), none, 2, []⟩,
    ⟨(some 50), .fieldAddr 0 (.t 49), none, 3, []⟩,
    ⟨(some 51), .load none (.t 50), none, 4, []⟩,
    ⟨(some 52), .nilCheck (.t 47), none, 5, []⟩,
    ⟨(some 53), .fieldAddr 4 (.t 52), none, 6, []⟩,
    ⟨none, .store 1 (.t 53) (.t 51), none, 7, []⟩]) (RC.seq (RC.seq (RC.region 12 [
    ⟨(some 54), .move (.t 0), none, 0, []⟩,
    ⟨(some 55), .nilCheck (.t 54), none, 1, []⟩,
    ⟨(some 56), .fieldAddr 0 (.t 55), none, 2, []⟩,
    ⟨(some 57), .load none (.t 56), none, 3, []⟩,
    ⟨(some 58), .nilCheck (.t 57), none, 4, []⟩,
    ⟨(some 59), .fieldAddr 2 (.t 58), none, 5, []⟩,
    ⟨(some 60), .load none (.t 59), none, 6, []⟩,
    ⟨(some 61), .move (.t 5), none, 7, []⟩,
    ⟨(some 62), .nilCheck (.t 61), none, 8, []⟩,
    ⟨(some 63), .fieldAddr 0 (.t 62), none, 9, []⟩,
    ⟨(some 64), .load none (.t 63), none, 10, []⟩,
    ⟨(some 65), .bin .geq (.t 60) (.t 64), none, 11, []⟩]) (RC.cond (.t 65) (RC.region 32 [
    ⟨(some 66), .move (.t 5), none, 0, []⟩,
    ⟨(some 67), .move (.t 5), none, 1, []⟩,
    ⟨(some 68), .nilCheck (.t 67), none, 2, []⟩,
    ⟨(some 69), .fieldAddr 0 (.t 68), none, 3, []⟩,
    ⟨(some 70), .load none (.t 69), none, 4, []⟩,
    ⟨(some 71), .move (.t 0), none, 5, []⟩,
    ⟨(some 72), .nilCheck (.t 71), none, 6, []⟩,
    ⟨(some 73), .fieldAddr 0 (.t 72), none, 7, []⟩,
    ⟨(some 74), .load none (.t 73), none, 8, []⟩,
    ⟨(some 75), .nilCheck (.t 74), none, 9, []⟩,
    ⟨(some 76), .fieldAddr 2 (.t 75), none, 10, []⟩,
    ⟨(some 77), .load none (.t 76), none, 11, []⟩,
    ⟨(some 78), .move (.t 5), none, 12, []⟩,
    ⟨(some 79), .nilCheck (.t 78), none, 13, []⟩,
    ⟨(some 80), .fieldAddr 0 (.t 79), none, 14, []⟩,
    ⟨(some 81), .load none (.t 80), none, 15, []⟩,
    ⟨(some 82), .bin .sub (.t 77) (.t 81), none, 16, []⟩,
    ⟨(some 83), .move (.t 5), none, 17, []⟩,
    ⟨(some 84), .nilCheck (.t 83), none, 18, []⟩,
    ⟨(some 85), .fieldAddr 1 (.t 84), none, 19, []⟩,
    ⟨(some 86), .load none (.t 85), none, 20, []⟩,
    ⟨(some 87), .bin .quo (.t 82) (.t 86), none, 21, []⟩,
    ⟨(some 88), .bin .add (.t 87) (.c (.s (.int .u64 1))), none, 22, []⟩,
    ⟨(some 89), .move (.t 5), none, 23, []⟩,
    ⟨(some 90), .nilCheck (.t 89), none, 24, []⟩,
    ⟨(some 91), .fieldAddr 1 (.t 90), none, 25, []⟩,
    ⟨(some 92), .load none (.t 91), none, 26, []⟩,
    ⟨(some 93), .bin .mul (.t 88) (.t 92), none, 27, []⟩,
    ⟨(some 94), .bin .add (.t 70) (.t 93), none, 28, []⟩,
    ⟨(some 95), .nilCheck (.t 66), none, 29, []⟩,
    ⟨(some 96), .fieldAddr 4 (.t 95), none, 30, []⟩,
    ⟨none, .store 1 (.t 96) (.t 94), none, 31, []⟩]) (RC.skip))) (RC.seq (RC.region 1 [
    ⟨(some 4), .move (.c (.s (.int .i64 0))), none, 0, []⟩]) (RC.ret)))))))))
theorem detentref20_Hands_Start_ok : chkFunc Go.Proofs.Try.prog [] Go.Proofs.Try.f22 detentref20_Hands_Start = true := by kernel_rfl
def detentref20_Hands_Stop : RFunc := RFunc.mk 24 [.tmp 4] (
  RC.seq (RC.region 1 [
    ⟨(some 4), .move (.c (.s (.int .i64 0))), none, 0, []⟩]) (RC.seq (RC.seq (RC.region 11 [
    ⟨(some 5), .move (.t 1), none, 0, []⟩,
    ⟨(some 6), .bin .lss (.t 5) (.c (.s (.int .i64 1))), none, 1, []⟩,
    ⟨(some 7), .move (.t 6), none, 2, []⟩,
    ⟨(some 8), .move (.t 1), (some (7, false)), 3, []⟩,
    ⟨(some 9), .move (.t 0), (some (7, false)), 4, []⟩,
    ⟨(some 10), .nilCheck (.t 9), (some (7, false)), 5, []⟩,
    ⟨(some 11), .fieldAddr 1 (.t 10), (some (7, false)), 6, []⟩,
    ⟨(some 12), .load none (.t 11), (some (7, false)), 7, []⟩,
    ⟨(some 13), .len (.t 12), (some (7, false)), 8, []⟩,
    ⟨(some 14), .bin .gtr (.t 8) (.t 13), (some (7, false)), 9, []⟩,
    ⟨(some 15), .pick (.t 7) (.c (.s (.bool true))) (.t 14), none, 10, []⟩]) (RC.cond (.t 15) (RC.seq (RC.region 1 [
    ⟨(some 4), .move (.c (.s (.int .i64 (-18)))), none, 0, []⟩]) (RC.ret)) (RC.skip))) (RC.seq (RC.region 9 [
    ⟨(some 16), .move (.t 0), none, 0, []⟩,
    ⟨(some 17), .nilCheck (.t 16), none, 1, []⟩,
    ⟨(some 18), .fieldAddr 1 (.t 17), none, 2, []⟩,
    ⟨(some 19), .load none (.t 18), none, 3, []⟩,
    ⟨(some 20), .move (.t 1), none, 4, []⟩,
    ⟨(some 21), .bin .sub (.t 20) (.c (.s (.int .i64 1))), none, 5, []⟩,
    ⟨(some 22), .indexSl 5 (.t 19) (.t 21), none, 6, []⟩,
    ⟨(some 23), .fieldAddr 2 (.t 22), none, 7, []⟩,
    ⟨none, .store 1 (.t 23) (.c (.s (.bool false))), none, 8, []⟩]) (RC.seq (RC.region 1 [
    ⟨(some 4), .move (.c (.s (.int .i64 0))), none, 0, []⟩]) (RC.ret)))))
theorem detentref20_Hands_Stop_ok : chkFunc Go.Proofs.Try.prog [] Go.Proofs.Try.f23 detentref20_Hands_Stop = true := by kernel_rfl
def detentref20_Hands_Set : RFunc := RFunc.mk 54 [.tmp 6] (
  RC.seq (RC.region 1 [
    ⟨(some 6), .move (.c (.s (.int .i64 0))), none, 0, []⟩]) (RC.seq (RC.seq (RC.region 11 [
    ⟨(some 9), .move (.t 1), none, 0, []⟩,
    ⟨(some 10), .bin .lss (.t 9) (.c (.s (.int .i64 1))), none, 1, []⟩,
    ⟨(some 11), .move (.t 10), none, 2, []⟩,
    ⟨(some 12), .move (.t 1), (some (11, false)), 3, []⟩,
    ⟨(some 13), .move (.t 0), (some (11, false)), 4, []⟩,
    ⟨(some 14), .nilCheck (.t 13), (some (11, false)), 5, []⟩,
    ⟨(some 15), .fieldAddr 2 (.t 14), (some (11, false)), 6, []⟩,
    ⟨(some 16), .load none (.t 15), (some (11, false)), 7, []⟩,
    ⟨(some 17), .len (.t 16), (some (11, false)), 8, []⟩,
    ⟨(some 18), .bin .gtr (.t 12) (.t 17), (some (11, false)), 9, []⟩,
    ⟨(some 19), .pick (.t 11) (.c (.s (.bool true))) (.t 18), none, 10, []⟩]) (RC.cond (.t 19) (RC.seq (RC.region 1 [
    ⟨(some 6), .move (.c (.s (.int .i64 (-18)))), none, 0, []⟩]) (RC.ret)) (RC.skip))) (RC.seq (RC.region 7 [
    ⟨(some 21), .move (.t 2), none, 0, []⟩,
    ⟨(some 22), .call F.detentref1_Rel [(.t 21)], none, 1, []⟩,
    ⟨(some 20), .move (.t 22), none, 2, []⟩,
    ⟨(some 23), .extract 0 (.t 20), none, 3, []⟩,
    ⟨(some 24), .extract 1 (.t 20), none, 4, []⟩,
    ⟨(some 7), .move (.t 23), none, 5, []⟩,
    ⟨(some 8), .move (.t 24), none, 6, []⟩]) (RC.seq (RC.seq (RC.region 2 [
    ⟨(some 25), .move (.t 8), none, 0, []⟩,
    ⟨(some 26), .bin .neq (.t 25) (.c (.s (.int .i64 0))), none, 1, []⟩]) (RC.cond (.t 26) (RC.seq (RC.region 2 [
    ⟨(some 27), .move (.t 8), none, 0, []⟩,
    ⟨(some 6), .move (.t 27), none, 1, []⟩]) (RC.ret)) (RC.skip))) (RC.seq (RC.region 27 [
    ⟨(some 28), .move (.t 0), none, 0, []⟩,
    ⟨(some 29), .nilCheck (.t 28), none, 1, []⟩,
    ⟨(some 30), .fieldAddr 2 (.t 29), none, 2, []⟩,
    ⟨(some 31), .load none (.t 30), none, 3, []⟩,
    ⟨(some 32), .move (.t 1), none, 4, []⟩,
    ⟨(some 33), .bin .sub (.t 32) (.c (.s (.int .i64 1))), none, 5, []⟩,
    ⟨(some 34), .move (.t 0), none, 6, []⟩,
    ⟨(some 35), .nilCheck (.t 34), none, 7, []⟩,
    ⟨(some 36), .fieldAddr 0 (.t 35), none, 8, []⟩,
    ⟨(some 37), .load none (.t 36), none, 9, []⟩,
    ⟨(some 38), .nilCheck (.t 37), none, 10, []⟩,
    ⟨(some 39), .fieldAddr 2 (.t 38), none, 11, []⟩,
    ⟨(some 40), .load none (.t 39), none, 12, []⟩,
    ⟨(some 41), .move (.t 7), none, 13, []⟩,
    ⟨(some 42), .bin .add (.t 40) (.t 41), none, 14, []⟩,
    ⟨(some 43), .move (.t 0), none, 15, []⟩,
    ⟨(some 44), .nilCheck (.t 43), none, 16, []⟩,
    ⟨(some 45), .fieldAddr 0 (.t 44), none, 17, []⟩,
    ⟨(some 46), .load none (.t 45), none, 18, []⟩,
    ⟨(some 47), .nilCheck (.t 46), none, 19, []⟩,
    ⟨(some 48), .fieldAddr 1 (.t 47), none, 20, []⟩,
    ⟨(some 49), .load none (.t 48), none, 21, []⟩,
    ⟨(some 50), .conv .u64 (.t 49), none, 22, []⟩,
    ⟨(some 51), .bin .add (.t 42) (.t 50), none, 23, []⟩,
    ⟨(some 52), .build [.bool false, .int .u64 0] [(0, 1, (.c (.s (.bool true)))), (1, 1, (.t 51))], none, 24, []⟩,
    ⟨(some 53), .indexSl 2 (.t 31) (.t 33), none, 25, []⟩,
    ⟨none, .store 2 (.t 53) (.t 52), none, 26, []⟩]) (RC.seq (RC.region 1 [
    ⟨(some 6), .move (.c (.s (.int .i64 0))), none, 0, []⟩]) (RC.ret)))))))
theorem detentref20_Hands_Set_ok : chkFunc Go.Proofs.Try.prog [] Go.Proofs.Try.f24 detentref20_Hands_Set = true := by kernel_rfl
def detentref20_Hands_Clear : RFunc := RFunc.mk 24 [.tmp 4] (
  RC.seq (RC.region 1 [
    ⟨(some 4), .move (.c (.s (.int .i64 0))), none, 0, []⟩]) (RC.seq (RC.seq (RC.region 11 [
    ⟨(some 5), .move (.t 1), none, 0, []⟩,
    ⟨(some 6), .bin .lss (.t 5) (.c (.s (.int .i64 1))), none, 1, []⟩,
    ⟨(some 7), .move (.t 6), none, 2, []⟩,
    ⟨(some 8), .move (.t 1), (some (7, false)), 3, []⟩,
    ⟨(some 9), .move (.t 0), (some (7, false)), 4, []⟩,
    ⟨(some 10), .nilCheck (.t 9), (some (7, false)), 5, []⟩,
    ⟨(some 11), .fieldAddr 2 (.t 10), (some (7, false)), 6, []⟩,
    ⟨(some 12), .load none (.t 11), (some (7, false)), 7, []⟩,
    ⟨(some 13), .len (.t 12), (some (7, false)), 8, []⟩,
    ⟨(some 14), .bin .gtr (.t 8) (.t 13), (some (7, false)), 9, []⟩,
    ⟨(some 15), .pick (.t 7) (.c (.s (.bool true))) (.t 14), none, 10, []⟩]) (RC.cond (.t 15) (RC.seq (RC.region 1 [
    ⟨(some 4), .move (.c (.s (.int .i64 (-18)))), none, 0, []⟩]) (RC.ret)) (RC.skip))) (RC.seq (RC.region 9 [
    ⟨(some 16), .move (.t 0), none, 0, []⟩,
    ⟨(some 17), .nilCheck (.t 16), none, 1, []⟩,
    ⟨(some 18), .fieldAddr 2 (.t 17), none, 2, []⟩,
    ⟨(some 19), .load none (.t 18), none, 3, []⟩,
    ⟨(some 20), .move (.t 1), none, 4, []⟩,
    ⟨(some 21), .bin .sub (.t 20) (.c (.s (.int .i64 1))), none, 5, []⟩,
    ⟨(some 22), .build [.bool false, .int .u64 0] [], none, 6, []⟩,
    ⟨(some 23), .indexSl 2 (.t 19) (.t 21), none, 7, []⟩,
    ⟨none, .store 2 (.t 23) (.t 22), none, 8, []⟩]) (RC.seq (RC.region 1 [
    ⟨(some 4), .move (.c (.s (.int .i64 0))), none, 0, []⟩]) (RC.ret)))))
theorem detentref20_Hands_Clear_ok : chkFunc Go.Proofs.Try.prog [] Go.Proofs.Try.f25 detentref20_Hands_Clear = true := by kernel_rfl
def cyc_Hands_Wait : RFunc := RFunc.mk 23 [.tmp 6, .tmp 7] (
  RC.seq (RC.region 2 [
    ⟨(some 6), .move (.c (.s (.int .i64 0))), none, 0, []⟩,
    ⟨(some 7), .move (.c (.s (.int .i64 0))), none, 1, []⟩]) (RC.seq (RC.seq (RC.region 6 [
    ⟨(some 8), .move (.t 2), none, 0, []⟩,
    ⟨(some 9), .bin .lss (.t 8) (.c (.s (.int .i64 0))), none, 1, []⟩,
    ⟨(some 10), .move (.t 9), none, 2, []⟩,
    ⟨(some 11), .move (.t 2), (some (10, false)), 3, []⟩,
    ⟨(some 12), .bin .gtr (.t 11) (.c (.s (.int .i64 1000))), (some (10, false)), 4, []⟩,
    ⟨(some 13), .pick (.t 10) (.c (.s (.bool true))) (.t 12), none, 5, []⟩]) (RC.cond (.t 13) (RC.seq (RC.region 2 [
    ⟨(some 6), .move (.c (.s (.int .i64 0))), none, 0, []⟩,
    ⟨(some 7), .move (.c (.s (.int .i64 (-17)))), none, 1, []⟩]) (RC.ret)) (RC.skip))) (RC.seq (RC.region 11 [
    ⟨(some 14), .move (.t 0), none, 0, []⟩,
    ⟨(some 15), .nilCheck (.t 14), none, 1, []⟩,
    ⟨(some 16), .fieldAddr 0 (.t 15), none, 2, []⟩,
    ⟨(some 17), .load none (.t 16), none, 3, []⟩,
    ⟨(some 18), .move (.t 1), none, 4, []⟩,
    ⟨(some 19), .move (.t 2), none, 5, []⟩,
    ⟨(some 20), .call F.clock_Clock_After [(.t 17), (.t 18), (.t 19)], none, 6, []⟩,
    ⟨(some 21), .extract 0 (.t 20), none, 7, []⟩,
    ⟨(some 22), .extract 1 (.t 20), none, 8, []⟩,
    ⟨(some 6), .move (.t 21), none, 9, []⟩,
    ⟨(some 7), .move (.t 22), none, 10, []⟩]) (RC.ret))))
theorem cyc_Hands_Wait_ok : chkFunc Go.Proofs.Try.prog [] Go.Proofs.Try.f26 cyc_Hands_Wait = true := by kernel_rfl
def detentref20_Hands_Wait : RFunc := RFunc.mk 23 [.tmp 6, .tmp 7] (
  RC.seq (RC.region 2 [
    ⟨(some 6), .move (.c (.s (.int .i64 0))), none, 0, []⟩,
    ⟨(some 7), .move (.c (.s (.int .i64 0))), none, 1, []⟩]) (RC.seq (RC.seq (RC.region 6 [
    ⟨(some 8), .move (.t 2), none, 0, []⟩,
    ⟨(some 9), .bin .lss (.t 8) (.c (.s (.int .i64 0))), none, 1, []⟩,
    ⟨(some 10), .move (.t 9), none, 2, []⟩,
    ⟨(some 11), .move (.t 2), (some (10, false)), 3, []⟩,
    ⟨(some 12), .bin .gtr (.t 11) (.c (.s (.int .i64 1000))), (some (10, false)), 4, []⟩,
    ⟨(some 13), .pick (.t 10) (.c (.s (.bool true))) (.t 12), none, 5, []⟩]) (RC.cond (.t 13) (RC.seq (RC.region 2 [
    ⟨(some 6), .move (.c (.s (.int .i64 0))), none, 0, []⟩,
    ⟨(some 7), .move (.c (.s (.int .i64 (-17)))), none, 1, []⟩]) (RC.ret)) (RC.skip))) (RC.seq (RC.region 11 [
    ⟨(some 14), .move (.t 0), none, 0, []⟩,
    ⟨(some 15), .nilCheck (.t 14), none, 1, []⟩,
    ⟨(some 16), .fieldAddr 0 (.t 15), none, 2, []⟩,
    ⟨(some 17), .load none (.t 16), none, 3, []⟩,
    ⟨(some 18), .move (.t 1), none, 4, []⟩,
    ⟨(some 19), .move (.t 2), none, 5, []⟩,
    ⟨(some 20), .call F.detentref8_Clock_After [(.t 17), (.t 18), (.t 19)], none, 6, []⟩,
    ⟨(some 21), .extract 0 (.t 20), none, 7, []⟩,
    ⟨(some 22), .extract 1 (.t 20), none, 8, []⟩,
    ⟨(some 6), .move (.t 21), none, 9, []⟩,
    ⟨(some 7), .move (.t 22), none, 10, []⟩]) (RC.ret))))
theorem detentref20_Hands_Wait_ok : chkFunc Go.Proofs.Try.prog [] Go.Proofs.Try.f27 detentref20_Hands_Wait = true := by kernel_rfl
def detentref20_Hands_Pass_l0 : RC :=
  RC.seq (RC.seq (RC.region 26 [
    ⟨(some 22), .move (.t 0), none, 0, []⟩,
    ⟨(some 23), .nilCheck (.t 22), none, 1, []⟩,
    ⟨(some 24), .fieldAddr 1 (.t 23), none, 2, []⟩,
    ⟨(some 25), .load none (.t 24), none, 3, []⟩,
    ⟨(some 26), .move (.t 6), none, 4, []⟩,
    ⟨(some 27), .indexSl 5 (.t 25) (.t 26), none, 5, []⟩,
    ⟨(some 28), .fieldAddr 2 (.t 27), none, 6, []⟩,
    ⟨(some 29), .load none (.t 28), none, 7, []⟩,
    ⟨(some 30), .move (.t 29), none, 8, []⟩,
    ⟨(some 31), .move (.t 0), (some (30, true)), 9, []⟩,
    ⟨(some 32), .nilCheck (.t 31), (some (30, true)), 10, []⟩,
    ⟨(some 33), .fieldAddr 1 (.t 32), (some (30, true)), 11, []⟩,
    ⟨(some 34), .load none (.t 33), (some (30, true)), 12, []⟩,
    ⟨(some 35), .move (.t 6), (some (30, true)), 13, []⟩,
    ⟨(some 36), .indexSl 5 (.t 34) (.t 35), (some (30, true)), 14, []⟩,
    ⟨(some 37), .fieldAddr 4 (.t 36), (some (30, true)), 15, []⟩,
    ⟨(some 38), .load none (.t 37), (some (30, true)), 16, []⟩,
    ⟨(some 39), .move (.t 0), (some (30, true)), 17, []⟩,
    ⟨(some 40), .nilCheck (.t 39), (some (30, true)), 18, []⟩,
    ⟨(some 41), .fieldAddr 0 (.t 40), (some (30, true)), 19, []⟩,
    ⟨(some 42), .load none (.t 41), (some (30, true)), 20, []⟩,
    ⟨(some 43), .nilCheck (.t 42), (some (30, true)), 21, []⟩,
    ⟨(some 44), .fieldAddr 2 (.t 43), (some (30, true)), 22, []⟩,
    ⟨(some 45), .load none (.t 44), (some (30, true)), 23, []⟩,
    ⟨(some 46), .bin .leq (.t 38) (.t 45), (some (30, true)), 24, []⟩,
    ⟨(some 47), .pick (.t 30) (.t 46) (.c (.s (.bool false))), none, 25, []⟩]) (RC.cond (.t 47) (RC.skip) (RC.exit 2))) (RC.block 3 (RC.seq (RC.region 14 [
    ⟨(some 48), .move (.t 5), none, 0, []⟩,
    ⟨(some 49), .move (.t 6), none, 1, []⟩,
    ⟨(some 50), .bin .add (.t 49) (.c (.s (.int .i64 1))), none, 2, []⟩,
    ⟨(some 51), .move (.t 0), none, 3, []⟩,
    ⟨(some 52), .nilCheck (.t 51), none, 4, []⟩,
    ⟨(some 53), .fieldAddr 1 (.t 52), none, 5, []⟩,
    ⟨(some 54), .load none (.t 53), none, 6, []⟩,
    ⟨(some 55), .move (.t 6), none, 7, []⟩,
    ⟨(some 56), .indexSl 5 (.t 54) (.t 55), none, 8, []⟩,
    ⟨(some 57), .fieldAddr 4 (.t 56), none, 9, []⟩,
    ⟨(some 58), .load none (.t 57), none, 10, []⟩,
    ⟨(some 59), .build [.bool false, .int .i64 0, .int .u64 0] [(0, 1, (.c (.s (.bool true)))), (1, 1, (.t 50)), (2, 1, (.t 58))], none, 11, []⟩,
    ⟨(some 60), .call F.detentref20_put [(.t 48), (.t 59)], none, 12, []⟩,
    ⟨(some 5), .move (.t 60), none, 13, []⟩]) (RC.region 25 [
    ⟨(some 61), .move (.t 0), none, 0, []⟩,
    ⟨(some 62), .nilCheck (.t 61), none, 1, []⟩,
    ⟨(some 63), .fieldAddr 1 (.t 62), none, 2, []⟩,
    ⟨(some 64), .load none (.t 63), none, 3, []⟩,
    ⟨(some 65), .move (.t 6), none, 4, []⟩,
    ⟨(some 66), .move (.t 0), none, 5, []⟩,
    ⟨(some 67), .nilCheck (.t 66), none, 6, []⟩,
    ⟨(some 68), .fieldAddr 1 (.t 67), none, 7, []⟩,
    ⟨(some 69), .load none (.t 68), none, 8, []⟩,
    ⟨(some 70), .move (.t 6), none, 9, []⟩,
    ⟨(some 71), .indexSl 5 (.t 69) (.t 70), none, 10, []⟩,
    ⟨(some 72), .fieldAddr 4 (.t 71), none, 11, []⟩,
    ⟨(some 73), .load none (.t 72), none, 12, []⟩,
    ⟨(some 74), .move (.t 0), none, 13, []⟩,
    ⟨(some 75), .nilCheck (.t 74), none, 14, []⟩,
    ⟨(some 76), .fieldAddr 1 (.t 75), none, 15, []⟩,
    ⟨(some 77), .load none (.t 76), none, 16, []⟩,
    ⟨(some 78), .move (.t 6), none, 17, []⟩,
    ⟨(some 79), .indexSl 5 (.t 77) (.t 78), none, 18, []⟩,
    ⟨(some 80), .fieldAddr 1 (.t 79), none, 19, []⟩,
    ⟨(some 81), .load none (.t 80), none, 20, []⟩,
    ⟨(some 82), .bin .add (.t 73) (.t 81), none, 21, []⟩,
    ⟨(some 83), .indexSl 5 (.t 64) (.t 65), none, 22, []⟩,
    ⟨(some 84), .fieldAddr 4 (.t 83), none, 23, []⟩,
    ⟨none, .store 1 (.t 84) (.t 82), none, 24, []⟩])))
def detentref20_Hands_Pass_s1 : RC :=
  RC.region 3 [
    ⟨(some 20), .move (.t 6), none, 0, []⟩,
    ⟨(some 21), .bin .add (.t 20) (.c (.s (.int .i64 1))), none, 1, []⟩,
    ⟨(some 6), .move (.t 21), none, 2, []⟩]
def detentref20_Hands_Pass_l2 : RC :=
  RC.seq (RC.seq (RC.region 7 [
    ⟨(some 13), .move (.t 6), none, 0, []⟩,
    ⟨(some 14), .move (.t 0), none, 1, []⟩,
    ⟨(some 15), .nilCheck (.t 14), none, 2, []⟩,
    ⟨(some 16), .fieldAddr 1 (.t 15), none, 3, []⟩,
    ⟨(some 17), .load none (.t 16), none, 4, []⟩,
    ⟨(some 18), .len (.t 17), none, 5, []⟩,
    ⟨(some 19), .bin .lss (.t 13) (.t 18), none, 6, []⟩]) (RC.cond (.t 19) (RC.skip) (RC.exit 0))) (RC.seq (RC.block 1 (RC.block 2 (RC.loop R.detentref20_Hands_Pass_l0))) R.detentref20_Hands_Pass_s1)
def detentref20_Hands_Pass_l3 : RC :=
  RC.seq (RC.seq (RC.region 7 [
    ⟨(some 85), .move (.t 7), none, 0, []⟩,
    ⟨(some 86), .move (.t 0), none, 1, []⟩,
    ⟨(some 87), .nilCheck (.t 86), none, 2, []⟩,
    ⟨(some 88), .fieldAddr 2 (.t 87), none, 3, []⟩,
    ⟨(some 89), .load none (.t 88), none, 4, []⟩,
    ⟨(some 90), .len (.t 89), none, 5, []⟩,
    ⟨(some 91), .bin .lss (.t 85) (.t 90), none, 6, []⟩]) (RC.cond (.t 91) (RC.skip) (RC.exit 4))) (RC.seq (RC.block 5 (RC.seq (RC.region 26 [
    ⟨(some 94), .move (.t 0), none, 0, []⟩,
    ⟨(some 95), .nilCheck (.t 94), none, 1, []⟩,
    ⟨(some 96), .fieldAddr 2 (.t 95), none, 2, []⟩,
    ⟨(some 97), .load none (.t 96), none, 3, []⟩,
    ⟨(some 98), .move (.t 7), none, 4, []⟩,
    ⟨(some 99), .indexSl 2 (.t 97) (.t 98), none, 5, []⟩,
    ⟨(some 100), .fieldAddr 0 (.t 99), none, 6, []⟩,
    ⟨(some 101), .load none (.t 100), none, 7, []⟩,
    ⟨(some 102), .move (.t 101), none, 8, []⟩,
    ⟨(some 103), .move (.t 0), (some (102, true)), 9, []⟩,
    ⟨(some 104), .nilCheck (.t 103), (some (102, true)), 10, []⟩,
    ⟨(some 105), .fieldAddr 2 (.t 104), (some (102, true)), 11, []⟩,
    ⟨(some 106), .load none (.t 105), (some (102, true)), 12, []⟩,
    ⟨(some 107), .move (.t 7), (some (102, true)), 13, []⟩,
    ⟨(some 108), .indexSl 2 (.t 106) (.t 107), (some (102, true)), 14, []⟩,
    ⟨(some 109), .fieldAddr 1 (.t 108), (some (102, true)), 15, []⟩,
    ⟨(some 110), .load none (.t 109), (some (102, true)), 16, []⟩,
    ⟨(some 111), .move (.t 0), (some (102, true)), 17, []⟩,
    ⟨(some 112), .nilCheck (.t 111), (some (102, true)), 18, []⟩,
    ⟨(some 113), .fieldAddr 0 (.t 112), (some (102, true)), 19, []⟩,
    ⟨(some 114), .load none (.t 113), (some (102, true)), 20, []⟩,
    ⟨(some 115), .nilCheck (.t 114), (some (102, true)), 21, []⟩,
    ⟨(some 116), .fieldAddr 2 (.t 115), (some (102, true)), 22, []⟩,
    ⟨(some 117), .load none (.t 116), (some (102, true)), 23, []⟩,
    ⟨(some 118), .bin .leq (.t 110) (.t 117), (some (102, true)), 24, []⟩,
    ⟨(some 119), .pick (.t 102) (.t 118) (.c (.s (.bool false))), none, 25, []⟩]) (RC.cond (.t 119) (RC.seq (RC.region 14 [
    ⟨(some 120), .move (.t 5), none, 0, []⟩,
    ⟨(some 121), .move (.t 7), none, 1, []⟩,
    ⟨(some 122), .bin .add (.t 121) (.c (.s (.int .i64 1))), none, 2, []⟩,
    ⟨(some 123), .move (.t 0), none, 3, []⟩,
    ⟨(some 124), .nilCheck (.t 123), none, 4, []⟩,
    ⟨(some 125), .fieldAddr 2 (.t 124), none, 5, []⟩,
    ⟨(some 126), .load none (.t 125), none, 6, []⟩,
    ⟨(some 127), .move (.t 7), none, 7, []⟩,
    ⟨(some 128), .indexSl 2 (.t 126) (.t 127), none, 8, []⟩,
    ⟨(some 129), .fieldAddr 1 (.t 128), none, 9, []⟩,
    ⟨(some 130), .load none (.t 129), none, 10, []⟩,
    ⟨(some 131), .build [.bool false, .int .i64 0, .int .u64 0] [(0, 1, (.c (.s (.bool false)))), (1, 1, (.t 122)), (2, 1, (.t 130))], none, 11, []⟩,
    ⟨(some 132), .call F.detentref20_put [(.t 120), (.t 131)], none, 12, []⟩,
    ⟨(some 5), .move (.t 132), none, 13, []⟩]) (RC.region 8 [
    ⟨(some 133), .move (.t 0), none, 0, []⟩,
    ⟨(some 134), .nilCheck (.t 133), none, 1, []⟩,
    ⟨(some 135), .fieldAddr 2 (.t 134), none, 2, []⟩,
    ⟨(some 136), .load none (.t 135), none, 3, []⟩,
    ⟨(some 137), .move (.t 7), none, 4, []⟩,
    ⟨(some 138), .build [.bool false, .int .u64 0] [], none, 5, []⟩,
    ⟨(some 139), .indexSl 2 (.t 136) (.t 137), none, 6, []⟩,
    ⟨none, .store 2 (.t 139) (.t 138), none, 7, []⟩])) (RC.skip)))) (RC.region 3 [
    ⟨(some 92), .move (.t 7), none, 0, []⟩,
    ⟨(some 93), .bin .add (.t 92) (.c (.s (.int .i64 1))), none, 1, []⟩,
    ⟨(some 7), .move (.t 93), none, 2, []⟩]))
def detentref20_Hands_Pass_s4 : RC :=
  RC.seq (RC.region 4 [
    ⟨(some 140), .move (.t 5), none, 0, []⟩,
    ⟨(some 141), .move (.t 4), none, 1, []⟩,
    ⟨(some 2), .move (.t 140), none, 2, []⟩,
    ⟨(some 3), .move (.t 141), none, 3, []⟩]) (RC.ret)
def detentref20_Hands_Pass_s5 : RC :=
  RC.seq (RC.seq (RC.region 1 [
    ⟨(some 7), .move (.c (.s (.int .i64 0))), none, 0, []⟩]) (RC.block 4 (RC.loop R.detentref20_Hands_Pass_l3))) R.detentref20_Hands_Pass_s4
def detentref20_Hands_Pass : RFunc := RFunc.mk 142 [.tmp 2, .tmp 3] (
  RC.seq (RC.region 2 [
    ⟨(some 2), .move (.c (.s (.slice none 0 0 1))), none, 0, []⟩,
    ⟨(some 3), .move (.c (.s (.slice none 0 0 1))), none, 1, []⟩]) (RC.seq (RC.region 6 [
    ⟨(some 8), .move (.t 0), none, 0, []⟩,
    ⟨(some 9), .nilCheck (.t 8), none, 1, []⟩,
    ⟨(some 10), .fieldAddr 0 (.t 9), none, 2, []⟩,
    ⟨(some 11), .load none (.t 10), none, 3, []⟩,
    ⟨(some 12), .call F.detentref8_Clock_Tick [(.t 11)], none, 4, []⟩,
    ⟨(some 4), .move (.t 12), none, 5, []⟩]) (RC.seq (RC.region 1 [
    ⟨(some 5), .move (.c (.s (.slice none 0 0 1))), none, 0, []⟩]) (RC.seq (RC.seq (RC.region 1 [
    ⟨(some 6), .move (.c (.s (.int .i64 0))), none, 0, []⟩]) (RC.block 0 (RC.loop R.detentref20_Hands_Pass_l2))) R.detentref20_Hands_Pass_s5))))
theorem detentref20_Hands_Pass_ok : chkFunc Go.Proofs.Try.prog [] Go.Proofs.Try.f28 detentref20_Hands_Pass = true := by kernel_rfl
def heap_Timers_Cancel : RFunc := RFunc.mk 16 [.tmp 4] (
  RC.seq (RC.region 1 [
    ⟨(some 4), .move (.c (.s (.bool false))), none, 0, []⟩]) (RC.seq (RC.region 4 [
    ⟨(some 6), .move (.t 0), none, 0, []⟩,
    ⟨(some 7), .move (.t 1), none, 1, []⟩,
    ⟨(some 8), .call F.heap_Timers_find [(.t 6), (.t 7)], none, 2, []⟩,
    ⟨(some 5), .move (.t 8), none, 3, []⟩]) (RC.seq (RC.seq (RC.region 2 [
    ⟨(some 9), .move (.t 5), none, 0, []⟩,
    ⟨(some 10), .bin .geq (.t 9) (.c (.s (.int .i64 0))), none, 1, []⟩]) (RC.cond (.t 10) (RC.region 3 [
    ⟨(some 11), .move (.t 0), none, 0, []⟩,
    ⟨(some 12), .move (.t 5), none, 1, []⟩,
    ⟨(some 13), .call F.heap_Timers_remove [(.t 11), (.t 12)], none, 2, []⟩]) (RC.skip))) (RC.seq (RC.region 3 [
    ⟨(some 14), .move (.t 5), none, 0, []⟩,
    ⟨(some 15), .bin .geq (.t 14) (.c (.s (.int .i64 0))), none, 1, []⟩,
    ⟨(some 4), .move (.t 15), none, 2, []⟩]) (RC.ret)))))
theorem heap_Timers_Cancel_ok : chkFunc Go.Proofs.Try.prog [] Go.Proofs.Try.f31 heap_Timers_Cancel = true := by kernel_rfl
end Go.AM.R
