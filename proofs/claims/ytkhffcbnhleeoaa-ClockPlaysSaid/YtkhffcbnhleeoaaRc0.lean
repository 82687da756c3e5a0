/-
  The code of the functions, as the abstract machine has it; it is the program's.
-/
import Derived.Test.YtkhffcbnhleeoaaAmO
import Derived.Test.YtkhffcbnhleeoaaIds
import Derived.Test.YtkhffcbnhleeoaaProg
import Derived.KernelRfl
set_option maxRecDepth 100000
namespace Go.AM.R
open Go.AM
def detentlaw8_ClockWaits_l0 : RC :=
  RC.seq (RC.seq (RC.region 3 [
    ⟨(some 50), .move (.t 11), none, 0, []⟩,
    ⟨(some 51), .move (.t 1), none, 1, []⟩,
    ⟨(some 52), .bin .lss (.t 50) (.t 51), none, 2, []⟩]) (RC.cond (.t 52) (RC.skip) (RC.exit 0))) (RC.seq (RC.block 1 (RC.region 2 [
    ⟨(some 55), .move (.t 9), none, 0, []⟩,
    ⟨(some 56), .call F.clock_Clock_Tick [(.t 55)], none, 1, []⟩])) (RC.region 3 [
    ⟨(some 53), .move (.t 11), none, 0, []⟩,
    ⟨(some 54), .bin .add (.t 53) (.c (.s (.int .i64 1))), none, 1, []⟩,
    ⟨(some 11), .move (.t 54), none, 2, []⟩]))
def detentlaw8_ClockWaits_l1 : RC :=
  RC.seq (RC.seq (RC.region 2 [
    ⟨(some 60), .move (.t 13), none, 0, []⟩,
    ⟨(some 61), .bin .lss (.t 60) (.c (.s (.int .i64 110))), none, 1, []⟩]) (RC.cond (.t 61) (RC.skip) (RC.exit 2))) (RC.seq (RC.block 3 (RC.seq (RC.seq (RC.region 4 [
    ⟨(some 64), .move (.t 13), none, 0, []⟩,
    ⟨(some 65), .move (.t 3), none, 1, []⟩,
    ⟨(some 66), .len (.t 65), none, 2, []⟩,
    ⟨(some 67), .bin .lss (.t 64) (.t 66), none, 3, []⟩]) (RC.cond (.t 67) (RC.region 6 [
    ⟨(some 68), .move (.t 9), none, 0, []⟩,
    ⟨(some 69), .move (.t 3), none, 1, []⟩,
    ⟨(some 70), .move (.t 13), none, 2, []⟩,
    ⟨(some 71), .indexSl 1 (.t 69) (.t 70), none, 3, []⟩,
    ⟨(some 72), .load none (.t 71), none, 4, []⟩,
    ⟨(some 73), .call F.clock_Clock_Set [(.t 68), (.t 72)], none, 5, []⟩]) (RC.skip))) (RC.seq (RC.region 3 [
    ⟨(some 74), .move (.t 12), none, 0, []⟩,
    ⟨(some 75), .bin .add (.t 74) (.c (.s (.int .i64 1))), none, 1, []⟩,
    ⟨(some 12), .move (.t 75), none, 2, []⟩]) (RC.seq (RC.region 4 [
    ⟨(some 76), .move (.t 9), none, 0, []⟩,
    ⟨(some 77), .call F.clock_Clock_Tick [(.t 76)], none, 1, []⟩,
    ⟨(some 78), .len (.t 77), none, 2, []⟩,
    ⟨(some 79), .bin .gtr (.t 78) (.c (.s (.int .i64 0))), none, 3, []⟩]) (RC.cond (.t 79) (RC.exit 2) (RC.skip)))))) (RC.region 3 [
    ⟨(some 62), .move (.t 13), none, 0, []⟩,
    ⟨(some 63), .bin .add (.t 62) (.c (.s (.int .i64 1))), none, 1, []⟩,
    ⟨(some 13), .move (.t 63), none, 2, []⟩]))
def detentlaw8_ClockWaits_s2 : RC :=
  RC.seq (RC.region 15 [
    ⟨(some 80), .move (.t 12), none, 0, []⟩,
    ⟨(some 81), .bin .sub (.t 80) (.c (.s (.int .i64 1))), none, 1, []⟩,
    ⟨(some 82), .move (.t 0), none, 2, []⟩,
    ⟨(some 83), .bin .mul (.t 81) (.t 82), none, 3, []⟩,
    ⟨(some 84), .move (.t 2), none, 4, []⟩,
    ⟨(some 85), .bin .geq (.t 83) (.t 84), none, 5, []⟩,
    ⟨(some 86), .move (.t 85), none, 6, []⟩,
    ⟨(some 87), .move (.t 12), (some (86, true)), 7, []⟩,
    ⟨(some 88), .bin .sub (.t 87) (.c (.s (.int .i64 2))), (some (86, true)), 8, []⟩,
    ⟨(some 89), .move (.t 0), (some (86, true)), 9, []⟩,
    ⟨(some 90), .bin .mul (.t 88) (.t 89), (some (86, true)), 10, []⟩,
    ⟨(some 91), .move (.t 2), (some (86, true)), 11, []⟩,
    ⟨(some 92), .bin .lss (.t 90) (.t 91), (some (86, true)), 12, []⟩,
    ⟨(some 93), .pick (.t 86) (.t 92) (.c (.s (.bool false))), none, 13, []⟩,
    ⟨(some 8), .move (.t 93), none, 14, []⟩]) (RC.ret)
def detentlaw8_ClockWaits_s3 : RC :=
  RC.seq (RC.region 3 [
    ⟨(some 57), .move (.t 9), none, 0, []⟩,
    ⟨(some 58), .move (.t 2), none, 1, []⟩,
    ⟨(some 59), .call F.clock_Clock_After [(.t 57), (.t 58), (.c (.s (.int .i64 9)))], none, 2, []⟩]) (RC.seq (RC.region 1 [
    ⟨(some 12), .move (.c (.s (.int .i64 0))), none, 0, []⟩]) (RC.seq (RC.seq (RC.region 1 [
    ⟨(some 13), .move (.c (.s (.int .i64 0))), none, 0, []⟩]) (RC.block 2 (RC.loop R.detentlaw8_ClockWaits_l1))) R.detentlaw8_ClockWaits_s2))
def detentlaw8_ClockWaits : RFunc := RFunc.mk 94 [.tmp 8] (
  RC.seq (RC.region 1 [
    ⟨(some 8), .move (.c (.s (.bool false))), none, 0, []⟩]) (RC.seq (RC.seq (RC.region 2 [
    ⟨(some 14), .call F.detentlaw8_known [], none, 0, []⟩,
    ⟨(some 15), .un .not (.t 14), none, 1, []⟩]) (RC.cond (.t 15) (RC.seq (RC.region 1 [
    ⟨(some 8), .move (.c (.s (.bool false))), none, 0, []⟩]) (RC.ret)) (RC.skip))) (RC.seq (RC.seq (RC.region 29 [
    ⟨(some 16), .move (.t 0), none, 0, []⟩,
    ⟨(some 17), .bin .lss (.t 16) (.c (.s (.int .i64 1))), none, 1, []⟩,
    ⟨(some 18), .move (.t 17), none, 2, []⟩,
    ⟨(some 19), .move (.t 0), (some (18, false)), 3, []⟩,
    ⟨(some 20), .bin .gtr (.t 19) (.c (.s (.int .i64 1000))), (some (18, false)), 4, []⟩,
    ⟨(some 21), .pick (.t 18) (.c (.s (.bool true))) (.t 20), none, 5, []⟩,
    ⟨(some 22), .move (.t 21), none, 6, []⟩,
    ⟨(some 23), .move (.t 1), (some (22, false)), 7, []⟩,
    ⟨(some 24), .bin .lss (.t 23) (.c (.s (.int .i64 0))), (some (22, false)), 8, []⟩,
    ⟨(some 25), .pick (.t 22) (.c (.s (.bool true))) (.t 24), none, 9, []⟩,
    ⟨(some 26), .move (.t 25), none, 10, []⟩,
    ⟨(some 27), .move (.t 1), (some (26, false)), 11, []⟩,
    ⟨(some 28), .bin .gtr (.t 27) (.c (.s (.int .i64 50))), (some (26, false)), 12, []⟩,
    ⟨(some 29), .pick (.t 26) (.c (.s (.bool true))) (.t 28), none, 13, []⟩,
    ⟨(some 30), .move (.t 29), none, 14, []⟩,
    ⟨(some 31), .move (.t 2), (some (30, false)), 15, []⟩,
    ⟨(some 32), .bin .lss (.t 31) (.c (.s (.int .i64 0))), (some (30, false)), 16, []⟩,
    ⟨(some 33), .pick (.t 30) (.c (.s (.bool true))) (.t 32), none, 17, []⟩,
    ⟨(some 34), .move (.t 33), none, 18, []⟩,
    ⟨(some 35), .move (.t 2), (some (34, false)), 19, []⟩,
    ⟨(some 36), .move (.t 0), (some (34, false)), 20, []⟩,
    ⟨(some 37), .bin .mul (.c (.s (.int .i64 100))) (.t 36), (some (34, false)), 21, []⟩,
    ⟨(some 38), .bin .gtr (.t 35) (.t 37), (some (34, false)), 22, []⟩,
    ⟨(some 39), .pick (.t 34) (.c (.s (.bool true))) (.t 38), none, 23, []⟩,
    ⟨(some 40), .move (.t 39), none, 24, []⟩,
    ⟨(some 41), .move (.t 3), (some (40, false)), 25, []⟩,
    ⟨(some 42), .len (.t 41), (some (40, false)), 26, []⟩,
    ⟨(some 43), .bin .gtr (.t 42) (.c (.s (.int .i64 20))), (some (40, false)), 27, []⟩,
    ⟨(some 44), .pick (.t 40) (.c (.s (.bool true))) (.t 43), none, 28, []⟩]) (RC.cond (.t 44) (RC.seq (RC.region 1 [
    ⟨(some 8), .move (.c (.s (.bool true))), none, 0, []⟩]) (RC.ret)) (RC.skip))) (RC.seq (RC.region 7 [
    ⟨(some 46), .move (.t 0), none, 0, []⟩,
    ⟨(some 47), .call F.clock_NewClock [(.t 46)], none, 1, []⟩,
    ⟨(some 45), .move (.t 47), none, 2, []⟩,
    ⟨(some 48), .extract 0 (.t 45), none, 3, []⟩,
    ⟨(some 49), .extract 1 (.t 45), none, 4, []⟩,
    ⟨(some 9), .move (.t 48), none, 5, []⟩,
    ⟨(some 10), .move (.t 49), none, 6, []⟩]) (RC.seq (RC.seq (RC.region 1 [
    ⟨(some 11), .move (.c (.s (.int .i64 0))), none, 0, []⟩]) (RC.block 0 (RC.loop R.detentlaw8_ClockWaits_l0))) R.detentlaw8_ClockWaits_s3)))))
theorem detentlaw8_ClockWaits_ok : chkFunc Go.Proofs.Try.prog [] Go.Proofs.Try.f3 detentlaw8_ClockWaits = true := by kernel_rfl
def detentlaw8_ClockRounds_l0 : RC :=
  RC.seq (RC.seq (RC.region 3 [
    ⟨(some 38), .move (.t 9), none, 0, []⟩,
    ⟨(some 39), .move (.t 2), none, 1, []⟩,
    ⟨(some 40), .bin .lss (.t 38) (.t 39), none, 2, []⟩]) (RC.cond (.t 40) (RC.skip) (RC.exit 0))) (RC.seq (RC.block 1 (RC.region 2 [
    ⟨(some 43), .move (.t 7), none, 0, []⟩,
    ⟨(some 44), .call F.clock_Clock_Tick [(.t 43)], none, 1, []⟩])) (RC.region 3 [
    ⟨(some 41), .move (.t 9), none, 0, []⟩,
    ⟨(some 42), .bin .add (.t 41) (.c (.s (.int .i64 1))), none, 1, []⟩,
    ⟨(some 9), .move (.t 42), none, 2, []⟩]))
def detentlaw8_ClockRounds_s1 : RC :=
  RC.seq (RC.region 23 [
    ⟨(some 45), .move (.t 7), none, 0, []⟩,
    ⟨(some 46), .call F.clock_Clock_Now [(.t 45)], none, 1, []⟩,
    ⟨(some 47), .move (.t 1), none, 2, []⟩,
    ⟨(some 48), .conv .u64 (.t 47), none, 3, []⟩,
    ⟨(some 49), .bin .sub (.c (.s (.int .u64 281474976710656))) (.t 48), none, 4, []⟩,
    ⟨(some 50), .move (.t 2), none, 5, []⟩,
    ⟨(some 51), .move (.t 0), none, 6, []⟩,
    ⟨(some 52), .bin .mul (.t 50) (.t 51), none, 7, []⟩,
    ⟨(some 53), .conv .u64 (.t 52), none, 8, []⟩,
    ⟨(some 54), .bin .add (.t 49) (.t 53), none, 9, []⟩,
    ⟨(some 55), .bin .rem (.t 54) (.c (.s (.int .u64 281474976710656))), none, 10, []⟩,
    ⟨(some 56), .bin .eql (.t 46) (.t 55), none, 11, []⟩,
    ⟨(some 57), .move (.t 56), none, 12, []⟩,
    ⟨(some 58), .move (.t 7), (some (57, true)), 13, []⟩,
    ⟨(some 59), .call F.clock_Clock_Up [(.t 58)], (some (57, true)), 14, []⟩,
    ⟨(some 60), .move (.t 2), (some (57, true)), 15, []⟩,
    ⟨(some 61), .bin .add (.t 60) (.c (.s (.int .i64 1))), (some (57, true)), 16, []⟩,
    ⟨(some 62), .move (.t 0), (some (57, true)), 17, []⟩,
    ⟨(some 63), .bin .mul (.t 61) (.t 62), (some (57, true)), 18, []⟩,
    ⟨(some 64), .conv .u64 (.t 63), (some (57, true)), 19, []⟩,
    ⟨(some 65), .bin .eql (.t 59) (.t 64), (some (57, true)), 20, []⟩,
    ⟨(some 66), .pick (.t 57) (.t 65) (.c (.s (.bool false))), none, 21, []⟩,
    ⟨(some 6), .move (.t 66), none, 22, []⟩]) (RC.ret)
def detentlaw8_ClockRounds : RFunc := RFunc.mk 67 [.tmp 6] (
  RC.seq (RC.region 1 [
    ⟨(some 6), .move (.c (.s (.bool false))), none, 0, []⟩]) (RC.seq (RC.seq (RC.region 2 [
    ⟨(some 10), .call F.detentlaw8_known [], none, 0, []⟩,
    ⟨(some 11), .un .not (.t 10), none, 1, []⟩]) (RC.cond (.t 11) (RC.seq (RC.region 1 [
    ⟨(some 6), .move (.c (.s (.bool false))), none, 0, []⟩]) (RC.ret)) (RC.skip))) (RC.seq (RC.seq (RC.region 14 [
    ⟨(some 12), .move (.t 0), none, 0, []⟩,
    ⟨(some 13), .bin .lss (.t 12) (.c (.s (.int .i64 1))), none, 1, []⟩,
    ⟨(some 14), .move (.t 13), none, 2, []⟩,
    ⟨(some 15), .move (.t 0), (some (14, false)), 3, []⟩,
    ⟨(some 16), .bin .gtr (.t 15) (.c (.s (.int .i64 1000))), (some (14, false)), 4, []⟩,
    ⟨(some 17), .pick (.t 14) (.c (.s (.bool true))) (.t 16), none, 5, []⟩,
    ⟨(some 18), .move (.t 17), none, 6, []⟩,
    ⟨(some 19), .move (.t 2), (some (18, false)), 7, []⟩,
    ⟨(some 20), .bin .lss (.t 19) (.c (.s (.int .i64 0))), (some (18, false)), 8, []⟩,
    ⟨(some 21), .pick (.t 18) (.c (.s (.bool true))) (.t 20), none, 9, []⟩,
    ⟨(some 22), .move (.t 21), none, 10, []⟩,
    ⟨(some 23), .move (.t 2), (some (22, false)), 11, []⟩,
    ⟨(some 24), .bin .gtr (.t 23) (.c (.s (.int .i64 100))), (some (22, false)), 12, []⟩,
    ⟨(some 25), .pick (.t 22) (.c (.s (.bool true))) (.t 24), none, 13, []⟩]) (RC.cond (.t 25) (RC.seq (RC.region 1 [
    ⟨(some 6), .move (.c (.s (.bool true))), none, 0, []⟩]) (RC.ret)) (RC.skip))) (RC.seq (RC.region 7 [
    ⟨(some 27), .move (.t 0), none, 0, []⟩,
    ⟨(some 28), .call F.clock_NewClock [(.t 27)], none, 1, []⟩,
    ⟨(some 26), .move (.t 28), none, 2, []⟩,
    ⟨(some 29), .extract 0 (.t 26), none, 3, []⟩,
    ⟨(some 30), .extract 1 (.t 26), none, 4, []⟩,
    ⟨(some 7), .move (.t 29), none, 5, []⟩,
    ⟨(some 8), .move (.t 30), none, 6, []⟩]) (RC.seq (RC.region 2 [
    ⟨(some 31), .move (.t 7), none, 0, []⟩,
    ⟨(some 32), .call F.clock_Clock_Tick [(.t 31)], none, 1, []⟩]) (RC.seq (RC.region 5 [
    ⟨(some 33), .move (.t 7), none, 0, []⟩,
    ⟨(some 34), .move (.t 1), none, 1, []⟩,
    ⟨(some 35), .conv .u64 (.t 34), none, 2, []⟩,
    ⟨(some 36), .bin .sub (.c (.s (.int .u64 281474976710656))) (.t 35), none, 3, []⟩,
    ⟨(some 37), .call F.clock_Clock_Set [(.t 33), (.t 36)], none, 4, []⟩]) (RC.seq (RC.seq (RC.region 1 [
    ⟨(some 9), .move (.c (.s (.int .i64 0))), none, 0, []⟩]) (RC.block 0 (RC.loop R.detentlaw8_ClockRounds_l0))) R.detentlaw8_ClockRounds_s1)))))))
theorem detentlaw8_ClockRounds_ok : chkFunc Go.Proofs.Try.prog [] Go.Proofs.Try.f4 detentlaw8_ClockRounds = true := by kernel_rfl
def detentlaw8_ClockSets_l0 : RC :=
  RC.seq (RC.seq (RC.region 4 [
    ⟨(some 44), .move (.t 11), none, 0, []⟩,
    ⟨(some 45), .move (.t 1), none, 1, []⟩,
    ⟨(some 46), .len (.t 45), none, 2, []⟩,
    ⟨(some 47), .bin .lss (.t 44) (.t 46), none, 3, []⟩]) (RC.cond (.t 47) (RC.skip) (RC.exit 0))) (RC.seq (RC.block 1 (RC.seq (RC.region 8 [
    ⟨(some 50), .move (.t 7), none, 0, []⟩,
    ⟨(some 51), .move (.t 1), none, 1, []⟩,
    ⟨(some 52), .move (.t 11), none, 2, []⟩,
    ⟨(some 53), .indexSl 1 (.t 51) (.t 52), none, 3, []⟩,
    ⟨(some 54), .load none (.t 53), none, 4, []⟩,
    ⟨(some 55), .conv .i64 (.t 54), none, 5, []⟩,
    ⟨(some 56), .move (.t 11), none, 6, []⟩,
    ⟨(some 57), .call F.clock_Clock_After [(.t 50), (.t 55), (.t 56)], none, 7, []⟩]) (RC.region 8 [
    ⟨(some 58), .move (.t 9), none, 0, []⟩,
    ⟨(some 59), .move (.t 1), none, 1, []⟩,
    ⟨(some 60), .move (.t 11), none, 2, []⟩,
    ⟨(some 61), .indexSl 1 (.t 59) (.t 60), none, 3, []⟩,
    ⟨(some 62), .load none (.t 61), none, 4, []⟩,
    ⟨(some 63), .conv .i64 (.t 62), none, 5, []⟩,
    ⟨(some 64), .move (.t 11), none, 6, []⟩,
    ⟨(some 65), .call F.clock_Clock_After [(.t 58), (.t 63), (.t 64)], none, 7, []⟩]))) (RC.region 3 [
    ⟨(some 48), .move (.t 11), none, 0, []⟩,
    ⟨(some 49), .bin .add (.t 48) (.c (.s (.int .i64 1))), none, 1, []⟩,
    ⟨(some 11), .move (.t 49), none, 2, []⟩]))
def detentlaw8_ClockSets_l1 : RC :=
  RC.seq (RC.seq (RC.region 4 [
    ⟨(some 97), .move (.t 15), none, 0, []⟩,
    ⟨(some 98), .move (.t 13), none, 1, []⟩,
    ⟨(some 99), .len (.t 98), none, 2, []⟩,
    ⟨(some 100), .bin .lss (.t 97) (.t 99), none, 3, []⟩]) (RC.cond (.t 100) (RC.skip) (RC.exit 4))) (RC.seq (RC.block 5 (RC.seq (RC.region 9 [
    ⟨(some 103), .move (.t 13), none, 0, []⟩,
    ⟨(some 104), .move (.t 15), none, 1, []⟩,
    ⟨(some 105), .indexSl 1 (.t 103) (.t 104), none, 2, []⟩,
    ⟨(some 106), .load none (.t 105), none, 3, []⟩,
    ⟨(some 107), .move (.t 14), none, 4, []⟩,
    ⟨(some 108), .move (.t 15), none, 5, []⟩,
    ⟨(some 109), .indexSl 1 (.t 107) (.t 108), none, 6, []⟩,
    ⟨(some 110), .load none (.t 109), none, 7, []⟩,
    ⟨(some 111), .bin .neq (.t 106) (.t 110), none, 8, []⟩]) (RC.cond (.t 111) (RC.seq (RC.region 1 [
    ⟨(some 6), .move (.c (.s (.bool false))), none, 0, []⟩]) (RC.ret)) (RC.skip)))) (RC.region 3 [
    ⟨(some 101), .move (.t 15), none, 0, []⟩,
    ⟨(some 102), .bin .add (.t 101) (.c (.s (.int .i64 1))), none, 1, []⟩,
    ⟨(some 15), .move (.t 102), none, 2, []⟩]))
def detentlaw8_ClockSets_s2 : RC :=
  RC.seq (RC.region 3 [
    ⟨(some 88), .move (.t 7), none, 0, []⟩,
    ⟨(some 89), .call F.clock_Clock_Tick [(.t 88)], none, 1, []⟩,
    ⟨(some 13), .move (.t 89), none, 2, []⟩]) (RC.seq (RC.region 3 [
    ⟨(some 90), .move (.t 9), none, 0, []⟩,
    ⟨(some 91), .call F.clock_Clock_Tick [(.t 90)], none, 1, []⟩,
    ⟨(some 14), .move (.t 91), none, 2, []⟩]) (RC.seq (RC.seq (RC.region 5 [
    ⟨(some 92), .move (.t 13), none, 0, []⟩,
    ⟨(some 93), .len (.t 92), none, 1, []⟩,
    ⟨(some 94), .move (.t 14), none, 2, []⟩,
    ⟨(some 95), .len (.t 94), none, 3, []⟩,
    ⟨(some 96), .bin .neq (.t 93) (.t 95), none, 4, []⟩]) (RC.cond (.t 96) (RC.seq (RC.region 1 [
    ⟨(some 6), .move (.c (.s (.bool false))), none, 0, []⟩]) (RC.ret)) (RC.skip))) (RC.seq (RC.region 1 [
    ⟨(some 15), .move (.c (.s (.int .i64 0))), none, 0, []⟩]) (RC.block 4 (RC.loop R.detentlaw8_ClockSets_l1)))))
def detentlaw8_ClockSets_s3 : RC :=
  RC.region 3 [
    ⟨(some 68), .move (.t 12), none, 0, []⟩,
    ⟨(some 69), .bin .add (.t 68) (.c (.s (.int .i64 1))), none, 1, []⟩,
    ⟨(some 12), .move (.t 69), none, 2, []⟩]
def detentlaw8_ClockSets_l4 : RC :=
  RC.seq (RC.seq (RC.region 2 [
    ⟨(some 66), .move (.t 12), none, 0, []⟩,
    ⟨(some 67), .bin .lss (.t 66) (.c (.s (.int .i64 300))), none, 1, []⟩]) (RC.cond (.t 67) (RC.skip) (RC.exit 2))) (RC.seq (RC.block 3 (RC.seq (RC.seq (RC.region 4 [
    ⟨(some 70), .move (.t 12), none, 0, []⟩,
    ⟨(some 71), .move (.t 2), none, 1, []⟩,
    ⟨(some 72), .len (.t 71), none, 2, []⟩,
    ⟨(some 73), .bin .lss (.t 70) (.t 72), none, 3, []⟩]) (RC.cond (.t 73) (RC.seq (RC.region 6 [
    ⟨(some 74), .move (.t 9), none, 0, []⟩,
    ⟨(some 75), .move (.t 2), none, 1, []⟩,
    ⟨(some 76), .move (.t 12), none, 2, []⟩,
    ⟨(some 77), .indexSl 1 (.t 75) (.t 76), none, 3, []⟩,
    ⟨(some 78), .load none (.t 77), none, 4, []⟩,
    ⟨(some 79), .call F.clock_Clock_Set [(.t 74), (.t 78)], none, 5, []⟩]) (RC.seq (RC.region 8 [
    ⟨(some 80), .move (.t 9), none, 0, []⟩,
    ⟨(some 82), .move (.t 2), none, 2, []⟩,
    ⟨(some 83), .move (.t 12), none, 3, []⟩,
    ⟨(some 84), .indexSl 1 (.t 82) (.t 83), none, 4, []⟩,
    ⟨(some 85), .load none (.t 84), none, 5, []⟩,
    ⟨(some 86), .bin .rem (.t 85) (.c (.s (.int .u64 281474976710656))), none, 6, []⟩,
    ⟨(some 81), .call F.clock_Clock_Now [(.t 80)], none, 1, [⟨85, none, (.t 84), none⟩]⟩,
    ⟨(some 87), .bin .neq (.t 81) (.t 86), none, 7, []⟩]) (RC.cond (.t 87) (RC.seq (RC.region 1 [
    ⟨(some 6), .move (.c (.s (.bool false))), none, 0, []⟩]) (RC.ret)) (RC.skip)))) (RC.skip))) R.detentlaw8_ClockSets_s2)) R.detentlaw8_ClockSets_s3)
def detentlaw8_ClockSets_s5 : RC :=
  RC.seq (RC.region 22 [
    ⟨(some 112), .move (.t 7), none, 0, []⟩,
    ⟨(some 113), .nilCheck (.t 112), none, 1, []⟩,
    ⟨(some 114), .fieldAddr 0 (.t 113), none, 2, []⟩,
    ⟨(some 115), .load none (.t 114), none, 3, []⟩,
    ⟨(some 116), .call F.heap_Timers_Len [(.t 115)], none, 4, []⟩,
    ⟨(some 117), .bin .eql (.t 116) (.c (.s (.int .i64 0))), none, 5, []⟩,
    ⟨(some 118), .move (.t 117), none, 6, []⟩,
    ⟨(some 119), .move (.t 9), (some (118, true)), 7, []⟩,
    ⟨(some 120), .nilCheck (.t 119), (some (118, true)), 8, []⟩,
    ⟨(some 121), .fieldAddr 0 (.t 120), (some (118, true)), 9, []⟩,
    ⟨(some 122), .load none (.t 121), (some (118, true)), 10, []⟩,
    ⟨(some 123), .call F.heap_Timers_Len [(.t 122)], (some (118, true)), 11, []⟩,
    ⟨(some 124), .bin .eql (.t 123) (.c (.s (.int .i64 0))), (some (118, true)), 12, []⟩,
    ⟨(some 125), .pick (.t 118) (.t 124) (.c (.s (.bool false))), none, 13, []⟩,
    ⟨(some 126), .move (.t 125), none, 14, []⟩,
    ⟨(some 127), .move (.t 7), (some (126, true)), 15, []⟩,
    ⟨(some 128), .call F.clock_Clock_Up [(.t 127)], (some (126, true)), 16, []⟩,
    ⟨(some 129), .move (.t 9), (some (126, true)), 17, []⟩,
    ⟨(some 130), .call F.clock_Clock_Up [(.t 129)], (some (126, true)), 18, []⟩,
    ⟨(some 131), .bin .eql (.t 128) (.t 130), (some (126, true)), 19, []⟩,
    ⟨(some 132), .pick (.t 126) (.t 131) (.c (.s (.bool false))), none, 20, []⟩,
    ⟨(some 6), .move (.t 132), none, 21, []⟩]) (RC.ret)
def detentlaw8_ClockSets_s6 : RC :=
  RC.seq (RC.seq (RC.region 1 [
    ⟨(some 12), .move (.c (.s (.int .i64 0))), none, 0, []⟩]) (RC.block 2 (RC.loop R.detentlaw8_ClockSets_l4))) R.detentlaw8_ClockSets_s5
def detentlaw8_ClockSets : RFunc := RFunc.mk 133 [.tmp 6] (
  RC.seq (RC.region 1 [
    ⟨(some 6), .move (.c (.s (.bool false))), none, 0, []⟩]) (RC.seq (RC.seq (RC.region 2 [
    ⟨(some 16), .call F.detentlaw8_known [], none, 0, []⟩,
    ⟨(some 17), .un .not (.t 16), none, 1, []⟩]) (RC.cond (.t 17) (RC.seq (RC.region 1 [
    ⟨(some 6), .move (.c (.s (.bool false))), none, 0, []⟩]) (RC.ret)) (RC.skip))) (RC.seq (RC.seq (RC.region 16 [
    ⟨(some 18), .move (.t 0), none, 0, []⟩,
    ⟨(some 19), .bin .lss (.t 18) (.c (.s (.int .i64 1))), none, 1, []⟩,
    ⟨(some 20), .move (.t 19), none, 2, []⟩,
    ⟨(some 21), .move (.t 0), (some (20, false)), 3, []⟩,
    ⟨(some 22), .bin .gtr (.t 21) (.c (.s (.int .i64 100))), (some (20, false)), 4, []⟩,
    ⟨(some 23), .pick (.t 20) (.c (.s (.bool true))) (.t 22), none, 5, []⟩,
    ⟨(some 24), .move (.t 23), none, 6, []⟩,
    ⟨(some 25), .move (.t 1), (some (24, false)), 7, []⟩,
    ⟨(some 26), .len (.t 25), (some (24, false)), 8, []⟩,
    ⟨(some 27), .bin .gtr (.t 26) (.c (.s (.int .i64 40))), (some (24, false)), 9, []⟩,
    ⟨(some 28), .pick (.t 24) (.c (.s (.bool true))) (.t 27), none, 10, []⟩,
    ⟨(some 29), .move (.t 28), none, 11, []⟩,
    ⟨(some 30), .move (.t 2), (some (29, false)), 12, []⟩,
    ⟨(some 31), .len (.t 30), (some (29, false)), 13, []⟩,
    ⟨(some 32), .bin .gtr (.t 31) (.c (.s (.int .i64 40))), (some (29, false)), 14, []⟩,
    ⟨(some 33), .pick (.t 29) (.c (.s (.bool true))) (.t 32), none, 15, []⟩]) (RC.cond (.t 33) (RC.seq (RC.region 1 [
    ⟨(some 6), .move (.c (.s (.bool true))), none, 0, []⟩]) (RC.ret)) (RC.skip))) (RC.seq (RC.region 7 [
    ⟨(some 35), .move (.t 0), none, 0, []⟩,
    ⟨(some 36), .call F.clock_NewClock [(.t 35)], none, 1, []⟩,
    ⟨(some 34), .move (.t 36), none, 2, []⟩,
    ⟨(some 37), .extract 0 (.t 34), none, 3, []⟩,
    ⟨(some 38), .extract 1 (.t 34), none, 4, []⟩,
    ⟨(some 7), .move (.t 37), none, 5, []⟩,
    ⟨(some 8), .move (.t 38), none, 6, []⟩]) (RC.seq (RC.region 7 [
    ⟨(some 40), .move (.t 0), none, 0, []⟩,
    ⟨(some 41), .call F.clock_NewClock [(.t 40)], none, 1, []⟩,
    ⟨(some 39), .move (.t 41), none, 2, []⟩,
    ⟨(some 42), .extract 0 (.t 39), none, 3, []⟩,
    ⟨(some 43), .extract 1 (.t 39), none, 4, []⟩,
    ⟨(some 9), .move (.t 42), none, 5, []⟩,
    ⟨(some 10), .move (.t 43), none, 6, []⟩]) (RC.seq (RC.seq (RC.region 1 [
    ⟨(some 11), .move (.c (.s (.int .i64 0))), none, 0, []⟩]) (RC.block 0 (RC.loop R.detentlaw8_ClockSets_l0))) R.detentlaw8_ClockSets_s6))))))
theorem detentlaw8_ClockSets_ok : chkFunc Go.Proofs.Try.prog [] Go.Proofs.Try.f5 detentlaw8_ClockSets = true := by kernel_rfl
def detentlaw8_ClockOrder_l0 : RC :=
  RC.seq (RC.seq (RC.region 4 [
    ⟨(some 21), .move (.t 5), none, 0, []⟩,
    ⟨(some 22), .move (.t 0), none, 1, []⟩,
    ⟨(some 23), .len (.t 22), none, 2, []⟩,
    ⟨(some 24), .bin .lss (.t 21) (.t 23), none, 3, []⟩]) (RC.cond (.t 24) (RC.skip) (RC.exit 0))) (RC.seq (RC.block 1 (RC.region 8 [
    ⟨(some 27), .move (.t 3), none, 0, []⟩,
    ⟨(some 28), .move (.t 0), none, 1, []⟩,
    ⟨(some 29), .move (.t 5), none, 2, []⟩,
    ⟨(some 30), .indexSl 1 (.t 28) (.t 29), none, 3, []⟩,
    ⟨(some 31), .load none (.t 30), none, 4, []⟩,
    ⟨(some 32), .conv .i64 (.t 31), none, 5, []⟩,
    ⟨(some 33), .move (.t 5), none, 6, []⟩,
    ⟨(some 34), .call F.clock_Clock_After [(.t 27), (.t 32), (.t 33)], none, 7, []⟩])) (RC.region 3 [
    ⟨(some 25), .move (.t 5), none, 0, []⟩,
    ⟨(some 26), .bin .add (.t 25) (.c (.s (.int .i64 1))), none, 1, []⟩,
    ⟨(some 5), .move (.t 26), none, 2, []⟩]))
def detentlaw8_ClockOrder_l1 : RC :=
  RC.seq (RC.seq (RC.region 4 [
    ⟨(some 39), .move (.t 8), none, 0, []⟩,
    ⟨(some 40), .move (.t 0), none, 1, []⟩,
    ⟨(some 41), .len (.t 40), none, 2, []⟩,
    ⟨(some 42), .bin .lss (.t 39) (.t 41), none, 3, []⟩]) (RC.cond (.t 42) (RC.skip) (RC.exit 2))) (RC.seq (RC.block 3 (RC.seq (RC.region 5 [
    ⟨(some 45), .move (.t 0), none, 0, []⟩,
    ⟨(some 46), .move (.t 8), none, 1, []⟩,
    ⟨(some 47), .indexSl 1 (.t 45) (.t 46), none, 2, []⟩,
    ⟨(some 48), .load none (.t 47), none, 3, []⟩,
    ⟨(some 49), .bin .gtr (.t 48) (.c (.s (.int .u8 0))), none, 4, []⟩]) (RC.cond (.t 49) (RC.region 3 [
    ⟨(some 50), .move (.t 7), none, 0, []⟩,
    ⟨(some 51), .bin .add (.t 50) (.c (.s (.int .i64 1))), none, 1, []⟩,
    ⟨(some 7), .move (.t 51), none, 2, []⟩]) (RC.skip)))) (RC.region 3 [
    ⟨(some 43), .move (.t 8), none, 0, []⟩,
    ⟨(some 44), .bin .add (.t 43) (.c (.s (.int .i64 1))), none, 1, []⟩,
    ⟨(some 8), .move (.t 44), none, 2, []⟩]))
def detentlaw8_ClockOrder_l2 : RC :=
  RC.seq (RC.seq (RC.region 4 [
    ⟨(some 56), .move (.t 9), none, 0, []⟩,
    ⟨(some 57), .move (.t 6), none, 1, []⟩,
    ⟨(some 58), .len (.t 57), none, 2, []⟩,
    ⟨(some 59), .bin .lss (.t 56) (.t 58), none, 3, []⟩]) (RC.cond (.t 59) (RC.skip) (RC.exit 4))) (RC.seq (RC.block 5 (RC.seq (RC.region 9 [
    ⟨(some 62), .move (.t 0), none, 0, []⟩,
    ⟨(some 63), .move (.t 6), none, 1, []⟩,
    ⟨(some 64), .move (.t 9), none, 2, []⟩,
    ⟨(some 65), .bin .sub (.t 64) (.c (.s (.int .i64 1))), none, 3, []⟩,
    ⟨(some 66), .indexSl 1 (.t 63) (.t 65), none, 4, []⟩,
    ⟨(some 67), .load none (.t 66), none, 5, []⟩,
    ⟨(some 68), .indexSl 1 (.t 62) (.t 67), none, 6, []⟩,
    ⟨(some 69), .load none (.t 68), none, 7, []⟩,
    ⟨(some 10), .move (.t 69), none, 8, []⟩]) (RC.seq (RC.region 8 [
    ⟨(some 70), .move (.t 0), none, 0, []⟩,
    ⟨(some 71), .move (.t 6), none, 1, []⟩,
    ⟨(some 72), .move (.t 9), none, 2, []⟩,
    ⟨(some 73), .indexSl 1 (.t 71) (.t 72), none, 3, []⟩,
    ⟨(some 74), .load none (.t 73), none, 4, []⟩,
    ⟨(some 75), .indexSl 1 (.t 70) (.t 74), none, 5, []⟩,
    ⟨(some 76), .load none (.t 75), none, 6, []⟩,
    ⟨(some 11), .move (.t 76), none, 7, []⟩]) (RC.seq (RC.region 20 [
    ⟨(some 77), .move (.t 10), none, 0, []⟩,
    ⟨(some 78), .move (.t 11), none, 1, []⟩,
    ⟨(some 79), .bin .gtr (.t 77) (.t 78), none, 2, []⟩,
    ⟨(some 80), .move (.t 79), none, 3, []⟩,
    ⟨(some 81), .move (.t 10), (some (80, false)), 4, []⟩,
    ⟨(some 82), .move (.t 11), (some (80, false)), 5, []⟩,
    ⟨(some 83), .bin .eql (.t 81) (.t 82), (some (80, false)), 6, []⟩,
    ⟨(some 84), .move (.t 83), (some (80, false)), 7, []⟩,
    ⟨(some 85), .move (.t 6), (some (84, true)), 8, []⟩,
    ⟨(some 86), .move (.t 9), (some (84, true)), 9, []⟩,
    ⟨(some 87), .bin .sub (.t 86) (.c (.s (.int .i64 1))), (some (84, true)), 10, []⟩,
    ⟨(some 88), .indexSl 1 (.t 85) (.t 87), (some (84, true)), 11, []⟩,
    ⟨(some 89), .load none (.t 88), (some (84, true)), 12, []⟩,
    ⟨(some 90), .move (.t 6), (some (84, true)), 13, []⟩,
    ⟨(some 91), .move (.t 9), (some (84, true)), 14, []⟩,
    ⟨(some 92), .indexSl 1 (.t 90) (.t 91), (some (84, true)), 15, []⟩,
    ⟨(some 93), .load none (.t 92), (some (84, true)), 16, []⟩,
    ⟨(some 94), .bin .geq (.t 89) (.t 93), (some (84, true)), 17, []⟩,
    ⟨(some 95), .pick (.t 84) (.t 94) (.c (.s (.bool false))), (some (80, false)), 18, []⟩,
    ⟨(some 96), .pick (.t 80) (.c (.s (.bool true))) (.t 95), none, 19, []⟩]) (RC.cond (.t 96) (RC.seq (RC.region 1 [
    ⟨(some 2), .move (.c (.s (.bool false))), none, 0, []⟩]) (RC.ret)) (RC.skip)))))) (RC.region 3 [
    ⟨(some 60), .move (.t 9), none, 0, []⟩,
    ⟨(some 61), .bin .add (.t 60) (.c (.s (.int .i64 1))), none, 1, []⟩,
    ⟨(some 9), .move (.t 61), none, 2, []⟩]))
def detentlaw8_ClockOrder_s3 : RC :=
  RC.seq (RC.region 1 [
    ⟨(some 2), .move (.c (.s (.bool true))), none, 0, []⟩]) (RC.ret)
def detentlaw8_ClockOrder_s4 : RC :=
  RC.seq (RC.seq (RC.region 4 [
    ⟨(some 52), .move (.t 6), none, 0, []⟩,
    ⟨(some 53), .len (.t 52), none, 1, []⟩,
    ⟨(some 54), .move (.t 7), none, 2, []⟩,
    ⟨(some 55), .bin .neq (.t 53) (.t 54), none, 3, []⟩]) (RC.cond (.t 55) (RC.seq (RC.region 1 [
    ⟨(some 2), .move (.c (.s (.bool false))), none, 0, []⟩]) (RC.ret)) (RC.skip))) (RC.seq (RC.seq (RC.region 1 [
    ⟨(some 9), .move (.c (.s (.int .i64 1))), none, 0, []⟩]) (RC.block 4 (RC.loop R.detentlaw8_ClockOrder_l2))) R.detentlaw8_ClockOrder_s3)
def detentlaw8_ClockOrder_s5 : RC :=
  RC.seq (RC.region 2 [
    ⟨(some 35), .move (.t 3), none, 0, []⟩,
    ⟨(some 36), .call F.clock_Clock_Tick [(.t 35)], none, 1, []⟩]) (RC.seq (RC.region 3 [
    ⟨(some 37), .move (.t 3), none, 0, []⟩,
    ⟨(some 38), .call F.clock_Clock_Tick [(.t 37)], none, 1, []⟩,
    ⟨(some 6), .move (.t 38), none, 2, []⟩]) (RC.seq (RC.region 1 [
    ⟨(some 7), .move (.c (.s (.int .i64 0))), none, 0, []⟩]) (RC.seq (RC.seq (RC.region 1 [
    ⟨(some 8), .move (.c (.s (.int .i64 0))), none, 0, []⟩]) (RC.block 2 (RC.loop R.detentlaw8_ClockOrder_l1))) R.detentlaw8_ClockOrder_s4)))
def detentlaw8_ClockOrder : RFunc := RFunc.mk 97 [.tmp 2] (
  RC.seq (RC.region 1 [
    ⟨(some 2), .move (.c (.s (.bool false))), none, 0, []⟩]) (RC.seq (RC.seq (RC.region 2 [
    ⟨(some 12), .call F.detentlaw8_known [], none, 0, []⟩,
    ⟨(some 13), .un .not (.t 12), none, 1, []⟩]) (RC.cond (.t 13) (RC.seq (RC.region 1 [
    ⟨(some 2), .move (.c (.s (.bool false))), none, 0, []⟩]) (RC.ret)) (RC.skip))) (RC.seq (RC.seq (RC.region 3 [
    ⟨(some 14), .move (.t 0), none, 0, []⟩,
    ⟨(some 15), .len (.t 14), none, 1, []⟩,
    ⟨(some 16), .bin .gtr (.t 15) (.c (.s (.int .i64 60))), none, 2, []⟩]) (RC.cond (.t 16) (RC.seq (RC.region 1 [
    ⟨(some 2), .move (.c (.s (.bool true))), none, 0, []⟩]) (RC.ret)) (RC.skip))) (RC.seq (RC.region 6 [
    ⟨(some 18), .call F.clock_NewClock [(.c (.s (.int .i64 1000)))], none, 0, []⟩,
    ⟨(some 17), .move (.t 18), none, 1, []⟩,
    ⟨(some 19), .extract 0 (.t 17), none, 2, []⟩,
    ⟨(some 20), .extract 1 (.t 17), none, 3, []⟩,
    ⟨(some 3), .move (.t 19), none, 4, []⟩,
    ⟨(some 4), .move (.t 20), none, 5, []⟩]) (RC.seq (RC.seq (RC.region 1 [
    ⟨(some 5), .move (.c (.s (.int .i64 0))), none, 0, []⟩]) (RC.block 0 (RC.loop R.detentlaw8_ClockOrder_l0))) R.detentlaw8_ClockOrder_s5)))))
theorem detentlaw8_ClockOrder_ok : chkFunc Go.Proofs.Try.prog [] Go.Proofs.Try.f6 detentlaw8_ClockOrder = true := by kernel_rfl
def detentlaw7_TimerFull_l0 : RC :=
  RC.seq (RC.seq (RC.region 2 [
    ⟨(some 25), .move (.t 6), none, 0, []⟩,
    ⟨(some 26), .bin .lss (.t 25) (.c (.s (.int .i64 256))), none, 1, []⟩]) (RC.cond (.t 26) (RC.skip) (RC.exit 0))) (RC.seq (RC.block 1 (RC.seq (RC.region 9 [
    ⟨(some 30), .move (.t 5), none, 0, []⟩,
    ⟨(some 31), .move (.t 0), none, 1, []⟩,
    ⟨(some 32), .move (.t 6), none, 2, []⟩,
    ⟨(some 33), .call F.heap_Timers_Insert [(.t 30), (.t 31), (.t 32)], none, 3, []⟩,
    ⟨(some 29), .move (.t 33), none, 4, []⟩,
    ⟨(some 34), .extract 0 (.t 29), none, 5, []⟩,
    ⟨(some 35), .extract 1 (.t 29), none, 6, []⟩,
    ⟨(some 7), .move (.t 34), none, 7, []⟩,
    ⟨(some 8), .move (.t 35), none, 8, []⟩]) (RC.seq (RC.region 8 [
    ⟨(some 36), .move (.t 7), none, 0, []⟩,
    ⟨(some 37), .move (.t 6), none, 1, []⟩,
    ⟨(some 38), .bin .add (.t 37) (.c (.s (.int .i64 1))), none, 2, []⟩,
    ⟨(some 39), .bin .neq (.t 36) (.t 38), none, 3, []⟩,
    ⟨(some 40), .move (.t 39), none, 4, []⟩,
    ⟨(some 41), .move (.t 8), (some (40, false)), 5, []⟩,
    ⟨(some 42), .bin .neq (.t 41) (.c (.s (.int .i64 0))), (some (40, false)), 6, []⟩,
    ⟨(some 43), .pick (.t 40) (.c (.s (.bool true))) (.t 42), none, 7, []⟩]) (RC.cond (.t 43) (RC.seq (RC.region 1 [
    ⟨(some 4), .move (.c (.s (.bool false))), none, 0, []⟩]) (RC.ret)) (RC.skip))))) (RC.region 3 [
    ⟨(some 27), .move (.t 6), none, 0, []⟩,
    ⟨(some 28), .bin .add (.t 27) (.c (.s (.int .i64 1))), none, 1, []⟩,
    ⟨(some 6), .move (.t 28), none, 2, []⟩]))
def detentlaw7_TimerFull_l1 : RC :=
  RC.seq (RC.seq (RC.region 3 [
    ⟨(some 44), .move (.t 9), none, 0, []⟩,
    ⟨(some 45), .move (.t 1), none, 1, []⟩,
    ⟨(some 46), .bin .lss (.t 44) (.t 45), none, 2, []⟩]) (RC.cond (.t 46) (RC.skip) (RC.exit 2))) (RC.seq (RC.block 3 (RC.seq (RC.region 8 [
    ⟨(some 50), .move (.t 5), none, 0, []⟩,
    ⟨(some 51), .move (.t 0), none, 1, []⟩,
    ⟨(some 52), .call F.heap_Timers_Insert [(.t 50), (.t 51), (.c (.s (.int .i64 0)))], none, 2, []⟩,
    ⟨(some 49), .move (.t 52), none, 3, []⟩,
    ⟨(some 53), .extract 0 (.t 49), none, 4, []⟩,
    ⟨(some 54), .extract 1 (.t 49), none, 5, []⟩,
    ⟨(some 10), .move (.t 53), none, 6, []⟩,
    ⟨(some 11), .move (.t 54), none, 7, []⟩]) (RC.seq (RC.region 6 [
    ⟨(some 55), .move (.t 10), none, 0, []⟩,
    ⟨(some 56), .bin .neq (.t 55) (.c (.s (.int .i64 0))), none, 1, []⟩,
    ⟨(some 57), .move (.t 56), none, 2, []⟩,
    ⟨(some 58), .move (.t 11), (some (57, false)), 3, []⟩,
    ⟨(some 59), .bin .neq (.t 58) (.c (.s (.int .i64 (-33)))), (some (57, false)), 4, []⟩,
    ⟨(some 60), .pick (.t 57) (.c (.s (.bool true))) (.t 59), none, 5, []⟩]) (RC.cond (.t 60) (RC.seq (RC.region 1 [
    ⟨(some 4), .move (.c (.s (.bool false))), none, 0, []⟩]) (RC.ret)) (RC.skip))))) (RC.region 3 [
    ⟨(some 47), .move (.t 9), none, 0, []⟩,
    ⟨(some 48), .bin .add (.t 47) (.c (.s (.int .i64 1))), none, 1, []⟩,
    ⟨(some 9), .move (.t 48), none, 2, []⟩]))
def detentlaw7_TimerFull_l2 : RC :=
  RC.seq (RC.seq (RC.region 4 [
    ⟨(some 74), .move (.t 13), none, 0, []⟩,
    ⟨(some 75), .move (.t 12), none, 1, []⟩,
    ⟨(some 76), .len (.t 75), none, 2, []⟩,
    ⟨(some 77), .bin .lss (.t 74) (.t 76), none, 3, []⟩]) (RC.cond (.t 77) (RC.skip) (RC.exit 4))) (RC.seq (RC.block 5 (RC.seq (RC.region 6 [
    ⟨(some 80), .move (.t 12), none, 0, []⟩,
    ⟨(some 81), .move (.t 13), none, 1, []⟩,
    ⟨(some 82), .indexSl 1 (.t 80) (.t 81), none, 2, []⟩,
    ⟨(some 83), .load none (.t 82), none, 3, []⟩,
    ⟨(some 84), .move (.t 13), none, 4, []⟩,
    ⟨(some 85), .bin .neq (.t 83) (.t 84), none, 5, []⟩]) (RC.cond (.t 85) (RC.seq (RC.region 1 [
    ⟨(some 4), .move (.c (.s (.bool false))), none, 0, []⟩]) (RC.ret)) (RC.skip)))) (RC.region 3 [
    ⟨(some 78), .move (.t 13), none, 0, []⟩,
    ⟨(some 79), .bin .add (.t 78) (.c (.s (.int .i64 1))), none, 1, []⟩,
    ⟨(some 13), .move (.t 79), none, 2, []⟩]))
def detentlaw7_TimerFull_s3 : RC :=
  RC.seq (RC.region 8 [
    ⟨(some 87), .move (.t 5), none, 0, []⟩,
    ⟨(some 88), .move (.t 0), none, 1, []⟩,
    ⟨(some 89), .call F.heap_Timers_Insert [(.t 87), (.t 88), (.c (.s (.int .i64 7)))], none, 2, []⟩,
    ⟨(some 86), .move (.t 89), none, 3, []⟩,
    ⟨(some 90), .extract 0 (.t 86), none, 4, []⟩,
    ⟨(some 91), .extract 1 (.t 86), none, 5, []⟩,
    ⟨(some 14), .move (.t 90), none, 6, []⟩,
    ⟨(some 15), .move (.t 91), none, 7, []⟩]) (RC.seq (RC.region 12 [
    ⟨(some 92), .move (.t 12), none, 0, []⟩,
    ⟨(some 93), .len (.t 92), none, 1, []⟩,
    ⟨(some 94), .bin .eql (.t 93) (.c (.s (.int .i64 256))), none, 2, []⟩,
    ⟨(some 95), .move (.t 94), none, 3, []⟩,
    ⟨(some 96), .move (.t 14), (some (95, true)), 4, []⟩,
    ⟨(some 97), .bin .eql (.t 96) (.c (.s (.int .i64 257))), (some (95, true)), 5, []⟩,
    ⟨(some 98), .pick (.t 95) (.t 97) (.c (.s (.bool false))), none, 6, []⟩,
    ⟨(some 99), .move (.t 98), none, 7, []⟩,
    ⟨(some 100), .move (.t 15), (some (99, true)), 8, []⟩,
    ⟨(some 101), .bin .eql (.t 100) (.c (.s (.int .i64 0))), (some (99, true)), 9, []⟩,
    ⟨(some 102), .pick (.t 99) (.t 101) (.c (.s (.bool false))), none, 10, []⟩,
    ⟨(some 4), .move (.t 102), none, 11, []⟩]) (RC.ret))
def detentlaw7_TimerFull_s4 : RC :=
  RC.seq (RC.seq (RC.region 10 [
    ⟨(some 61), .move (.t 0), none, 0, []⟩,
    ⟨(some 62), .bin .gtr (.t 61) (.c (.s (.int .u64 0))), none, 1, []⟩,
    ⟨(some 63), .move (.t 62), none, 2, []⟩,
    ⟨(some 64), .move (.t 5), (some (63, true)), 3, []⟩,
    ⟨(some 65), .move (.t 0), (some (63, true)), 4, []⟩,
    ⟨(some 66), .bin .sub (.t 65) (.c (.s (.int .u64 1))), (some (63, true)), 5, []⟩,
    ⟨(some 67), .call F.heap_Timers_Due [(.t 64), (.t 66)], (some (63, true)), 6, []⟩,
    ⟨(some 68), .len (.t 67), (some (63, true)), 7, []⟩,
    ⟨(some 69), .bin .neq (.t 68) (.c (.s (.int .i64 0))), (some (63, true)), 8, []⟩,
    ⟨(some 70), .pick (.t 63) (.t 69) (.c (.s (.bool false))), none, 9, []⟩]) (RC.cond (.t 70) (RC.seq (RC.region 1 [
    ⟨(some 4), .move (.c (.s (.bool false))), none, 0, []⟩]) (RC.ret)) (RC.skip))) (RC.seq (RC.region 4 [
    ⟨(some 71), .move (.t 5), none, 0, []⟩,
    ⟨(some 72), .move (.t 0), none, 1, []⟩,
    ⟨(some 73), .call F.heap_Timers_Due [(.t 71), (.t 72)], none, 2, []⟩,
    ⟨(some 12), .move (.t 73), none, 3, []⟩]) (RC.seq (RC.seq (RC.region 1 [
    ⟨(some 13), .move (.c (.s (.int .i64 0))), none, 0, []⟩]) (RC.block 4 (RC.loop R.detentlaw7_TimerFull_l2))) R.detentlaw7_TimerFull_s3))
def detentlaw7_TimerFull_s5 : RC :=
  RC.seq (RC.seq (RC.region 1 [
    ⟨(some 9), .move (.c (.s (.int .i64 0))), none, 0, []⟩]) (RC.block 2 (RC.loop R.detentlaw7_TimerFull_l1))) R.detentlaw7_TimerFull_s4
def detentlaw7_TimerFull : RFunc := RFunc.mk 103 [.tmp 4] (
  RC.seq (RC.region 1 [
    ⟨(some 4), .move (.c (.s (.bool false))), none, 0, []⟩]) (RC.seq (RC.seq (RC.region 2 [
    ⟨(some 16), .call F.detentlaw7_known [], none, 0, []⟩,
    ⟨(some 17), .un .not (.t 16), none, 1, []⟩]) (RC.cond (.t 17) (RC.seq (RC.region 1 [
    ⟨(some 4), .move (.c (.s (.bool false))), none, 0, []⟩]) (RC.ret)) (RC.skip))) (RC.seq (RC.seq (RC.region 6 [
    ⟨(some 18), .move (.t 1), none, 0, []⟩,
    ⟨(some 19), .bin .lss (.t 18) (.c (.s (.int .i64 0))), none, 1, []⟩,
    ⟨(some 20), .move (.t 19), none, 2, []⟩,
    ⟨(some 21), .move (.t 1), (some (20, false)), 3, []⟩,
    ⟨(some 22), .bin .gtr (.t 21) (.c (.s (.int .i64 20))), (some (20, false)), 4, []⟩,
    ⟨(some 23), .pick (.t 20) (.c (.s (.bool true))) (.t 22), none, 5, []⟩]) (RC.cond (.t 23) (RC.seq (RC.region 1 [
    ⟨(some 4), .move (.c (.s (.bool true))), none, 0, []⟩]) (RC.ret)) (RC.skip))) (RC.seq (RC.region 2 [
    ⟨(some 24), .call F.heap_New [], none, 0, []⟩,
    ⟨(some 5), .move (.t 24), none, 1, []⟩]) (RC.seq (RC.seq (RC.region 1 [
    ⟨(some 6), .move (.c (.s (.int .i64 0))), none, 0, []⟩]) (RC.block 0 (RC.loop R.detentlaw7_TimerFull_l0))) R.detentlaw7_TimerFull_s5)))))
theorem detentlaw7_TimerFull_ok : chkFunc Go.Proofs.Try.prog [] Go.Proofs.Try.f7 detentlaw7_TimerFull = true := by kernel_rfl
def detentlaw7_TimerSorts_l0 : RC :=
  RC.seq (RC.seq (RC.region 4 [
    ⟨(some 17), .move (.t 4), none, 0, []⟩,
    ⟨(some 18), .move (.t 0), none, 1, []⟩,
    ⟨(some 19), .len (.t 18), none, 2, []⟩,
    ⟨(some 20), .bin .lss (.t 17) (.t 19), none, 3, []⟩]) (RC.cond (.t 20) (RC.skip) (RC.exit 0))) (RC.seq (RC.block 1 (RC.region 8 [
    ⟨(some 23), .move (.t 3), none, 0, []⟩,
    ⟨(some 24), .move (.t 0), none, 1, []⟩,
    ⟨(some 25), .move (.t 4), none, 2, []⟩,
    ⟨(some 26), .indexSl 1 (.t 24) (.t 25), none, 3, []⟩,
    ⟨(some 27), .load none (.t 26), none, 4, []⟩,
    ⟨(some 28), .conv .u64 (.t 27), none, 5, []⟩,
    ⟨(some 29), .move (.t 4), none, 6, []⟩,
    ⟨(some 30), .call F.heap_Timers_Insert [(.t 23), (.t 28), (.t 29)], none, 7, []⟩])) (RC.region 3 [
    ⟨(some 21), .move (.t 4), none, 0, []⟩,
    ⟨(some 22), .bin .add (.t 21) (.c (.s (.int .i64 1))), none, 1, []⟩,
    ⟨(some 4), .move (.t 22), none, 2, []⟩]))
def detentlaw7_TimerSorts_l1 : RC :=
  RC.seq (RC.seq (RC.region 4 [
    ⟨(some 55), .move (.t 10), none, 0, []⟩,
    ⟨(some 56), .move (.t 9), none, 1, []⟩,
    ⟨(some 57), .len (.t 56), none, 2, []⟩,
    ⟨(some 58), .bin .lss (.t 55) (.t 57), none, 3, []⟩]) (RC.cond (.t 58) (RC.skip) (RC.exit 4))) (RC.seq (RC.block 5 (RC.seq (RC.region 42 [
    ⟨(some 61), .move (.t 9), none, 0, []⟩,
    ⟨(some 62), .move (.t 10), none, 1, []⟩,
    ⟨(some 63), .indexSl 1 (.t 61) (.t 62), none, 2, []⟩,
    ⟨(some 64), .load none (.t 63), none, 3, []⟩,
    ⟨(some 65), .bin .lss (.t 64) (.c (.s (.int .i64 0))), none, 4, []⟩,
    ⟨(some 66), .move (.t 65), none, 5, []⟩,
    ⟨(some 67), .move (.t 9), (some (66, false)), 6, []⟩,
    ⟨(some 68), .move (.t 10), (some (66, false)), 7, []⟩,
    ⟨(some 69), .indexSl 1 (.t 67) (.t 68), (some (66, false)), 8, []⟩,
    ⟨(some 70), .load none (.t 69), (some (66, false)), 9, []⟩,
    ⟨(some 71), .move (.t 0), (some (66, false)), 10, []⟩,
    ⟨(some 72), .len (.t 71), (some (66, false)), 11, []⟩,
    ⟨(some 73), .bin .geq (.t 70) (.t 72), (some (66, false)), 12, []⟩,
    ⟨(some 74), .pick (.t 66) (.c (.s (.bool true))) (.t 73), none, 13, []⟩,
    ⟨(some 75), .move (.t 74), none, 14, []⟩,
    ⟨(some 76), .move (.t 0), (some (75, false)), 15, []⟩,
    ⟨(some 77), .move (.t 9), (some (75, false)), 16, []⟩,
    ⟨(some 78), .move (.t 10), (some (75, false)), 17, []⟩,
    ⟨(some 79), .indexSl 1 (.t 77) (.t 78), (some (75, false)), 18, []⟩,
    ⟨(some 80), .load none (.t 79), (some (75, false)), 19, []⟩,
    ⟨(some 81), .indexSl 1 (.t 76) (.t 80), (some (75, false)), 20, []⟩,
    ⟨(some 82), .load none (.t 81), (some (75, false)), 21, []⟩,
    ⟨(some 83), .conv .u64 (.t 82), (some (75, false)), 22, []⟩,
    ⟨(some 84), .move (.t 7), (some (75, false)), 23, []⟩,
    ⟨(some 85), .bin .neq (.t 83) (.t 84), (some (75, false)), 24, []⟩,
    ⟨(some 86), .pick (.t 75) (.c (.s (.bool true))) (.t 85), none, 25, []⟩,
    ⟨(some 87), .move (.t 86), none, 26, []⟩,
    ⟨(some 88), .move (.t 10), (some (87, false)), 27, []⟩,
    ⟨(some 89), .bin .gtr (.t 88) (.c (.s (.int .i64 0))), (some (87, false)), 28, []⟩,
    ⟨(some 90), .move (.t 89), (some (87, false)), 29, []⟩,
    ⟨(some 91), .move (.t 9), (some (90, true)), 30, []⟩,
    ⟨(some 92), .move (.t 10), (some (90, true)), 31, []⟩,
    ⟨(some 93), .indexSl 1 (.t 91) (.t 92), (some (90, true)), 32, []⟩,
    ⟨(some 94), .load none (.t 93), (some (90, true)), 33, []⟩,
    ⟨(some 95), .move (.t 9), (some (90, true)), 34, []⟩,
    ⟨(some 96), .move (.t 10), (some (90, true)), 35, []⟩,
    ⟨(some 97), .bin .sub (.t 96) (.c (.s (.int .i64 1))), (some (90, true)), 36, []⟩,
    ⟨(some 98), .indexSl 1 (.t 95) (.t 97), (some (90, true)), 37, []⟩,
    ⟨(some 99), .load none (.t 98), (some (90, true)), 38, []⟩,
    ⟨(some 100), .bin .leq (.t 94) (.t 99), (some (90, true)), 39, []⟩,
    ⟨(some 101), .pick (.t 90) (.t 100) (.c (.s (.bool false))), (some (87, false)), 40, []⟩,
    ⟨(some 102), .pick (.t 87) (.c (.s (.bool true))) (.t 101), none, 41, []⟩]) (RC.cond (.t 102) (RC.seq (RC.region 1 [
    ⟨(some 2), .move (.c (.s (.bool false))), none, 0, []⟩]) (RC.ret)) (RC.skip)))) (RC.region 3 [
    ⟨(some 59), .move (.t 10), none, 0, []⟩,
    ⟨(some 60), .bin .add (.t 59) (.c (.s (.int .i64 1))), none, 1, []⟩,
    ⟨(some 10), .move (.t 60), none, 2, []⟩]))
def detentlaw7_TimerSorts_s2 : RC :=
  RC.region 5 [
    ⟨(some 103), .move (.t 5), none, 0, []⟩,
    ⟨(some 104), .move (.t 9), none, 1, []⟩,
    ⟨(some 105), .len (.t 104), none, 2, []⟩,
    ⟨(some 106), .bin .add (.t 103) (.t 105), none, 3, []⟩,
    ⟨(some 5), .move (.t 106), none, 4, []⟩]
def detentlaw7_TimerSorts_s3 : RC :=
  RC.region 3 [
    ⟨(some 38), .move (.t 6), none, 0, []⟩,
    ⟨(some 39), .bin .add (.t 38) (.c (.s (.int .i64 1))), none, 1, []⟩,
    ⟨(some 6), .move (.t 39), none, 2, []⟩]
def detentlaw7_TimerSorts_l4 : RC :=
  RC.seq (RC.seq (RC.region 7 [
    ⟨(some 31), .move (.t 6), none, 0, []⟩,
    ⟨(some 32), .bin .leq (.t 31) (.c (.s (.int .i64 256))), none, 1, []⟩,
    ⟨(some 33), .move (.t 32), none, 2, []⟩,
    ⟨(some 34), .move (.t 3), (some (33, true)), 3, []⟩,
    ⟨(some 35), .call F.heap_Timers_Len [(.t 34)], (some (33, true)), 4, []⟩,
    ⟨(some 36), .bin .gtr (.t 35) (.c (.s (.int .i64 0))), (some (33, true)), 5, []⟩,
    ⟨(some 37), .pick (.t 33) (.t 36) (.c (.s (.bool false))), none, 6, []⟩]) (RC.cond (.t 37) (RC.skip) (RC.exit 2))) (RC.seq (RC.block 3 (RC.seq (RC.region 7 [
    ⟨(some 41), .move (.t 3), none, 0, []⟩,
    ⟨(some 42), .call F.heap_Timers_Next [(.t 41)], none, 1, []⟩,
    ⟨(some 40), .move (.t 42), none, 2, []⟩,
    ⟨(some 43), .extract 0 (.t 40), none, 3, []⟩,
    ⟨(some 44), .extract 1 (.t 40), none, 4, []⟩,
    ⟨(some 7), .move (.t 43), none, 5, []⟩,
    ⟨(some 8), .move (.t 44), none, 6, []⟩]) (RC.seq (RC.region 4 [
    ⟨(some 45), .move (.t 3), none, 0, []⟩,
    ⟨(some 46), .move (.t 7), none, 1, []⟩,
    ⟨(some 47), .call F.heap_Timers_Due [(.t 45), (.t 46)], none, 2, []⟩,
    ⟨(some 9), .move (.t 47), none, 3, []⟩]) (RC.seq (RC.seq (RC.region 7 [
    ⟨(some 48), .move (.t 8), none, 0, []⟩,
    ⟨(some 49), .un .not (.t 48), none, 1, []⟩,
    ⟨(some 50), .move (.t 49), none, 2, []⟩,
    ⟨(some 51), .move (.t 9), (some (50, false)), 3, []⟩,
    ⟨(some 52), .len (.t 51), (some (50, false)), 4, []⟩,
    ⟨(some 53), .bin .eql (.t 52) (.c (.s (.int .i64 0))), (some (50, false)), 5, []⟩,
    ⟨(some 54), .pick (.t 50) (.c (.s (.bool true))) (.t 53), none, 6, []⟩]) (RC.cond (.t 54) (RC.seq (RC.region 1 [
    ⟨(some 2), .move (.c (.s (.bool false))), none, 0, []⟩]) (RC.ret)) (RC.skip))) (RC.seq (RC.seq (RC.region 1 [
    ⟨(some 10), .move (.c (.s (.int .i64 0))), none, 0, []⟩]) (RC.block 4 (RC.loop R.detentlaw7_TimerSorts_l1))) R.detentlaw7_TimerSorts_s2))))) R.detentlaw7_TimerSorts_s3)
def detentlaw7_TimerSorts_s5 : RC :=
  RC.seq (RC.region 5 [
    ⟨(some 107), .move (.t 5), none, 0, []⟩,
    ⟨(some 108), .move (.t 0), none, 1, []⟩,
    ⟨(some 109), .len (.t 108), none, 2, []⟩,
    ⟨(some 110), .bin .eql (.t 107) (.t 109), none, 3, []⟩,
    ⟨(some 2), .move (.t 110), none, 4, []⟩]) (RC.ret)
def detentlaw7_TimerSorts_s6 : RC :=
  RC.seq (RC.region 1 [
    ⟨(some 5), .move (.c (.s (.int .i64 0))), none, 0, []⟩]) (RC.seq (RC.seq (RC.region 1 [
    ⟨(some 6), .move (.c (.s (.int .i64 0))), none, 0, []⟩]) (RC.block 2 (RC.loop R.detentlaw7_TimerSorts_l4))) R.detentlaw7_TimerSorts_s5)
def detentlaw7_TimerSorts : RFunc := RFunc.mk 111 [.tmp 2] (
  RC.seq (RC.region 1 [
    ⟨(some 2), .move (.c (.s (.bool false))), none, 0, []⟩]) (RC.seq (RC.seq (RC.region 2 [
    ⟨(some 11), .call F.detentlaw7_known [], none, 0, []⟩,
    ⟨(some 12), .un .not (.t 11), none, 1, []⟩]) (RC.cond (.t 12) (RC.seq (RC.region 1 [
    ⟨(some 2), .move (.c (.s (.bool false))), none, 0, []⟩]) (RC.ret)) (RC.skip))) (RC.seq (RC.seq (RC.region 3 [
    ⟨(some 13), .move (.t 0), none, 0, []⟩,
    ⟨(some 14), .len (.t 13), none, 1, []⟩,
    ⟨(some 15), .bin .gtr (.t 14) (.c (.s (.int .i64 200))), none, 2, []⟩]) (RC.cond (.t 15) (RC.seq (RC.region 1 [
    ⟨(some 2), .move (.c (.s (.bool true))), none, 0, []⟩]) (RC.ret)) (RC.skip))) (RC.seq (RC.region 2 [
    ⟨(some 16), .call F.heap_New [], none, 0, []⟩,
    ⟨(some 3), .move (.t 16), none, 1, []⟩]) (RC.seq (RC.seq (RC.region 1 [
    ⟨(some 4), .move (.c (.s (.int .i64 0))), none, 0, []⟩]) (RC.block 0 (RC.loop R.detentlaw7_TimerSorts_l0))) R.detentlaw7_TimerSorts_s6)))))
theorem detentlaw7_TimerSorts_ok : chkFunc Go.Proofs.Try.prog [] Go.Proofs.Try.f8 detentlaw7_TimerSorts = true := by kernel_rfl
def detentlaw7_TimerLeft_l0 : RC :=
  RC.seq (RC.seq (RC.region 4 [
    ⟨(some 30), .move (.t 10), none, 0, []⟩,
    ⟨(some 31), .move (.t 2), none, 1, []⟩,
    ⟨(some 32), .len (.t 31), none, 2, []⟩,
    ⟨(some 33), .bin .lss (.t 30) (.t 32), none, 3, []⟩]) (RC.cond (.t 33) (RC.skip) (RC.exit 0))) (RC.seq (RC.block 1 (RC.region 6 [
    ⟨(some 36), .move (.t 7), none, 0, []⟩,
    ⟨(some 37), .move (.t 2), none, 1, []⟩,
    ⟨(some 38), .move (.t 10), none, 2, []⟩,
    ⟨(some 39), .indexSl 1 (.t 37) (.t 38), none, 3, []⟩,
    ⟨(some 40), .load none (.t 39), none, 4, []⟩,
    ⟨(some 41), .call F.heap_Timers_Insert [(.t 36), (.t 40), (.c (.s (.int .i64 2)))], none, 5, []⟩])) (RC.region 3 [
    ⟨(some 34), .move (.t 10), none, 0, []⟩,
    ⟨(some 35), .bin .add (.t 34) (.c (.s (.int .i64 1))), none, 1, []⟩,
    ⟨(some 10), .move (.t 35), none, 2, []⟩]))
def detentlaw7_TimerLeft_s1 : RC :=
  RC.seq (RC.region 9 [
    ⟨(some 43), .move (.t 7), none, 0, []⟩,
    ⟨(some 44), .move (.t 8), none, 1, []⟩,
    ⟨(some 45), .move (.t 1), none, 2, []⟩,
    ⟨(some 46), .call F.heap_Timers_Left [(.t 43), (.t 44), (.t 45)], none, 3, []⟩,
    ⟨(some 42), .move (.t 46), none, 4, []⟩,
    ⟨(some 47), .extract 0 (.t 42), none, 5, []⟩,
    ⟨(some 48), .extract 1 (.t 42), none, 6, []⟩,
    ⟨(some 11), .move (.t 47), none, 7, []⟩,
    ⟨(some 12), .move (.t 48), none, 8, []⟩]) (RC.seq (RC.region 13 [
    ⟨(some 50), .move (.t 7), none, 0, []⟩,
    ⟨(some 51), .move (.t 8), none, 1, []⟩,
    ⟨(some 52), .move (.t 2), none, 2, []⟩,
    ⟨(some 53), .len (.t 52), none, 3, []⟩,
    ⟨(some 54), .bin .add (.t 51) (.t 53), none, 4, []⟩,
    ⟨(some 55), .bin .add (.t 54) (.c (.s (.int .i64 1))), none, 5, []⟩,
    ⟨(some 56), .move (.t 1), none, 6, []⟩,
    ⟨(some 57), .call F.heap_Timers_Left [(.t 50), (.t 55), (.t 56)], none, 7, []⟩,
    ⟨(some 49), .move (.t 57), none, 8, []⟩,
    ⟨(some 58), .extract 0 (.t 49), none, 9, []⟩,
    ⟨(some 59), .extract 1 (.t 49), none, 10, []⟩,
    ⟨(some 13), .move (.t 58), none, 11, []⟩,
    ⟨(some 14), .move (.t 59), none, 12, []⟩]) (RC.seq (RC.region 4 [
    ⟨(some 60), .move (.t 7), none, 0, []⟩,
    ⟨(some 61), .move (.t 8), none, 1, []⟩,
    ⟨(some 62), .call F.heap_Timers_Cancel [(.t 60), (.t 61)], none, 2, []⟩,
    ⟨(some 15), .move (.t 62), none, 3, []⟩]) (RC.seq (RC.region 9 [
    ⟨(some 64), .move (.t 7), none, 0, []⟩,
    ⟨(some 65), .move (.t 8), none, 1, []⟩,
    ⟨(some 66), .move (.t 1), none, 2, []⟩,
    ⟨(some 67), .call F.heap_Timers_Left [(.t 64), (.t 65), (.t 66)], none, 3, []⟩,
    ⟨(some 63), .move (.t 67), none, 4, []⟩,
    ⟨(some 68), .extract 0 (.t 63), none, 5, []⟩,
    ⟨(some 69), .extract 1 (.t 63), none, 6, []⟩,
    ⟨(some 16), .move (.t 68), none, 7, []⟩,
    ⟨(some 17), .move (.t 69), none, 8, []⟩]) (RC.seq (RC.region 38 [
    ⟨(some 70), .move (.t 9), none, 0, []⟩,
    ⟨(some 71), .bin .eql (.t 70) (.c (.s (.int .i64 0))), none, 1, []⟩,
    ⟨(some 72), .move (.t 71), none, 2, []⟩,
    ⟨(some 73), .move (.t 12), (some (72, true)), 3, []⟩,
    ⟨(some 74), .pick (.t 72) (.t 73) (.c (.s (.bool false))), none, 4, []⟩,
    ⟨(some 75), .move (.t 74), none, 5, []⟩,
    ⟨(some 76), .move (.t 11), (some (75, true)), 6, []⟩,
    ⟨(some 77), .move (.t 0), (some (75, true)), 7, []⟩,
    ⟨(some 78), .move (.t 1), (some (75, true)), 8, []⟩,
    ⟨(some 79), .bin .sub (.t 77) (.t 78), (some (75, true)), 9, []⟩,
    ⟨(some 80), .conv .i64 (.t 79), (some (75, true)), 10, []⟩,
    ⟨(some 81), .bin .eql (.t 76) (.t 80), (some (75, true)), 11, []⟩,
    ⟨(some 82), .pick (.t 75) (.t 81) (.c (.s (.bool false))), none, 12, []⟩,
    ⟨(some 83), .move (.t 82), none, 13, []⟩,
    ⟨(some 84), .move (.t 14), (some (83, true)), 14, []⟩,
    ⟨(some 85), .un .not (.t 84), (some (83, true)), 15, []⟩,
    ⟨(some 86), .pick (.t 83) (.t 85) (.c (.s (.bool false))), none, 16, []⟩,
    ⟨(some 87), .move (.t 86), none, 17, []⟩,
    ⟨(some 88), .move (.t 15), (some (87, true)), 18, []⟩,
    ⟨(some 89), .pick (.t 87) (.t 88) (.c (.s (.bool false))), none, 19, []⟩,
    ⟨(some 90), .move (.t 89), none, 20, []⟩,
    ⟨(some 91), .move (.t 17), (some (90, true)), 21, []⟩,
    ⟨(some 92), .un .not (.t 91), (some (90, true)), 22, []⟩,
    ⟨(some 93), .pick (.t 90) (.t 92) (.c (.s (.bool false))), none, 23, []⟩,
    ⟨(some 94), .move (.t 93), none, 24, []⟩,
    ⟨(some 95), .move (.t 7), (some (94, true)), 25, []⟩,
    ⟨(some 96), .move (.t 8), (some (94, true)), 26, []⟩,
    ⟨(some 97), .call F.heap_Timers_Cancel [(.t 95), (.t 96)], (some (94, true)), 27, []⟩,
    ⟨(some 98), .un .not (.t 97), (some (94, true)), 28, []⟩,
    ⟨(some 99), .pick (.t 94) (.t 98) (.c (.s (.bool false))), none, 29, []⟩,
    ⟨(some 100), .move (.t 99), none, 30, []⟩,
    ⟨(some 101), .move (.t 7), (some (100, true)), 31, []⟩,
    ⟨(some 102), .call F.heap_Timers_Len [(.t 101)], (some (100, true)), 32, []⟩,
    ⟨(some 103), .move (.t 2), (some (100, true)), 33, []⟩,
    ⟨(some 104), .len (.t 103), (some (100, true)), 34, []⟩,
    ⟨(some 105), .bin .eql (.t 102) (.t 104), (some (100, true)), 35, []⟩,
    ⟨(some 106), .pick (.t 100) (.t 105) (.c (.s (.bool false))), none, 36, []⟩,
    ⟨(some 6), .move (.t 106), none, 37, []⟩]) (RC.ret)))))
def detentlaw7_TimerLeft : RFunc := RFunc.mk 107 [.tmp 6] (
  RC.seq (RC.region 1 [
    ⟨(some 6), .move (.c (.s (.bool false))), none, 0, []⟩]) (RC.seq (RC.seq (RC.region 2 [
    ⟨(some 18), .call F.detentlaw7_known [], none, 0, []⟩,
    ⟨(some 19), .un .not (.t 18), none, 1, []⟩]) (RC.cond (.t 19) (RC.seq (RC.region 1 [
    ⟨(some 6), .move (.c (.s (.bool false))), none, 0, []⟩]) (RC.ret)) (RC.skip))) (RC.seq (RC.seq (RC.region 3 [
    ⟨(some 20), .move (.t 2), none, 0, []⟩,
    ⟨(some 21), .len (.t 20), none, 1, []⟩,
    ⟨(some 22), .bin .gtr (.t 21) (.c (.s (.int .i64 60))), none, 2, []⟩]) (RC.cond (.t 22) (RC.seq (RC.region 1 [
    ⟨(some 6), .move (.c (.s (.bool true))), none, 0, []⟩]) (RC.ret)) (RC.skip))) (RC.seq (RC.region 2 [
    ⟨(some 23), .call F.heap_New [], none, 0, []⟩,
    ⟨(some 7), .move (.t 23), none, 1, []⟩]) (RC.seq (RC.region 8 [
    ⟨(some 25), .move (.t 7), none, 0, []⟩,
    ⟨(some 26), .move (.t 0), none, 1, []⟩,
    ⟨(some 27), .call F.heap_Timers_Insert [(.t 25), (.t 26), (.c (.s (.int .i64 1)))], none, 2, []⟩,
    ⟨(some 24), .move (.t 27), none, 3, []⟩,
    ⟨(some 28), .extract 0 (.t 24), none, 4, []⟩,
    ⟨(some 29), .extract 1 (.t 24), none, 5, []⟩,
    ⟨(some 8), .move (.t 28), none, 6, []⟩,
    ⟨(some 9), .move (.t 29), none, 7, []⟩]) (RC.seq (RC.seq (RC.region 1 [
    ⟨(some 10), .move (.c (.s (.int .i64 0))), none, 0, []⟩]) (RC.block 0 (RC.loop R.detentlaw7_TimerLeft_l0))) R.detentlaw7_TimerLeft_s1))))))
theorem detentlaw7_TimerLeft_ok : chkFunc Go.Proofs.Try.prog [] Go.Proofs.Try.f9 detentlaw7_TimerLeft = true := by kernel_rfl
def detentlaw7_TimerOnce_l0 : RC :=
  RC.seq (RC.seq (RC.region 4 [
    ⟨(some 28), .move (.t 6), none, 0, []⟩,
    ⟨(some 29), .move (.t 0), none, 1, []⟩,
    ⟨(some 30), .len (.t 29), none, 2, []⟩,
    ⟨(some 31), .bin .lss (.t 28) (.t 30), none, 3, []⟩]) (RC.cond (.t 31) (RC.skip) (RC.exit 0))) (RC.seq (RC.block 1 (RC.seq (RC.region 13 [
    ⟨(some 35), .move (.t 5), none, 0, []⟩,
    ⟨(some 36), .move (.t 0), none, 1, []⟩,
    ⟨(some 37), .move (.t 6), none, 2, []⟩,
    ⟨(some 38), .indexSl 1 (.t 36) (.t 37), none, 3, []⟩,
    ⟨(some 39), .load none (.t 38), none, 4, []⟩,
    ⟨(some 40), .conv .u64 (.t 39), none, 5, []⟩,
    ⟨(some 41), .move (.t 6), none, 6, []⟩,
    ⟨(some 42), .call F.heap_Timers_Insert [(.t 35), (.t 40), (.t 41)], none, 7, []⟩,
    ⟨(some 34), .move (.t 42), none, 8, []⟩,
    ⟨(some 43), .extract 0 (.t 34), none, 9, []⟩,
    ⟨(some 44), .extract 1 (.t 34), none, 10, []⟩,
    ⟨(some 7), .move (.t 43), none, 11, []⟩,
    ⟨(some 8), .move (.t 44), none, 12, []⟩]) (RC.seq (RC.region 8 [
    ⟨(some 45), .move (.t 7), none, 0, []⟩,
    ⟨(some 46), .move (.t 6), none, 1, []⟩,
    ⟨(some 47), .bin .add (.t 46) (.c (.s (.int .i64 1))), none, 2, []⟩,
    ⟨(some 48), .bin .neq (.t 45) (.t 47), none, 3, []⟩,
    ⟨(some 49), .move (.t 48), none, 4, []⟩,
    ⟨(some 50), .move (.t 8), (some (49, false)), 5, []⟩,
    ⟨(some 51), .bin .neq (.t 50) (.c (.s (.int .i64 0))), (some (49, false)), 6, []⟩,
    ⟨(some 52), .pick (.t 49) (.c (.s (.bool true))) (.t 51), none, 7, []⟩]) (RC.cond (.t 52) (RC.seq (RC.region 1 [
    ⟨(some 4), .move (.c (.s (.bool false))), none, 0, []⟩]) (RC.ret)) (RC.skip))))) (RC.region 3 [
    ⟨(some 32), .move (.t 6), none, 0, []⟩,
    ⟨(some 33), .bin .add (.t 32) (.c (.s (.int .i64 1))), none, 1, []⟩,
    ⟨(some 6), .move (.t 33), none, 2, []⟩]))
def detentlaw7_TimerOnce_l1 : RC :=
  RC.seq (RC.seq (RC.region 4 [
    ⟨(some 53), .move (.t 9), none, 0, []⟩,
    ⟨(some 54), .move (.t 0), none, 1, []⟩,
    ⟨(some 55), .len (.t 54), none, 2, []⟩,
    ⟨(some 56), .bin .lss (.t 53) (.t 55), none, 3, []⟩]) (RC.cond (.t 56) (RC.skip) (RC.exit 2))) (RC.seq (RC.block 3 (RC.seq (RC.region 11 [
    ⟨(some 59), .move (.t 1), none, 0, []⟩,
    ⟨(some 60), .move (.t 9), none, 1, []⟩,
    ⟨(some 61), .indexSl 1 (.t 59) (.t 60), none, 2, []⟩,
    ⟨(some 62), .load none (.t 61), none, 3, []⟩,
    ⟨(some 63), .move (.t 62), none, 4, []⟩,
    ⟨(some 64), .move (.t 5), (some (63, true)), 5, []⟩,
    ⟨(some 65), .move (.t 9), (some (63, true)), 6, []⟩,
    ⟨(some 66), .bin .add (.t 65) (.c (.s (.int .i64 1))), (some (63, true)), 7, []⟩,
    ⟨(some 67), .call F.heap_Timers_Cancel [(.t 64), (.t 66)], (some (63, true)), 8, []⟩,
    ⟨(some 68), .un .not (.t 67), (some (63, true)), 9, []⟩,
    ⟨(some 69), .pick (.t 63) (.t 68) (.c (.s (.bool false))), none, 10, []⟩]) (RC.cond (.t 69) (RC.seq (RC.region 1 [
    ⟨(some 4), .move (.c (.s (.bool false))), none, 0, []⟩]) (RC.ret)) (RC.skip)))) (RC.region 3 [
    ⟨(some 57), .move (.t 9), none, 0, []⟩,
    ⟨(some 58), .bin .add (.t 57) (.c (.s (.int .i64 1))), none, 1, []⟩,
    ⟨(some 9), .move (.t 58), none, 2, []⟩]))
def detentlaw7_TimerOnce_l2 : RC :=
  RC.seq (RC.seq (RC.region 4 [
    ⟨(some 77), .move (.t 13), none, 0, []⟩,
    ⟨(some 78), .move (.t 12), none, 1, []⟩,
    ⟨(some 79), .len (.t 78), none, 2, []⟩,
    ⟨(some 80), .bin .lss (.t 77) (.t 79), none, 3, []⟩]) (RC.cond (.t 80) (RC.skip) (RC.exit 6))) (RC.seq (RC.block 7 (RC.seq (RC.seq (RC.region 43 [
    ⟨(some 83), .move (.t 12), none, 0, []⟩,
    ⟨(some 84), .move (.t 13), none, 1, []⟩,
    ⟨(some 85), .indexSl 1 (.t 83) (.t 84), none, 2, []⟩,
    ⟨(some 86), .load none (.t 85), none, 3, []⟩,
    ⟨(some 87), .bin .lss (.t 86) (.c (.s (.int .i64 0))), none, 4, []⟩,
    ⟨(some 88), .move (.t 87), none, 5, []⟩,
    ⟨(some 89), .move (.t 12), (some (88, false)), 6, []⟩,
    ⟨(some 90), .move (.t 13), (some (88, false)), 7, []⟩,
    ⟨(some 91), .indexSl 1 (.t 89) (.t 90), (some (88, false)), 8, []⟩,
    ⟨(some 92), .load none (.t 91), (some (88, false)), 9, []⟩,
    ⟨(some 93), .move (.t 0), (some (88, false)), 10, []⟩,
    ⟨(some 94), .len (.t 93), (some (88, false)), 11, []⟩,
    ⟨(some 95), .bin .geq (.t 92) (.t 94), (some (88, false)), 12, []⟩,
    ⟨(some 96), .pick (.t 88) (.c (.s (.bool true))) (.t 95), none, 13, []⟩,
    ⟨(some 97), .move (.t 96), none, 14, []⟩,
    ⟨(some 98), .move (.t 12), (some (97, false)), 15, []⟩,
    ⟨(some 99), .move (.t 13), (some (97, false)), 16, []⟩,
    ⟨(some 100), .indexSl 1 (.t 98) (.t 99), (some (97, false)), 17, []⟩,
    ⟨(some 101), .load none (.t 100), (some (97, false)), 18, []⟩,
    ⟨(some 102), .indexArr 100 1 (.t 10) (.t 101), (some (97, false)), 19, []⟩,
    ⟨(some 103), .load none (.t 102), (some (97, false)), 20, []⟩,
    ⟨(some 104), .pick (.t 97) (.c (.s (.bool true))) (.t 103), none, 21, []⟩,
    ⟨(some 105), .move (.t 104), none, 22, []⟩,
    ⟨(some 106), .move (.t 1), (some (105, false)), 23, []⟩,
    ⟨(some 107), .move (.t 12), (some (105, false)), 24, []⟩,
    ⟨(some 108), .move (.t 13), (some (105, false)), 25, []⟩,
    ⟨(some 109), .indexSl 1 (.t 107) (.t 108), (some (105, false)), 26, []⟩,
    ⟨(some 110), .load none (.t 109), (some (105, false)), 27, []⟩,
    ⟨(some 111), .indexSl 1 (.t 106) (.t 110), (some (105, false)), 28, []⟩,
    ⟨(some 112), .load none (.t 111), (some (105, false)), 29, []⟩,
    ⟨(some 113), .pick (.t 105) (.c (.s (.bool true))) (.t 112), none, 30, []⟩,
    ⟨(some 114), .move (.t 113), none, 31, []⟩,
    ⟨(some 115), .move (.t 0), (some (114, false)), 32, []⟩,
    ⟨(some 116), .move (.t 12), (some (114, false)), 33, []⟩,
    ⟨(some 117), .move (.t 13), (some (114, false)), 34, []⟩,
    ⟨(some 118), .indexSl 1 (.t 116) (.t 117), (some (114, false)), 35, []⟩,
    ⟨(some 119), .load none (.t 118), (some (114, false)), 36, []⟩,
    ⟨(some 120), .indexSl 1 (.t 115) (.t 119), (some (114, false)), 37, []⟩,
    ⟨(some 121), .load none (.t 120), (some (114, false)), 38, []⟩,
    ⟨(some 122), .conv .u64 (.t 121), (some (114, false)), 39, []⟩,
    ⟨(some 123), .move (.t 11), (some (114, false)), 40, []⟩,
    ⟨(some 124), .bin .neq (.t 122) (.t 123), (some (114, false)), 41, []⟩,
    ⟨(some 125), .pick (.t 114) (.c (.s (.bool true))) (.t 124), none, 42, []⟩]) (RC.cond (.t 125) (RC.seq (RC.region 1 [
    ⟨(some 4), .move (.c (.s (.bool false))), none, 0, []⟩]) (RC.ret)) (RC.skip))) (RC.region 6 [
    ⟨(some 126), .move (.t 12), none, 0, []⟩,
    ⟨(some 127), .move (.t 13), none, 1, []⟩,
    ⟨(some 128), .indexSl 1 (.t 126) (.t 127), none, 2, []⟩,
    ⟨(some 129), .load none (.t 128), none, 3, []⟩,
    ⟨(some 130), .indexArr 100 1 (.t 10) (.t 129), none, 4, []⟩,
    ⟨none, .store 1 (.t 130) (.c (.s (.bool true))), none, 5, []⟩]))) (RC.region 3 [
    ⟨(some 81), .move (.t 13), none, 0, []⟩,
    ⟨(some 82), .bin .add (.t 81) (.c (.s (.int .i64 1))), none, 1, []⟩,
    ⟨(some 13), .move (.t 82), none, 2, []⟩]))
def detentlaw7_TimerOnce_s3 : RC :=
  RC.region 3 [
    ⟨(some 72), .move (.t 11), none, 0, []⟩,
    ⟨(some 73), .bin .add (.t 72) (.c (.s (.int .u64 1))), none, 1, []⟩,
    ⟨(some 11), .move (.t 73), none, 2, []⟩]
def detentlaw7_TimerOnce_l4 : RC :=
  RC.seq (RC.seq (RC.region 2 [
    ⟨(some 70), .move (.t 11), none, 0, []⟩,
    ⟨(some 71), .bin .lss (.t 70) (.c (.s (.int .u64 256))), none, 1, []⟩]) (RC.cond (.t 71) (RC.skip) (RC.exit 4))) (RC.seq (RC.block 5 (RC.seq (RC.region 4 [
    ⟨(some 74), .move (.t 5), none, 0, []⟩,
    ⟨(some 75), .move (.t 11), none, 1, []⟩,
    ⟨(some 76), .call F.heap_Timers_Due [(.t 74), (.t 75)], none, 2, []⟩,
    ⟨(some 12), .move (.t 76), none, 3, []⟩]) (RC.seq (RC.region 1 [
    ⟨(some 13), .move (.c (.s (.int .i64 0))), none, 0, []⟩]) (RC.block 6 (RC.loop R.detentlaw7_TimerOnce_l2))))) R.detentlaw7_TimerOnce_s3)
def detentlaw7_TimerOnce_l5 : RC :=
  RC.seq (RC.seq (RC.region 4 [
    ⟨(some 131), .move (.t 14), none, 0, []⟩,
    ⟨(some 132), .move (.t 0), none, 1, []⟩,
    ⟨(some 133), .len (.t 132), none, 2, []⟩,
    ⟨(some 134), .bin .lss (.t 131) (.t 133), none, 3, []⟩]) (RC.cond (.t 134) (RC.skip) (RC.exit 8))) (RC.seq (RC.block 9 (RC.seq (RC.region 8 [
    ⟨(some 137), .move (.t 14), none, 0, []⟩,
    ⟨(some 138), .indexArr 100 1 (.t 10) (.t 137), none, 1, []⟩,
    ⟨(some 139), .load none (.t 138), none, 2, []⟩,
    ⟨(some 140), .move (.t 1), none, 3, []⟩,
    ⟨(some 141), .move (.t 14), none, 4, []⟩,
    ⟨(some 142), .indexSl 1 (.t 140) (.t 141), none, 5, []⟩,
    ⟨(some 143), .load none (.t 142), none, 6, []⟩,
    ⟨(some 144), .eqs .bool false (.t 139) (.t 143), none, 7, []⟩]) (RC.cond (.t 144) (RC.seq (RC.region 1 [
    ⟨(some 4), .move (.c (.s (.bool false))), none, 0, []⟩]) (RC.ret)) (RC.skip)))) (RC.region 3 [
    ⟨(some 135), .move (.t 14), none, 0, []⟩,
    ⟨(some 136), .bin .add (.t 135) (.c (.s (.int .i64 1))), none, 1, []⟩,
    ⟨(some 14), .move (.t 136), none, 2, []⟩]))
def detentlaw7_TimerOnce_s6 : RC :=
  RC.seq (RC.region 4 [
    ⟨(some 145), .move (.t 5), none, 0, []⟩,
    ⟨(some 146), .call F.heap_Timers_Len [(.t 145)], none, 1, []⟩,
    ⟨(some 147), .bin .eql (.t 146) (.c (.s (.int .i64 0))), none, 2, []⟩,
    ⟨(some 4), .move (.t 147), none, 3, []⟩]) (RC.ret)
def detentlaw7_TimerOnce_s7 : RC :=
  RC.seq (RC.seq (RC.region 1 [
    ⟨(some 14), .move (.c (.s (.int .i64 0))), none, 0, []⟩]) (RC.block 8 (RC.loop R.detentlaw7_TimerOnce_l5))) R.detentlaw7_TimerOnce_s6
def detentlaw7_TimerOnce_s8 : RC :=
  RC.seq (RC.region 1 [
    ⟨(some 10), .newc [.bool false, .bool false, .bool false, .bool false, .bool false, .bool false, .bool false, .bool false, .bool false, .bool false, .bool false, .bool false, .bool false, .bool false, .bool false, .bool false, .bool false, .bool false, .bool false, .bool false, .bool false, .bool false, .bool false, .bool false, .bool false, .bool false, .bool false, .bool false, .bool false, .bool false, .bool false, .bool false, .bool false, .bool false, .bool false, .bool false, .bool false, .bool false, .bool false, .bool false, .bool false, .bool false, .bool false, .bool false, .bool false, .bool false, .bool false, .bool false, .bool false, .bool false, .bool false, .bool false, .bool false, .bool false, .bool false, .bool false, .bool false, .bool false, .bool false, .bool false, .bool false, .bool false, .bool false, .bool false, .bool false, .bool false, .bool false, .bool false, .bool false, .bool false, .bool false, .bool false, .bool false, .bool false, .bool false, .bool false, .bool false, .bool false, .bool false, .bool false, .bool false, .bool false, .bool false, .bool false, .bool false, .bool false, .bool false, .bool false, .bool false, .bool false, .bool false, .bool false, .bool false, .bool false, .bool false, .bool false, .bool false, .bool false, .bool false, .bool false], none, 0, []⟩]) (RC.seq (RC.seq (RC.region 1 [
    ⟨(some 11), .move (.c (.s (.int .u64 0))), none, 0, []⟩]) (RC.block 4 (RC.loop R.detentlaw7_TimerOnce_l4))) R.detentlaw7_TimerOnce_s7)
def detentlaw7_TimerOnce_s9 : RC :=
  RC.seq (RC.seq (RC.region 1 [
    ⟨(some 9), .move (.c (.s (.int .i64 0))), none, 0, []⟩]) (RC.block 2 (RC.loop R.detentlaw7_TimerOnce_l1))) R.detentlaw7_TimerOnce_s8
def detentlaw7_TimerOnce : RFunc := RFunc.mk 148 [.tmp 4] (
  RC.seq (RC.region 1 [
    ⟨(some 4), .move (.c (.s (.bool false))), none, 0, []⟩]) (RC.seq (RC.seq (RC.region 2 [
    ⟨(some 15), .call F.detentlaw7_known [], none, 0, []⟩,
    ⟨(some 16), .un .not (.t 15), none, 1, []⟩]) (RC.cond (.t 16) (RC.seq (RC.region 1 [
    ⟨(some 4), .move (.c (.s (.bool false))), none, 0, []⟩]) (RC.ret)) (RC.skip))) (RC.seq (RC.seq (RC.region 10 [
    ⟨(some 17), .move (.t 0), none, 0, []⟩,
    ⟨(some 18), .len (.t 17), none, 1, []⟩,
    ⟨(some 19), .bin .gtr (.t 18) (.c (.s (.int .i64 100))), none, 2, []⟩,
    ⟨(some 20), .move (.t 19), none, 3, []⟩,
    ⟨(some 21), .move (.t 1), (some (20, false)), 4, []⟩,
    ⟨(some 22), .len (.t 21), (some (20, false)), 5, []⟩,
    ⟨(some 23), .move (.t 0), (some (20, false)), 6, []⟩,
    ⟨(some 24), .len (.t 23), (some (20, false)), 7, []⟩,
    ⟨(some 25), .bin .lss (.t 22) (.t 24), (some (20, false)), 8, []⟩,
    ⟨(some 26), .pick (.t 20) (.c (.s (.bool true))) (.t 25), none, 9, []⟩]) (RC.cond (.t 26) (RC.seq (RC.region 1 [
    ⟨(some 4), .move (.c (.s (.bool true))), none, 0, []⟩]) (RC.ret)) (RC.skip))) (RC.seq (RC.region 2 [
    ⟨(some 27), .call F.heap_New [], none, 0, []⟩,
    ⟨(some 5), .move (.t 27), none, 1, []⟩]) (RC.seq (RC.seq (RC.region 1 [
    ⟨(some 6), .move (.c (.s (.int .i64 0))), none, 0, []⟩]) (RC.block 0 (RC.loop R.detentlaw7_TimerOnce_l0))) R.detentlaw7_TimerOnce_s9)))))
theorem detentlaw7_TimerOnce_ok : chkFunc Go.Proofs.Try.prog [] Go.Proofs.Try.f10 detentlaw7_TimerOnce = true := by kernel_rfl
def detentlaw7_TimerNext_l0 : RC :=
  RC.seq (RC.seq (RC.region 4 [
    ⟨(some 23), .move (.t 6), none, 0, []⟩,
    ⟨(some 24), .move (.t 0), none, 1, []⟩,
    ⟨(some 25), .len (.t 24), none, 2, []⟩,
    ⟨(some 26), .bin .lss (.t 23) (.t 25), none, 3, []⟩]) (RC.cond (.t 26) (RC.skip) (RC.exit 0))) (RC.seq (RC.block 1 (RC.seq (RC.region 7 [
    ⟨(some 29), .move (.t 3), none, 0, []⟩,
    ⟨(some 30), .move (.t 0), none, 1, []⟩,
    ⟨(some 31), .move (.t 6), none, 2, []⟩,
    ⟨(some 32), .indexSl 1 (.t 30) (.t 31), none, 3, []⟩,
    ⟨(some 33), .load none (.t 32), none, 4, []⟩,
    ⟨(some 34), .move (.t 6), none, 5, []⟩,
    ⟨(some 35), .call F.heap_Timers_Insert [(.t 29), (.t 33), (.t 34)], none, 6, []⟩]) (RC.seq (RC.seq (RC.region 6 [
    ⟨(some 36), .move (.t 0), none, 0, []⟩,
    ⟨(some 37), .move (.t 6), none, 1, []⟩,
    ⟨(some 38), .indexSl 1 (.t 36) (.t 37), none, 2, []⟩,
    ⟨(some 39), .load none (.t 38), none, 3, []⟩,
    ⟨(some 40), .move (.t 4), none, 4, []⟩,
    ⟨(some 41), .bin .lss (.t 39) (.t 40), none, 5, []⟩]) (RC.cond (.t 41) (RC.seq (RC.region 5 [
    ⟨(some 42), .move (.t 0), none, 0, []⟩,
    ⟨(some 43), .move (.t 6), none, 1, []⟩,
    ⟨(some 44), .indexSl 1 (.t 42) (.t 43), none, 2, []⟩,
    ⟨(some 45), .load none (.t 44), none, 3, []⟩,
    ⟨(some 4), .move (.t 45), none, 4, []⟩]) (RC.region 1 [
    ⟨(some 5), .move (.c (.s (.int .i64 0))), none, 0, []⟩])) (RC.skip))) (RC.seq (RC.region 6 [
    ⟨(some 46), .move (.t 0), none, 0, []⟩,
    ⟨(some 47), .move (.t 6), none, 1, []⟩,
    ⟨(some 48), .indexSl 1 (.t 46) (.t 47), none, 2, []⟩,
    ⟨(some 49), .load none (.t 48), none, 3, []⟩,
    ⟨(some 50), .move (.t 4), none, 4, []⟩,
    ⟨(some 51), .bin .eql (.t 49) (.t 50), none, 5, []⟩]) (RC.cond (.t 51) (RC.region 3 [
    ⟨(some 52), .move (.t 5), none, 0, []⟩,
    ⟨(some 53), .bin .add (.t 52) (.c (.s (.int .i64 1))), none, 1, []⟩,
    ⟨(some 5), .move (.t 53), none, 2, []⟩]) (RC.skip)))))) (RC.region 3 [
    ⟨(some 27), .move (.t 6), none, 0, []⟩,
    ⟨(some 28), .bin .add (.t 27) (.c (.s (.int .i64 1))), none, 1, []⟩,
    ⟨(some 6), .move (.t 28), none, 2, []⟩]))
def detentlaw7_TimerNext_s1 : RC :=
  RC.seq (RC.region 7 [
    ⟨(some 55), .move (.t 3), none, 0, []⟩,
    ⟨(some 56), .call F.heap_Timers_Next [(.t 55)], none, 1, []⟩,
    ⟨(some 54), .move (.t 56), none, 2, []⟩,
    ⟨(some 57), .extract 0 (.t 54), none, 3, []⟩,
    ⟨(some 58), .extract 1 (.t 54), none, 4, []⟩,
    ⟨(some 7), .move (.t 57), none, 5, []⟩,
    ⟨(some 8), .move (.t 58), none, 6, []⟩]) (RC.seq (RC.seq (RC.region 19 [
    ⟨(some 59), .move (.t 8), none, 0, []⟩,
    ⟨(some 60), .un .not (.t 59), none, 1, []⟩,
    ⟨(some 61), .move (.t 60), none, 2, []⟩,
    ⟨(some 62), .move (.t 7), (some (61, false)), 3, []⟩,
    ⟨(some 63), .move (.t 4), (some (61, false)), 4, []⟩,
    ⟨(some 64), .bin .neq (.t 62) (.t 63), (some (61, false)), 5, []⟩,
    ⟨(some 65), .pick (.t 61) (.c (.s (.bool true))) (.t 64), none, 6, []⟩,
    ⟨(some 66), .move (.t 65), none, 7, []⟩,
    ⟨(some 67), .move (.t 4), (some (66, false)), 8, []⟩,
    ⟨(some 68), .bin .gtr (.t 67) (.c (.s (.int .u64 0))), (some (66, false)), 9, []⟩,
    ⟨(some 69), .move (.t 68), (some (66, false)), 10, []⟩,
    ⟨(some 70), .move (.t 3), (some (69, true)), 11, []⟩,
    ⟨(some 71), .move (.t 4), (some (69, true)), 12, []⟩,
    ⟨(some 72), .bin .sub (.t 71) (.c (.s (.int .u64 1))), (some (69, true)), 13, []⟩,
    ⟨(some 73), .call F.heap_Timers_Due [(.t 70), (.t 72)], (some (69, true)), 14, []⟩,
    ⟨(some 74), .len (.t 73), (some (69, true)), 15, []⟩,
    ⟨(some 75), .bin .neq (.t 74) (.c (.s (.int .i64 0))), (some (69, true)), 16, []⟩,
    ⟨(some 76), .pick (.t 69) (.t 75) (.c (.s (.bool false))), (some (66, false)), 17, []⟩,
    ⟨(some 77), .pick (.t 66) (.c (.s (.bool true))) (.t 76), none, 18, []⟩]) (RC.cond (.t 77) (RC.seq (RC.region 1 [
    ⟨(some 2), .move (.c (.s (.bool false))), none, 0, []⟩]) (RC.ret)) (RC.skip))) (RC.seq (RC.region 16 [
    ⟨(some 78), .move (.t 3), none, 0, []⟩,
    ⟨(some 79), .move (.t 4), none, 1, []⟩,
    ⟨(some 80), .call F.heap_Timers_Due [(.t 78), (.t 79)], none, 2, []⟩,
    ⟨(some 81), .len (.t 80), none, 3, []⟩,
    ⟨(some 82), .move (.t 5), none, 4, []⟩,
    ⟨(some 83), .bin .eql (.t 81) (.t 82), none, 5, []⟩,
    ⟨(some 84), .move (.t 83), none, 6, []⟩,
    ⟨(some 85), .move (.t 3), (some (84, true)), 7, []⟩,
    ⟨(some 86), .call F.heap_Timers_Len [(.t 85)], (some (84, true)), 8, []⟩,
    ⟨(some 87), .move (.t 0), (some (84, true)), 9, []⟩,
    ⟨(some 88), .len (.t 87), (some (84, true)), 10, []⟩,
    ⟨(some 89), .move (.t 5), (some (84, true)), 11, []⟩,
    ⟨(some 90), .bin .sub (.t 88) (.t 89), (some (84, true)), 12, []⟩,
    ⟨(some 91), .bin .eql (.t 86) (.t 90), (some (84, true)), 13, []⟩,
    ⟨(some 92), .pick (.t 84) (.t 91) (.c (.s (.bool false))), none, 14, []⟩,
    ⟨(some 2), .move (.t 92), none, 15, []⟩]) (RC.ret)))
def detentlaw7_TimerNext : RFunc := RFunc.mk 93 [.tmp 2] (
  RC.seq (RC.region 1 [
    ⟨(some 2), .move (.c (.s (.bool false))), none, 0, []⟩]) (RC.seq (RC.seq (RC.region 2 [
    ⟨(some 9), .call F.detentlaw7_known [], none, 0, []⟩,
    ⟨(some 10), .un .not (.t 9), none, 1, []⟩]) (RC.cond (.t 10) (RC.seq (RC.region 1 [
    ⟨(some 2), .move (.c (.s (.bool false))), none, 0, []⟩]) (RC.ret)) (RC.skip))) (RC.seq (RC.seq (RC.region 8 [
    ⟨(some 11), .move (.t 0), none, 0, []⟩,
    ⟨(some 12), .len (.t 11), none, 1, []⟩,
    ⟨(some 13), .bin .eql (.t 12) (.c (.s (.int .i64 0))), none, 2, []⟩,
    ⟨(some 14), .move (.t 13), none, 3, []⟩,
    ⟨(some 15), .move (.t 0), (some (14, false)), 4, []⟩,
    ⟨(some 16), .len (.t 15), (some (14, false)), 5, []⟩,
    ⟨(some 17), .bin .gtr (.t 16) (.c (.s (.int .i64 100))), (some (14, false)), 6, []⟩,
    ⟨(some 18), .pick (.t 14) (.c (.s (.bool true))) (.t 17), none, 7, []⟩]) (RC.cond (.t 18) (RC.seq (RC.region 1 [
    ⟨(some 2), .move (.c (.s (.bool true))), none, 0, []⟩]) (RC.ret)) (RC.skip))) (RC.seq (RC.region 2 [
    ⟨(some 19), .call F.heap_New [], none, 0, []⟩,
    ⟨(some 3), .move (.t 19), none, 1, []⟩]) (RC.seq (RC.region 4 [
    ⟨(some 20), .move (.t 0), none, 0, []⟩,
    ⟨(some 21), .indexSl 1 (.t 20) (.c (.s (.int .i64 0))), none, 1, []⟩,
    ⟨(some 22), .load none (.t 21), none, 2, []⟩,
    ⟨(some 4), .move (.t 22), none, 3, []⟩]) (RC.seq (RC.region 1 [
    ⟨(some 5), .move (.c (.s (.int .i64 0))), none, 0, []⟩]) (RC.seq (RC.seq (RC.region 1 [
    ⟨(some 6), .move (.c (.s (.int .i64 0))), none, 0, []⟩]) (RC.block 0 (RC.loop R.detentlaw7_TimerNext_l0))) R.detentlaw7_TimerNext_s1)))))))
theorem detentlaw7_TimerNext_ok : chkFunc Go.Proofs.Try.prog [] Go.Proofs.Try.f11 detentlaw7_TimerNext = true := by kernel_rfl
def detentlaw7_TimerPlays_l0 : RC :=
  RC.seq (RC.seq (RC.region 4 [
    ⟨(some 22), .move (.t 7), none, 0, []⟩,
    ⟨(some 23), .move (.t 0), none, 1, []⟩,
    ⟨(some 24), .len (.t 23), none, 2, []⟩,
    ⟨(some 25), .bin .lss (.t 22) (.t 24), none, 3, []⟩]) (RC.cond (.t 25) (RC.skip) (RC.exit 0))) (RC.seq (RC.block 1 (RC.seq (RC.region 6 [
    ⟨(some 28), .move (.t 0), none, 0, []⟩,
    ⟨(some 29), .move (.t 7), none, 1, []⟩,
    ⟨(some 30), .indexSl 3 (.t 28) (.t 29), none, 2, []⟩,
    ⟨(some 31), .load (some 3) (.t 30), none, 3, []⟩,
    ⟨(some 8), .newc [.int .i64 0, .int .i64 0, .int .u64 0], none, 4, []⟩,
    ⟨none, .store 3 (.t 8) (.t 31), none, 5, []⟩]) (RC.seq (RC.seq (RC.region 2 [
    ⟨(some 32), .fieldAddr 0 (.t 8), none, 0, []⟩,
    ⟨(some 33), .load none (.t 32), none, 1, []⟩]) (RC.block 2 (RC.seq (RC.region 2 [
    ⟨(some 35), .bin .eql (.t 33) (.c (.s (.int .i64 1))), none, 0, []⟩,
    ⟨(some 34), .move (.t 35), none, 1, []⟩]) (RC.cond (.t 34) (RC.seq (RC.region 11 [
    ⟨(some 37), .move (.t 5), none, 0, []⟩,
    ⟨(some 38), .fieldAddr 2 (.t 8), none, 1, []⟩,
    ⟨(some 39), .load none (.t 38), none, 2, []⟩,
    ⟨(some 40), .fieldAddr 1 (.t 8), none, 3, []⟩,
    ⟨(some 41), .load none (.t 40), none, 4, []⟩,
    ⟨(some 42), .call F.heap_Timers_Insert [(.t 37), (.t 39), (.t 41)], none, 5, []⟩,
    ⟨(some 36), .move (.t 42), none, 6, []⟩,
    ⟨(some 43), .extract 0 (.t 36), none, 7, []⟩,
    ⟨(some 44), .extract 1 (.t 36), none, 8, []⟩,
    ⟨(some 9), .move (.t 43), none, 9, []⟩,
    ⟨(some 10), .move (.t 44), none, 10, []⟩]) (RC.seq (RC.region 11 [
    ⟨(some 46), .move (.t 6), none, 0, []⟩,
    ⟨(some 47), .fieldAddr 2 (.t 8), none, 1, []⟩,
    ⟨(some 48), .load none (.t 47), none, 2, []⟩,
    ⟨(some 49), .fieldAddr 1 (.t 8), none, 3, []⟩,
    ⟨(some 50), .load none (.t 49), none, 4, []⟩,
    ⟨(some 51), .call F.detentref7_Timers_Insert [(.t 46), (.t 48), (.t 50)], none, 5, []⟩,
    ⟨(some 45), .move (.t 51), none, 6, []⟩,
    ⟨(some 52), .extract 0 (.t 45), none, 7, []⟩,
    ⟨(some 53), .extract 1 (.t 45), none, 8, []⟩,
    ⟨(some 11), .move (.t 52), none, 9, []⟩,
    ⟨(some 12), .move (.t 53), none, 10, []⟩]) (RC.seq (RC.region 8 [
    ⟨(some 54), .move (.t 9), none, 0, []⟩,
    ⟨(some 55), .move (.t 11), none, 1, []⟩,
    ⟨(some 56), .bin .neq (.t 54) (.t 55), none, 2, []⟩,
    ⟨(some 57), .move (.t 56), none, 3, []⟩,
    ⟨(some 58), .move (.t 10), (some (57, false)), 4, []⟩,
    ⟨(some 59), .move (.t 12), (some (57, false)), 5, []⟩,
    ⟨(some 60), .bin .neq (.t 58) (.t 59), (some (57, false)), 6, []⟩,
    ⟨(some 61), .pick (.t 57) (.c (.s (.bool true))) (.t 60), none, 7, []⟩]) (RC.cond (.t 61) (RC.seq (RC.region 1 [
    ⟨(some 4), .move (.c (.s (.bool false))), none, 0, []⟩]) (RC.ret)) (RC.skip))))) (RC.seq (RC.region 2 [
    ⟨(some 63), .bin .eql (.t 33) (.c (.s (.int .i64 2))), none, 0, []⟩,
    ⟨(some 62), .move (.t 63), none, 1, []⟩]) (RC.cond (.t 62) (RC.seq (RC.region 9 [
    ⟨(some 64), .move (.t 5), none, 0, []⟩,
    ⟨(some 65), .fieldAddr 1 (.t 8), none, 1, []⟩,
    ⟨(some 66), .load none (.t 65), none, 2, []⟩,
    ⟨(some 68), .move (.t 6), none, 4, []⟩,
    ⟨(some 69), .fieldAddr 1 (.t 8), none, 5, []⟩,
    ⟨(some 70), .load none (.t 69), none, 6, []⟩,
    ⟨(some 67), .call F.heap_Timers_Cancel [(.t 64), (.t 66)], none, 3, [⟨70, none, (.t 69), none⟩]⟩,
    ⟨(some 71), .call F.detentref7_Timers_Cancel [(.t 68), (.t 70)], none, 7, []⟩,
    ⟨(some 72), .eqs .bool true (.t 67) (.t 71), none, 8, []⟩]) (RC.cond (.t 72) (RC.seq (RC.region 1 [
    ⟨(some 4), .move (.c (.s (.bool false))), none, 0, []⟩]) (RC.ret)) (RC.skip))) (RC.seq (RC.region 2 [
    ⟨(some 74), .bin .eql (.t 33) (.c (.s (.int .i64 3))), none, 0, []⟩,
    ⟨(some 73), .move (.t 74), none, 1, []⟩]) (RC.cond (.t 73) (RC.seq (RC.region 10 [
    ⟨(some 75), .move (.t 5), none, 0, []⟩,
    ⟨(some 76), .fieldAddr 2 (.t 8), none, 1, []⟩,
    ⟨(some 77), .load none (.t 76), none, 2, []⟩,
    ⟨(some 79), .move (.t 6), none, 4, []⟩,
    ⟨(some 80), .fieldAddr 2 (.t 8), none, 5, []⟩,
    ⟨(some 81), .load none (.t 80), none, 6, []⟩,
    ⟨(some 78), .call F.heap_Timers_Due [(.t 75), (.t 77)], none, 3, [⟨81, none, (.t 80), none⟩]⟩,
    ⟨(some 82), .call F.detentref7_Timers_Due [(.t 79), (.t 81)], none, 7, []⟩,
    ⟨(some 83), .call F.detentlaw3_Same [(.t 78), (.t 82)], none, 8, []⟩,
    ⟨(some 84), .un .not (.t 83), none, 9, []⟩]) (RC.cond (.t 84) (RC.seq (RC.region 1 [
    ⟨(some 4), .move (.c (.s (.bool false))), none, 0, []⟩]) (RC.ret)) (RC.skip))) (RC.seq (RC.region 2 [
    ⟨(some 86), .bin .eql (.t 33) (.c (.s (.int .i64 4))), none, 0, []⟩,
    ⟨(some 85), .move (.t 86), none, 1, []⟩]) (RC.cond (.t 85) (RC.seq (RC.region 3 [
    ⟨(some 87), .move (.t 5), none, 0, []⟩,
    ⟨(some 88), .call F.heap_Timers_Twin [(.t 87)], none, 1, []⟩,
    ⟨(some 13), .move (.t 88), none, 2, []⟩]) (RC.seq (RC.seq (RC.region 2 [
    ⟨(some 89), .move (.t 13), none, 0, []⟩,
    ⟨(some 90), .eqs .ptr false (.t 89) (.c (.s (.ptr none))), none, 1, []⟩]) (RC.cond (.t 90) (RC.seq (RC.region 1 [
    ⟨(some 4), .move (.c (.s (.bool false))), none, 0, []⟩]) (RC.ret)) (RC.skip))) (RC.seq (RC.region 2 [
    ⟨(some 91), .move (.t 5), none, 0, []⟩,
    ⟨(some 92), .call F.heap_Timers_Due [(.t 91), (.c (.s (.int .u64 18446744073709551615)))], none, 1, []⟩]) (RC.region 2 [
    ⟨(some 93), .move (.t 13), none, 0, []⟩,
    ⟨(some 5), .move (.t 93), none, 1, []⟩])))) (RC.skip))))))))))) (RC.seq (RC.region 5 [
    ⟨(some 94), .move (.t 5), none, 0, []⟩,
    ⟨(some 95), .move (.t 6), none, 1, []⟩,
    ⟨(some 96), .move (.t 1), none, 2, []⟩,
    ⟨(some 97), .call F.detentlaw7_Same [(.t 94), (.t 95), (.t 96)], none, 3, []⟩,
    ⟨(some 98), .un .not (.t 97), none, 4, []⟩]) (RC.cond (.t 98) (RC.seq (RC.region 1 [
    ⟨(some 4), .move (.c (.s (.bool false))), none, 0, []⟩]) (RC.ret)) (RC.skip)))))) (RC.region 3 [
    ⟨(some 26), .move (.t 7), none, 0, []⟩,
    ⟨(some 27), .bin .add (.t 26) (.c (.s (.int .i64 1))), none, 1, []⟩,
    ⟨(some 7), .move (.t 27), none, 2, []⟩]))
def detentlaw7_TimerPlays_s1 : RC :=
  RC.seq (RC.region 1 [
    ⟨(some 4), .move (.c (.s (.bool true))), none, 0, []⟩]) (RC.ret)
def detentlaw7_TimerPlays : RFunc := RFunc.mk 99 [.tmp 4] (
  RC.seq (RC.region 1 [
    ⟨(some 4), .move (.c (.s (.bool false))), none, 0, []⟩]) (RC.seq (RC.seq (RC.region 2 [
    ⟨(some 14), .call F.detentlaw7_known [], none, 0, []⟩,
    ⟨(some 15), .un .not (.t 14), none, 1, []⟩]) (RC.cond (.t 15) (RC.seq (RC.region 1 [
    ⟨(some 4), .move (.c (.s (.bool false))), none, 0, []⟩]) (RC.ret)) (RC.skip))) (RC.seq (RC.seq (RC.region 3 [
    ⟨(some 16), .move (.t 0), none, 0, []⟩,
    ⟨(some 17), .len (.t 16), none, 1, []⟩,
    ⟨(some 18), .bin .gtr (.t 17) (.c (.s (.int .i64 100))), none, 2, []⟩]) (RC.cond (.t 18) (RC.seq (RC.region 1 [
    ⟨(some 4), .move (.c (.s (.bool true))), none, 0, []⟩]) (RC.ret)) (RC.skip))) (RC.seq (RC.region 2 [
    ⟨(some 19), .call F.heap_New [], none, 0, []⟩,
    ⟨(some 5), .move (.t 19), none, 1, []⟩]) (RC.seq (RC.region 3 [
    ⟨(some 20), .build [.slice none 0 0 1, .int .i64 0] [], none, 0, []⟩,
    ⟨(some 21), .box (.t 20), none, 1, []⟩,
    ⟨(some 6), .move (.t 21), none, 2, []⟩]) (RC.seq (RC.seq (RC.region 1 [
    ⟨(some 7), .move (.c (.s (.int .i64 0))), none, 0, []⟩]) (RC.block 0 (RC.loop R.detentlaw7_TimerPlays_l0))) R.detentlaw7_TimerPlays_s1))))))
theorem detentlaw7_TimerPlays_ok : chkFunc Go.Proofs.Try.prog [] Go.Proofs.Try.f12 detentlaw7_TimerPlays = true := by kernel_rfl
def detentlaw8_ClockPlays_s0 : RC :=
  RC.seq (RC.region 30 [
    ⟨(some 129), .move (.t 5), none, 0, []⟩,
    ⟨(some 131), .move (.t 7), none, 2, []⟩,
    ⟨(some 130), .call F.clock_Clock_Now [(.t 129)], none, 1, []⟩,
    ⟨(some 132), .call F.detentref8_Clock_Now [(.t 131)], none, 3, []⟩,
    ⟨(some 133), .bin .neq (.t 130) (.t 132), none, 4, []⟩,
    ⟨(some 134), .move (.t 133), none, 5, []⟩,
    ⟨(some 135), .move (.t 5), (some (134, false)), 6, []⟩,
    ⟨(some 137), .move (.t 7), (some (134, false)), 8, []⟩,
    ⟨(some 138), .nilCheck (.t 137), (some (134, false)), 9, []⟩,
    ⟨(some 139), .fieldAddr 2 (.t 138), (some (134, false)), 10, []⟩,
    ⟨(some 140), .load none (.t 139), (some (134, false)), 11, []⟩,
    ⟨(some 136), .call F.clock_Clock_Up [(.t 135)], (some (134, false)), 7, [⟨140, none, (.t 139), (some (134, false))⟩]⟩,
    ⟨(some 141), .bin .neq (.t 136) (.t 140), (some (134, false)), 12, []⟩,
    ⟨(some 142), .pick (.t 134) (.c (.s (.bool true))) (.t 141), none, 13, []⟩,
    ⟨(some 143), .move (.t 142), none, 14, []⟩,
    ⟨(some 144), .move (.t 5), (some (143, false)), 15, []⟩,
    ⟨(some 145), .nilCheck (.t 144), (some (143, false)), 16, []⟩,
    ⟨(some 146), .fieldAddr 0 (.t 145), (some (143, false)), 17, []⟩,
    ⟨(some 147), .load none (.t 146), (some (143, false)), 18, []⟩,
    ⟨(some 148), .move (.t 7), (some (143, false)), 19, []⟩,
    ⟨(some 149), .nilCheck (.t 148), (some (143, false)), 20, []⟩,
    ⟨(some 150), .fieldAddr 0 (.t 149), (some (143, false)), 21, []⟩,
    ⟨(some 151), .load none (.t 150), (some (143, false)), 22, []⟩,
    ⟨(some 152), .move (.t 7), (some (143, false)), 23, []⟩,
    ⟨(some 153), .nilCheck (.t 152), (some (143, false)), 24, []⟩,
    ⟨(some 154), .fieldAddr 2 (.t 153), (some (143, false)), 25, []⟩,
    ⟨(some 155), .load none (.t 154), (some (143, false)), 26, []⟩,
    ⟨(some 156), .call F.detentlaw7_Same [(.t 147), (.t 151), (.t 155)], (some (143, false)), 27, []⟩,
    ⟨(some 157), .un .not (.t 156), (some (143, false)), 28, []⟩,
    ⟨(some 158), .pick (.t 143) (.c (.s (.bool true))) (.t 157), none, 29, []⟩]) (RC.cond (.t 158) (RC.seq (RC.region 1 [
    ⟨(some 4), .move (.c (.s (.bool false))), none, 0, []⟩]) (RC.ret)) (RC.skip))
def detentlaw8_ClockPlays_s1 : RC :=
  RC.region 3 [
    ⟨(some 47), .move (.t 9), none, 0, []⟩,
    ⟨(some 48), .bin .add (.t 47) (.c (.s (.int .i64 1))), none, 1, []⟩,
    ⟨(some 9), .move (.t 48), none, 2, []⟩]
def detentlaw8_ClockPlays_l2 : RC :=
  RC.seq (RC.seq (RC.region 4 [
    ⟨(some 43), .move (.t 9), none, 0, []⟩,
    ⟨(some 44), .move (.t 1), none, 1, []⟩,
    ⟨(some 45), .len (.t 44), none, 2, []⟩,
    ⟨(some 46), .bin .lss (.t 43) (.t 45), none, 3, []⟩]) (RC.cond (.t 46) (RC.skip) (RC.exit 0))) (RC.seq (RC.block 1 (RC.seq (RC.region 6 [
    ⟨(some 49), .move (.t 1), none, 0, []⟩,
    ⟨(some 50), .move (.t 9), none, 1, []⟩,
    ⟨(some 51), .indexSl 4 (.t 49) (.t 50), none, 2, []⟩,
    ⟨(some 52), .load (some 4) (.t 51), none, 3, []⟩,
    ⟨(some 10), .newc [.int .i64 0, .int .i64 0, .int .u64 0, .int .i64 0], none, 4, []⟩,
    ⟨none, .store 4 (.t 10) (.t 52), none, 5, []⟩]) (RC.seq (RC.seq (RC.region 2 [
    ⟨(some 53), .fieldAddr 0 (.t 10), none, 0, []⟩,
    ⟨(some 54), .load none (.t 53), none, 1, []⟩]) (RC.block 2 (RC.seq (RC.region 2 [
    ⟨(some 56), .bin .eql (.t 54) (.c (.s (.int .i64 1))), none, 0, []⟩,
    ⟨(some 55), .move (.t 56), none, 1, []⟩]) (RC.cond (.t 55) (RC.seq (RC.region 4 [
    ⟨(some 57), .move (.t 5), none, 0, []⟩,
    ⟨(some 58), .fieldAddr 2 (.t 10), none, 1, []⟩,
    ⟨(some 59), .load none (.t 58), none, 2, []⟩,
    ⟨(some 60), .call F.clock_Clock_Set [(.t 57), (.t 59)], none, 3, []⟩]) (RC.region 4 [
    ⟨(some 61), .move (.t 7), none, 0, []⟩,
    ⟨(some 62), .fieldAddr 2 (.t 10), none, 1, []⟩,
    ⟨(some 63), .load none (.t 62), none, 2, []⟩,
    ⟨(some 64), .call F.detentref8_Clock_Set [(.t 61), (.t 63)], none, 3, []⟩])) (RC.seq (RC.region 2 [
    ⟨(some 66), .bin .eql (.t 54) (.c (.s (.int .i64 2))), none, 0, []⟩,
    ⟨(some 65), .move (.t 66), none, 1, []⟩]) (RC.cond (.t 65) (RC.seq (RC.region 11 [
    ⟨(some 68), .move (.t 5), none, 0, []⟩,
    ⟨(some 69), .fieldAddr 3 (.t 10), none, 1, []⟩,
    ⟨(some 70), .load none (.t 69), none, 2, []⟩,
    ⟨(some 71), .fieldAddr 1 (.t 10), none, 3, []⟩,
    ⟨(some 72), .load none (.t 71), none, 4, []⟩,
    ⟨(some 73), .call F.clock_Clock_After [(.t 68), (.t 70), (.t 72)], none, 5, []⟩,
    ⟨(some 67), .move (.t 73), none, 6, []⟩,
    ⟨(some 74), .extract 0 (.t 67), none, 7, []⟩,
    ⟨(some 75), .extract 1 (.t 67), none, 8, []⟩,
    ⟨(some 11), .move (.t 74), none, 9, []⟩,
    ⟨(some 12), .move (.t 75), none, 10, []⟩]) (RC.seq (RC.region 11 [
    ⟨(some 77), .move (.t 7), none, 0, []⟩,
    ⟨(some 78), .fieldAddr 3 (.t 10), none, 1, []⟩,
    ⟨(some 79), .load none (.t 78), none, 2, []⟩,
    ⟨(some 80), .fieldAddr 1 (.t 10), none, 3, []⟩,
    ⟨(some 81), .load none (.t 80), none, 4, []⟩,
    ⟨(some 82), .call F.detentref8_Clock_After [(.t 77), (.t 79), (.t 81)], none, 5, []⟩,
    ⟨(some 76), .move (.t 82), none, 6, []⟩,
    ⟨(some 83), .extract 0 (.t 76), none, 7, []⟩,
    ⟨(some 84), .extract 1 (.t 76), none, 8, []⟩,
    ⟨(some 13), .move (.t 83), none, 9, []⟩,
    ⟨(some 14), .move (.t 84), none, 10, []⟩]) (RC.seq (RC.region 8 [
    ⟨(some 85), .move (.t 11), none, 0, []⟩,
    ⟨(some 86), .move (.t 13), none, 1, []⟩,
    ⟨(some 87), .bin .neq (.t 85) (.t 86), none, 2, []⟩,
    ⟨(some 88), .move (.t 87), none, 3, []⟩,
    ⟨(some 89), .move (.t 12), (some (88, false)), 4, []⟩,
    ⟨(some 90), .move (.t 14), (some (88, false)), 5, []⟩,
    ⟨(some 91), .bin .neq (.t 89) (.t 90), (some (88, false)), 6, []⟩,
    ⟨(some 92), .pick (.t 88) (.c (.s (.bool true))) (.t 91), none, 7, []⟩]) (RC.cond (.t 92) (RC.seq (RC.region 1 [
    ⟨(some 4), .move (.c (.s (.bool false))), none, 0, []⟩]) (RC.ret)) (RC.skip))))) (RC.seq (RC.region 2 [
    ⟨(some 94), .bin .eql (.t 54) (.c (.s (.int .i64 3))), none, 0, []⟩,
    ⟨(some 93), .move (.t 94), none, 1, []⟩]) (RC.cond (.t 93) (RC.seq (RC.region 6 [
    ⟨(some 95), .move (.t 5), none, 0, []⟩,
    ⟨(some 96), .call F.clock_Clock_Tick [(.t 95)], none, 1, []⟩,
    ⟨(some 97), .move (.t 7), none, 2, []⟩,
    ⟨(some 98), .call F.detentref8_Clock_Tick [(.t 97)], none, 3, []⟩,
    ⟨(some 99), .call F.detentlaw3_Same [(.t 96), (.t 98)], none, 4, []⟩,
    ⟨(some 100), .un .not (.t 99), none, 5, []⟩]) (RC.cond (.t 100) (RC.seq (RC.region 1 [
    ⟨(some 4), .move (.c (.s (.bool false))), none, 0, []⟩]) (RC.ret)) (RC.skip))) (RC.seq (RC.region 2 [
    ⟨(some 102), .bin .eql (.t 54) (.c (.s (.int .i64 4))), none, 0, []⟩,
    ⟨(some 101), .move (.t 102), none, 1, []⟩]) (RC.cond (.t 101) (RC.seq (RC.region 15 [
    ⟨(some 103), .move (.t 5), none, 0, []⟩,
    ⟨(some 104), .nilCheck (.t 103), none, 1, []⟩,
    ⟨(some 105), .fieldAddr 0 (.t 104), none, 2, []⟩,
    ⟨(some 106), .load none (.t 105), none, 3, []⟩,
    ⟨(some 107), .fieldAddr 1 (.t 10), none, 4, []⟩,
    ⟨(some 108), .load none (.t 107), none, 5, []⟩,
    ⟨(some 110), .move (.t 7), none, 7, []⟩,
    ⟨(some 111), .nilCheck (.t 110), none, 8, []⟩,
    ⟨(some 112), .fieldAddr 0 (.t 111), none, 9, []⟩,
    ⟨(some 113), .load none (.t 112), none, 10, []⟩,
    ⟨(some 114), .fieldAddr 1 (.t 10), none, 11, []⟩,
    ⟨(some 115), .load none (.t 114), none, 12, []⟩,
    ⟨(some 109), .call F.heap_Timers_Cancel [(.t 106), (.t 108)], none, 6, [⟨113, none, (.t 112), none⟩, ⟨115, none, (.t 114), none⟩]⟩,
    ⟨(some 116), .call F.detentref7_Timers_Cancel [(.t 113), (.t 115)], none, 13, []⟩,
    ⟨(some 117), .eqs .bool true (.t 109) (.t 116), none, 14, []⟩]) (RC.cond (.t 117) (RC.seq (RC.region 1 [
    ⟨(some 4), .move (.c (.s (.bool false))), none, 0, []⟩]) (RC.ret)) (RC.skip))) (RC.seq (RC.region 2 [
    ⟨(some 119), .bin .eql (.t 54) (.c (.s (.int .i64 5))), none, 0, []⟩,
    ⟨(some 118), .move (.t 119), none, 1, []⟩]) (RC.cond (.t 118) (RC.seq (RC.region 3 [
    ⟨(some 120), .move (.t 5), none, 0, []⟩,
    ⟨(some 121), .call F.clock_Clock_Apart [(.t 120)], none, 1, []⟩,
    ⟨(some 15), .move (.t 121), none, 2, []⟩]) (RC.seq (RC.seq (RC.region 2 [
    ⟨(some 122), .move (.t 15), none, 0, []⟩,
    ⟨(some 123), .eqs .ptr false (.t 122) (.c (.s (.ptr none))), none, 1, []⟩]) (RC.cond (.t 123) (RC.seq (RC.region 1 [
    ⟨(some 4), .move (.c (.s (.bool false))), none, 0, []⟩]) (RC.ret)) (RC.skip))) (RC.seq (RC.region 2 [
    ⟨(some 124), .move (.t 5), none, 0, []⟩,
    ⟨(some 125), .call F.clock_Clock_Tick [(.t 124)], none, 1, []⟩]) (RC.seq (RC.region 2 [
    ⟨(some 126), .move (.t 5), none, 0, []⟩,
    ⟨(some 127), .call F.clock_Clock_Set [(.t 126), (.c (.s (.int .u64 1)))], none, 1, []⟩]) (RC.region 2 [
    ⟨(some 128), .move (.t 15), none, 0, []⟩,
    ⟨(some 5), .move (.t 128), none, 1, []⟩]))))) (RC.skip))))))))))))) R.detentlaw8_ClockPlays_s0))) R.detentlaw8_ClockPlays_s1)
def detentlaw8_ClockPlays_s3 : RC :=
  RC.seq (RC.region 1 [
    ⟨(some 4), .move (.c (.s (.bool true))), none, 0, []⟩]) (RC.ret)
def detentlaw8_ClockPlays : RFunc := RFunc.mk 159 [.tmp 4] (
  RC.seq (RC.region 1 [
    ⟨(some 4), .move (.c (.s (.bool false))), none, 0, []⟩]) (RC.seq (RC.seq (RC.region 2 [
    ⟨(some 16), .call F.detentlaw8_known [], none, 0, []⟩,
    ⟨(some 17), .un .not (.t 16), none, 1, []⟩]) (RC.cond (.t 17) (RC.seq (RC.region 1 [
    ⟨(some 4), .move (.c (.s (.bool false))), none, 0, []⟩]) (RC.ret)) (RC.skip))) (RC.seq (RC.seq (RC.region 3 [
    ⟨(some 18), .move (.t 1), none, 0, []⟩,
    ⟨(some 19), .len (.t 18), none, 1, []⟩,
    ⟨(some 20), .bin .gtr (.t 19) (.c (.s (.int .i64 80))), none, 2, []⟩]) (RC.cond (.t 20) (RC.seq (RC.region 1 [
    ⟨(some 4), .move (.c (.s (.bool true))), none, 0, []⟩]) (RC.ret)) (RC.skip))) (RC.seq (RC.region 7 [
    ⟨(some 22), .move (.t 0), none, 0, []⟩,
    ⟨(some 23), .call F.clock_NewClock [(.t 22)], none, 1, []⟩,
    ⟨(some 21), .move (.t 23), none, 2, []⟩,
    ⟨(some 24), .extract 0 (.t 21), none, 3, []⟩,
    ⟨(some 25), .extract 1 (.t 21), none, 4, []⟩,
    ⟨(some 5), .move (.t 24), none, 5, []⟩,
    ⟨(some 6), .move (.t 25), none, 6, []⟩]) (RC.seq (RC.region 7 [
    ⟨(some 27), .move (.t 0), none, 0, []⟩,
    ⟨(some 28), .call F.detentref8_New [(.t 27)], none, 1, []⟩,
    ⟨(some 26), .move (.t 28), none, 2, []⟩,
    ⟨(some 29), .extract 0 (.t 26), none, 3, []⟩,
    ⟨(some 30), .extract 1 (.t 26), none, 4, []⟩,
    ⟨(some 7), .move (.t 29), none, 5, []⟩,
    ⟨(some 8), .move (.t 30), none, 6, []⟩]) (RC.seq (RC.seq (RC.region 10 [
    ⟨(some 31), .move (.t 6), none, 0, []⟩,
    ⟨(some 32), .move (.t 8), none, 1, []⟩,
    ⟨(some 33), .bin .neq (.t 31) (.t 32), none, 2, []⟩,
    ⟨(some 34), .move (.t 33), none, 3, []⟩,
    ⟨(some 35), .move (.t 5), (some (34, false)), 4, []⟩,
    ⟨(some 36), .eqs .ptr false (.t 35) (.c (.s (.ptr none))), (some (34, false)), 5, []⟩,
    ⟨(some 37), .move (.t 8), (some (34, false)), 6, []⟩,
    ⟨(some 38), .bin .neq (.t 37) (.c (.s (.int .i64 0))), (some (34, false)), 7, []⟩,
    ⟨(some 39), .eqs .bool true (.t 36) (.t 38), (some (34, false)), 8, []⟩,
    ⟨(some 40), .pick (.t 34) (.c (.s (.bool true))) (.t 39), none, 9, []⟩]) (RC.cond (.t 40) (RC.seq (RC.region 1 [
    ⟨(some 4), .move (.c (.s (.bool false))), none, 0, []⟩]) (RC.ret)) (RC.skip))) (RC.seq (RC.seq (RC.region 2 [
    ⟨(some 41), .move (.t 7), none, 0, []⟩,
    ⟨(some 42), .eqs .ptr false (.t 41) (.c (.s (.ptr none))), none, 1, []⟩]) (RC.cond (.t 42) (RC.seq (RC.region 1 [
    ⟨(some 4), .move (.c (.s (.bool true))), none, 0, []⟩]) (RC.ret)) (RC.skip))) (RC.seq (RC.seq (RC.region 1 [
    ⟨(some 9), .move (.c (.s (.int .i64 0))), none, 0, []⟩]) (RC.block 0 (RC.loop R.detentlaw8_ClockPlays_l2))) R.detentlaw8_ClockPlays_s3))))))))
theorem detentlaw8_ClockPlays_ok : chkFunc Go.Proofs.Try.prog [] Go.Proofs.Try.f13 detentlaw8_ClockPlays = true := by kernel_rfl
def detentlaw3_Same_l0 : RC :=
  RC.seq (RC.seq (RC.region 4 [
    ⟨(some 11), .move (.t 5), none, 0, []⟩,
    ⟨(some 12), .move (.t 0), none, 1, []⟩,
    ⟨(some 13), .len (.t 12), none, 2, []⟩,
    ⟨(some 14), .bin .lss (.t 11) (.t 13), none, 3, []⟩]) (RC.cond (.t 14) (RC.skip) (RC.exit 0))) (RC.seq (RC.block 1 (RC.seq (RC.region 9 [
    ⟨(some 17), .move (.t 0), none, 0, []⟩,
    ⟨(some 18), .move (.t 5), none, 1, []⟩,
    ⟨(some 19), .indexSl 1 (.t 17) (.t 18), none, 2, []⟩,
    ⟨(some 20), .load none (.t 19), none, 3, []⟩,
    ⟨(some 21), .move (.t 1), none, 4, []⟩,
    ⟨(some 22), .move (.t 5), none, 5, []⟩,
    ⟨(some 23), .indexSl 1 (.t 21) (.t 22), none, 6, []⟩,
    ⟨(some 24), .load none (.t 23), none, 7, []⟩,
    ⟨(some 25), .bin .neq (.t 20) (.t 24), none, 8, []⟩]) (RC.cond (.t 25) (RC.seq (RC.region 1 [
    ⟨(some 4), .move (.c (.s (.bool false))), none, 0, []⟩]) (RC.ret)) (RC.skip)))) (RC.region 3 [
    ⟨(some 15), .move (.t 5), none, 0, []⟩,
    ⟨(some 16), .bin .add (.t 15) (.c (.s (.int .i64 1))), none, 1, []⟩,
    ⟨(some 5), .move (.t 16), none, 2, []⟩]))
def detentlaw3_Same_s1 : RC :=
  RC.seq (RC.region 1 [
    ⟨(some 4), .move (.c (.s (.bool true))), none, 0, []⟩]) (RC.ret)
def detentlaw3_Same : RFunc := RFunc.mk 26 [.tmp 4] (
  RC.seq (RC.region 1 [
    ⟨(some 4), .move (.c (.s (.bool false))), none, 0, []⟩]) (RC.seq (RC.seq (RC.region 5 [
    ⟨(some 6), .move (.t 0), none, 0, []⟩,
    ⟨(some 7), .len (.t 6), none, 1, []⟩,
    ⟨(some 8), .move (.t 1), none, 2, []⟩,
    ⟨(some 9), .len (.t 8), none, 3, []⟩,
    ⟨(some 10), .bin .neq (.t 7) (.t 9), none, 4, []⟩]) (RC.cond (.t 10) (RC.seq (RC.region 1 [
    ⟨(some 4), .move (.c (.s (.bool false))), none, 0, []⟩]) (RC.ret)) (RC.skip))) (RC.seq (RC.seq (RC.region 1 [
    ⟨(some 5), .move (.c (.s (.int .i64 0))), none, 0, []⟩]) (RC.block 0 (RC.loop R.detentlaw3_Same_l0))) R.detentlaw3_Same_s1)))
theorem detentlaw3_Same_ok : chkFunc Go.Proofs.Try.prog [] Go.Proofs.Try.f31 detentlaw3_Same = true := by kernel_rfl
def detentlaw7_Same_l0 : RC :=
  RC.seq (RC.seq (RC.region 11 [
    ⟨(some 44), .move (.t 11), none, 0, []⟩,
    ⟨(some 45), .move (.t 1), none, 1, []⟩,
    ⟨(some 46), .nilCheck (.t 45), none, 2, []⟩,
    ⟨(some 47), .fieldAddr 1 (.t 46), none, 3, []⟩,
    ⟨(some 48), .load none (.t 47), none, 4, []⟩,
    ⟨(some 49), .bin .add (.t 48) (.c (.s (.int .i64 1))), none, 5, []⟩,
    ⟨(some 50), .bin .leq (.t 44) (.t 49), none, 6, []⟩,
    ⟨(some 51), .move (.t 50), none, 7, []⟩,
    ⟨(some 52), .move (.t 11), (some (51, true)), 8, []⟩,
    ⟨(some 53), .bin .lss (.t 52) (.c (.s (.int .i64 200))), (some (51, true)), 9, []⟩,
    ⟨(some 54), .pick (.t 51) (.t 53) (.c (.s (.bool false))), none, 10, []⟩]) (RC.cond (.t 54) (RC.skip) (RC.exit 0))) (RC.seq (RC.block 1 (RC.seq (RC.region 9 [
    ⟨(some 58), .move (.t 0), none, 0, []⟩,
    ⟨(some 59), .move (.t 11), none, 1, []⟩,
    ⟨(some 60), .move (.t 2), none, 2, []⟩,
    ⟨(some 61), .call F.heap_Timers_Left [(.t 58), (.t 59), (.t 60)], none, 3, []⟩,
    ⟨(some 57), .move (.t 61), none, 4, []⟩,
    ⟨(some 62), .extract 0 (.t 57), none, 5, []⟩,
    ⟨(some 63), .extract 1 (.t 57), none, 6, []⟩,
    ⟨(some 12), .move (.t 62), none, 7, []⟩,
    ⟨(some 13), .move (.t 63), none, 8, []⟩]) (RC.seq (RC.region 9 [
    ⟨(some 65), .move (.t 1), none, 0, []⟩,
    ⟨(some 66), .move (.t 11), none, 1, []⟩,
    ⟨(some 67), .move (.t 2), none, 2, []⟩,
    ⟨(some 68), .call F.detentref7_Timers_Left [(.t 65), (.t 66), (.t 67)], none, 3, []⟩,
    ⟨(some 64), .move (.t 68), none, 4, []⟩,
    ⟨(some 69), .extract 0 (.t 64), none, 5, []⟩,
    ⟨(some 70), .extract 1 (.t 64), none, 6, []⟩,
    ⟨(some 14), .move (.t 69), none, 7, []⟩,
    ⟨(some 15), .move (.t 70), none, 8, []⟩]) (RC.seq (RC.region 8 [
    ⟨(some 71), .move (.t 12), none, 0, []⟩,
    ⟨(some 72), .move (.t 14), none, 1, []⟩,
    ⟨(some 73), .bin .neq (.t 71) (.t 72), none, 2, []⟩,
    ⟨(some 74), .move (.t 73), none, 3, []⟩,
    ⟨(some 75), .move (.t 13), (some (74, false)), 4, []⟩,
    ⟨(some 76), .move (.t 15), (some (74, false)), 5, []⟩,
    ⟨(some 77), .eqs .bool true (.t 75) (.t 76), (some (74, false)), 6, []⟩,
    ⟨(some 78), .pick (.t 74) (.c (.s (.bool true))) (.t 77), none, 7, []⟩]) (RC.cond (.t 78) (RC.seq (RC.region 1 [
    ⟨(some 6), .move (.c (.s (.bool false))), none, 0, []⟩]) (RC.ret)) (RC.skip)))))) (RC.region 3 [
    ⟨(some 55), .move (.t 11), none, 0, []⟩,
    ⟨(some 56), .bin .add (.t 55) (.c (.s (.int .i64 1))), none, 1, []⟩,
    ⟨(some 11), .move (.t 56), none, 2, []⟩]))
def detentlaw7_Same_s1 : RC :=
  RC.seq (RC.region 1 [
    ⟨(some 6), .move (.c (.s (.bool true))), none, 0, []⟩]) (RC.ret)
def detentlaw7_Same : RFunc := RFunc.mk 79 [.tmp 6] (
  RC.seq (RC.region 1 [
    ⟨(some 6), .move (.c (.s (.bool false))), none, 0, []⟩]) (RC.seq (RC.region 7 [
    ⟨(some 17), .move (.t 0), none, 0, []⟩,
    ⟨(some 18), .call F.heap_Timers_Next [(.t 17)], none, 1, []⟩,
    ⟨(some 16), .move (.t 18), none, 2, []⟩,
    ⟨(some 19), .extract 0 (.t 16), none, 3, []⟩,
    ⟨(some 20), .extract 1 (.t 16), none, 4, []⟩,
    ⟨(some 7), .move (.t 19), none, 5, []⟩,
    ⟨(some 8), .move (.t 20), none, 6, []⟩]) (RC.seq (RC.region 7 [
    ⟨(some 22), .move (.t 1), none, 0, []⟩,
    ⟨(some 23), .call F.detentref7_Timers_Next [(.t 22)], none, 1, []⟩,
    ⟨(some 21), .move (.t 23), none, 2, []⟩,
    ⟨(some 24), .extract 0 (.t 21), none, 3, []⟩,
    ⟨(some 25), .extract 1 (.t 21), none, 4, []⟩,
    ⟨(some 9), .move (.t 24), none, 5, []⟩,
    ⟨(some 10), .move (.t 25), none, 6, []⟩]) (RC.seq (RC.seq (RC.region 18 [
    ⟨(some 26), .move (.t 7), none, 0, []⟩,
    ⟨(some 27), .move (.t 9), none, 1, []⟩,
    ⟨(some 28), .bin .neq (.t 26) (.t 27), none, 2, []⟩,
    ⟨(some 29), .move (.t 28), none, 3, []⟩,
    ⟨(some 30), .move (.t 8), (some (29, false)), 4, []⟩,
    ⟨(some 31), .move (.t 10), (some (29, false)), 5, []⟩,
    ⟨(some 32), .eqs .bool true (.t 30) (.t 31), (some (29, false)), 6, []⟩,
    ⟨(some 33), .pick (.t 29) (.c (.s (.bool true))) (.t 32), none, 7, []⟩,
    ⟨(some 34), .move (.t 33), none, 8, []⟩,
    ⟨(some 35), .move (.t 0), (some (34, false)), 9, []⟩,
    ⟨(some 37), .move (.t 1), (some (34, false)), 11, []⟩,
    ⟨(some 38), .nilCheck (.t 37), (some (34, false)), 12, []⟩,
    ⟨(some 39), .fieldAddr 0 (.t 38), (some (34, false)), 13, []⟩,
    ⟨(some 40), .load none (.t 39), (some (34, false)), 14, []⟩,
    ⟨(some 41), .len (.t 40), (some (34, false)), 15, []⟩,
    ⟨(some 36), .call F.heap_Timers_Len [(.t 35)], (some (34, false)), 10, [⟨40, none, (.t 39), (some (34, false))⟩]⟩,
    ⟨(some 42), .bin .neq (.t 36) (.t 41), (some (34, false)), 16, []⟩,
    ⟨(some 43), .pick (.t 34) (.c (.s (.bool true))) (.t 42), none, 17, []⟩]) (RC.cond (.t 43) (RC.seq (RC.region 1 [
    ⟨(some 6), .move (.c (.s (.bool false))), none, 0, []⟩]) (RC.ret)) (RC.skip))) (RC.seq (RC.seq (RC.region 1 [
    ⟨(some 11), .move (.c (.s (.int .i64 0))), none, 0, []⟩]) (RC.block 0 (RC.loop R.detentlaw7_Same_l0))) R.detentlaw7_Same_s1)))))
theorem detentlaw7_Same_ok : chkFunc Go.Proofs.Try.prog [] Go.Proofs.Try.f34 detentlaw7_Same = true := by kernel_rfl
def detentlaw8_known : RFunc := RFunc.mk 88 [.tmp 0] (
  RC.seq (RC.region 1 [
    ⟨(some 0), .move (.c (.s (.bool false))), none, 0, []⟩]) (RC.seq (RC.region 6 [
    ⟨(some 10), .call F.clock_NewClock [(.c (.s (.int .i64 10)))], none, 0, []⟩,
    ⟨(some 9), .move (.t 10), none, 1, []⟩,
    ⟨(some 11), .extract 0 (.t 9), none, 2, []⟩,
    ⟨(some 12), .extract 1 (.t 9), none, 3, []⟩,
    ⟨(some 1), .move (.t 11), none, 4, []⟩,
    ⟨(some 2), .move (.t 12), none, 5, []⟩]) (RC.seq (RC.seq (RC.region 13 [
    ⟨(some 13), .move (.t 2), none, 0, []⟩,
    ⟨(some 14), .bin .neq (.t 13) (.c (.s (.int .i64 0))), none, 1, []⟩,
    ⟨(some 15), .move (.t 14), none, 2, []⟩,
    ⟨(some 16), .move (.t 1), (some (15, false)), 3, []⟩,
    ⟨(some 17), .eqs .ptr false (.t 16) (.c (.s (.ptr none))), (some (15, false)), 4, []⟩,
    ⟨(some 18), .pick (.t 15) (.c (.s (.bool true))) (.t 17), none, 5, []⟩,
    ⟨(some 19), .move (.t 18), none, 6, []⟩,
    ⟨(some 20), .move (.t 1), (some (19, false)), 7, []⟩,
    ⟨(some 21), .nilCheck (.t 20), (some (19, false)), 8, []⟩,
    ⟨(some 22), .fieldAddr 0 (.t 21), (some (19, false)), 9, []⟩,
    ⟨(some 23), .load none (.t 22), (some (19, false)), 10, []⟩,
    ⟨(some 24), .eqs .ptr false (.t 23) (.c (.s (.ptr none))), (some (19, false)), 11, []⟩,
    ⟨(some 25), .pick (.t 19) (.c (.s (.bool true))) (.t 24), none, 12, []⟩]) (RC.cond (.t 25) (RC.seq (RC.region 1 [
    ⟨(some 0), .move (.c (.s (.bool false))), none, 0, []⟩]) (RC.ret)) (RC.skip))) (RC.seq (RC.region 7 [
    ⟨(some 27), .move (.t 1), none, 0, []⟩,
    ⟨(some 28), .call F.clock_Clock_After [(.t 27), (.c (.s (.int .i64 5))), (.c (.s (.int .i64 7)))], none, 1, []⟩,
    ⟨(some 26), .move (.t 28), none, 2, []⟩,
    ⟨(some 29), .extract 0 (.t 26), none, 3, []⟩,
    ⟨(some 30), .extract 1 (.t 26), none, 4, []⟩,
    ⟨(some 3), .move (.t 29), none, 5, []⟩,
    ⟨(some 4), .move (.t 30), none, 6, []⟩]) (RC.seq (RC.region 3 [
    ⟨(some 31), .move (.t 1), none, 0, []⟩,
    ⟨(some 32), .call F.clock_Clock_Tick [(.t 31)], none, 1, []⟩,
    ⟨(some 5), .move (.t 32), none, 2, []⟩]) (RC.seq (RC.region 3 [
    ⟨(some 33), .move (.t 1), none, 0, []⟩,
    ⟨(some 34), .call F.clock_Clock_Tick [(.t 33)], none, 1, []⟩,
    ⟨(some 6), .move (.t 34), none, 2, []⟩]) (RC.seq (RC.region 2 [
    ⟨(some 35), .move (.t 1), none, 0, []⟩,
    ⟨(some 36), .call F.clock_Clock_Set [(.t 35), (.c (.s (.int .u64 1000)))], none, 1, []⟩]) (RC.seq (RC.region 2 [
    ⟨(some 37), .move (.t 1), none, 0, []⟩,
    ⟨(some 38), .call F.clock_Clock_Tick [(.t 37)], none, 1, []⟩]) (RC.seq (RC.region 7 [
    ⟨(some 40), .move (.t 1), none, 0, []⟩,
    ⟨(some 41), .call F.clock_Clock_After [(.t 40), (.c (.s (.int .i64 (-1)))), (.c (.s (.int .i64 7)))], none, 1, []⟩,
    ⟨(some 39), .move (.t 41), none, 2, []⟩,
    ⟨(some 42), .extract 0 (.t 39), none, 3, []⟩,
    ⟨(some 43), .extract 1 (.t 39), none, 4, []⟩,
    ⟨(some 7), .move (.t 42), none, 5, []⟩,
    ⟨(some 8), .move (.t 43), none, 6, []⟩]) (RC.seq (RC.region 45 [
    ⟨(some 44), .move (.t 3), none, 0, []⟩,
    ⟨(some 45), .bin .eql (.t 44) (.c (.s (.int .i64 1))), none, 1, []⟩,
    ⟨(some 46), .move (.t 45), none, 2, []⟩,
    ⟨(some 47), .move (.t 4), (some (46, true)), 3, []⟩,
    ⟨(some 48), .bin .eql (.t 47) (.c (.s (.int .i64 0))), (some (46, true)), 4, []⟩,
    ⟨(some 49), .pick (.t 46) (.t 48) (.c (.s (.bool false))), none, 5, []⟩,
    ⟨(some 50), .move (.t 49), none, 6, []⟩,
    ⟨(some 51), .move (.t 5), (some (50, true)), 7, []⟩,
    ⟨(some 52), .len (.t 51), (some (50, true)), 8, []⟩,
    ⟨(some 53), .bin .eql (.t 52) (.c (.s (.int .i64 0))), (some (50, true)), 9, []⟩,
    ⟨(some 54), .pick (.t 50) (.t 53) (.c (.s (.bool false))), none, 10, []⟩,
    ⟨(some 55), .move (.t 54), none, 11, []⟩,
    ⟨(some 56), .move (.t 6), (some (55, true)), 12, []⟩,
    ⟨(some 57), .len (.t 56), (some (55, true)), 13, []⟩,
    ⟨(some 58), .bin .eql (.t 57) (.c (.s (.int .i64 1))), (some (55, true)), 14, []⟩,
    ⟨(some 59), .pick (.t 55) (.t 58) (.c (.s (.bool false))), none, 15, []⟩,
    ⟨(some 60), .move (.t 59), none, 16, []⟩,
    ⟨(some 61), .move (.t 6), (some (60, true)), 17, []⟩,
    ⟨(some 62), .indexSl 1 (.t 61) (.c (.s (.int .i64 0))), (some (60, true)), 18, []⟩,
    ⟨(some 63), .load none (.t 62), (some (60, true)), 19, []⟩,
    ⟨(some 64), .bin .eql (.t 63) (.c (.s (.int .i64 7))), (some (60, true)), 20, []⟩,
    ⟨(some 65), .pick (.t 60) (.t 64) (.c (.s (.bool false))), none, 21, []⟩,
    ⟨(some 66), .move (.t 65), none, 22, []⟩,
    ⟨(some 67), .move (.t 1), (some (66, true)), 23, []⟩,
    ⟨(some 68), .call F.clock_Clock_Now [(.t 67)], (some (66, true)), 24, []⟩,
    ⟨(some 69), .bin .eql (.t 68) (.c (.s (.int .u64 1010))), (some (66, true)), 25, []⟩,
    ⟨(some 70), .pick (.t 66) (.t 69) (.c (.s (.bool false))), none, 26, []⟩,
    ⟨(some 71), .move (.t 70), none, 27, []⟩,
    ⟨(some 72), .move (.t 1), (some (71, true)), 28, []⟩,
    ⟨(some 73), .call F.clock_Clock_Up [(.t 72)], (some (71, true)), 29, []⟩,
    ⟨(some 74), .bin .eql (.t 73) (.c (.s (.int .u64 30))), (some (71, true)), 30, []⟩,
    ⟨(some 75), .pick (.t 71) (.t 74) (.c (.s (.bool false))), none, 31, []⟩,
    ⟨(some 76), .move (.t 75), none, 32, []⟩,
    ⟨(some 77), .move (.t 8), (some (76, true)), 33, []⟩,
    ⟨(some 78), .bin .eql (.t 77) (.c (.s (.int .i64 (-17)))), (some (76, true)), 34, []⟩,
    ⟨(some 79), .pick (.t 76) (.t 78) (.c (.s (.bool false))), none, 35, []⟩,
    ⟨(some 80), .move (.t 79), none, 36, []⟩,
    ⟨(some 81), .move (.t 1), (some (80, true)), 37, []⟩,
    ⟨(some 82), .nilCheck (.t 81), (some (80, true)), 38, []⟩,
    ⟨(some 83), .fieldAddr 0 (.t 82), (some (80, true)), 39, []⟩,
    ⟨(some 84), .load none (.t 83), (some (80, true)), 40, []⟩,
    ⟨(some 85), .call F.heap_Timers_Len [(.t 84)], (some (80, true)), 41, []⟩,
    ⟨(some 86), .bin .eql (.t 85) (.c (.s (.int .i64 0))), (some (80, true)), 42, []⟩,
    ⟨(some 87), .pick (.t 80) (.t 86) (.c (.s (.bool false))), none, 43, []⟩,
    ⟨(some 0), .move (.t 87), none, 44, []⟩]) (RC.ret)))))))))))
theorem detentlaw8_known_ok : chkFunc Go.Proofs.Try.prog [] Go.Proofs.Try.f14 detentlaw8_known = true := by kernel_rfl
def clock_NewClock : RFunc := RFunc.mk 15 [.tmp 2, .tmp 3] (
  RC.seq (RC.region 2 [
    ⟨(some 2), .move (.c (.s (.ptr none))), none, 0, []⟩,
    ⟨(some 3), .move (.c (.s (.int .i64 0))), none, 1, []⟩]) (RC.seq (RC.seq (RC.region 6 [
    ⟨(some 4), .move (.t 0), none, 0, []⟩,
    ⟨(some 5), .bin .lss (.t 4) (.c (.s (.int .i64 1))), none, 1, []⟩,
    ⟨(some 6), .move (.t 5), none, 2, []⟩,
    ⟨(some 7), .move (.t 0), (some (6, false)), 3, []⟩,
    ⟨(some 8), .bin .gtr (.t 7) (.c (.s (.int .i64 1000))), (some (6, false)), 4, []⟩,
    ⟨(some 9), .pick (.t 6) (.c (.s (.bool true))) (.t 8), none, 5, []⟩]) (RC.cond (.t 9) (RC.seq (RC.region 2 [
    ⟨(some 2), .move (.c (.s (.ptr none))), none, 0, []⟩,
    ⟨(some 3), .move (.c (.s (.int .i64 (-17)))), none, 1, []⟩]) (RC.ret)) (RC.skip))) (RC.seq (RC.region 7 [
    ⟨(some 10), .call F.heap_New [], none, 0, []⟩,
    ⟨(some 11), .move (.t 0), none, 1, []⟩,
    ⟨(some 12), .conv .u64 (.t 11), none, 2, []⟩,
    ⟨(some 13), .build [.ptr none, .int .u64 0, .int .u64 0, .int .u64 0] [(0, 1, (.t 10)), (1, 1, (.t 12))], none, 3, []⟩,
    ⟨(some 14), .box (.t 13), none, 4, []⟩,
    ⟨(some 2), .move (.t 14), none, 5, []⟩,
    ⟨(some 3), .move (.c (.s (.int .i64 0))), none, 6, []⟩]) (RC.ret))))
theorem clock_NewClock_ok : chkFunc Go.Proofs.Try.prog [] Go.Proofs.Try.f15 clock_NewClock = true := by kernel_rfl
def clock_Clock_Tick : RFunc := RFunc.mk 23 [.tmp 2] (
  RC.seq (RC.region 1 [
    ⟨(some 2), .move (.c (.s (.slice none 0 0 1))), none, 0, []⟩]) (RC.seq (RC.region 12 [
    ⟨(some 3), .move (.t 0), none, 0, []⟩,
    ⟨(some 4), .nilCheck (.t 3), none, 1, []⟩,
    ⟨(some 5), .fieldAddr 2 (.t 4), none, 2, []⟩,
    ⟨(some 6), .load none (.t 5), none, 3, []⟩,
    ⟨(some 7), .move (.t 0), none, 4, []⟩,
    ⟨(some 8), .nilCheck (.t 7), none, 5, []⟩,
    ⟨(some 9), .fieldAddr 1 (.t 8), none, 6, []⟩,
    ⟨(some 10), .load none (.t 9), none, 7, []⟩,
    ⟨(some 11), .bin .add (.t 6) (.t 10), none, 8, []⟩,
    ⟨(some 12), .nilCheck (.t 3), none, 9, []⟩,
    ⟨(some 13), .fieldAddr 2 (.t 12), none, 10, []⟩,
    ⟨none, .store 1 (.t 13) (.t 11), none, 11, []⟩]) (RC.seq (RC.region 10 [
    ⟨(some 14), .move (.t 0), none, 0, []⟩,
    ⟨(some 15), .nilCheck (.t 14), none, 1, []⟩,
    ⟨(some 16), .fieldAddr 0 (.t 15), none, 2, []⟩,
    ⟨(some 17), .load none (.t 16), none, 3, []⟩,
    ⟨(some 18), .move (.t 0), none, 4, []⟩,
    ⟨(some 19), .nilCheck (.t 18), none, 5, []⟩,
    ⟨(some 20), .fieldAddr 2 (.t 19), none, 6, []⟩,
    ⟨(some 21), .load none (.t 20), none, 7, []⟩,
    ⟨(some 22), .call F.heap_Timers_Due [(.t 17), (.t 21)], none, 8, []⟩,
    ⟨(some 2), .move (.t 22), none, 9, []⟩]) (RC.ret))))
theorem clock_Clock_Tick_ok : chkFunc Go.Proofs.Try.prog [] Go.Proofs.Try.f16 clock_Clock_Tick = true := by kernel_rfl
def clock_Clock_After : RFunc := RFunc.mk 37 [.tmp 6, .tmp 7] (
  RC.seq (RC.region 2 [
    ⟨(some 6), .move (.c (.s (.int .i64 0))), none, 0, []⟩,
    ⟨(some 7), .move (.c (.s (.int .i64 0))), none, 1, []⟩]) (RC.seq (RC.region 7 [
    ⟨(some 11), .move (.t 1), none, 0, []⟩,
    ⟨(some 12), .call F.nums_Rel [(.t 11)], none, 1, []⟩,
    ⟨(some 10), .move (.t 12), none, 2, []⟩,
    ⟨(some 13), .extract 0 (.t 10), none, 3, []⟩,
    ⟨(some 14), .extract 1 (.t 10), none, 4, []⟩,
    ⟨(some 8), .move (.t 13), none, 5, []⟩,
    ⟨(some 9), .move (.t 14), none, 6, []⟩]) (RC.seq (RC.seq (RC.region 2 [
    ⟨(some 15), .move (.t 9), none, 0, []⟩,
    ⟨(some 16), .bin .neq (.t 15) (.c (.s (.int .i64 0))), none, 1, []⟩]) (RC.cond (.t 16) (RC.seq (RC.region 3 [
    ⟨(some 17), .move (.t 9), none, 0, []⟩,
    ⟨(some 6), .move (.c (.s (.int .i64 0))), none, 1, []⟩,
    ⟨(some 7), .move (.t 17), none, 2, []⟩]) (RC.ret)) (RC.skip))) (RC.seq (RC.region 21 [
    ⟨(some 18), .move (.t 0), none, 0, []⟩,
    ⟨(some 19), .nilCheck (.t 18), none, 1, []⟩,
    ⟨(some 20), .fieldAddr 0 (.t 19), none, 2, []⟩,
    ⟨(some 21), .load none (.t 20), none, 3, []⟩,
    ⟨(some 22), .move (.t 0), none, 4, []⟩,
    ⟨(some 23), .nilCheck (.t 22), none, 5, []⟩,
    ⟨(some 24), .fieldAddr 2 (.t 23), none, 6, []⟩,
    ⟨(some 25), .load none (.t 24), none, 7, []⟩,
    ⟨(some 26), .move (.t 8), none, 8, []⟩,
    ⟨(some 27), .bin .add (.t 25) (.t 26), none, 9, []⟩,
    ⟨(some 28), .move (.t 0), none, 10, []⟩,
    ⟨(some 29), .nilCheck (.t 28), none, 11, []⟩,
    ⟨(some 30), .fieldAddr 1 (.t 29), none, 12, []⟩,
    ⟨(some 31), .load none (.t 30), none, 13, []⟩,
    ⟨(some 32), .bin .add (.t 27) (.t 31), none, 14, []⟩,
    ⟨(some 33), .move (.t 2), none, 15, []⟩,
    ⟨(some 34), .call F.heap_Timers_Insert [(.t 21), (.t 32), (.t 33)], none, 16, []⟩,
    ⟨(some 35), .extract 0 (.t 34), none, 17, []⟩,
    ⟨(some 36), .extract 1 (.t 34), none, 18, []⟩,
    ⟨(some 6), .move (.t 35), none, 19, []⟩,
    ⟨(some 7), .move (.t 36), none, 20, []⟩]) (RC.ret)))))
theorem clock_Clock_After_ok : chkFunc Go.Proofs.Try.prog [] Go.Proofs.Try.f17 clock_Clock_After = true := by kernel_rfl
def clock_Clock_Set : RFunc := RFunc.mk 14 [] (
  RC.region 11 [
    ⟨(some 4), .move (.t 0), none, 0, []⟩,
    ⟨(some 5), .move (.t 1), none, 1, []⟩,
    ⟨(some 6), .move (.t 0), none, 2, []⟩,
    ⟨(some 7), .nilCheck (.t 6), none, 3, []⟩,
    ⟨(some 8), .fieldAddr 2 (.t 7), none, 4, []⟩,
    ⟨(some 9), .load none (.t 8), none, 5, []⟩,
    ⟨(some 10), .un .neg (.t 9), none, 6, []⟩,
    ⟨(some 11), .call F.nums_Add [(.t 5), (.t 10)], none, 7, []⟩,
    ⟨(some 12), .nilCheck (.t 4), none, 8, []⟩,
    ⟨(some 13), .fieldAddr 3 (.t 12), none, 9, []⟩,
    ⟨none, .store 1 (.t 13) (.t 11), none, 10, []⟩])
theorem clock_Clock_Set_ok : chkFunc Go.Proofs.Try.prog [] Go.Proofs.Try.f18 clock_Clock_Set = true := by kernel_rfl
def clock_Clock_Now : RFunc := RFunc.mk 12 [.tmp 2] (
  RC.seq (RC.region 1 [
    ⟨(some 2), .move (.c (.s (.int .u64 0))), none, 0, []⟩]) (RC.seq (RC.region 10 [
    ⟨(some 3), .move (.t 0), none, 0, []⟩,
    ⟨(some 4), .nilCheck (.t 3), none, 1, []⟩,
    ⟨(some 5), .fieldAddr 3 (.t 4), none, 2, []⟩,
    ⟨(some 6), .load none (.t 5), none, 3, []⟩,
    ⟨(some 7), .move (.t 0), none, 4, []⟩,
    ⟨(some 8), .nilCheck (.t 7), none, 5, []⟩,
    ⟨(some 9), .fieldAddr 2 (.t 8), none, 6, []⟩,
    ⟨(some 10), .load none (.t 9), none, 7, []⟩,
    ⟨(some 11), .call F.nums_Add [(.t 6), (.t 10)], none, 8, []⟩,
    ⟨(some 2), .move (.t 11), none, 9, []⟩]) (RC.ret)))
theorem clock_Clock_Now_ok : chkFunc Go.Proofs.Try.prog [] Go.Proofs.Try.f19 clock_Clock_Now = true := by kernel_rfl
def clock_Clock_Up : RFunc := RFunc.mk 7 [.tmp 2] (
  RC.seq (RC.region 1 [
    ⟨(some 2), .move (.c (.s (.int .u64 0))), none, 0, []⟩]) (RC.seq (RC.region 5 [
    ⟨(some 3), .move (.t 0), none, 0, []⟩,
    ⟨(some 4), .nilCheck (.t 3), none, 1, []⟩,
    ⟨(some 5), .fieldAddr 2 (.t 4), none, 2, []⟩,
    ⟨(some 6), .load none (.t 5), none, 3, []⟩,
    ⟨(some 2), .move (.t 6), none, 4, []⟩]) (RC.ret)))
theorem clock_Clock_Up_ok : chkFunc Go.Proofs.Try.prog [] Go.Proofs.Try.f20 clock_Clock_Up = true := by kernel_rfl
def heap_Timers_Len : RFunc := RFunc.mk 8 [.tmp 2] (
  RC.seq (RC.region 1 [
    ⟨(some 2), .move (.c (.s (.int .i64 0))), none, 0, []⟩]) (RC.seq (RC.region 6 [
    ⟨(some 3), .move (.t 0), none, 0, []⟩,
    ⟨(some 4), .nilCheck (.t 3), none, 1, []⟩,
    ⟨(some 5), .fieldAddr 0 (.t 4), none, 2, []⟩,
    ⟨(some 6), .load none (.t 5), none, 3, []⟩,
    ⟨(some 7), .len (.t 6), none, 4, []⟩,
    ⟨(some 2), .move (.t 7), none, 5, []⟩]) (RC.ret)))
theorem heap_Timers_Len_ok : chkFunc Go.Proofs.Try.prog [] Go.Proofs.Try.f21 heap_Timers_Len = true := by kernel_rfl
def detentlaw7_known : RFunc := RFunc.mk 94 [.tmp 0] (
  RC.seq (RC.region 1 [
    ⟨(some 0), .move (.c (.s (.bool false))), none, 0, []⟩]) (RC.seq (RC.region 2 [
    ⟨(some 12), .call F.heap_New [], none, 0, []⟩,
    ⟨(some 1), .move (.t 12), none, 1, []⟩]) (RC.seq (RC.seq (RC.region 2 [
    ⟨(some 13), .move (.t 1), none, 0, []⟩,
    ⟨(some 14), .eqs .ptr false (.t 13) (.c (.s (.ptr none))), none, 1, []⟩]) (RC.cond (.t 14) (RC.seq (RC.region 1 [
    ⟨(some 0), .move (.c (.s (.bool false))), none, 0, []⟩]) (RC.ret)) (RC.skip))) (RC.seq (RC.region 7 [
    ⟨(some 16), .move (.t 1), none, 0, []⟩,
    ⟨(some 17), .call F.heap_Timers_Insert [(.t 16), (.c (.s (.int .u64 5))), (.c (.s (.int .i64 50)))], none, 1, []⟩,
    ⟨(some 15), .move (.t 17), none, 2, []⟩,
    ⟨(some 18), .extract 0 (.t 15), none, 3, []⟩,
    ⟨(some 19), .extract 1 (.t 15), none, 4, []⟩,
    ⟨(some 2), .move (.t 18), none, 5, []⟩,
    ⟨(some 3), .move (.t 19), none, 6, []⟩]) (RC.seq (RC.region 7 [
    ⟨(some 21), .move (.t 1), none, 0, []⟩,
    ⟨(some 22), .call F.heap_Timers_Insert [(.t 21), (.c (.s (.int .u64 3))), (.c (.s (.int .i64 30)))], none, 1, []⟩,
    ⟨(some 20), .move (.t 22), none, 2, []⟩,
    ⟨(some 23), .extract 0 (.t 20), none, 3, []⟩,
    ⟨(some 24), .extract 1 (.t 20), none, 4, []⟩,
    ⟨(some 4), .move (.t 23), none, 5, []⟩,
    ⟨(some 5), .move (.t 24), none, 6, []⟩]) (RC.seq (RC.region 2 [
    ⟨(some 25), .move (.t 1), none, 0, []⟩,
    ⟨(some 26), .call F.heap_Timers_Insert [(.t 25), (.c (.s (.int .u64 5))), (.c (.s (.int .i64 51)))], none, 1, []⟩]) (RC.seq (RC.region 7 [
    ⟨(some 28), .move (.t 1), none, 0, []⟩,
    ⟨(some 29), .call F.heap_Timers_Next [(.t 28)], none, 1, []⟩,
    ⟨(some 27), .move (.t 29), none, 2, []⟩,
    ⟨(some 30), .extract 0 (.t 27), none, 3, []⟩,
    ⟨(some 31), .extract 1 (.t 27), none, 4, []⟩,
    ⟨(some 6), .move (.t 30), none, 5, []⟩,
    ⟨(some 7), .move (.t 31), none, 6, []⟩]) (RC.seq (RC.region 8 [
    ⟨(some 33), .move (.t 1), none, 0, []⟩,
    ⟨(some 34), .move (.t 2), none, 1, []⟩,
    ⟨(some 35), .call F.heap_Timers_Left [(.t 33), (.t 34), (.c (.s (.int .u64 2)))], none, 2, []⟩,
    ⟨(some 32), .move (.t 35), none, 3, []⟩,
    ⟨(some 36), .extract 0 (.t 32), none, 4, []⟩,
    ⟨(some 37), .extract 1 (.t 32), none, 5, []⟩,
    ⟨(some 8), .move (.t 36), none, 6, []⟩,
    ⟨(some 9), .move (.t 37), none, 7, []⟩]) (RC.seq (RC.region 4 [
    ⟨(some 38), .move (.t 1), none, 0, []⟩,
    ⟨(some 39), .move (.t 4), none, 1, []⟩,
    ⟨(some 40), .call F.heap_Timers_Cancel [(.t 38), (.t 39)], none, 2, []⟩,
    ⟨(some 10), .move (.t 40), none, 3, []⟩]) (RC.seq (RC.region 3 [
    ⟨(some 41), .move (.t 1), none, 0, []⟩,
    ⟨(some 42), .call F.heap_Timers_Due [(.t 41), (.c (.s (.int .u64 5)))], none, 1, []⟩,
    ⟨(some 11), .move (.t 42), none, 2, []⟩]) (RC.seq (RC.region 52 [
    ⟨(some 43), .move (.t 3), none, 0, []⟩,
    ⟨(some 44), .move (.t 5), none, 1, []⟩,
    ⟨(some 45), .bin .add (.t 43) (.t 44), none, 2, []⟩,
    ⟨(some 46), .bin .eql (.t 45) (.c (.s (.int .i64 0))), none, 3, []⟩,
    ⟨(some 47), .move (.t 46), none, 4, []⟩,
    ⟨(some 48), .move (.t 2), (some (47, true)), 5, []⟩,
    ⟨(some 49), .bin .eql (.t 48) (.c (.s (.int .i64 1))), (some (47, true)), 6, []⟩,
    ⟨(some 50), .pick (.t 47) (.t 49) (.c (.s (.bool false))), none, 7, []⟩,
    ⟨(some 51), .move (.t 50), none, 8, []⟩,
    ⟨(some 52), .move (.t 4), (some (51, true)), 9, []⟩,
    ⟨(some 53), .bin .eql (.t 52) (.c (.s (.int .i64 2))), (some (51, true)), 10, []⟩,
    ⟨(some 54), .pick (.t 51) (.t 53) (.c (.s (.bool false))), none, 11, []⟩,
    ⟨(some 55), .move (.t 54), none, 12, []⟩,
    ⟨(some 56), .move (.t 6), (some (55, true)), 13, []⟩,
    ⟨(some 57), .bin .eql (.t 56) (.c (.s (.int .u64 3))), (some (55, true)), 14, []⟩,
    ⟨(some 58), .pick (.t 55) (.t 57) (.c (.s (.bool false))), none, 15, []⟩,
    ⟨(some 59), .move (.t 58), none, 16, []⟩,
    ⟨(some 60), .move (.t 7), (some (59, true)), 17, []⟩,
    ⟨(some 61), .pick (.t 59) (.t 60) (.c (.s (.bool false))), none, 18, []⟩,
    ⟨(some 62), .move (.t 61), none, 19, []⟩,
    ⟨(some 63), .move (.t 8), (some (62, true)), 20, []⟩,
    ⟨(some 64), .bin .eql (.t 63) (.c (.s (.int .i64 3))), (some (62, true)), 21, []⟩,
    ⟨(some 65), .pick (.t 62) (.t 64) (.c (.s (.bool false))), none, 22, []⟩,
    ⟨(some 66), .move (.t 65), none, 23, []⟩,
    ⟨(some 67), .move (.t 9), (some (66, true)), 24, []⟩,
    ⟨(some 68), .pick (.t 66) (.t 67) (.c (.s (.bool false))), none, 25, []⟩,
    ⟨(some 69), .move (.t 68), none, 26, []⟩,
    ⟨(some 70), .move (.t 10), (some (69, true)), 27, []⟩,
    ⟨(some 71), .pick (.t 69) (.t 70) (.c (.s (.bool false))), none, 28, []⟩,
    ⟨(some 72), .move (.t 71), none, 29, []⟩,
    ⟨(some 73), .move (.t 11), (some (72, true)), 30, []⟩,
    ⟨(some 74), .len (.t 73), (some (72, true)), 31, []⟩,
    ⟨(some 75), .bin .eql (.t 74) (.c (.s (.int .i64 2))), (some (72, true)), 32, []⟩,
    ⟨(some 76), .pick (.t 72) (.t 75) (.c (.s (.bool false))), none, 33, []⟩,
    ⟨(some 77), .move (.t 76), none, 34, []⟩,
    ⟨(some 78), .move (.t 11), (some (77, true)), 35, []⟩,
    ⟨(some 79), .indexSl 1 (.t 78) (.c (.s (.int .i64 0))), (some (77, true)), 36, []⟩,
    ⟨(some 80), .load none (.t 79), (some (77, true)), 37, []⟩,
    ⟨(some 81), .bin .eql (.t 80) (.c (.s (.int .i64 50))), (some (77, true)), 38, []⟩,
    ⟨(some 82), .pick (.t 77) (.t 81) (.c (.s (.bool false))), none, 39, []⟩,
    ⟨(some 83), .move (.t 82), none, 40, []⟩,
    ⟨(some 84), .move (.t 11), (some (83, true)), 41, []⟩,
    ⟨(some 85), .indexSl 1 (.t 84) (.c (.s (.int .i64 1))), (some (83, true)), 42, []⟩,
    ⟨(some 86), .load none (.t 85), (some (83, true)), 43, []⟩,
    ⟨(some 87), .bin .eql (.t 86) (.c (.s (.int .i64 51))), (some (83, true)), 44, []⟩,
    ⟨(some 88), .pick (.t 83) (.t 87) (.c (.s (.bool false))), none, 45, []⟩,
    ⟨(some 89), .move (.t 88), none, 46, []⟩,
    ⟨(some 90), .move (.t 1), (some (89, true)), 47, []⟩,
    ⟨(some 91), .call F.heap_Timers_Len [(.t 90)], (some (89, true)), 48, []⟩,
    ⟨(some 92), .bin .eql (.t 91) (.c (.s (.int .i64 0))), (some (89, true)), 49, []⟩,
    ⟨(some 93), .pick (.t 89) (.t 92) (.c (.s (.bool false))), none, 50, []⟩,
    ⟨(some 0), .move (.t 93), none, 51, []⟩]) (RC.ret))))))))))))
theorem detentlaw7_known_ok : chkFunc Go.Proofs.Try.prog [] Go.Proofs.Try.f22 detentlaw7_known = true := by kernel_rfl
def heap_New : RFunc := RFunc.mk 3 [.tmp 0] (
  RC.seq (RC.region 1 [
    ⟨(some 0), .move (.c (.s (.ptr none))), none, 0, []⟩]) (RC.seq (RC.region 3 [
    ⟨(some 1), .build [.slice none 0 0 1, .int .i64 0] [], none, 0, []⟩,
    ⟨(some 2), .box (.t 1), none, 1, []⟩,
    ⟨(some 0), .move (.t 2), none, 2, []⟩]) (RC.ret)))
theorem heap_New_ok : chkFunc Go.Proofs.Try.prog [] Go.Proofs.Try.f23 heap_New = true := by kernel_rfl
def heap_Timers_Insert : RFunc := RFunc.mk 52 [.tmp 6, .tmp 7] (
  RC.seq (RC.region 2 [
    ⟨(some 6), .move (.c (.s (.int .i64 0))), none, 0, []⟩,
    ⟨(some 7), .move (.c (.s (.int .i64 0))), none, 1, []⟩]) (RC.seq (RC.seq (RC.region 6 [
    ⟨(some 8), .move (.t 0), none, 0, []⟩,
    ⟨(some 9), .nilCheck (.t 8), none, 1, []⟩,
    ⟨(some 10), .fieldAddr 0 (.t 9), none, 2, []⟩,
    ⟨(some 11), .load none (.t 10), none, 3, []⟩,
    ⟨(some 12), .len (.t 11), none, 4, []⟩,
    ⟨(some 13), .bin .geq (.t 12) (.c (.s (.int .i64 256))), none, 5, []⟩]) (RC.cond (.t 13) (RC.seq (RC.region 2 [
    ⟨(some 6), .move (.c (.s (.int .i64 0))), none, 0, []⟩,
    ⟨(some 7), .move (.c (.s (.int .i64 (-33)))), none, 1, []⟩]) (RC.ret)) (RC.skip))) (RC.seq (RC.region 8 [
    ⟨(some 14), .move (.t 0), none, 0, []⟩,
    ⟨(some 15), .nilCheck (.t 14), none, 1, []⟩,
    ⟨(some 16), .fieldAddr 1 (.t 15), none, 2, []⟩,
    ⟨(some 17), .load none (.t 16), none, 3, []⟩,
    ⟨(some 18), .bin .add (.t 17) (.c (.s (.int .i64 1))), none, 4, []⟩,
    ⟨(some 19), .nilCheck (.t 14), none, 5, []⟩,
    ⟨(some 20), .fieldAddr 1 (.t 19), none, 6, []⟩,
    ⟨none, .store 1 (.t 20) (.t 18), none, 7, []⟩]) (RC.seq (RC.region 17 [
    ⟨(some 21), .move (.t 0), none, 0, []⟩,
    ⟨(some 22), .move (.t 0), none, 1, []⟩,
    ⟨(some 23), .nilCheck (.t 22), none, 2, []⟩,
    ⟨(some 24), .fieldAddr 0 (.t 23), none, 3, []⟩,
    ⟨(some 25), .load none (.t 24), none, 4, []⟩,
    ⟨(some 26), .move (.t 1), none, 5, []⟩,
    ⟨(some 27), .move (.t 0), none, 6, []⟩,
    ⟨(some 28), .nilCheck (.t 27), none, 7, []⟩,
    ⟨(some 29), .fieldAddr 1 (.t 28), none, 8, []⟩,
    ⟨(some 30), .load none (.t 29), none, 9, []⟩,
    ⟨(some 31), .move (.t 2), none, 10, []⟩,
    ⟨(some 32), .build [.int .u64 0, .int .i64 0, .int .i64 0] [(0, 1, (.t 26)), (1, 1, (.t 30)), (2, 1, (.t 31))], none, 11, []⟩,
    ⟨(some 33), .buildSlice 3 1 [.int .u64 0, .int .i64 0, .int .i64 0] [(0, 3, (.t 32))], none, 12, []⟩,
    ⟨(some 34), .append 3 24 (.t 25) (.t 33), none, 13, []⟩,
    ⟨(some 35), .nilCheck (.t 21), none, 14, []⟩,
    ⟨(some 36), .fieldAddr 0 (.t 35), none, 15, []⟩,
    ⟨none, .store 1 (.t 36) (.t 34), none, 16, []⟩]) (RC.seq (RC.region 11 [
    ⟨(some 37), .move (.t 0), none, 0, []⟩,
    ⟨(some 38), .nilCheck (.t 37), none, 1, []⟩,
    ⟨(some 39), .fieldAddr 0 (.t 38), none, 2, []⟩,
    ⟨(some 40), .load none (.t 39), none, 3, []⟩,
    ⟨(some 41), .move (.t 0), none, 4, []⟩,
    ⟨(some 42), .nilCheck (.t 41), none, 5, []⟩,
    ⟨(some 43), .fieldAddr 0 (.t 42), none, 6, []⟩,
    ⟨(some 44), .load none (.t 43), none, 7, []⟩,
    ⟨(some 45), .len (.t 44), none, 8, []⟩,
    ⟨(some 46), .bin .sub (.t 45) (.c (.s (.int .i64 1))), none, 9, []⟩,
    ⟨(some 47), .call F.heap_row_up [(.t 40), (.t 46)], none, 10, []⟩]) (RC.seq (RC.region 6 [
    ⟨(some 48), .move (.t 0), none, 0, []⟩,
    ⟨(some 49), .nilCheck (.t 48), none, 1, []⟩,
    ⟨(some 50), .fieldAddr 1 (.t 49), none, 2, []⟩,
    ⟨(some 51), .load none (.t 50), none, 3, []⟩,
    ⟨(some 6), .move (.t 51), none, 4, []⟩,
    ⟨(some 7), .move (.c (.s (.int .i64 0))), none, 5, []⟩]) (RC.ret)))))))
theorem heap_Timers_Insert_ok : chkFunc Go.Proofs.Try.prog [] Go.Proofs.Try.f24 heap_Timers_Insert = true := by kernel_rfl
def heap_Timers_Due_l0 : RC :=
  RC.seq (RC.seq (RC.region 17 [
    ⟨(some 6), .move (.t 0), none, 0, []⟩,
    ⟨(some 7), .nilCheck (.t 6), none, 1, []⟩,
    ⟨(some 8), .fieldAddr 0 (.t 7), none, 2, []⟩,
    ⟨(some 9), .load none (.t 8), none, 3, []⟩,
    ⟨(some 10), .len (.t 9), none, 4, []⟩,
    ⟨(some 11), .bin .gtr (.t 10) (.c (.s (.int .i64 0))), none, 5, []⟩,
    ⟨(some 12), .move (.t 11), none, 6, []⟩,
    ⟨(some 13), .move (.t 0), (some (12, true)), 7, []⟩,
    ⟨(some 14), .nilCheck (.t 13), (some (12, true)), 8, []⟩,
    ⟨(some 15), .fieldAddr 0 (.t 14), (some (12, true)), 9, []⟩,
    ⟨(some 16), .load none (.t 15), (some (12, true)), 10, []⟩,
    ⟨(some 17), .indexSl 3 (.t 16) (.c (.s (.int .i64 0))), (some (12, true)), 11, []⟩,
    ⟨(some 18), .fieldAddr 0 (.t 17), (some (12, true)), 12, []⟩,
    ⟨(some 19), .load none (.t 18), (some (12, true)), 13, []⟩,
    ⟨(some 20), .move (.t 1), (some (12, true)), 14, []⟩,
    ⟨(some 21), .bin .leq (.t 19) (.t 20), (some (12, true)), 15, []⟩,
    ⟨(some 22), .pick (.t 12) (.t 21) (.c (.s (.bool false))), none, 16, []⟩]) (RC.cond (.t 22) (RC.skip) (RC.exit 0))) (RC.block 1 (RC.seq (RC.region 11 [
    ⟨(some 23), .move (.t 5), none, 0, []⟩,
    ⟨(some 24), .move (.t 0), none, 1, []⟩,
    ⟨(some 25), .nilCheck (.t 24), none, 2, []⟩,
    ⟨(some 26), .fieldAddr 0 (.t 25), none, 3, []⟩,
    ⟨(some 27), .load none (.t 26), none, 4, []⟩,
    ⟨(some 28), .indexSl 3 (.t 27) (.c (.s (.int .i64 0))), none, 5, []⟩,
    ⟨(some 29), .fieldAddr 2 (.t 28), none, 6, []⟩,
    ⟨(some 30), .load none (.t 29), none, 7, []⟩,
    ⟨(some 31), .buildSlice 1 1 [.int .i64 0] [(0, 1, (.t 30))], none, 8, []⟩,
    ⟨(some 32), .append 1 8 (.t 23) (.t 31), none, 9, []⟩,
    ⟨(some 5), .move (.t 32), none, 10, []⟩]) (RC.region 2 [
    ⟨(some 33), .move (.t 0), none, 0, []⟩,
    ⟨(some 34), .call F.heap_Timers_remove [(.t 33), (.c (.s (.int .i64 0)))], none, 1, []⟩])))
def heap_Timers_Due_s1 : RC :=
  RC.seq (RC.region 2 [
    ⟨(some 35), .move (.t 5), none, 0, []⟩,
    ⟨(some 4), .move (.t 35), none, 1, []⟩]) (RC.ret)
def heap_Timers_Due : RFunc := RFunc.mk 36 [.tmp 4] (
  RC.seq (RC.region 1 [
    ⟨(some 4), .move (.c (.s (.slice none 0 0 1))), none, 0, []⟩]) (RC.seq (RC.region 1 [
    ⟨(some 5), .move (.c (.s (.slice none 0 0 1))), none, 0, []⟩]) (RC.seq (RC.block 0 (RC.loop R.heap_Timers_Due_l0)) R.heap_Timers_Due_s1)))
theorem heap_Timers_Due_ok : chkFunc Go.Proofs.Try.prog [] Go.Proofs.Try.f25 heap_Timers_Due = true := by kernel_rfl
def heap_Timers_Next : RFunc := RFunc.mk 17 [.tmp 2, .tmp 3] (
  RC.seq (RC.region 2 [
    ⟨(some 2), .move (.c (.s (.int .u64 0))), none, 0, []⟩,
    ⟨(some 3), .move (.c (.s (.bool false))), none, 1, []⟩]) (RC.seq (RC.seq (RC.region 6 [
    ⟨(some 4), .move (.t 0), none, 0, []⟩,
    ⟨(some 5), .nilCheck (.t 4), none, 1, []⟩,
    ⟨(some 6), .fieldAddr 0 (.t 5), none, 2, []⟩,
    ⟨(some 7), .load none (.t 6), none, 3, []⟩,
    ⟨(some 8), .len (.t 7), none, 4, []⟩,
    ⟨(some 9), .bin .eql (.t 8) (.c (.s (.int .i64 0))), none, 5, []⟩]) (RC.cond (.t 9) (RC.seq (RC.region 2 [
    ⟨(some 2), .move (.c (.s (.int .u64 0))), none, 0, []⟩,
    ⟨(some 3), .move (.c (.s (.bool false))), none, 1, []⟩]) (RC.ret)) (RC.skip))) (RC.seq (RC.region 9 [
    ⟨(some 10), .move (.t 0), none, 0, []⟩,
    ⟨(some 11), .nilCheck (.t 10), none, 1, []⟩,
    ⟨(some 12), .fieldAddr 0 (.t 11), none, 2, []⟩,
    ⟨(some 13), .load none (.t 12), none, 3, []⟩,
    ⟨(some 14), .indexSl 3 (.t 13) (.c (.s (.int .i64 0))), none, 4, []⟩,
    ⟨(some 15), .fieldAddr 0 (.t 14), none, 5, []⟩,
    ⟨(some 16), .load none (.t 15), none, 6, []⟩,
    ⟨(some 2), .move (.t 16), none, 7, []⟩,
    ⟨(some 3), .move (.c (.s (.bool true))), none, 8, []⟩]) (RC.ret))))
theorem heap_Timers_Next_ok : chkFunc Go.Proofs.Try.prog [] Go.Proofs.Try.f26 heap_Timers_Next = true := by kernel_rfl
def heap_Timers_Left : RFunc := RFunc.mk 25 [.tmp 6, .tmp 7] (
  RC.seq (RC.region 2 [
    ⟨(some 6), .move (.c (.s (.int .i64 0))), none, 0, []⟩,
    ⟨(some 7), .move (.c (.s (.bool false))), none, 1, []⟩]) (RC.seq (RC.region 4 [
    ⟨(some 9), .move (.t 0), none, 0, []⟩,
    ⟨(some 10), .move (.t 1), none, 1, []⟩,
    ⟨(some 11), .call F.heap_Timers_find [(.t 9), (.t 10)], none, 2, []⟩,
    ⟨(some 8), .move (.t 11), none, 3, []⟩]) (RC.seq (RC.seq (RC.region 2 [
    ⟨(some 12), .move (.t 8), none, 0, []⟩,
    ⟨(some 13), .bin .lss (.t 12) (.c (.s (.int .i64 0))), none, 1, []⟩]) (RC.cond (.t 13) (RC.seq (RC.region 2 [
    ⟨(some 6), .move (.c (.s (.int .i64 0))), none, 0, []⟩,
    ⟨(some 7), .move (.c (.s (.bool false))), none, 1, []⟩]) (RC.ret)) (RC.skip))) (RC.seq (RC.region 13 [
    ⟨(some 14), .move (.t 0), none, 0, []⟩,
    ⟨(some 15), .nilCheck (.t 14), none, 1, []⟩,
    ⟨(some 16), .fieldAddr 0 (.t 15), none, 2, []⟩,
    ⟨(some 17), .load none (.t 16), none, 3, []⟩,
    ⟨(some 18), .move (.t 8), none, 4, []⟩,
    ⟨(some 19), .indexSl 3 (.t 17) (.t 18), none, 5, []⟩,
    ⟨(some 20), .fieldAddr 0 (.t 19), none, 6, []⟩,
    ⟨(some 21), .load none (.t 20), none, 7, []⟩,
    ⟨(some 22), .move (.t 2), none, 8, []⟩,
    ⟨(some 23), .bin .sub (.t 21) (.t 22), none, 9, []⟩,
    ⟨(some 24), .conv .i64 (.t 23), none, 10, []⟩,
    ⟨(some 6), .move (.t 24), none, 11, []⟩,
    ⟨(some 7), .move (.c (.s (.bool true))), none, 12, []⟩]) (RC.ret)))))
theorem heap_Timers_Left_ok : chkFunc Go.Proofs.Try.prog [] Go.Proofs.Try.f27 heap_Timers_Left = true := by kernel_rfl
def heap_Timers_Cancel : RFunc := RFunc.mk 16 [.tmp 4] (
  RC.seq (RC.region 1 [
    ⟨(some 4), .move (.c (.s (.bool false))), none, 0, []⟩]) (RC.seq (RC.region 4 [
    ⟨(some 6), .move (.t 0), none, 0, []⟩,
    ⟨(some 7), .move (.t 1), none, 1, []⟩,
    ⟨(some 8), .call F.heap_Timers_find [(.t 6), (.t 7)], none, 2, []⟩,
    ⟨(some 5), .move (.t 8), none, 3, []⟩]) (RC.seq (RC.seq (RC.region 2 [
    ⟨(some 9), .move (.t 5), none, 0, []⟩,
    ⟨(some 10), .bin .geq (.t 9) (.c (.s (.int .i64 0))), none, 1, []⟩]) (RC.cond (.t 10) (RC.region 3 [
    ⟨(some 11), .move (.t 0), none, 0, []⟩,
    ⟨(some 12), .move (.t 5), none, 1, []⟩,
    ⟨(some 13), .call F.heap_Timers_remove [(.t 11), (.t 12)], none, 2, []⟩]) (RC.skip))) (RC.seq (RC.region 3 [
    ⟨(some 14), .move (.t 5), none, 0, []⟩,
    ⟨(some 15), .bin .geq (.t 14) (.c (.s (.int .i64 0))), none, 1, []⟩,
    ⟨(some 4), .move (.t 15), none, 2, []⟩]) (RC.ret)))))
theorem heap_Timers_Cancel_ok : chkFunc Go.Proofs.Try.prog [] Go.Proofs.Try.f28 heap_Timers_Cancel = true := by kernel_rfl
def detentref7_Timers_Insert : RFunc := RFunc.mk 43 [.tmp 6, .tmp 7] (
  RC.seq (RC.region 2 [
    ⟨(some 6), .move (.c (.s (.int .i64 0))), none, 0, []⟩,
    ⟨(some 7), .move (.c (.s (.int .i64 0))), none, 1, []⟩]) (RC.seq (RC.seq (RC.region 6 [
    ⟨(some 8), .move (.t 0), none, 0, []⟩,
    ⟨(some 9), .nilCheck (.t 8), none, 1, []⟩,
    ⟨(some 10), .fieldAddr 0 (.t 9), none, 2, []⟩,
    ⟨(some 11), .load none (.t 10), none, 3, []⟩,
    ⟨(some 12), .len (.t 11), none, 4, []⟩,
    ⟨(some 13), .bin .geq (.t 12) (.c (.s (.int .i64 256))), none, 5, []⟩]) (RC.cond (.t 13) (RC.seq (RC.region 2 [
    ⟨(some 6), .move (.c (.s (.int .i64 0))), none, 0, []⟩,
    ⟨(some 7), .move (.c (.s (.int .i64 (-33)))), none, 1, []⟩]) (RC.ret)) (RC.skip))) (RC.seq (RC.region 8 [
    ⟨(some 14), .move (.t 0), none, 0, []⟩,
    ⟨(some 15), .nilCheck (.t 14), none, 1, []⟩,
    ⟨(some 16), .fieldAddr 1 (.t 15), none, 2, []⟩,
    ⟨(some 17), .load none (.t 16), none, 3, []⟩,
    ⟨(some 18), .bin .add (.t 17) (.c (.s (.int .i64 1))), none, 4, []⟩,
    ⟨(some 19), .nilCheck (.t 14), none, 5, []⟩,
    ⟨(some 20), .fieldAddr 1 (.t 19), none, 6, []⟩,
    ⟨none, .store 1 (.t 20) (.t 18), none, 7, []⟩]) (RC.seq (RC.region 19 [
    ⟨(some 21), .move (.t 0), none, 0, []⟩,
    ⟨(some 23), .move (.t 0), none, 2, []⟩,
    ⟨(some 24), .nilCheck (.t 23), none, 3, []⟩,
    ⟨(some 25), .fieldAddr 0 (.t 24), none, 4, []⟩,
    ⟨(some 26), .load none (.t 25), none, 5, []⟩,
    ⟨(some 28), .move (.t 0), none, 7, []⟩,
    ⟨(some 29), .nilCheck (.t 28), none, 8, []⟩,
    ⟨(some 30), .fieldAddr 1 (.t 29), none, 9, []⟩,
    ⟨(some 31), .load none (.t 30), none, 10, []⟩,
    ⟨(some 32), .move (.t 1), none, 11, []⟩,
    ⟨(some 33), .move (.t 2), none, 12, []⟩,
    ⟨(some 34), .build [.int .i64 0, .int .u64 0, .int .i64 0] [(0, 1, (.t 31)), (1, 1, (.t 32)), (2, 1, (.t 33))], none, 13, []⟩,
    ⟨(some 22), .buildSlice 3 0 [] [], none, 1, []⟩,
    ⟨(some 27), .append 3 24 (.t 22) (.t 26), none, 6, [⟨31, none, (.t 30), none⟩]⟩,
    ⟨(some 35), .buildSlice 3 1 [.int .i64 0, .int .u64 0, .int .i64 0] [(0, 3, (.t 34))], none, 14, []⟩,
    ⟨(some 36), .append 3 24 (.t 27) (.t 35), none, 15, []⟩,
    ⟨(some 37), .nilCheck (.t 21), none, 16, []⟩,
    ⟨(some 38), .fieldAddr 0 (.t 37), none, 17, []⟩,
    ⟨none, .store 1 (.t 38) (.t 36), none, 18, []⟩]) (RC.seq (RC.region 6 [
    ⟨(some 39), .move (.t 0), none, 0, []⟩,
    ⟨(some 40), .nilCheck (.t 39), none, 1, []⟩,
    ⟨(some 41), .fieldAddr 1 (.t 40), none, 2, []⟩,
    ⟨(some 42), .load none (.t 41), none, 3, []⟩,
    ⟨(some 6), .move (.t 42), none, 4, []⟩,
    ⟨(some 7), .move (.c (.s (.int .i64 0))), none, 5, []⟩]) (RC.ret))))))
theorem detentref7_Timers_Insert_ok : chkFunc Go.Proofs.Try.prog [] Go.Proofs.Try.f29 detentref7_Timers_Insert = true := by kernel_rfl
def detentref7_Timers_Cancel : RFunc := RFunc.mk 32 [.tmp 4] (
  RC.seq (RC.region 1 [
    ⟨(some 4), .move (.c (.s (.bool false))), none, 0, []⟩]) (RC.seq (RC.region 4 [
    ⟨(some 7), .move (.t 0), none, 0, []⟩,
    ⟨(some 8), .move (.t 1), none, 1, []⟩,
    ⟨(some 9), .call F.detentref7_Timers_Find [(.t 7), (.t 8)], none, 2, []⟩,
    ⟨(some 5), .move (.t 9), none, 3, []⟩]) (RC.seq (RC.seq (RC.region 2 [
    ⟨(some 10), .move (.t 5), none, 0, []⟩,
    ⟨(some 11), .bin .lss (.t 10) (.c (.s (.int .i64 0))), none, 1, []⟩]) (RC.cond (.t 11) (RC.seq (RC.region 1 [
    ⟨(some 4), .move (.c (.s (.bool false))), none, 0, []⟩]) (RC.ret)) (RC.skip))) (RC.seq (RC.region 9 [
    ⟨(some 12), .buildSlice 3 0 [] [], none, 0, []⟩,
    ⟨(some 13), .move (.t 0), none, 1, []⟩,
    ⟨(some 14), .nilCheck (.t 13), none, 2, []⟩,
    ⟨(some 15), .fieldAddr 0 (.t 14), none, 3, []⟩,
    ⟨(some 16), .load none (.t 15), none, 4, []⟩,
    ⟨(some 17), .move (.t 5), none, 5, []⟩,
    ⟨(some 18), .slSl 3 (.t 16) none (some (.t 17)) none, none, 6, []⟩,
    ⟨(some 19), .append 3 24 (.t 12) (.t 18), none, 7, []⟩,
    ⟨(some 6), .move (.t 19), none, 8, []⟩]) (RC.seq (RC.region 13 [
    ⟨(some 20), .move (.t 0), none, 0, []⟩,
    ⟨(some 21), .move (.t 6), none, 1, []⟩,
    ⟨(some 22), .move (.t 0), none, 2, []⟩,
    ⟨(some 23), .nilCheck (.t 22), none, 3, []⟩,
    ⟨(some 24), .fieldAddr 0 (.t 23), none, 4, []⟩,
    ⟨(some 25), .load none (.t 24), none, 5, []⟩,
    ⟨(some 26), .move (.t 5), none, 6, []⟩,
    ⟨(some 27), .bin .add (.t 26) (.c (.s (.int .i64 1))), none, 7, []⟩,
    ⟨(some 28), .slSl 3 (.t 25) (some (.t 27)) none none, none, 8, []⟩,
    ⟨(some 29), .append 3 24 (.t 21) (.t 28), none, 9, []⟩,
    ⟨(some 30), .nilCheck (.t 20), none, 10, []⟩,
    ⟨(some 31), .fieldAddr 0 (.t 30), none, 11, []⟩,
    ⟨none, .store 1 (.t 31) (.t 29), none, 12, []⟩]) (RC.seq (RC.region 1 [
    ⟨(some 4), .move (.c (.s (.bool true))), none, 0, []⟩]) (RC.ret)))))))
theorem detentref7_Timers_Cancel_ok : chkFunc Go.Proofs.Try.prog [] Go.Proofs.Try.f30 detentref7_Timers_Cancel = true := by kernel_rfl
def detentref7_Timers_Due_l0 : RC :=
  RC.block 1 (RC.seq (RC.region 3 [
    ⟨(some 7), .move (.t 0), none, 0, []⟩,
    ⟨(some 8), .call F.detentref7_Timers_least [(.t 7)], none, 1, []⟩,
    ⟨(some 6), .move (.t 8), none, 2, []⟩]) (RC.seq (RC.seq (RC.region 14 [
    ⟨(some 9), .move (.t 6), none, 0, []⟩,
    ⟨(some 10), .bin .lss (.t 9) (.c (.s (.int .i64 0))), none, 1, []⟩,
    ⟨(some 11), .move (.t 10), none, 2, []⟩,
    ⟨(some 12), .move (.t 0), (some (11, false)), 3, []⟩,
    ⟨(some 13), .nilCheck (.t 12), (some (11, false)), 4, []⟩,
    ⟨(some 14), .fieldAddr 0 (.t 13), (some (11, false)), 5, []⟩,
    ⟨(some 15), .load none (.t 14), (some (11, false)), 6, []⟩,
    ⟨(some 16), .move (.t 6), (some (11, false)), 7, []⟩,
    ⟨(some 17), .indexSl 3 (.t 15) (.t 16), (some (11, false)), 8, []⟩,
    ⟨(some 18), .fieldAddr 1 (.t 17), (some (11, false)), 9, []⟩,
    ⟨(some 19), .load none (.t 18), (some (11, false)), 10, []⟩,
    ⟨(some 20), .move (.t 1), (some (11, false)), 11, []⟩,
    ⟨(some 21), .bin .gtr (.t 19) (.t 20), (some (11, false)), 12, []⟩,
    ⟨(some 22), .pick (.t 11) (.c (.s (.bool true))) (.t 21), none, 13, []⟩]) (RC.cond (.t 22) (RC.seq (RC.region 2 [
    ⟨(some 23), .move (.t 5), none, 0, []⟩,
    ⟨(some 4), .move (.t 23), none, 1, []⟩]) (RC.ret)) (RC.skip))) (RC.seq (RC.region 12 [
    ⟨(some 24), .move (.t 5), none, 0, []⟩,
    ⟨(some 25), .move (.t 0), none, 1, []⟩,
    ⟨(some 26), .nilCheck (.t 25), none, 2, []⟩,
    ⟨(some 27), .fieldAddr 0 (.t 26), none, 3, []⟩,
    ⟨(some 28), .load none (.t 27), none, 4, []⟩,
    ⟨(some 29), .move (.t 6), none, 5, []⟩,
    ⟨(some 30), .indexSl 3 (.t 28) (.t 29), none, 6, []⟩,
    ⟨(some 31), .fieldAddr 2 (.t 30), none, 7, []⟩,
    ⟨(some 32), .load none (.t 31), none, 8, []⟩,
    ⟨(some 33), .buildSlice 1 1 [.int .i64 0] [(0, 1, (.t 32))], none, 9, []⟩,
    ⟨(some 34), .append 1 8 (.t 24) (.t 33), none, 10, []⟩,
    ⟨(some 5), .move (.t 34), none, 11, []⟩]) (RC.region 10 [
    ⟨(some 35), .move (.t 0), none, 0, []⟩,
    ⟨(some 36), .move (.t 0), none, 1, []⟩,
    ⟨(some 37), .nilCheck (.t 36), none, 2, []⟩,
    ⟨(some 38), .fieldAddr 0 (.t 37), none, 3, []⟩,
    ⟨(some 39), .load none (.t 38), none, 4, []⟩,
    ⟨(some 40), .move (.t 6), none, 5, []⟩,
    ⟨(some 41), .indexSl 3 (.t 39) (.t 40), none, 6, []⟩,
    ⟨(some 42), .fieldAddr 0 (.t 41), none, 7, []⟩,
    ⟨(some 43), .load none (.t 42), none, 8, []⟩,
    ⟨(some 44), .call F.detentref7_Timers_Cancel [(.t 35), (.t 43)], none, 9, []⟩]))))
def detentref7_Timers_Due : RFunc := RFunc.mk 45 [.tmp 4] (
  RC.seq (RC.region 1 [
    ⟨(some 4), .move (.c (.s (.slice none 0 0 1))), none, 0, []⟩]) (RC.seq (RC.region 1 [
    ⟨(some 5), .move (.c (.s (.slice none 0 0 1))), none, 0, []⟩]) (RC.block 0 (RC.loop R.detentref7_Timers_Due_l0))))
theorem detentref7_Timers_Due_ok : chkFunc Go.Proofs.Try.prog [] Go.Proofs.Try.f32 detentref7_Timers_Due = true := by kernel_rfl
def heap_Timers_Twin : RFunc := RFunc.mk 14 [.tmp 2] (
  RC.seq (RC.region 1 [
    ⟨(some 2), .move (.c (.s (.ptr none))), none, 0, []⟩]) (RC.seq (RC.region 12 [
    ⟨(some 3), .move (.t 0), none, 0, []⟩,
    ⟨(some 4), .nilCheck (.t 3), none, 1, []⟩,
    ⟨(some 5), .fieldAddr 0 (.t 4), none, 2, []⟩,
    ⟨(some 6), .load none (.t 5), none, 3, []⟩,
    ⟨(some 8), .move (.t 0), none, 5, []⟩,
    ⟨(some 9), .nilCheck (.t 8), none, 6, []⟩,
    ⟨(some 10), .fieldAddr 1 (.t 9), none, 7, []⟩,
    ⟨(some 11), .load none (.t 10), none, 8, []⟩,
    ⟨(some 7), .call F.slices_Clone_heap_row_heap_entry [(.t 6)], none, 4, [⟨11, none, (.t 10), none⟩]⟩,
    ⟨(some 12), .build [.slice none 0 0 1, .int .i64 0] [(0, 1, (.t 7)), (1, 1, (.t 11))], none, 9, []⟩,
    ⟨(some 13), .box (.t 12), none, 10, []⟩,
    ⟨(some 2), .move (.t 13), none, 11, []⟩]) (RC.ret)))
theorem heap_Timers_Twin_ok : chkFunc Go.Proofs.Try.prog [] Go.Proofs.Try.f33 heap_Timers_Twin = true := by kernel_rfl
def detentref8_New : RFunc := RFunc.mk 15 [.tmp 2, .tmp 3] (
  RC.seq (RC.region 2 [
    ⟨(some 2), .move (.c (.s (.ptr none))), none, 0, []⟩,
    ⟨(some 3), .move (.c (.s (.int .i64 0))), none, 1, []⟩]) (RC.seq (RC.seq (RC.region 6 [
    ⟨(some 4), .move (.t 0), none, 0, []⟩,
    ⟨(some 5), .bin .lss (.t 4) (.c (.s (.int .i64 1))), none, 1, []⟩,
    ⟨(some 6), .move (.t 5), none, 2, []⟩,
    ⟨(some 7), .move (.t 0), (some (6, false)), 3, []⟩,
    ⟨(some 8), .bin .gtr (.t 7) (.c (.s (.int .i64 1000))), (some (6, false)), 4, []⟩,
    ⟨(some 9), .pick (.t 6) (.c (.s (.bool true))) (.t 8), none, 5, []⟩]) (RC.cond (.t 9) (RC.seq (RC.region 2 [
    ⟨(some 2), .move (.c (.s (.ptr none))), none, 0, []⟩,
    ⟨(some 3), .move (.c (.s (.int .i64 (-17)))), none, 1, []⟩]) (RC.ret)) (RC.skip))) (RC.seq (RC.region 7 [
    ⟨(some 10), .build [.slice none 0 0 1, .int .i64 0] [], none, 0, []⟩,
    ⟨(some 11), .box (.t 10), none, 1, []⟩,
    ⟨(some 12), .move (.t 0), none, 2, []⟩,
    ⟨(some 13), .build [.ptr none, .int .i64 0, .int .u64 0, .int .u64 0] [(0, 1, (.t 11)), (1, 1, (.t 12))], none, 3, []⟩,
    ⟨(some 14), .box (.t 13), none, 4, []⟩,
    ⟨(some 2), .move (.t 14), none, 5, []⟩,
    ⟨(some 3), .move (.c (.s (.int .i64 0))), none, 6, []⟩]) (RC.ret))))
theorem detentref8_New_ok : chkFunc Go.Proofs.Try.prog [] Go.Proofs.Try.f35 detentref8_New = true := by kernel_rfl
def detentref8_Clock_Set : RFunc := RFunc.mk 15 [] (
  RC.region 12 [
    ⟨(some 4), .move (.t 0), none, 0, []⟩,
    ⟨(some 5), .move (.t 1), none, 1, []⟩,
    ⟨(some 6), .move (.t 0), none, 2, []⟩,
    ⟨(some 7), .nilCheck (.t 6), none, 3, []⟩,
    ⟨(some 8), .fieldAddr 2 (.t 7), none, 4, []⟩,
    ⟨(some 9), .load none (.t 8), none, 5, []⟩,
    ⟨(some 10), .bin .rem (.t 9) (.c (.s (.int .u64 281474976710656))), none, 6, []⟩,
    ⟨(some 11), .bin .sub (.c (.s (.int .u64 281474976710656))) (.t 10), none, 7, []⟩,
    ⟨(some 12), .call F.detentref1_Add [(.t 5), (.t 11)], none, 8, []⟩,
    ⟨(some 13), .nilCheck (.t 4), none, 9, []⟩,
    ⟨(some 14), .fieldAddr 3 (.t 13), none, 10, []⟩,
    ⟨none, .store 1 (.t 14) (.t 12), none, 11, []⟩])
theorem detentref8_Clock_Set_ok : chkFunc Go.Proofs.Try.prog [] Go.Proofs.Try.f36 detentref8_Clock_Set = true := by kernel_rfl
def detentref8_Clock_After : RFunc := RFunc.mk 38 [.tmp 6, .tmp 7] (
  RC.seq (RC.region 2 [
    ⟨(some 6), .move (.c (.s (.int .i64 0))), none, 0, []⟩,
    ⟨(some 7), .move (.c (.s (.int .i64 0))), none, 1, []⟩]) (RC.seq (RC.region 7 [
    ⟨(some 11), .move (.t 1), none, 0, []⟩,
    ⟨(some 12), .call F.detentref1_Rel [(.t 11)], none, 1, []⟩,
    ⟨(some 10), .move (.t 12), none, 2, []⟩,
    ⟨(some 13), .extract 0 (.t 10), none, 3, []⟩,
    ⟨(some 14), .extract 1 (.t 10), none, 4, []⟩,
    ⟨(some 8), .move (.t 13), none, 5, []⟩,
    ⟨(some 9), .move (.t 14), none, 6, []⟩]) (RC.seq (RC.seq (RC.region 2 [
    ⟨(some 15), .move (.t 9), none, 0, []⟩,
    ⟨(some 16), .bin .neq (.t 15) (.c (.s (.int .i64 0))), none, 1, []⟩]) (RC.cond (.t 16) (RC.seq (RC.region 3 [
    ⟨(some 17), .move (.t 9), none, 0, []⟩,
    ⟨(some 6), .move (.c (.s (.int .i64 0))), none, 1, []⟩,
    ⟨(some 7), .move (.t 17), none, 2, []⟩]) (RC.ret)) (RC.skip))) (RC.seq (RC.region 22 [
    ⟨(some 18), .move (.t 0), none, 0, []⟩,
    ⟨(some 19), .nilCheck (.t 18), none, 1, []⟩,
    ⟨(some 20), .fieldAddr 0 (.t 19), none, 2, []⟩,
    ⟨(some 21), .load none (.t 20), none, 3, []⟩,
    ⟨(some 22), .move (.t 0), none, 4, []⟩,
    ⟨(some 23), .nilCheck (.t 22), none, 5, []⟩,
    ⟨(some 24), .fieldAddr 2 (.t 23), none, 6, []⟩,
    ⟨(some 25), .load none (.t 24), none, 7, []⟩,
    ⟨(some 26), .move (.t 8), none, 8, []⟩,
    ⟨(some 27), .bin .add (.t 25) (.t 26), none, 9, []⟩,
    ⟨(some 28), .move (.t 0), none, 10, []⟩,
    ⟨(some 29), .nilCheck (.t 28), none, 11, []⟩,
    ⟨(some 30), .fieldAddr 1 (.t 29), none, 12, []⟩,
    ⟨(some 31), .load none (.t 30), none, 13, []⟩,
    ⟨(some 32), .conv .u64 (.t 31), none, 14, []⟩,
    ⟨(some 33), .bin .add (.t 27) (.t 32), none, 15, []⟩,
    ⟨(some 34), .move (.t 2), none, 16, []⟩,
    ⟨(some 35), .call F.detentref7_Timers_Insert [(.t 21), (.t 33), (.t 34)], none, 17, []⟩,
    ⟨(some 36), .extract 0 (.t 35), none, 18, []⟩,
    ⟨(some 37), .extract 1 (.t 35), none, 19, []⟩,
    ⟨(some 6), .move (.t 36), none, 20, []⟩,
    ⟨(some 7), .move (.t 37), none, 21, []⟩]) (RC.ret)))))
theorem detentref8_Clock_After_ok : chkFunc Go.Proofs.Try.prog [] Go.Proofs.Try.f37 detentref8_Clock_After = true := by kernel_rfl
def detentref8_Clock_Tick : RFunc := RFunc.mk 25 [.tmp 2] (
  RC.seq (RC.region 1 [
    ⟨(some 2), .move (.c (.s (.slice none 0 0 1))), none, 0, []⟩]) (RC.seq (RC.region 14 [
    ⟨(some 3), .move (.t 0), none, 0, []⟩,
    ⟨(some 4), .move (.t 0), none, 1, []⟩,
    ⟨(some 5), .nilCheck (.t 4), none, 2, []⟩,
    ⟨(some 6), .fieldAddr 2 (.t 5), none, 3, []⟩,
    ⟨(some 7), .load none (.t 6), none, 4, []⟩,
    ⟨(some 8), .move (.t 0), none, 5, []⟩,
    ⟨(some 9), .nilCheck (.t 8), none, 6, []⟩,
    ⟨(some 10), .fieldAddr 1 (.t 9), none, 7, []⟩,
    ⟨(some 11), .load none (.t 10), none, 8, []⟩,
    ⟨(some 12), .conv .u64 (.t 11), none, 9, []⟩,
    ⟨(some 13), .bin .add (.t 7) (.t 12), none, 10, []⟩,
    ⟨(some 14), .nilCheck (.t 3), none, 11, []⟩,
    ⟨(some 15), .fieldAddr 2 (.t 14), none, 12, []⟩,
    ⟨none, .store 1 (.t 15) (.t 13), none, 13, []⟩]) (RC.seq (RC.region 10 [
    ⟨(some 16), .move (.t 0), none, 0, []⟩,
    ⟨(some 17), .nilCheck (.t 16), none, 1, []⟩,
    ⟨(some 18), .fieldAddr 0 (.t 17), none, 2, []⟩,
    ⟨(some 19), .load none (.t 18), none, 3, []⟩,
    ⟨(some 20), .move (.t 0), none, 4, []⟩,
    ⟨(some 21), .nilCheck (.t 20), none, 5, []⟩,
    ⟨(some 22), .fieldAddr 2 (.t 21), none, 6, []⟩,
    ⟨(some 23), .load none (.t 22), none, 7, []⟩,
    ⟨(some 24), .call F.detentref7_Timers_Due [(.t 19), (.t 23)], none, 8, []⟩,
    ⟨(some 2), .move (.t 24), none, 9, []⟩]) (RC.ret))))
theorem detentref8_Clock_Tick_ok : chkFunc Go.Proofs.Try.prog [] Go.Proofs.Try.f38 detentref8_Clock_Tick = true := by kernel_rfl
def clock_Clock_Apart : RFunc := RFunc.mk 22 [.tmp 2] (
  RC.seq (RC.region 1 [
    ⟨(some 2), .move (.c (.s (.ptr none))), none, 0, []⟩]) (RC.seq (RC.region 20 [
    ⟨(some 3), .move (.t 0), none, 0, []⟩,
    ⟨(some 4), .nilCheck (.t 3), none, 1, []⟩,
    ⟨(some 5), .fieldAddr 0 (.t 4), none, 2, []⟩,
    ⟨(some 6), .load none (.t 5), none, 3, []⟩,
    ⟨(some 8), .move (.t 0), none, 5, []⟩,
    ⟨(some 9), .nilCheck (.t 8), none, 6, []⟩,
    ⟨(some 10), .fieldAddr 1 (.t 9), none, 7, []⟩,
    ⟨(some 11), .load none (.t 10), none, 8, []⟩,
    ⟨(some 12), .move (.t 0), none, 9, []⟩,
    ⟨(some 13), .nilCheck (.t 12), none, 10, []⟩,
    ⟨(some 14), .fieldAddr 2 (.t 13), none, 11, []⟩,
    ⟨(some 15), .load none (.t 14), none, 12, []⟩,
    ⟨(some 16), .move (.t 0), none, 13, []⟩,
    ⟨(some 17), .nilCheck (.t 16), none, 14, []⟩,
    ⟨(some 18), .fieldAddr 3 (.t 17), none, 15, []⟩,
    ⟨(some 19), .load none (.t 18), none, 16, []⟩,
    ⟨(some 7), .call F.heap_Timers_Twin [(.t 6)], none, 4, [⟨11, none, (.t 10), none⟩, ⟨15, none, (.t 14), none⟩, ⟨19, none, (.t 18), none⟩]⟩,
    ⟨(some 20), .build [.ptr none, .int .u64 0, .int .u64 0, .int .u64 0] [(0, 1, (.t 7)), (1, 1, (.t 11)), (2, 1, (.t 15)), (3, 1, (.t 19))], none, 17, []⟩,
    ⟨(some 21), .box (.t 20), none, 18, []⟩,
    ⟨(some 2), .move (.t 21), none, 19, []⟩]) (RC.ret)))
theorem clock_Clock_Apart_ok : chkFunc Go.Proofs.Try.prog [] Go.Proofs.Try.f39 clock_Clock_Apart = true := by kernel_rfl
def detentref8_Clock_Now : RFunc := RFunc.mk 12 [.tmp 2] (
  RC.seq (RC.region 1 [
    ⟨(some 2), .move (.c (.s (.int .u64 0))), none, 0, []⟩]) (RC.seq (RC.region 10 [
    ⟨(some 3), .move (.t 0), none, 0, []⟩,
    ⟨(some 4), .nilCheck (.t 3), none, 1, []⟩,
    ⟨(some 5), .fieldAddr 3 (.t 4), none, 2, []⟩,
    ⟨(some 6), .load none (.t 5), none, 3, []⟩,
    ⟨(some 7), .move (.t 0), none, 4, []⟩,
    ⟨(some 8), .nilCheck (.t 7), none, 5, []⟩,
    ⟨(some 9), .fieldAddr 2 (.t 8), none, 6, []⟩,
    ⟨(some 10), .load none (.t 9), none, 7, []⟩,
    ⟨(some 11), .call F.detentref1_Add [(.t 6), (.t 10)], none, 8, []⟩,
    ⟨(some 2), .move (.t 11), none, 9, []⟩]) (RC.ret)))
theorem detentref8_Clock_Now_ok : chkFunc Go.Proofs.Try.prog [] Go.Proofs.Try.f40 detentref8_Clock_Now = true := by kernel_rfl
def detentref7_Timers_Next : RFunc := RFunc.mk 17 [.tmp 2, .tmp 3] (
  RC.seq (RC.region 2 [
    ⟨(some 2), .move (.c (.s (.int .u64 0))), none, 0, []⟩,
    ⟨(some 3), .move (.c (.s (.bool false))), none, 1, []⟩]) (RC.seq (RC.region 3 [
    ⟨(some 5), .move (.t 0), none, 0, []⟩,
    ⟨(some 6), .call F.detentref7_Timers_least [(.t 5)], none, 1, []⟩,
    ⟨(some 4), .move (.t 6), none, 2, []⟩]) (RC.seq (RC.seq (RC.region 2 [
    ⟨(some 7), .move (.t 4), none, 0, []⟩,
    ⟨(some 8), .bin .lss (.t 7) (.c (.s (.int .i64 0))), none, 1, []⟩]) (RC.cond (.t 8) (RC.seq (RC.region 2 [
    ⟨(some 2), .move (.c (.s (.int .u64 0))), none, 0, []⟩,
    ⟨(some 3), .move (.c (.s (.bool false))), none, 1, []⟩]) (RC.ret)) (RC.skip))) (RC.seq (RC.region 10 [
    ⟨(some 9), .move (.t 0), none, 0, []⟩,
    ⟨(some 10), .nilCheck (.t 9), none, 1, []⟩,
    ⟨(some 11), .fieldAddr 0 (.t 10), none, 2, []⟩,
    ⟨(some 12), .load none (.t 11), none, 3, []⟩,
    ⟨(some 13), .move (.t 4), none, 4, []⟩,
    ⟨(some 14), .indexSl 3 (.t 12) (.t 13), none, 5, []⟩,
    ⟨(some 15), .fieldAddr 1 (.t 14), none, 6, []⟩,
    ⟨(some 16), .load none (.t 15), none, 7, []⟩,
    ⟨(some 2), .move (.t 16), none, 8, []⟩,
    ⟨(some 3), .move (.c (.s (.bool true))), none, 9, []⟩]) (RC.ret)))))
theorem detentref7_Timers_Next_ok : chkFunc Go.Proofs.Try.prog [] Go.Proofs.Try.f49 detentref7_Timers_Next = true := by kernel_rfl
end Go.AM.R
