/-
  The code of the functions, as the abstract machine has it; it is the program's.
-/
import Derived.Test.YtglblelohpolfaaGreatDoorAmO
import Derived.Test.YtglblelohpolfaaGreatDoorIds
import Derived.Test.YtglblelohpolfaaGreatDoorProg
import Derived.KernelRfl
set_option maxRecDepth 100000
namespace Go.AM.R
open Go.AM
def detentlaw28_JudgeWrong : RFunc := RFunc.mk 55 [.tmp 4] (
  RC.seq (RC.region 1 [
    ⟨(some 4), .move (.c (.s (.bool false))), none, 0, []⟩]) (RC.seq (RC.seq (RC.region 2 [
    ⟨(some 11), .call F.detentlaw28_known [], none, 0, []⟩,
    ⟨(some 12), .un .not (.t 11), none, 1, []⟩]) (RC.cond (.t 12) (RC.seq (RC.region 1 [
    ⟨(some 4), .move (.c (.s (.bool false))), none, 0, []⟩]) (RC.ret)) (RC.skip))) (RC.seq (RC.seq (RC.region 6 [
    ⟨(some 13), .move (.t 0), none, 0, []⟩,
    ⟨(some 14), .bin .geq (.t 13) (.c (.s (.int .i64 1))), none, 1, []⟩,
    ⟨(some 15), .move (.t 14), none, 2, []⟩,
    ⟨(some 16), .move (.t 0), (some (15, true)), 3, []⟩,
    ⟨(some 17), .bin .leq (.t 16) (.c (.s (.int .i64 1000))), (some (15, true)), 4, []⟩,
    ⟨(some 18), .pick (.t 15) (.t 17) (.c (.s (.bool false))), none, 5, []⟩]) (RC.cond (.t 18) (RC.seq (RC.region 1 [
    ⟨(some 4), .move (.c (.s (.bool true))), none, 0, []⟩]) (RC.ret)) (RC.skip))) (RC.seq (RC.region 6 [
    ⟨(some 19), .move (.t 0), none, 0, []⟩,
    ⟨(some 20), .build [.int .i64 0, .bool false] [(0, 1, (.c (.s (.int .i64 1))))], none, 1, []⟩,
    ⟨(some 21), .buildSlice 2 1 [.int .i64 0, .bool false] [(0, 2, (.t 20))], none, 2, []⟩,
    ⟨(some 22), .build [.int .i64 0, .slice none 0 0 1, .slice none 0 0 1, .slice none 0 0 1, .slice none 0 0 1, .slice none 0 0 1, .slice none 0 0 1, .slice none 0 0 1, .int .i64 0] [(0, 1, (.t 19)), (1, 1, (.t 21))], none, 3, []⟩,
    ⟨(some 5), .newc [.int .i64 0, .slice none 0 0 1, .slice none 0 0 1, .slice none 0 0 1, .slice none 0 0 1, .slice none 0 0 1, .slice none 0 0 1, .slice none 0 0 1, .int .i64 0], none, 4, []⟩,
    ⟨none, .store 9 (.t 5) (.t 22), none, 5, []⟩]) (RC.seq (RC.region 9 [
    ⟨(some 24), .load (some 9) (.t 5), none, 0, []⟩,
    ⟨(some 25), .build [.int .i64 0, .int .i64 0, .int .i64 0, .int .i64 0, .int .i64 0, .int .i64 0, .int .i64 0] [(0, 1, (.c (.s (.int .i64 2)))), (1, 1, (.c (.s (.int .i64 1))))], none, 1, []⟩,
    ⟨(some 26), .buildSlice 7 1 [.int .i64 0, .int .i64 0, .int .i64 0, .int .i64 0, .int .i64 0, .int .i64 0, .int .i64 0] [(0, 7, (.t 25))], none, 2, []⟩,
    ⟨(some 27), .call F.judge_Watch [(.t 24), (.t 26)], none, 3, []⟩,
    ⟨(some 23), .move (.t 27), none, 4, []⟩,
    ⟨(some 28), .extract 0 (.t 23), none, 5, []⟩,
    ⟨(some 29), .extract 1 (.t 23), none, 6, []⟩,
    ⟨(some 6), .move (.t 28), none, 7, []⟩,
    ⟨(some 7), .move (.t 29), none, 8, []⟩]) (RC.seq (RC.region 5 [
    ⟨(some 30), .move (.t 1), none, 0, []⟩,
    ⟨(some 31), .bin .rem (.t 30) (.c (.s (.int .u8 9))), none, 1, []⟩,
    ⟨(some 32), .conv .i64 (.t 31), none, 2, []⟩,
    ⟨(some 33), .makeSlice 1 24 [.slice none 0 0 1] (.t 32) (.t 32), none, 3, []⟩,
    ⟨(some 8), .move (.t 33), none, 4, []⟩]) (RC.seq (RC.region 8 [
    ⟨(some 35), .load (some 9) (.t 5), none, 0, []⟩,
    ⟨(some 36), .move (.t 8), none, 1, []⟩,
    ⟨(some 37), .call F.judge_All [(.t 35), (.t 36)], none, 2, []⟩,
    ⟨(some 34), .move (.t 37), none, 3, []⟩,
    ⟨(some 38), .extract 0 (.t 34), none, 4, []⟩,
    ⟨(some 39), .extract 1 (.t 34), none, 5, []⟩,
    ⟨(some 9), .move (.t 38), none, 6, []⟩,
    ⟨(some 10), .move (.t 39), none, 7, []⟩]) (RC.seq (RC.region 16 [
    ⟨(some 40), .move (.t 7), none, 0, []⟩,
    ⟨(some 41), .bin .eql (.t 40) (.c (.s (.int .i64 (-17)))), none, 1, []⟩,
    ⟨(some 42), .move (.t 41), none, 2, []⟩,
    ⟨(some 43), .move (.t 6), (some (42, true)), 3, []⟩,
    ⟨(some 44), .len (.t 43), (some (42, true)), 4, []⟩,
    ⟨(some 45), .bin .eql (.t 44) (.c (.s (.int .i64 0))), (some (42, true)), 5, []⟩,
    ⟨(some 46), .pick (.t 42) (.t 45) (.c (.s (.bool false))), none, 6, []⟩,
    ⟨(some 47), .move (.t 46), none, 7, []⟩,
    ⟨(some 48), .move (.t 10), (some (47, true)), 8, []⟩,
    ⟨(some 49), .bin .eql (.t 48) (.c (.s (.int .i64 (-17)))), (some (47, true)), 9, []⟩,
    ⟨(some 50), .pick (.t 47) (.t 49) (.c (.s (.bool false))), none, 10, []⟩,
    ⟨(some 51), .move (.t 50), none, 11, []⟩,
    ⟨(some 52), .move (.t 9), (some (51, true)), 12, []⟩,
    ⟨(some 53), .bin .eql (.t 52) (.c (.s (.int .i64 0))), (some (51, true)), 13, []⟩,
    ⟨(some 54), .pick (.t 51) (.t 53) (.c (.s (.bool false))), none, 14, []⟩,
    ⟨(some 4), .move (.t 54), none, 15, []⟩]) (RC.ret)))))))))
theorem detentlaw28_JudgeWrong_ok : chkFunc Go.Proofs.Tryz.prog [0] Go.Proofs.Tryz.f3 detentlaw28_JudgeWrong = true := by kernel_rfl
def detentlaw28_known : RFunc := RFunc.mk 88 [.tmp 0] (
  RC.seq (RC.region 1 [
    ⟨(some 0), .move (.c (.s (.bool false))), none, 0, []⟩]) (RC.seq (RC.region 7 [
    ⟨(some 12), .build [.int .i64 0, .bool false] [(0, 1, (.c (.s (.int .i64 5)))), (1, 1, (.c (.s (.bool true))))], none, 0, []⟩,
    ⟨(some 13), .buildSlice 2 1 [.int .i64 0, .bool false] [(0, 2, (.t 12))], none, 1, []⟩,
    ⟨(some 14), .build [.bool false, .int .i64 0, .int .i64 0] [(1, 1, (.c (.s (.int .i64 3)))), (2, 1, (.c (.s (.int .i64 3))))], none, 2, []⟩,
    ⟨(some 15), .buildSlice 3 1 [.bool false, .int .i64 0, .int .i64 0] [(0, 3, (.t 14))], none, 3, []⟩,
    ⟨(some 16), .build [.int .i64 0, .slice none 0 0 1, .slice none 0 0 1, .slice none 0 0 1, .slice none 0 0 1, .slice none 0 0 1, .slice none 0 0 1, .slice none 0 0 1, .int .i64 0] [(0, 1, (.c (.s (.int .i64 1)))), (1, 1, (.t 13)), (2, 1, (.t 15))], none, 4, []⟩,
    ⟨(some 1), .newc [.int .i64 0, .slice none 0 0 1, .slice none 0 0 1, .slice none 0 0 1, .slice none 0 0 1, .slice none 0 0 1, .slice none 0 0 1, .slice none 0 0 1, .int .i64 0], none, 5, []⟩,
    ⟨none, .store 9 (.t 1) (.t 16), none, 6, []⟩]) (RC.seq (RC.region 7 [
    ⟨(some 17), .build [.int .i64 0, .bool false] [(0, 1, (.c (.s (.int .i64 5)))), (1, 1, (.c (.s (.bool true))))], none, 0, []⟩,
    ⟨(some 18), .buildSlice 2 1 [.int .i64 0, .bool false] [(0, 2, (.t 17))], none, 1, []⟩,
    ⟨(some 19), .build [.bool false, .int .i64 0, .int .i64 0] [(1, 1, (.c (.s (.int .i64 1)))), (2, 1, (.c (.s (.int .i64 1))))], none, 2, []⟩,
    ⟨(some 20), .buildSlice 3 1 [.bool false, .int .i64 0, .int .i64 0] [(0, 3, (.t 19))], none, 3, []⟩,
    ⟨(some 21), .build [.int .i64 0, .slice none 0 0 1, .slice none 0 0 1, .slice none 0 0 1, .slice none 0 0 1, .slice none 0 0 1, .slice none 0 0 1, .slice none 0 0 1, .int .i64 0] [(0, 1, (.c (.s (.int .i64 1)))), (1, 1, (.t 18)), (2, 1, (.t 20))], none, 4, []⟩,
    ⟨(some 2), .newc [.int .i64 0, .slice none 0 0 1, .slice none 0 0 1, .slice none 0 0 1, .slice none 0 0 1, .slice none 0 0 1, .slice none 0 0 1, .slice none 0 0 1, .int .i64 0], none, 5, []⟩,
    ⟨none, .store 9 (.t 2) (.t 21), none, 6, []⟩]) (RC.seq (RC.region 7 [
    ⟨(some 23), .load (some 9) (.t 1), none, 0, []⟩,
    ⟨(some 24), .call F.kern_New [(.t 23)], none, 1, []⟩,
    ⟨(some 22), .move (.t 24), none, 2, []⟩,
    ⟨(some 25), .extract 0 (.t 22), none, 3, []⟩,
    ⟨(some 26), .extract 1 (.t 22), none, 4, []⟩,
    ⟨(some 3), .move (.t 25), none, 5, []⟩,
    ⟨(some 4), .move (.t 26), none, 6, []⟩]) (RC.seq (RC.seq (RC.region 6 [
    ⟨(some 27), .move (.t 4), none, 0, []⟩,
    ⟨(some 28), .bin .neq (.t 27) (.c (.s (.int .i64 0))), none, 1, []⟩,
    ⟨(some 29), .move (.t 28), none, 2, []⟩,
    ⟨(some 30), .move (.t 3), (some (29, false)), 3, []⟩,
    ⟨(some 31), .eqs .ptr false (.t 30) (.c (.s (.ptr none))), (some (29, false)), 4, []⟩,
    ⟨(some 32), .pick (.t 29) (.c (.s (.bool true))) (.t 31), none, 5, []⟩]) (RC.cond (.t 32) (RC.seq (RC.region 1 [
    ⟨(some 0), .move (.c (.s (.bool false))), none, 0, []⟩]) (RC.ret)) (RC.skip))) (RC.seq (RC.region 10 [
    ⟨(some 34), .load (some 9) (.t 1), none, 0, []⟩,
    ⟨(some 35), .call F.calls_Make [(.c (.s (.int .i64 12))), (.c (.s (.slice none 0 0 1)))], none, 1, [⟨34, (some 9), (.t 1), none⟩]⟩,
    ⟨(some 36), .build [.int .i64 0, .int .i64 0, .int .i64 0, .int .i64 0, .int .i64 0, .int .i64 0, .int .i64 0] [(0, 1, (.c (.s (.int .i64 1)))), (2, 5, (.t 35))], none, 2, []⟩,
    ⟨(some 37), .buildSlice 7 1 [.int .i64 0, .int .i64 0, .int .i64 0, .int .i64 0, .int .i64 0, .int .i64 0, .int .i64 0] [(0, 7, (.t 36))], none, 3, []⟩,
    ⟨(some 38), .call F.judge_Watch [(.t 34), (.t 37)], none, 4, []⟩,
    ⟨(some 33), .move (.t 38), none, 5, []⟩,
    ⟨(some 39), .extract 0 (.t 33), none, 6, []⟩,
    ⟨(some 40), .extract 1 (.t 33), none, 7, []⟩,
    ⟨(some 5), .move (.t 39), none, 8, []⟩,
    ⟨(some 6), .move (.t 40), none, 9, []⟩]) (RC.seq (RC.region 8 [
    ⟨(some 42), .load (some 9) (.t 1), none, 0, []⟩,
    ⟨(some 43), .buildSlice 1 2 [.slice none 0 0 1, .slice none 0 0 1] [(0, 1, (.c (.s (.slice none 0 0 1)))), (1, 1, (.c (.s (.slice none 0 0 1))))], none, 1, []⟩,
    ⟨(some 44), .call F.judge_All [(.t 42), (.t 43)], none, 2, []⟩,
    ⟨(some 41), .move (.t 44), none, 3, []⟩,
    ⟨(some 45), .extract 0 (.t 41), none, 4, []⟩,
    ⟨(some 46), .extract 1 (.t 41), none, 5, []⟩,
    ⟨(some 7), .move (.t 45), none, 6, []⟩,
    ⟨(some 8), .move (.t 46), none, 7, []⟩]) (RC.seq (RC.region 4 [
    ⟨(some 47), .load (some 9) (.t 2), none, 0, []⟩,
    ⟨(some 48), .move (.t 3), none, 1, []⟩,
    ⟨(some 49), .call F.judge_Look [(.t 47), (.t 48)], none, 2, []⟩,
    ⟨(some 9), .move (.t 49), none, 3, []⟩]) (RC.seq (RC.region 7 [
    ⟨(some 51), .build [.int .i64 0, .slice none 0 0 1, .slice none 0 0 1, .slice none 0 0 1, .slice none 0 0 1, .slice none 0 0 1, .slice none 0 0 1, .slice none 0 0 1, .int .i64 0] [], none, 0, []⟩,
    ⟨(some 52), .call F.judge_Watch [(.t 51), (.c (.s (.slice none 0 0 1)))], none, 1, []⟩,
    ⟨(some 50), .move (.t 52), none, 2, []⟩,
    ⟨(some 53), .extract 0 (.t 50), none, 3, []⟩,
    ⟨(some 54), .extract 1 (.t 50), none, 4, []⟩,
    ⟨(some 10), .move (.t 53), none, 5, []⟩,
    ⟨(some 11), .move (.t 54), none, 6, []⟩]) (RC.seq (RC.region 34 [
    ⟨(some 55), .load (some 9) (.t 1), none, 0, []⟩,
    ⟨(some 56), .move (.t 3), none, 1, []⟩,
    ⟨(some 57), .call F.judge_Look [(.t 55), (.t 56)], none, 2, []⟩,
    ⟨(some 58), .len (.t 57), none, 3, []⟩,
    ⟨(some 59), .bin .eql (.t 58) (.c (.s (.int .i64 0))), none, 4, []⟩,
    ⟨(some 60), .move (.t 59), none, 5, []⟩,
    ⟨(some 61), .move (.t 6), (some (60, true)), 6, []⟩,
    ⟨(some 62), .move (.t 8), (some (60, true)), 7, []⟩,
    ⟨(some 63), .bin .add (.t 61) (.t 62), (some (60, true)), 8, []⟩,
    ⟨(some 64), .move (.t 7), (some (60, true)), 9, []⟩,
    ⟨(some 65), .bin .add (.t 63) (.t 64), (some (60, true)), 10, []⟩,
    ⟨(some 66), .bin .eql (.t 65) (.c (.s (.int .i64 0))), (some (60, true)), 11, []⟩,
    ⟨(some 67), .pick (.t 60) (.t 66) (.c (.s (.bool false))), none, 12, []⟩,
    ⟨(some 68), .move (.t 67), none, 13, []⟩,
    ⟨(some 69), .move (.t 5), (some (68, true)), 14, []⟩,
    ⟨(some 70), .len (.t 69), (some (68, true)), 15, []⟩,
    ⟨(some 71), .bin .eql (.t 70) (.c (.s (.int .i64 0))), (some (68, true)), 16, []⟩,
    ⟨(some 72), .pick (.t 68) (.t 71) (.c (.s (.bool false))), none, 17, []⟩,
    ⟨(some 73), .move (.t 72), none, 18, []⟩,
    ⟨(some 74), .move (.t 9), (some (73, true)), 19, []⟩,
    ⟨(some 75), .len (.t 74), (some (73, true)), 20, []⟩,
    ⟨(some 76), .bin .eql (.t 75) (.c (.s (.int .i64 1))), (some (73, true)), 21, []⟩,
    ⟨(some 77), .pick (.t 73) (.t 76) (.c (.s (.bool false))), none, 22, []⟩,
    ⟨(some 78), .move (.t 77), none, 23, []⟩,
    ⟨(some 79), .move (.t 9), (some (78, true)), 24, []⟩,
    ⟨(some 80), .indexSl 1 (.t 79) (.c (.s (.int .i64 0))), (some (78, true)), 25, []⟩,
    ⟨(some 81), .load none (.t 80), (some (78, true)), 26, []⟩,
    ⟨(some 82), .eqs .str false (.t 81) (.c (.s (.str ⟨#[99, 111, 117, 110, 116]⟩))), (some (78, true)), 27, []⟩,
    ⟨(some 83), .pick (.t 78) (.t 82) (.c (.s (.bool false))), none, 28, []⟩,
    ⟨(some 84), .move (.t 83), none, 29, []⟩,
    ⟨(some 85), .move (.t 11), (some (84, true)), 30, []⟩,
    ⟨(some 86), .bin .neq (.t 85) (.c (.s (.int .i64 0))), (some (84, true)), 31, []⟩,
    ⟨(some 87), .pick (.t 84) (.t 86) (.c (.s (.bool false))), none, 32, []⟩,
    ⟨(some 0), .move (.t 87), none, 33, []⟩]) (RC.ret)))))))))))
theorem detentlaw28_known_ok : chkFunc Go.Proofs.Tryz.prog [0] Go.Proofs.Tryz.f4 detentlaw28_known = true := by kernel_rfl
def judge_Watch_l0 : RC :=
  RC.seq (RC.region 1 [
    ⟨(some 26), .bin .lss (.t 25) (.t 24), none, 0, []⟩]) (RC.seq (RC.cond (.t 26) (RC.skip) (RC.exit 0)) (RC.seq (RC.block 1 (RC.seq (RC.region 6 [
    ⟨(some 27), .move (.t 25), none, 0, []⟩,
    ⟨(some 28), .indexSl 7 (.t 23) (.t 25), none, 1, []⟩,
    ⟨(some 29), .load (some 7) (.t 28), none, 2, []⟩,
    ⟨(some 11), .newc [.int .i64 0, .int .i64 0, .int .i64 0, .int .i64 0, .int .i64 0, .int .i64 0, .int .i64 0], none, 3, []⟩,
    ⟨(some 10), .move (.t 27), none, 4, []⟩,
    ⟨none, .store 7 (.t 11) (.t 29), none, 5, []⟩]) (RC.seq (RC.region 3 [
    ⟨(some 30), .load none (.t 6), none, 0, []⟩,
    ⟨(some 31), .load (some 7) (.t 11), none, 1, []⟩,
    ⟨(some 32), .call F.judge_step [(.t 30), (.t 31)], none, 2, []⟩]) (RC.region 4 [
    ⟨(some 33), .move (.t 9), none, 0, []⟩,
    ⟨(some 34), .move (.t 10), none, 1, []⟩,
    ⟨(some 35), .bin .add (.t 34) (.c (.s (.int .i64 1))), none, 2, []⟩,
    ⟨(some 36), .callv (.t 33) [(.t 35)], none, 3, []⟩])))) (RC.region 2 [
    ⟨(some 37), .bin .add (.t 25) (.c (.s (.int .i64 1))), none, 0, []⟩,
    ⟨(some 25), .move (.t 37), none, 1, []⟩])))
def judge_Watch_s1 : RC :=
  RC.seq (RC.region 4 [
    ⟨(some 38), .load none (.t 8), none, 0, []⟩,
    ⟨(some 39), .call F.slices_Clip__judge_Finding_judge_Finding [(.t 38)], none, 1, []⟩,
    ⟨(some 4), .move (.t 39), none, 2, []⟩,
    ⟨(some 5), .move (.c (.s (.int .i64 0))), none, 3, []⟩]) (RC.ret)
def judge_Watch : RFunc := RFunc.mk 40 [.tmp 4, .tmp 5] (
  RC.seq (RC.region 3 [
    ⟨(some 2), .box (.t 0), none, 0, []⟩,
    ⟨(some 4), .move (.c (.s (.slice none 0 0 1))), none, 1, []⟩,
    ⟨(some 5), .move (.c (.s (.int .i64 0))), none, 2, []⟩]) (RC.seq (RC.region 8 [
    ⟨(some 13), .load (some 9) (.t 2), none, 0, []⟩,
    ⟨(some 14), .call F.kern_New [(.t 13)], none, 1, []⟩,
    ⟨(some 12), .move (.t 14), none, 2, []⟩,
    ⟨(some 15), .extract 0 (.t 12), none, 3, []⟩,
    ⟨(some 16), .extract 1 (.t 12), none, 4, []⟩,
    ⟨(some 6), .newc [.ptr none], none, 5, []⟩,
    ⟨none, .store 1 (.t 6) (.t 15), none, 6, []⟩,
    ⟨(some 7), .move (.t 16), none, 7, []⟩]) (RC.seq (RC.seq (RC.region 2 [
    ⟨(some 17), .move (.t 7), none, 0, []⟩,
    ⟨(some 18), .bin .neq (.t 17) (.c (.s (.int .i64 0))), none, 1, []⟩]) (RC.cond (.t 18) (RC.seq (RC.region 3 [
    ⟨(some 19), .move (.t 7), none, 0, []⟩,
    ⟨(some 4), .move (.c (.s (.slice none 0 0 1))), none, 1, []⟩,
    ⟨(some 5), .move (.t 19), none, 2, []⟩]) (RC.ret)) (RC.skip))) (RC.seq (RC.region 1 [
    ⟨(some 8), .newc [.slice none 0 0 1], none, 0, []⟩]) (RC.seq (RC.region 2 [
    ⟨(some 20), .makeFunc F.judge_Watch_1 [(.t 2), (.t 6), (.t 8)], none, 0, []⟩,
    ⟨(some 9), .move (.t 20), none, 1, []⟩]) (RC.seq (RC.region 2 [
    ⟨(some 21), .move (.t 9), none, 0, []⟩,
    ⟨(some 22), .callv (.t 21) [(.c (.s (.int .i64 0)))], none, 1, []⟩]) (RC.seq (RC.seq (RC.region 3 [
    ⟨(some 23), .move (.t 1), none, 0, []⟩,
    ⟨(some 24), .len (.t 23), none, 1, []⟩,
    ⟨(some 25), .move (.c (.s (.int .i64 0))), none, 2, []⟩]) (RC.block 0 (RC.loop R.judge_Watch_l0))) R.judge_Watch_s1)))))))
theorem judge_Watch_ok : chkFunc Go.Proofs.Tryz.prog [0] Go.Proofs.Tryz.f5 judge_Watch = true := by kernel_rfl
def judge_All_l0 : RC :=
  RC.seq (RC.region 1 [
    ⟨(some 24), .bin .lss (.t 23) (.t 22), none, 0, []⟩]) (RC.seq (RC.cond (.t 24) (RC.skip) (RC.exit 0)) (RC.seq (RC.block 1 (RC.seq (RC.region 3 [
    ⟨(some 25), .indexSl 1 (.t 21) (.t 23), none, 0, []⟩,
    ⟨(some 26), .load none (.t 25), none, 1, []⟩,
    ⟨(some 10), .move (.t 26), none, 2, []⟩]) (RC.seq (RC.region 8 [
    ⟨(some 28), .load (some 9) (.t 2), none, 0, []⟩,
    ⟨(some 29), .move (.t 10), none, 1, []⟩,
    ⟨(some 30), .call F.judge_Watch [(.t 28), (.t 29)], none, 2, []⟩,
    ⟨(some 27), .move (.t 30), none, 3, []⟩,
    ⟨(some 31), .extract 0 (.t 27), none, 4, []⟩,
    ⟨(some 32), .extract 1 (.t 27), none, 5, []⟩,
    ⟨(some 11), .move (.t 31), none, 6, []⟩,
    ⟨(some 12), .move (.t 32), none, 7, []⟩]) (RC.seq (RC.seq (RC.region 2 [
    ⟨(some 33), .move (.t 12), none, 0, []⟩,
    ⟨(some 34), .bin .neq (.t 33) (.c (.s (.int .i64 0))), none, 1, []⟩]) (RC.cond (.t 34) (RC.seq (RC.region 3 [
    ⟨(some 35), .move (.t 12), none, 0, []⟩,
    ⟨(some 4), .move (.c (.s (.int .i64 0))), none, 1, []⟩,
    ⟨(some 5), .move (.t 35), none, 2, []⟩]) (RC.ret)) (RC.skip))) (RC.region 5 [
    ⟨(some 36), .move (.t 8), none, 0, []⟩,
    ⟨(some 37), .move (.t 11), none, 1, []⟩,
    ⟨(some 38), .len (.t 37), none, 2, []⟩,
    ⟨(some 39), .bin .add (.t 36) (.t 38), none, 3, []⟩,
    ⟨(some 8), .move (.t 39), none, 4, []⟩]))))) (RC.region 2 [
    ⟨(some 40), .bin .add (.t 23) (.c (.s (.int .i64 1))), none, 0, []⟩,
    ⟨(some 23), .move (.t 40), none, 1, []⟩])))
def judge_All_s1 : RC :=
  RC.seq (RC.region 3 [
    ⟨(some 41), .move (.t 8), none, 0, []⟩,
    ⟨(some 4), .move (.t 41), none, 1, []⟩,
    ⟨(some 5), .move (.c (.s (.int .i64 0))), none, 2, []⟩]) (RC.ret)
def judge_All : RFunc := RFunc.mk 42 [.tmp 4, .tmp 5] (
  RC.seq (RC.region 3 [
    ⟨(some 2), .box (.t 0), none, 0, []⟩,
    ⟨(some 4), .move (.c (.s (.int .i64 0))), none, 1, []⟩,
    ⟨(some 5), .move (.c (.s (.int .i64 0))), none, 2, []⟩]) (RC.seq (RC.seq (RC.region 7 [
    ⟨(some 14), .load (some 9) (.t 2), none, 0, []⟩,
    ⟨(some 15), .call F.kern_New [(.t 14)], none, 1, []⟩,
    ⟨(some 13), .move (.t 15), none, 2, []⟩,
    ⟨(some 16), .extract 0 (.t 13), none, 3, []⟩,
    ⟨(some 17), .extract 1 (.t 13), none, 4, []⟩,
    ⟨(some 6), .move (.t 16), none, 5, []⟩,
    ⟨(some 7), .move (.t 17), none, 6, []⟩]) (RC.seq (RC.region 2 [
    ⟨(some 18), .move (.t 7), none, 0, []⟩,
    ⟨(some 19), .bin .neq (.t 18) (.c (.s (.int .i64 0))), none, 1, []⟩]) (RC.cond (.t 19) (RC.seq (RC.region 3 [
    ⟨(some 20), .move (.t 7), none, 0, []⟩,
    ⟨(some 4), .move (.c (.s (.int .i64 0))), none, 1, []⟩,
    ⟨(some 5), .move (.t 20), none, 2, []⟩]) (RC.ret)) (RC.skip)))) (RC.seq (RC.region 1 [
    ⟨(some 8), .move (.c (.s (.int .i64 0))), none, 0, []⟩]) (RC.seq (RC.seq (RC.region 3 [
    ⟨(some 21), .move (.t 1), none, 0, []⟩,
    ⟨(some 22), .len (.t 21), none, 1, []⟩,
    ⟨(some 23), .move (.c (.s (.int .i64 0))), none, 2, []⟩]) (RC.block 0 (RC.loop R.judge_All_l0))) R.judge_All_s1))))
theorem judge_All_ok : chkFunc Go.Proofs.Tryz.prog [0] Go.Proofs.Tryz.f6 judge_All = true := by kernel_rfl
def kern_New_l0 : RC :=
  RC.seq (RC.region 1 [
    ⟨(some 51), .bin .lss (.t 50) (.t 49), none, 0, []⟩]) (RC.seq (RC.cond (.t 51) (RC.skip) (RC.exit 0)) (RC.seq (RC.block 1 (RC.seq (RC.region 4 [
    ⟨(some 52), .indexSl 4 (.t 48) (.t 50), none, 0, []⟩,
    ⟨(some 53), .load (some 4) (.t 52), none, 1, []⟩,
    ⟨(some 9), .newc [.int .i64 0, .int .i64 0, .bool false, .bool false], none, 2, []⟩,
    ⟨none, .store 4 (.t 9) (.t 53), none, 3, []⟩]) (RC.region 13 [
    ⟨(some 54), .move (.t 7), none, 0, []⟩,
    ⟨(some 55), .nilCheck (.t 54), none, 1, []⟩,
    ⟨(some 56), .fieldAddr 7 (.t 55), none, 2, []⟩,
    ⟨(some 57), .load none (.t 56), none, 3, []⟩,
    ⟨(some 58), .fieldAddr 0 (.t 9), none, 4, []⟩,
    ⟨(some 59), .load none (.t 58), none, 5, []⟩,
    ⟨(some 60), .fieldAddr 1 (.t 9), none, 6, []⟩,
    ⟨(some 61), .load none (.t 60), none, 7, []⟩,
    ⟨(some 62), .fieldAddr 2 (.t 9), none, 8, []⟩,
    ⟨(some 63), .load none (.t 62), none, 9, []⟩,
    ⟨(some 64), .fieldAddr 3 (.t 9), none, 10, []⟩,
    ⟨(some 65), .load none (.t 64), none, 11, []⟩,
    ⟨(some 66), .call F.cyc_Hands_Cyclic [(.t 57), (.t 59), (.t 61), (.t 63), (.t 65)], none, 12, []⟩]))) (RC.region 2 [
    ⟨(some 67), .bin .add (.t 50) (.c (.s (.int .i64 1))), none, 0, []⟩,
    ⟨(some 50), .move (.t 67), none, 1, []⟩])))
def kern_New_l1 : RC :=
  RC.seq (RC.region 1 [
    ⟨(some 71), .bin .lss (.t 70) (.t 69), none, 0, []⟩]) (RC.seq (RC.cond (.t 71) (RC.skip) (RC.exit 2)) (RC.seq (RC.block 3 (RC.region 5 [
    ⟨(some 72), .move (.t 7), none, 0, []⟩,
    ⟨(some 73), .nilCheck (.t 72), none, 1, []⟩,
    ⟨(some 74), .fieldAddr 7 (.t 73), none, 2, []⟩,
    ⟨(some 75), .load none (.t 74), none, 3, []⟩,
    ⟨(some 76), .call F.cyc_Hands_Alarm [(.t 75)], none, 4, []⟩])) (RC.region 2 [
    ⟨(some 77), .bin .add (.t 70) (.c (.s (.int .i64 1))), none, 0, []⟩,
    ⟨(some 70), .move (.t 77), none, 1, []⟩])))
def kern_New_l2 : RC :=
  RC.seq (RC.region 1 [
    ⟨(some 82), .bin .lss (.t 81) (.t 80), none, 0, []⟩]) (RC.seq (RC.cond (.t 82) (RC.skip) (RC.exit 4)) (RC.seq (RC.block 5 (RC.seq (RC.region 6 [
    ⟨(some 83), .move (.t 81), none, 0, []⟩,
    ⟨(some 84), .indexSl 2 (.t 79) (.t 81), none, 1, []⟩,
    ⟨(some 85), .load (some 2) (.t 84), none, 2, []⟩,
    ⟨(some 11), .newc [.int .i64 0, .bool false], none, 3, []⟩,
    ⟨(some 10), .move (.t 83), none, 4, []⟩,
    ⟨none, .store 2 (.t 11) (.t 85), none, 5, []⟩]) (RC.seq (RC.region 10 [
    ⟨(some 86), .move (.t 7), none, 0, []⟩,
    ⟨(some 87), .nilCheck (.t 86), none, 1, []⟩,
    ⟨(some 88), .fieldAddr 0 (.t 87), none, 2, []⟩,
    ⟨(some 89), .fieldAddr 5 (.t 88), none, 3, []⟩,
    ⟨(some 90), .load none (.t 89), none, 4, []⟩,
    ⟨(some 91), .move (.t 10), none, 5, []⟩,
    ⟨(some 92), .bin .add (.t 91) (.c (.s (.int .i64 1))), none, 6, []⟩,
    ⟨(some 93), .fieldAddr 0 (.t 11), none, 7, []⟩,
    ⟨(some 94), .load none (.t 93), none, 8, []⟩,
    ⟨(some 95), .call F.mtx_All_SetBase [(.t 90), (.t 92), (.t 94)], none, 9, []⟩]) (RC.region 17 [
    ⟨(some 96), .move (.t 7), none, 0, []⟩,
    ⟨(some 97), .move (.t 7), none, 1, []⟩,
    ⟨(some 98), .nilCheck (.t 97), none, 2, []⟩,
    ⟨(some 99), .fieldAddr 9 (.t 98), none, 3, []⟩,
    ⟨(some 100), .load none (.t 99), none, 4, []⟩,
    ⟨(some 102), .fieldAddr 0 (.t 11), none, 6, []⟩,
    ⟨(some 103), .load none (.t 102), none, 7, []⟩,
    ⟨(some 104), .fieldAddr 0 (.t 11), none, 8, []⟩,
    ⟨(some 105), .load none (.t 104), none, 9, []⟩,
    ⟨(some 101), .call F.tcb_New [], none, 5, [⟨100, none, (.t 99), none⟩, ⟨103, none, (.t 102), none⟩, ⟨105, none, (.t 104), none⟩]⟩,
    ⟨(some 106), .build [.ptr none, .int .i64 0, .int .i64 0, .int .i64 0, .int .i64 0, .int .i64 0, .int .i64 0, .int .i64 0] [(0, 1, (.t 101)), (1, 1, (.t 103)), (2, 1, (.t 105))], none, 10, []⟩,
    ⟨(some 107), .box (.t 106), none, 11, []⟩,
    ⟨(some 108), .buildSlice 1 1 [.ptr none] [(0, 1, (.t 107))], none, 12, []⟩,
    ⟨(some 109), .append 1 8 (.t 100) (.t 108), none, 13, []⟩,
    ⟨(some 110), .nilCheck (.t 96), none, 14, []⟩,
    ⟨(some 111), .fieldAddr 9 (.t 110), none, 15, []⟩,
    ⟨none, .store 1 (.t 111) (.t 109), none, 16, []⟩])))) (RC.region 2 [
    ⟨(some 112), .bin .add (.t 81) (.c (.s (.int .i64 1))), none, 0, []⟩,
    ⟨(some 81), .move (.t 112), none, 1, []⟩])))
def kern_New_l3 : RC :=
  RC.seq (RC.region 1 [
    ⟨(some 117), .bin .lss (.t 116) (.t 115), none, 0, []⟩]) (RC.seq (RC.cond (.t 117) (RC.skip) (RC.exit 6)) (RC.seq (RC.block 7 (RC.seq (RC.region 6 [
    ⟨(some 118), .move (.t 116), none, 0, []⟩,
    ⟨(some 119), .indexSl 2 (.t 114) (.t 116), none, 1, []⟩,
    ⟨(some 120), .load (some 2) (.t 119), none, 2, []⟩,
    ⟨(some 13), .newc [.int .i64 0, .bool false], none, 3, []⟩,
    ⟨(some 12), .move (.t 118), none, 4, []⟩,
    ⟨none, .store 2 (.t 13) (.t 120), none, 5, []⟩]) (RC.seq (RC.region 2 [
    ⟨(some 121), .fieldAddr 1 (.t 13), none, 0, []⟩,
    ⟨(some 122), .load none (.t 121), none, 1, []⟩]) (RC.cond (.t 122) (RC.region 4 [
    ⟨(some 123), .move (.t 7), none, 0, []⟩,
    ⟨(some 124), .move (.t 12), none, 1, []⟩,
    ⟨(some 125), .bin .add (.t 124) (.c (.s (.int .i64 1))), none, 2, []⟩,
    ⟨(some 126), .call F.kern_Kernel_act [(.t 123), (.t 125)], none, 3, []⟩]) (RC.skip))))) (RC.region 2 [
    ⟨(some 127), .bin .add (.t 116) (.c (.s (.int .i64 1))), none, 0, []⟩,
    ⟨(some 116), .move (.t 127), none, 1, []⟩])))
def kern_New_s4 : RC :=
  RC.seq (RC.region 2 [
    ⟨(some 128), .move (.t 7), none, 0, []⟩,
    ⟨(some 129), .call F.kern_Kernel_choose [(.t 128)], none, 1, []⟩]) (RC.seq (RC.region 3 [
    ⟨(some 130), .move (.t 7), none, 0, []⟩,
    ⟨(some 2), .move (.t 130), none, 1, []⟩,
    ⟨(some 3), .move (.c (.s (.int .i64 0))), none, 2, []⟩]) (RC.ret))
def kern_New_s5 : RC :=
  RC.seq (RC.seq (RC.region 4 [
    ⟨(some 113), .fieldAddr 1 (.t 1), none, 0, []⟩,
    ⟨(some 114), .load none (.t 113), none, 1, []⟩,
    ⟨(some 115), .len (.t 114), none, 2, []⟩,
    ⟨(some 116), .move (.c (.s (.int .i64 0))), none, 3, []⟩]) (RC.block 6 (RC.loop R.kern_New_l3))) R.kern_New_s4
def kern_New_s6 : RC :=
  RC.seq (RC.seq (RC.region 4 [
    ⟨(some 78), .fieldAddr 1 (.t 1), none, 0, []⟩,
    ⟨(some 79), .load none (.t 78), none, 1, []⟩,
    ⟨(some 80), .len (.t 79), none, 2, []⟩,
    ⟨(some 81), .move (.c (.s (.int .i64 0))), none, 3, []⟩]) (RC.block 4 (RC.loop R.kern_New_l2))) R.kern_New_s5
def kern_New_s7 : RC :=
  RC.seq (RC.seq (RC.region 3 [
    ⟨(some 68), .fieldAddr 8 (.t 1), none, 0, []⟩,
    ⟨(some 69), .load none (.t 68), none, 1, []⟩,
    ⟨(some 70), .move (.c (.s (.int .i64 0))), none, 2, []⟩]) (RC.block 2 (RC.loop R.kern_New_l1))) R.kern_New_s6
def kern_New : RFunc := RFunc.mk 131 [.tmp 2, .tmp 3] (
  RC.seq (RC.region 3 [
    ⟨(some 1), .box (.t 0), none, 0, []⟩,
    ⟨(some 2), .move (.c (.s (.ptr none))), none, 1, []⟩,
    ⟨(some 3), .move (.c (.s (.int .i64 0))), none, 2, []⟩]) (RC.seq (RC.seq (RC.region 9 [
    ⟨(some 15), .load (some 9) (.t 1), none, 0, []⟩,
    ⟨(some 16), .call F.conf_Check [(.t 15)], none, 1, []⟩,
    ⟨(some 14), .move (.t 16), none, 2, []⟩,
    ⟨(some 17), .extract 0 (.t 14), none, 3, []⟩,
    ⟨(some 18), .extract 1 (.t 14), none, 4, []⟩,
    ⟨(some 19), .extract 2 (.t 14), none, 5, []⟩,
    ⟨(some 4), .move (.t 17), none, 6, []⟩,
    ⟨(some 5), .move (.t 18), none, 7, []⟩,
    ⟨(some 6), .move (.t 19), none, 8, []⟩]) (RC.seq (RC.region 2 [
    ⟨(some 20), .move (.t 6), none, 0, []⟩,
    ⟨(some 21), .bin .neq (.t 20) (.c (.s (.int .i64 0))), none, 1, []⟩]) (RC.cond (.t 21) (RC.seq (RC.region 3 [
    ⟨(some 22), .move (.t 6), none, 0, []⟩,
    ⟨(some 2), .move (.c (.s (.ptr none))), none, 1, []⟩,
    ⟨(some 3), .move (.t 22), none, 2, []⟩]) (RC.ret)) (RC.skip)))) (RC.seq (RC.region 11 [
    ⟨(some 26), .fieldAddr 7 (.t 1), none, 3, []⟩,
    ⟨(some 27), .load none (.t 26), none, 4, []⟩,
    ⟨(some 28), .len (.t 27), none, 5, []⟩,
    ⟨(some 29), .fieldAddr 8 (.t 1), none, 6, []⟩,
    ⟨(some 30), .load none (.t 29), none, 7, []⟩,
    ⟨(some 23), .call F.ctx_New [], none, 0, [⟨27, none, (.t 26), none⟩, ⟨30, none, (.t 29), none⟩]⟩,
    ⟨(some 24), .call F.ready_New [], none, 1, [⟨27, none, (.t 26), none⟩, ⟨30, none, (.t 29), none⟩]⟩,
    ⟨(some 25), .buildSlice 1 1 [.ptr none] [(0, 1, (.c (.s (.ptr none))))], none, 2, []⟩,
    ⟨(some 31), .build [.slice none 0 0 1, .slice none 0 0 1, .slice none 0 0 1, .slice none 0 0 1, .int .i64 0, .ptr none, .ptr none, .ptr none, .ptr none, .slice none 0 0 1, .int .i64 0, .int .i64 0, .int .i64 0] [(6, 1, (.t 23)), (8, 1, (.t 24)), (9, 1, (.t 25)), (10, 1, (.t 28)), (11, 1, (.t 30))], none, 8, []⟩,
    ⟨(some 32), .box (.t 31), none, 9, []⟩,
    ⟨(some 7), .move (.t 32), none, 10, []⟩]) (RC.seq (RC.region 5 [
    ⟨(some 33), .move (.t 7), none, 0, []⟩,
    ⟨(some 34), .nilCheck (.t 33), none, 1, []⟩,
    ⟨(some 35), .fieldAddr 0 (.t 34), none, 2, []⟩,
    ⟨(some 36), .load (some 9) (.t 1), none, 3, []⟩,
    ⟨(some 37), .call F.kern_objects_build [(.t 35), (.t 36)], none, 4, []⟩]) (RC.seq (RC.region 10 [
    ⟨(some 39), .move (.t 7), none, 0, []⟩,
    ⟨(some 40), .fieldAddr 0 (.t 1), none, 1, []⟩,
    ⟨(some 41), .load none (.t 40), none, 2, []⟩,
    ⟨(some 42), .call F.cyc_NewHands [(.t 41)], none, 3, []⟩,
    ⟨(some 38), .move (.t 42), none, 4, []⟩,
    ⟨(some 43), .extract 0 (.t 38), none, 5, []⟩,
    ⟨(some 44), .extract 1 (.t 38), none, 6, []⟩,
    ⟨(some 45), .nilCheck (.t 39), none, 7, []⟩,
    ⟨(some 46), .fieldAddr 7 (.t 45), none, 8, []⟩,
    ⟨none, .store 1 (.t 46) (.t 43), none, 9, []⟩]) (RC.seq (RC.seq (RC.region 4 [
    ⟨(some 47), .fieldAddr 7 (.t 1), none, 0, []⟩,
    ⟨(some 48), .load none (.t 47), none, 1, []⟩,
    ⟨(some 49), .len (.t 48), none, 2, []⟩,
    ⟨(some 50), .move (.c (.s (.int .i64 0))), none, 3, []⟩]) (RC.block 0 (RC.loop R.kern_New_l0))) R.kern_New_s7))))))
theorem kern_New_ok : chkFunc Go.Proofs.Tryz.prog [0] Go.Proofs.Tryz.f7 kern_New = true := by kernel_rfl
def calls_Make : RFunc := RFunc.mk 13 [.cell 4 (some 5)] (
  RC.seq (RC.region 1 [
    ⟨(some 4), .newc [.int .i64 0, .int .i64 0, .int .i64 0, .int .i64 0, .int .i64 0], none, 0, []⟩]) (RC.seq (RC.region 4 [
    ⟨(some 6), .move (.t 0), none, 0, []⟩,
    ⟨(some 7), .build [.int .i64 0, .int .i64 0, .int .i64 0, .int .i64 0, .int .i64 0] [(0, 1, (.t 6))], none, 1, []⟩,
    ⟨(some 5), .newc [.int .i64 0, .int .i64 0, .int .i64 0, .int .i64 0, .int .i64 0], none, 2, []⟩,
    ⟨none, .store 5 (.t 5) (.t 7), none, 3, []⟩]) (RC.seq (RC.region 4 [
    ⟨(some 8), .fieldAddr 1 (.t 5), none, 0, []⟩,
    ⟨(some 9), .hop (.slArr 4 1) [(.t 8)], none, 1, []⟩,
    ⟨(some 10), .move (.t 1), none, 2, []⟩,
    ⟨(some 11), .copy 1 (.t 9) (.t 10), none, 3, []⟩]) (RC.seq (RC.region 2 [
    ⟨(some 12), .load (some 5) (.t 5), none, 0, []⟩,
    ⟨none, .store 5 (.t 4) (.t 12), none, 1, []⟩]) (RC.ret)))))
theorem calls_Make_ok : chkFunc Go.Proofs.Tryz.prog [0] Go.Proofs.Tryz.f8 calls_Make = true := by kernel_rfl
def judge_Look_l0 : RC :=
  RC.seq (RC.region 1 [
    ⟨(some 25), .bin .lss (.t 24) (.t 23), none, 0, []⟩]) (RC.seq (RC.cond (.t 25) (RC.skip) (RC.exit 0)) (RC.seq (RC.block 1 (RC.seq (RC.region 5 [
    ⟨(some 26), .move (.t 24), none, 0, []⟩,
    ⟨(some 27), .indexSl 1 (.t 22) (.t 24), none, 1, []⟩,
    ⟨(some 28), .load none (.t 27), none, 2, []⟩,
    ⟨(some 7), .move (.t 26), none, 3, []⟩,
    ⟨(some 8), .move (.t 28), none, 4, []⟩]) (RC.seq (RC.region 2 [
    ⟨(some 29), .move (.t 8), none, 0, []⟩,
    ⟨(some 30), .un .not (.t 29), none, 1, []⟩]) (RC.cond (.t 30) (RC.region 8 [
    ⟨(some 31), .move (.t 6), none, 0, []⟩,
    ⟨(some 32), .buildSlice 1 5 [.str ⟨#[]⟩, .str ⟨#[]⟩, .str ⟨#[]⟩, .str ⟨#[]⟩, .str ⟨#[]⟩] [(0, 1, (.c (.s (.str ⟨#[114, 117, 110, 110, 105, 110, 103]⟩)))), (1, 1, (.c (.s (.str ⟨#[114, 101, 97, 100, 121]⟩)))), (2, 1, (.c (.s (.str ⟨#[112, 114, 105]⟩)))), (3, 1, (.c (.s (.str ⟨#[119, 97, 105, 116]⟩)))), (4, 1, (.c (.s (.str ⟨#[99, 111, 117, 110, 116]⟩))))], none, 1, []⟩,
    ⟨(some 33), .move (.t 7), none, 2, []⟩,
    ⟨(some 34), .indexSl 1 (.t 32) (.t 33), none, 3, []⟩,
    ⟨(some 35), .load none (.t 34), none, 4, []⟩,
    ⟨(some 36), .buildSlice 1 1 [.str ⟨#[]⟩] [(0, 1, (.t 35))], none, 5, []⟩,
    ⟨(some 37), .append 1 16 (.t 31) (.t 36), none, 6, []⟩,
    ⟨(some 6), .move (.t 37), none, 7, []⟩]) (RC.skip))))) (RC.region 2 [
    ⟨(some 38), .bin .add (.t 24) (.c (.s (.int .i64 1))), none, 0, []⟩,
    ⟨(some 24), .move (.t 38), none, 1, []⟩])))
def judge_Look_s1 : RC :=
  RC.seq (RC.region 2 [
    ⟨(some 39), .move (.t 6), none, 0, []⟩,
    ⟨(some 4), .move (.t 39), none, 1, []⟩]) (RC.ret)
def judge_Look : RFunc := RFunc.mk 40 [.tmp 4] (
  RC.seq (RC.region 2 [
    ⟨(some 2), .box (.t 0), none, 0, []⟩,
    ⟨(some 4), .move (.c (.s (.slice none 0 0 1))), none, 1, []⟩]) (RC.seq (RC.region 5 [
    ⟨(some 9), .load (some 9) (.t 2), none, 0, []⟩,
    ⟨(some 10), .move (.t 1), none, 1, []⟩,
    ⟨(some 11), .call F.judge_look [(.t 9), (.t 10)], none, 2, []⟩,
    ⟨(some 5), .newc [.int .i64 0, .slice none 0 0 1, .slice none 0 0 1, .slice none 0 0 1, .slice none 0 0 1, .slice none 0 0 1, .slice none 0 0 1, .slice none 0 0 1, .int .i64 0, .ptr none, .slice none 0 0 1], none, 3, []⟩,
    ⟨none, .store 11 (.t 5) (.t 11), none, 4, []⟩]) (RC.seq (RC.region 1 [
    ⟨(some 6), .move (.c (.s (.slice none 0 0 1))), none, 0, []⟩]) (RC.seq (RC.seq (RC.region 13 [
    ⟨(some 12), .load (some 11) (.t 5), none, 0, []⟩,
    ⟨(some 14), .load (some 11) (.t 5), none, 2, []⟩,
    ⟨(some 16), .load (some 11) (.t 5), none, 4, []⟩,
    ⟨(some 18), .load (some 11) (.t 5), none, 6, []⟩,
    ⟨(some 20), .load (some 11) (.t 5), none, 8, []⟩,
    ⟨(some 24), .move (.c (.s (.int .i64 0))), none, 12, []⟩,
    ⟨(some 13), .call F.judge_view_running [(.t 12)], none, 1, [⟨14, (some 11), (.t 5), none⟩, ⟨16, (some 11), (.t 5), none⟩, ⟨18, (some 11), (.t 5), none⟩, ⟨20, (some 11), (.t 5), none⟩]⟩,
    ⟨(some 15), .call F.judge_view_ready [(.t 14)], none, 3, [⟨16, (some 11), (.t 5), none⟩, ⟨18, (some 11), (.t 5), none⟩, ⟨20, (some 11), (.t 5), none⟩]⟩,
    ⟨(some 17), .call F.judge_view_pri [(.t 16)], none, 5, [⟨18, (some 11), (.t 5), none⟩, ⟨20, (some 11), (.t 5), none⟩]⟩,
    ⟨(some 19), .call F.judge_view_wait [(.t 18)], none, 7, [⟨20, (some 11), (.t 5), none⟩]⟩,
    ⟨(some 21), .call F.judge_view_count [(.t 20)], none, 9, []⟩,
    ⟨(some 22), .buildSlice 1 5 [.bool false, .bool false, .bool false, .bool false, .bool false] [(0, 1, (.t 13)), (1, 1, (.t 15)), (2, 1, (.t 17)), (3, 1, (.t 19)), (4, 1, (.t 21))], none, 10, []⟩,
    ⟨(some 23), .len (.t 22), none, 11, []⟩]) (RC.block 0 (RC.loop R.judge_Look_l0))) R.judge_Look_s1))))
theorem judge_Look_ok : chkFunc Go.Proofs.Tryz.prog [0] Go.Proofs.Tryz.f9 judge_Look = true := by kernel_rfl
def judge_Watch_1_l0 : RC :=
  RC.seq (RC.region 1 [
    ⟨(some 12), .bin .lss (.t 11) (.t 10), none, 0, []⟩]) (RC.seq (RC.cond (.t 12) (RC.skip) (RC.exit 0)) (RC.seq (RC.block 1 (RC.seq (RC.region 3 [
    ⟨(some 13), .indexSl 1 (.t 9) (.t 11), none, 0, []⟩,
    ⟨(some 14), .load none (.t 13), none, 1, []⟩,
    ⟨(some 6), .move (.t 14), none, 2, []⟩]) (RC.region 7 [
    ⟨(some 15), .load none (.t 3), none, 0, []⟩,
    ⟨(some 16), .move (.t 0), none, 1, []⟩,
    ⟨(some 17), .move (.t 6), none, 2, []⟩,
    ⟨(some 18), .build [.int .i64 0, .str ⟨#[]⟩] [(0, 1, (.t 16)), (1, 1, (.t 17))], none, 3, []⟩,
    ⟨(some 19), .buildSlice 2 1 [.int .i64 0, .str ⟨#[]⟩] [(0, 2, (.t 18))], none, 4, []⟩,
    ⟨(some 20), .append 2 24 (.t 15) (.t 19), none, 5, []⟩,
    ⟨none, .store 1 (.t 3) (.t 20), none, 6, []⟩]))) (RC.region 2 [
    ⟨(some 21), .bin .add (.t 11) (.c (.s (.int .i64 1))), none, 0, []⟩,
    ⟨(some 11), .move (.t 21), none, 1, []⟩])))
def judge_Watch_1 : RFunc := RFunc.mk 22 [] (
  RC.seq (RC.region 5 [
    ⟨(some 7), .load (some 9) (.t 1), none, 0, []⟩,
    ⟨(some 8), .load none (.t 2), none, 1, []⟩,
    ⟨(some 9), .call F.judge_Look [(.t 7), (.t 8)], none, 2, []⟩,
    ⟨(some 10), .len (.t 9), none, 3, []⟩,
    ⟨(some 11), .move (.c (.s (.int .i64 0))), none, 4, []⟩]) (RC.block 0 (RC.loop R.judge_Watch_1_l0)))
theorem judge_Watch_1_ok : chkFunc Go.Proofs.Tryz.prog [0] Go.Proofs.Tryz.f10 judge_Watch_1 = true := by kernel_rfl
def judge_step_l0 : RC :=
  RC.seq (RC.region 1 [
    ⟨(some 20), .bin .lss (.t 19) (.t 18), none, 0, []⟩]) (RC.seq (RC.cond (.t 20) (RC.skip) (RC.exit 1)) (RC.seq (RC.block 2 (RC.region 2 [
    ⟨(some 21), .move (.t 0), none, 0, []⟩,
    ⟨(some 22), .call F.kern_Kernel_Tick [(.t 21)], none, 1, []⟩])) (RC.region 2 [
    ⟨(some 23), .bin .add (.t 19) (.c (.s (.int .i64 1))), none, 0, []⟩,
    ⟨(some 19), .move (.t 23), none, 1, []⟩])))
def judge_step : RFunc := RFunc.mk 34 [] (
  RC.seq (RC.region 1 [
    ⟨(some 3), .box (.t 1), none, 0, []⟩]) (RC.seq (RC.region 2 [
    ⟨(some 4), .fieldAddr 0 (.t 3), none, 0, []⟩,
    ⟨(some 5), .load none (.t 4), none, 1, []⟩]) (RC.block 0 (RC.seq (RC.region 2 [
    ⟨(some 7), .bin .eql (.t 5) (.c (.s (.int .i64 1))), none, 0, []⟩,
    ⟨(some 6), .move (.t 7), none, 1, []⟩]) (RC.cond (.t 6) (RC.region 4 [
    ⟨(some 8), .move (.t 0), none, 0, []⟩,
    ⟨(some 9), .fieldAddr 2 (.t 3), none, 1, []⟩,
    ⟨(some 10), .load (some 5) (.t 9), none, 2, []⟩,
    ⟨(some 11), .call F.kern_Kernel_Do [(.t 8), (.t 10)], none, 3, []⟩]) (RC.seq (RC.region 2 [
    ⟨(some 13), .bin .eql (.t 5) (.c (.s (.int .i64 2))), none, 0, []⟩,
    ⟨(some 12), .move (.t 13), none, 1, []⟩]) (RC.cond (.t 12) (RC.seq (RC.seq (RC.region 3 [
    ⟨(some 14), .fieldAddr 1 (.t 3), none, 0, []⟩,
    ⟨(some 15), .load none (.t 14), none, 1, []⟩,
    ⟨(some 16), .bin .gtr (.t 15) (.c (.s (.int .i64 1000))), none, 2, []⟩]) (RC.cond (.t 16) (RC.ret) (RC.skip))) (RC.seq (RC.region 3 [
    ⟨(some 17), .fieldAddr 1 (.t 3), none, 0, []⟩,
    ⟨(some 18), .load none (.t 17), none, 1, []⟩,
    ⟨(some 19), .move (.c (.s (.int .i64 0))), none, 2, []⟩]) (RC.block 1 (RC.loop R.judge_step_l0)))) (RC.seq (RC.region 2 [
    ⟨(some 25), .bin .eql (.t 5) (.c (.s (.int .i64 3))), none, 0, []⟩,
    ⟨(some 24), .move (.t 25), none, 1, []⟩]) (RC.cond (.t 24) (RC.region 4 [
    ⟨(some 26), .move (.t 0), none, 0, []⟩,
    ⟨(some 27), .fieldAddr 1 (.t 3), none, 1, []⟩,
    ⟨(some 28), .load none (.t 27), none, 2, []⟩,
    ⟨(some 29), .call F.kern_Kernel_Int [(.t 26), (.t 28)], none, 3, []⟩]) (RC.seq (RC.region 2 [
    ⟨(some 31), .bin .eql (.t 5) (.c (.s (.int .i64 4))), none, 0, []⟩,
    ⟨(some 30), .move (.t 31), none, 1, []⟩]) (RC.cond (.t 30) (RC.region 2 [
    ⟨(some 32), .move (.t 0), none, 0, []⟩,
    ⟨(some 33), .call F.kern_Kernel_Ret [(.t 32)], none, 1, []⟩]) (RC.skip))))))))))))
theorem judge_step_ok : chkFunc Go.Proofs.Tryz.prog [0] Go.Proofs.Tryz.f11 judge_step = true := by kernel_rfl
def slices_Clip__judge_Finding_judge_Finding : RFunc := RFunc.mk 9 [.tmp 2] (
  RC.seq (RC.region 1 [
    ⟨(some 2), .move (.c (.s (.slice none 0 0 1))), none, 0, []⟩]) (RC.seq (RC.region 7 [
    ⟨(some 3), .move (.t 0), none, 0, []⟩,
    ⟨(some 4), .move (.t 0), none, 1, []⟩,
    ⟨(some 5), .len (.t 4), none, 2, []⟩,
    ⟨(some 6), .move (.t 0), none, 3, []⟩,
    ⟨(some 7), .len (.t 6), none, 4, []⟩,
    ⟨(some 8), .slSl 2 (.t 3) none (some (.t 5)) (some (.t 7)), none, 5, []⟩,
    ⟨(some 2), .move (.t 8), none, 6, []⟩]) (RC.ret)))
theorem slices_Clip__judge_Finding_judge_Finding_ok : chkFunc Go.Proofs.Tryz.prog [0] Go.Proofs.Tryz.f12 slices_Clip__judge_Finding_judge_Finding = true := by kernel_rfl
def conf_Check : RFunc := RFunc.mk 59 [.tmp 2, .tmp 3, .tmp 4] (
  RC.seq (RC.region 4 [
    ⟨(some 1), .box (.t 0), none, 0, []⟩,
    ⟨(some 2), .move (.c (.s (.str ⟨#[]⟩))), none, 1, []⟩,
    ⟨(some 3), .move (.c (.s (.int .i64 0))), none, 2, []⟩,
    ⟨(some 4), .move (.c (.s (.int .i64 0))), none, 3, []⟩]) (RC.seq (RC.region 9 [
    ⟨(some 9), .fieldAddr 0 (.t 1), none, 0, []⟩,
    ⟨(some 10), .load none (.t 9), none, 1, []⟩,
    ⟨(some 11), .call F.cyc_NewHands [(.t 10)], none, 2, []⟩,
    ⟨(some 8), .move (.t 11), none, 3, []⟩,
    ⟨(some 12), .extract 0 (.t 8), none, 4, []⟩,
    ⟨(some 13), .extract 1 (.t 8), none, 5, []⟩,
    ⟨(some 5), .newc [.ptr none], none, 6, []⟩,
    ⟨none, .store 1 (.t 5) (.t 12), none, 7, []⟩,
    ⟨(some 6), .move (.t 13), none, 8, []⟩]) (RC.seq (RC.seq (RC.region 2 [
    ⟨(some 14), .move (.t 6), none, 0, []⟩,
    ⟨(some 15), .bin .neq (.t 14) (.c (.s (.int .i64 0))), none, 1, []⟩]) (RC.cond (.t 15) (RC.seq (RC.region 4 [
    ⟨(some 16), .move (.t 6), none, 0, []⟩,
    ⟨(some 2), .move (.c (.s (.str ⟨#[116, 105, 99]⟩))), none, 1, []⟩,
    ⟨(some 3), .move (.c (.s (.int .i64 0))), none, 2, []⟩,
    ⟨(some 4), .move (.t 16), none, 3, []⟩]) (RC.ret)) (RC.skip))) (RC.seq (RC.region 2 [
    ⟨(some 7), .newc [.int .i64 0], none, 0, []⟩,
    ⟨none, .store 1 (.t 7) (.c (.s (.int .i64 0))), none, 1, []⟩]) (RC.seq (RC.region 45 [
    ⟨(some 17), .fieldAddr 1 (.t 1), none, 0, []⟩,
    ⟨(some 18), .load none (.t 17), none, 1, []⟩,
    ⟨(some 19), .len (.t 18), none, 2, []⟩,
    ⟨(some 20), .makeFunc F.conf_Check_1 [(.t 1)], none, 3, []⟩,
    ⟨(some 21), .build [.str ⟨#[]⟩, .str ⟨#[]⟩, .int .i64 0, .int .i64 0, .int .i64 0, .nilfn] [(0, 1, (.c (.s (.str ⟨#[116, 97, 115, 107]⟩)))), (1, 1, (.c (.s (.str ⟨#[116, 97, 115, 107, 115]⟩)))), (2, 1, (.t 19)), (3, 1, (.c (.s (.int .i64 1)))), (4, 1, (.c (.s (.int .i64 16)))), (5, 1, (.t 20))], none, 4, []⟩,
    ⟨(some 22), .fieldAddr 2 (.t 1), none, 5, []⟩,
    ⟨(some 23), .load none (.t 22), none, 6, []⟩,
    ⟨(some 24), .len (.t 23), none, 7, []⟩,
    ⟨(some 25), .makeFunc F.conf_Check_2 [(.t 1)], none, 8, []⟩,
    ⟨(some 27), .fieldAddr 3 (.t 1), none, 10, []⟩,
    ⟨(some 28), .load none (.t 27), none, 11, []⟩,
    ⟨(some 29), .len (.t 28), none, 12, []⟩,
    ⟨(some 31), .fieldAddr 4 (.t 1), none, 14, []⟩,
    ⟨(some 32), .load none (.t 31), none, 15, []⟩,
    ⟨(some 33), .len (.t 32), none, 16, []⟩,
    ⟨(some 34), .makeFunc F.conf_Check_3 [(.t 1)], none, 17, []⟩,
    ⟨(some 36), .fieldAddr 5 (.t 1), none, 19, []⟩,
    ⟨(some 37), .load none (.t 36), none, 20, []⟩,
    ⟨(some 38), .len (.t 37), none, 21, []⟩,
    ⟨(some 39), .makeFunc F.conf_Check_4 [(.t 1)], none, 22, []⟩,
    ⟨(some 41), .fieldAddr 6 (.t 1), none, 24, []⟩,
    ⟨(some 42), .load none (.t 41), none, 25, []⟩,
    ⟨(some 43), .len (.t 42), none, 26, []⟩,
    ⟨(some 44), .makeFunc F.conf_Check_5 [(.t 7), (.t 1)], none, 27, []⟩,
    ⟨(some 46), .fieldAddr 7 (.t 1), none, 29, []⟩,
    ⟨(some 47), .load none (.t 46), none, 30, []⟩,
    ⟨(some 48), .len (.t 47), none, 31, []⟩,
    ⟨(some 49), .makeFunc F.conf_Check_6 [(.t 1), (.t 5)], none, 32, []⟩,
    ⟨(some 51), .fieldAddr 8 (.t 1), none, 34, []⟩,
    ⟨(some 52), .load none (.t 51), none, 35, []⟩,
    ⟨(some 26), .call F.conf_objects [(.c (.s (.str ⟨#[115, 101, 109]⟩))), (.t 24), (.t 25)], none, 9, [⟨18, none, (.t 17), none⟩, ⟨28, none, (.t 27), none⟩, ⟨32, none, (.t 31), none⟩, ⟨37, none, (.t 36), none⟩, ⟨42, none, (.t 41), none⟩, ⟨47, none, (.t 46), none⟩, ⟨52, none, (.t 51), none⟩]⟩,
    ⟨(some 30), .call F.conf_objects [(.c (.s (.str ⟨#[102, 108, 97, 103]⟩))), (.t 29), (.c (.s (.fn F.conf_fine [])))], none, 13, [⟨18, none, (.t 17), none⟩, ⟨32, none, (.t 31), none⟩, ⟨37, none, (.t 36), none⟩, ⟨42, none, (.t 41), none⟩, ⟨47, none, (.t 46), none⟩, ⟨52, none, (.t 51), none⟩]⟩,
    ⟨(some 35), .call F.conf_objects [(.c (.s (.str ⟨#[100, 97, 116, 97]⟩))), (.t 33), (.t 34)], none, 18, [⟨18, none, (.t 17), none⟩, ⟨37, none, (.t 36), none⟩, ⟨42, none, (.t 41), none⟩, ⟨47, none, (.t 46), none⟩, ⟨52, none, (.t 51), none⟩]⟩,
    ⟨(some 40), .call F.conf_objects [(.c (.s (.str ⟨#[109, 116, 120]⟩))), (.t 38), (.t 39)], none, 23, [⟨18, none, (.t 17), none⟩, ⟨42, none, (.t 41), none⟩, ⟨47, none, (.t 46), none⟩, ⟨52, none, (.t 51), none⟩]⟩,
    ⟨(some 45), .call F.conf_objects [(.c (.s (.str ⟨#[112, 111, 111, 108]⟩))), (.t 43), (.t 44)], none, 28, [⟨18, none, (.t 17), none⟩, ⟨47, none, (.t 46), none⟩, ⟨52, none, (.t 51), none⟩]⟩,
    ⟨(some 50), .call F.conf_objects [(.c (.s (.str ⟨#[99, 121, 99]⟩))), (.t 48), (.t 49)], none, 33, [⟨18, none, (.t 17), none⟩, ⟨52, none, (.t 51), none⟩]⟩,
    ⟨(some 53), .call F.conf_objects [(.c (.s (.str ⟨#[97, 108, 97, 114, 109]⟩))), (.t 52), (.c (.s (.fn F.conf_fine [])))], none, 36, [⟨18, none, (.t 17), none⟩]⟩,
    ⟨(some 54), .buildSlice 6 8 [.str ⟨#[]⟩, .str ⟨#[]⟩, .int .i64 0, .int .i64 0, .int .i64 0, .nilfn, .str ⟨#[]⟩, .str ⟨#[]⟩, .int .i64 0, .int .i64 0, .int .i64 0, .nilfn, .str ⟨#[]⟩, .str ⟨#[]⟩, .int .i64 0, .int .i64 0, .int .i64 0, .nilfn, .str ⟨#[]⟩, .str ⟨#[]⟩, .int .i64 0, .int .i64 0, .int .i64 0, .nilfn, .str ⟨#[]⟩, .str ⟨#[]⟩, .int .i64 0, .int .i64 0, .int .i64 0, .nilfn, .str ⟨#[]⟩, .str ⟨#[]⟩, .int .i64 0, .int .i64 0, .int .i64 0, .nilfn, .str ⟨#[]⟩, .str ⟨#[]⟩, .int .i64 0, .int .i64 0, .int .i64 0, .nilfn, .str ⟨#[]⟩, .str ⟨#[]⟩, .int .i64 0, .int .i64 0, .int .i64 0, .nilfn] [(0, 6, (.t 21)), (6, 6, (.t 26)), (12, 6, (.t 30)), (18, 6, (.t 35)), (24, 6, (.t 40)), (30, 6, (.t 45)), (36, 6, (.t 50)), (42, 6, (.t 53))], none, 37, []⟩,
    ⟨(some 55), .call F.conf_first [(.t 54)], none, 38, []⟩,
    ⟨(some 56), .extract 0 (.t 55), none, 39, []⟩,
    ⟨(some 57), .extract 1 (.t 55), none, 40, []⟩,
    ⟨(some 58), .extract 2 (.t 55), none, 41, []⟩,
    ⟨(some 2), .move (.t 56), none, 42, []⟩,
    ⟨(some 3), .move (.t 57), none, 43, []⟩,
    ⟨(some 4), .move (.t 58), none, 44, []⟩]) (RC.ret))))))
theorem conf_Check_ok : chkFunc Go.Proofs.Tryz.prog [0] Go.Proofs.Tryz.f13 conf_Check = true := by kernel_rfl
def ctx_New : RFunc := RFunc.mk 3 [.tmp 0] (
  RC.seq (RC.region 1 [
    ⟨(some 0), .move (.c (.s (.ptr none))), none, 0, []⟩]) (RC.seq (RC.region 3 [
    ⟨(some 1), .build [.slice none 0 0 1, .bool false, .bool false] [], none, 0, []⟩,
    ⟨(some 2), .box (.t 1), none, 1, []⟩,
    ⟨(some 0), .move (.t 2), none, 2, []⟩]) (RC.ret)))
theorem ctx_New_ok : chkFunc Go.Proofs.Tryz.prog [0] Go.Proofs.Tryz.f14 ctx_New = true := by kernel_rfl
def ready_New : RFunc := RFunc.mk 3 [.tmp 0] (
  RC.seq (RC.region 1 [
    ⟨(some 0), .move (.c (.s (.ptr none))), none, 0, []⟩]) (RC.seq (RC.region 3 [
    ⟨(some 1), .build [.int .u64 0, .int .u64 0, .int .u64 0, .int .u64 0, .slice none 0 0 1, .slice none 0 0 1, .slice none 0 0 1, .slice none 0 0 1, .slice none 0 0 1, .slice none 0 0 1, .slice none 0 0 1, .slice none 0 0 1, .slice none 0 0 1, .slice none 0 0 1, .slice none 0 0 1, .slice none 0 0 1, .slice none 0 0 1, .slice none 0 0 1, .slice none 0 0 1, .slice none 0 0 1, .slice none 0 0 1, .int .i64 0, .int .i64 0, .int .i64 0, .int .i64 0, .int .i64 0, .int .i64 0, .int .i64 0, .int .i64 0, .int .i64 0, .int .i64 0, .int .i64 0, .int .i64 0, .int .i64 0, .int .i64 0, .int .i64 0, .int .i64 0, .int .i64 0] [], none, 0, []⟩,
    ⟨(some 2), .box (.t 1), none, 1, []⟩,
    ⟨(some 0), .move (.t 2), none, 2, []⟩]) (RC.ret)))
theorem ready_New_ok : chkFunc Go.Proofs.Tryz.prog [0] Go.Proofs.Tryz.f15 ready_New = true := by kernel_rfl
def kern_objects_build_l0 : RC :=
  RC.seq (RC.region 1 [
    ⟨(some 38), .bin .lss (.t 37) (.t 36), none, 0, []⟩]) (RC.seq (RC.cond (.t 38) (RC.skip) (RC.exit 0)) (RC.seq (RC.block 1 (RC.seq (RC.region 4 [
    ⟨(some 39), .indexSl 3 (.t 35) (.t 37), none, 0, []⟩,
    ⟨(some 40), .load (some 3) (.t 39), none, 1, []⟩,
    ⟨(some 5), .newc [.bool false, .int .i64 0, .int .i64 0], none, 2, []⟩,
    ⟨none, .store 3 (.t 5) (.t 40), none, 3, []⟩]) (RC.seq (RC.region 12 [
    ⟨(some 42), .fieldAddr 0 (.t 5), none, 0, []⟩,
    ⟨(some 43), .load none (.t 42), none, 1, []⟩,
    ⟨(some 44), .fieldAddr 1 (.t 5), none, 2, []⟩,
    ⟨(some 45), .load none (.t 44), none, 3, []⟩,
    ⟨(some 46), .fieldAddr 2 (.t 5), none, 4, []⟩,
    ⟨(some 47), .load none (.t 46), none, 5, []⟩,
    ⟨(some 48), .call F.sem_NewSem [(.t 43), (.t 45), (.t 47)], none, 6, []⟩,
    ⟨(some 41), .move (.t 48), none, 7, []⟩,
    ⟨(some 49), .extract 0 (.t 41), none, 8, []⟩,
    ⟨(some 50), .extract 1 (.t 41), none, 9, []⟩,
    ⟨(some 6), .move (.t 49), none, 10, []⟩,
    ⟨(some 7), .move (.t 50), none, 11, []⟩]) (RC.region 11 [
    ⟨(some 51), .move (.t 0), none, 0, []⟩,
    ⟨(some 52), .move (.t 0), none, 1, []⟩,
    ⟨(some 53), .nilCheck (.t 52), none, 2, []⟩,
    ⟨(some 54), .fieldAddr 0 (.t 53), none, 3, []⟩,
    ⟨(some 55), .load none (.t 54), none, 4, []⟩,
    ⟨(some 56), .move (.t 6), none, 5, []⟩,
    ⟨(some 57), .buildSlice 1 1 [.ptr none] [(0, 1, (.t 56))], none, 6, []⟩,
    ⟨(some 58), .append 1 8 (.t 55) (.t 57), none, 7, []⟩,
    ⟨(some 59), .nilCheck (.t 51), none, 8, []⟩,
    ⟨(some 60), .fieldAddr 0 (.t 59), none, 9, []⟩,
    ⟨none, .store 1 (.t 60) (.t 58), none, 10, []⟩])))) (RC.region 2 [
    ⟨(some 61), .bin .add (.t 37) (.c (.s (.int .i64 1))), none, 0, []⟩,
    ⟨(some 37), .move (.t 61), none, 1, []⟩])))
def kern_objects_build_l1 : RC :=
  RC.seq (RC.region 1 [
    ⟨(some 66), .bin .lss (.t 65) (.t 64), none, 0, []⟩]) (RC.seq (RC.cond (.t 66) (RC.skip) (RC.exit 2)) (RC.seq (RC.block 3 (RC.seq (RC.region 4 [
    ⟨(some 67), .indexSl 4 (.t 63) (.t 65), none, 0, []⟩,
    ⟨(some 68), .load (some 4) (.t 67), none, 1, []⟩,
    ⟨(some 9), .newc [.bool false, .bool false, .bool false, .int .u32 0], none, 2, []⟩,
    ⟨none, .store 4 (.t 9) (.t 68), none, 3, []⟩]) (RC.region 19 [
    ⟨(some 69), .move (.t 0), none, 0, []⟩,
    ⟨(some 70), .move (.t 0), none, 1, []⟩,
    ⟨(some 71), .nilCheck (.t 70), none, 2, []⟩,
    ⟨(some 72), .fieldAddr 1 (.t 71), none, 3, []⟩,
    ⟨(some 73), .load none (.t 72), none, 4, []⟩,
    ⟨(some 74), .fieldAddr 0 (.t 9), none, 5, []⟩,
    ⟨(some 75), .load none (.t 74), none, 6, []⟩,
    ⟨(some 76), .fieldAddr 1 (.t 9), none, 7, []⟩,
    ⟨(some 77), .load none (.t 76), none, 8, []⟩,
    ⟨(some 78), .fieldAddr 2 (.t 9), none, 9, []⟩,
    ⟨(some 79), .load none (.t 78), none, 10, []⟩,
    ⟨(some 80), .fieldAddr 3 (.t 9), none, 11, []⟩,
    ⟨(some 81), .load none (.t 80), none, 12, []⟩,
    ⟨(some 82), .call F.flag_NewFlag [(.t 75), (.t 77), (.t 79), (.t 81)], none, 13, [⟨73, none, (.t 72), none⟩]⟩,
    ⟨(some 83), .buildSlice 1 1 [.ptr none] [(0, 1, (.t 82))], none, 14, []⟩,
    ⟨(some 84), .append 1 8 (.t 73) (.t 83), none, 15, []⟩,
    ⟨(some 85), .nilCheck (.t 69), none, 16, []⟩,
    ⟨(some 86), .fieldAddr 1 (.t 85), none, 17, []⟩,
    ⟨none, .store 1 (.t 86) (.t 84), none, 18, []⟩]))) (RC.region 2 [
    ⟨(some 87), .bin .add (.t 65) (.c (.s (.int .i64 1))), none, 0, []⟩,
    ⟨(some 65), .move (.t 87), none, 1, []⟩])))
def kern_objects_build_l2 : RC :=
  RC.seq (RC.region 1 [
    ⟨(some 92), .bin .lss (.t 91) (.t 90), none, 0, []⟩]) (RC.seq (RC.cond (.t 92) (RC.skip) (RC.exit 4)) (RC.seq (RC.block 5 (RC.seq (RC.region 4 [
    ⟨(some 93), .indexSl 2 (.t 89) (.t 91), none, 0, []⟩,
    ⟨(some 94), .load (some 2) (.t 93), none, 1, []⟩,
    ⟨(some 11), .newc [.bool false, .int .i64 0], none, 2, []⟩,
    ⟨none, .store 2 (.t 11) (.t 94), none, 3, []⟩]) (RC.seq (RC.region 10 [
    ⟨(some 96), .fieldAddr 0 (.t 11), none, 0, []⟩,
    ⟨(some 97), .load none (.t 96), none, 1, []⟩,
    ⟨(some 98), .fieldAddr 1 (.t 11), none, 2, []⟩,
    ⟨(some 99), .load none (.t 98), none, 3, []⟩,
    ⟨(some 100), .call F.dtq_New [(.t 97), (.t 99)], none, 4, []⟩,
    ⟨(some 95), .move (.t 100), none, 5, []⟩,
    ⟨(some 101), .extract 0 (.t 95), none, 6, []⟩,
    ⟨(some 102), .extract 1 (.t 95), none, 7, []⟩,
    ⟨(some 12), .move (.t 101), none, 8, []⟩,
    ⟨(some 13), .move (.t 102), none, 9, []⟩]) (RC.region 11 [
    ⟨(some 103), .move (.t 0), none, 0, []⟩,
    ⟨(some 104), .move (.t 0), none, 1, []⟩,
    ⟨(some 105), .nilCheck (.t 104), none, 2, []⟩,
    ⟨(some 106), .fieldAddr 2 (.t 105), none, 3, []⟩,
    ⟨(some 107), .load none (.t 106), none, 4, []⟩,
    ⟨(some 108), .move (.t 12), none, 5, []⟩,
    ⟨(some 109), .buildSlice 1 1 [.ptr none] [(0, 1, (.t 108))], none, 6, []⟩,
    ⟨(some 110), .append 1 8 (.t 107) (.t 109), none, 7, []⟩,
    ⟨(some 111), .nilCheck (.t 103), none, 8, []⟩,
    ⟨(some 112), .fieldAddr 2 (.t 111), none, 9, []⟩,
    ⟨none, .store 1 (.t 112) (.t 110), none, 10, []⟩])))) (RC.region 2 [
    ⟨(some 113), .bin .add (.t 91) (.c (.s (.int .i64 1))), none, 0, []⟩,
    ⟨(some 91), .move (.t 113), none, 1, []⟩])))
def kern_objects_build_l3 : RC :=
  RC.seq (RC.region 1 [
    ⟨(some 118), .bin .lss (.t 117) (.t 116), none, 0, []⟩]) (RC.seq (RC.cond (.t 118) (RC.skip) (RC.exit 6)) (RC.seq (RC.block 7 (RC.seq (RC.region 5 [
    ⟨(some 119), .move (.t 117), none, 0, []⟩,
    ⟨(some 120), .indexSl 1 (.t 115) (.t 117), none, 1, []⟩,
    ⟨(some 121), .load none (.t 120), none, 2, []⟩,
    ⟨(some 14), .move (.t 119), none, 3, []⟩,
    ⟨(some 15), .move (.t 121), none, 4, []⟩]) (RC.seq (RC.region 7 [
    ⟨(some 122), .fieldAddr 6 (.t 3), none, 0, []⟩,
    ⟨(some 123), .load none (.t 122), none, 1, []⟩,
    ⟨(some 124), .move (.t 14), none, 2, []⟩,
    ⟨(some 125), .indexSl 3 (.t 123) (.t 124), none, 3, []⟩,
    ⟨(some 126), .load (some 3) (.t 125), none, 4, []⟩,
    ⟨(some 16), .newc [.bool false, .int .i64 0, .int .i64 0], none, 5, []⟩,
    ⟨none, .store 3 (.t 16) (.t 126), none, 6, []⟩]) (RC.seq (RC.region 13 [
    ⟨(some 128), .fieldAddr 0 (.t 16), none, 0, []⟩,
    ⟨(some 129), .load none (.t 128), none, 1, []⟩,
    ⟨(some 130), .move (.t 15), none, 2, []⟩,
    ⟨(some 131), .fieldAddr 1 (.t 16), none, 3, []⟩,
    ⟨(some 132), .load none (.t 131), none, 4, []⟩,
    ⟨(some 133), .fieldAddr 2 (.t 16), none, 5, []⟩,
    ⟨(some 134), .load none (.t 133), none, 6, []⟩,
    ⟨(some 135), .call F.mpf_NewPool [(.t 129), (.t 130), (.t 132), (.t 134)], none, 7, []⟩,
    ⟨(some 127), .move (.t 135), none, 8, []⟩,
    ⟨(some 136), .extract 0 (.t 127), none, 9, []⟩,
    ⟨(some 137), .extract 1 (.t 127), none, 10, []⟩,
    ⟨(some 17), .move (.t 136), none, 11, []⟩,
    ⟨(some 18), .move (.t 137), none, 12, []⟩]) (RC.region 11 [
    ⟨(some 138), .move (.t 0), none, 0, []⟩,
    ⟨(some 139), .move (.t 0), none, 1, []⟩,
    ⟨(some 140), .nilCheck (.t 139), none, 2, []⟩,
    ⟨(some 141), .fieldAddr 3 (.t 140), none, 3, []⟩,
    ⟨(some 142), .load none (.t 141), none, 4, []⟩,
    ⟨(some 143), .move (.t 17), none, 5, []⟩,
    ⟨(some 144), .buildSlice 1 1 [.ptr none] [(0, 1, (.t 143))], none, 6, []⟩,
    ⟨(some 145), .append 1 8 (.t 142) (.t 144), none, 7, []⟩,
    ⟨(some 146), .nilCheck (.t 138), none, 8, []⟩,
    ⟨(some 147), .fieldAddr 3 (.t 146), none, 9, []⟩,
    ⟨none, .store 1 (.t 147) (.t 145), none, 10, []⟩]))))) (RC.region 2 [
    ⟨(some 148), .bin .add (.t 117) (.c (.s (.int .i64 1))), none, 0, []⟩,
    ⟨(some 117), .move (.t 148), none, 1, []⟩])))
def kern_objects_build_s4 : RC :=
  RC.seq (RC.region 4 [
    ⟨(some 114), .load (some 9) (.t 3), none, 0, []⟩,
    ⟨(some 115), .call F.conf_Layout [(.t 114)], none, 1, []⟩,
    ⟨(some 116), .len (.t 115), none, 2, []⟩,
    ⟨(some 117), .move (.c (.s (.int .i64 0))), none, 3, []⟩]) (RC.block 6 (RC.loop R.kern_objects_build_l3))
def kern_objects_build_s5 : RC :=
  RC.seq (RC.seq (RC.region 4 [
    ⟨(some 88), .fieldAddr 4 (.t 3), none, 0, []⟩,
    ⟨(some 89), .load none (.t 88), none, 1, []⟩,
    ⟨(some 90), .len (.t 89), none, 2, []⟩,
    ⟨(some 91), .move (.c (.s (.int .i64 0))), none, 3, []⟩]) (RC.block 4 (RC.loop R.kern_objects_build_l2))) R.kern_objects_build_s4
def kern_objects_build_s6 : RC :=
  RC.seq (RC.seq (RC.region 4 [
    ⟨(some 62), .fieldAddr 3 (.t 3), none, 0, []⟩,
    ⟨(some 63), .load none (.t 62), none, 1, []⟩,
    ⟨(some 64), .len (.t 63), none, 2, []⟩,
    ⟨(some 65), .move (.c (.s (.int .i64 0))), none, 3, []⟩]) (RC.block 2 (RC.loop R.kern_objects_build_l1))) R.kern_objects_build_s5
def kern_objects_build : RFunc := RFunc.mk 149 [] (
  RC.seq (RC.region 1 [
    ⟨(some 3), .box (.t 1), none, 0, []⟩]) (RC.seq (RC.region 10 [
    ⟨(some 20), .move (.t 0), none, 0, []⟩,
    ⟨(some 21), .fieldAddr 5 (.t 3), none, 1, []⟩,
    ⟨(some 22), .load none (.t 21), none, 2, []⟩,
    ⟨(some 23), .call F.mtx_New [(.t 22)], none, 3, []⟩,
    ⟨(some 19), .move (.t 23), none, 4, []⟩,
    ⟨(some 24), .extract 0 (.t 19), none, 5, []⟩,
    ⟨(some 25), .extract 1 (.t 19), none, 6, []⟩,
    ⟨(some 26), .nilCheck (.t 20), none, 7, []⟩,
    ⟨(some 27), .fieldAddr 5 (.t 26), none, 8, []⟩,
    ⟨none, .store 1 (.t 27) (.t 24), none, 9, []⟩]) (RC.seq (RC.region 7 [
    ⟨(some 28), .move (.t 0), none, 0, []⟩,
    ⟨(some 29), .fieldAddr 5 (.t 3), none, 1, []⟩,
    ⟨(some 30), .load none (.t 29), none, 2, []⟩,
    ⟨(some 31), .len (.t 30), none, 3, []⟩,
    ⟨(some 32), .nilCheck (.t 28), none, 4, []⟩,
    ⟨(some 33), .fieldAddr 4 (.t 32), none, 5, []⟩,
    ⟨none, .store 1 (.t 33) (.t 31), none, 6, []⟩]) (RC.seq (RC.seq (RC.region 4 [
    ⟨(some 34), .fieldAddr 2 (.t 3), none, 0, []⟩,
    ⟨(some 35), .load none (.t 34), none, 1, []⟩,
    ⟨(some 36), .len (.t 35), none, 2, []⟩,
    ⟨(some 37), .move (.c (.s (.int .i64 0))), none, 3, []⟩]) (RC.block 0 (RC.loop R.kern_objects_build_l0))) R.kern_objects_build_s6))))
theorem kern_objects_build_ok : chkFunc Go.Proofs.Tryz.prog [0] Go.Proofs.Tryz.f16 kern_objects_build = true := by kernel_rfl
def cyc_NewHands : RFunc := RFunc.mk 19 [.tmp 2, .tmp 3] (
  RC.seq (RC.region 2 [
    ⟨(some 2), .move (.c (.s (.ptr none))), none, 0, []⟩,
    ⟨(some 3), .move (.c (.s (.int .i64 0))), none, 1, []⟩]) (RC.seq (RC.region 7 [
    ⟨(some 7), .move (.t 0), none, 0, []⟩,
    ⟨(some 8), .call F.clock_NewClock [(.t 7)], none, 1, []⟩,
    ⟨(some 6), .move (.t 8), none, 2, []⟩,
    ⟨(some 9), .extract 0 (.t 6), none, 3, []⟩,
    ⟨(some 10), .extract 1 (.t 6), none, 4, []⟩,
    ⟨(some 4), .move (.t 9), none, 5, []⟩,
    ⟨(some 5), .move (.t 10), none, 6, []⟩]) (RC.seq (RC.seq (RC.region 2 [
    ⟨(some 11), .move (.t 5), none, 0, []⟩,
    ⟨(some 12), .bin .neq (.t 11) (.c (.s (.int .i64 0))), none, 1, []⟩]) (RC.cond (.t 12) (RC.seq (RC.region 3 [
    ⟨(some 13), .move (.t 5), none, 0, []⟩,
    ⟨(some 2), .move (.c (.s (.ptr none))), none, 1, []⟩,
    ⟨(some 3), .move (.t 13), none, 2, []⟩]) (RC.ret)) (RC.skip))) (RC.seq (RC.region 7 [
    ⟨(some 14), .move (.t 4), none, 0, []⟩,
    ⟨(some 15), .move (.t 0), none, 1, []⟩,
    ⟨(some 16), .conv .u64 (.t 15), none, 2, []⟩,
    ⟨(some 17), .build [.ptr none, .int .u64 0, .slice none 0 0 1, .slice none 0 0 1] [(0, 1, (.t 14)), (1, 1, (.t 16))], none, 3, []⟩,
    ⟨(some 18), .box (.t 17), none, 4, []⟩,
    ⟨(some 2), .move (.t 18), none, 5, []⟩,
    ⟨(some 3), .move (.c (.s (.int .i64 0))), none, 6, []⟩]) (RC.ret)))))
theorem cyc_NewHands_ok : chkFunc Go.Proofs.Tryz.prog [0] Go.Proofs.Tryz.f17 cyc_NewHands = true := by kernel_rfl
def cyc_Hands_Cyclic : RFunc := RFunc.mk 67 [.tmp 10, .tmp 11] (
  RC.seq (RC.region 2 [
    ⟨(some 10), .move (.c (.s (.int .i64 0))), none, 0, []⟩,
    ⟨(some 11), .move (.c (.s (.int .i64 0))), none, 1, []⟩]) (RC.seq (RC.region 7 [
    ⟨(some 17), .move (.t 1), none, 0, []⟩,
    ⟨(some 18), .call F.nums_Rel [(.t 17)], none, 1, []⟩,
    ⟨(some 16), .move (.t 18), none, 2, []⟩,
    ⟨(some 19), .extract 0 (.t 16), none, 3, []⟩,
    ⟨(some 20), .extract 1 (.t 16), none, 4, []⟩,
    ⟨(some 12), .move (.t 19), none, 5, []⟩,
    ⟨(some 13), .move (.t 20), none, 6, []⟩]) (RC.seq (RC.region 7 [
    ⟨(some 22), .move (.t 2), none, 0, []⟩,
    ⟨(some 23), .call F.nums_Rel [(.t 22)], none, 1, []⟩,
    ⟨(some 21), .move (.t 23), none, 2, []⟩,
    ⟨(some 24), .extract 0 (.t 21), none, 3, []⟩,
    ⟨(some 25), .extract 1 (.t 21), none, 4, []⟩,
    ⟨(some 14), .move (.t 24), none, 5, []⟩,
    ⟨(some 15), .move (.t 25), none, 6, []⟩]) (RC.seq (RC.block 0 (RC.seq (RC.region 7 [
    ⟨(some 27), .move (.t 12), none, 0, []⟩,
    ⟨(some 28), .bin .eql (.t 27) (.c (.s (.int .u64 0))), none, 1, []⟩,
    ⟨(some 29), .move (.t 28), none, 2, []⟩,
    ⟨(some 30), .move (.t 15), (some (29, false)), 3, []⟩,
    ⟨(some 31), .bin .neq (.t 30) (.c (.s (.int .i64 0))), (some (29, false)), 4, []⟩,
    ⟨(some 32), .pick (.t 29) (.c (.s (.bool true))) (.t 31), none, 5, []⟩,
    ⟨(some 26), .move (.t 32), none, 6, []⟩]) (RC.cond (.t 26) (RC.seq (RC.region 2 [
    ⟨(some 10), .move (.c (.s (.int .i64 0))), none, 0, []⟩,
    ⟨(some 11), .move (.c (.s (.int .i64 (-17)))), none, 1, []⟩]) (RC.ret)) (RC.seq (RC.region 7 [
    ⟨(some 34), .move (.t 0), none, 0, []⟩,
    ⟨(some 35), .nilCheck (.t 34), none, 1, []⟩,
    ⟨(some 36), .fieldAddr 2 (.t 35), none, 2, []⟩,
    ⟨(some 37), .load none (.t 36), none, 3, []⟩,
    ⟨(some 38), .len (.t 37), none, 4, []⟩,
    ⟨(some 39), .bin .geq (.t 38) (.c (.s (.int .i64 8))), none, 5, []⟩,
    ⟨(some 33), .move (.t 39), none, 6, []⟩]) (RC.cond (.t 33) (RC.seq (RC.region 2 [
    ⟨(some 10), .move (.c (.s (.int .i64 0))), none, 0, []⟩,
    ⟨(some 11), .move (.c (.s (.int .i64 (-33)))), none, 1, []⟩]) (RC.ret)) (RC.skip)))))) (RC.seq (RC.region 8 [
    ⟨(some 40), .move (.t 14), none, 0, []⟩,
    ⟨(some 41), .move (.t 0), none, 1, []⟩,
    ⟨(some 42), .nilCheck (.t 41), none, 2, []⟩,
    ⟨(some 43), .fieldAddr 0 (.t 42), none, 3, []⟩,
    ⟨(some 44), .load none (.t 43), none, 4, []⟩,
    ⟨(some 45), .call F.clock_Clock_Up [(.t 44)], none, 5, []⟩,
    ⟨(some 46), .bin .add (.t 40) (.t 45), none, 6, []⟩,
    ⟨(some 14), .move (.t 46), none, 7, []⟩]) (RC.seq (RC.region 16 [
    ⟨(some 47), .move (.t 0), none, 0, []⟩,
    ⟨(some 48), .move (.t 0), none, 1, []⟩,
    ⟨(some 49), .nilCheck (.t 48), none, 2, []⟩,
    ⟨(some 50), .fieldAddr 2 (.t 49), none, 3, []⟩,
    ⟨(some 51), .load none (.t 50), none, 4, []⟩,
    ⟨(some 52), .move (.t 14), none, 5, []⟩,
    ⟨(some 53), .move (.t 14), none, 6, []⟩,
    ⟨(some 54), .move (.t 12), none, 7, []⟩,
    ⟨(some 55), .move (.t 3), none, 8, []⟩,
    ⟨(some 56), .move (.t 4), none, 9, []⟩,
    ⟨(some 57), .build [.int .u64 0, .int .u64 0, .int .u64 0, .bool false, .bool false] [(0, 1, (.t 52)), (1, 1, (.t 53)), (2, 1, (.t 54)), (3, 1, (.t 55)), (4, 1, (.t 56))], none, 10, []⟩,
    ⟨(some 58), .buildSlice 5 1 [.int .u64 0, .int .u64 0, .int .u64 0, .bool false, .bool false] [(0, 5, (.t 57))], none, 11, []⟩,
    ⟨(some 59), .append 5 32 (.t 51) (.t 58), none, 12, []⟩,
    ⟨(some 60), .nilCheck (.t 47), none, 13, []⟩,
    ⟨(some 61), .fieldAddr 2 (.t 60), none, 14, []⟩,
    ⟨none, .store 1 (.t 61) (.t 59), none, 15, []⟩]) (RC.seq (RC.region 7 [
    ⟨(some 62), .move (.t 0), none, 0, []⟩,
    ⟨(some 63), .nilCheck (.t 62), none, 1, []⟩,
    ⟨(some 64), .fieldAddr 2 (.t 63), none, 2, []⟩,
    ⟨(some 65), .load none (.t 64), none, 3, []⟩,
    ⟨(some 66), .len (.t 65), none, 4, []⟩,
    ⟨(some 10), .move (.t 66), none, 5, []⟩,
    ⟨(some 11), .move (.c (.s (.int .i64 0))), none, 6, []⟩]) (RC.ret))))))))
theorem cyc_Hands_Cyclic_ok : chkFunc Go.Proofs.Tryz.prog [0] Go.Proofs.Tryz.f18 cyc_Hands_Cyclic = true := by kernel_rfl
def cyc_Hands_Alarm : RFunc := RFunc.mk 25 [.tmp 2, .tmp 3] (
  RC.seq (RC.region 2 [
    ⟨(some 2), .move (.c (.s (.int .i64 0))), none, 0, []⟩,
    ⟨(some 3), .move (.c (.s (.int .i64 0))), none, 1, []⟩]) (RC.seq (RC.seq (RC.region 6 [
    ⟨(some 4), .move (.t 0), none, 0, []⟩,
    ⟨(some 5), .nilCheck (.t 4), none, 1, []⟩,
    ⟨(some 6), .fieldAddr 3 (.t 5), none, 2, []⟩,
    ⟨(some 7), .load none (.t 6), none, 3, []⟩,
    ⟨(some 8), .len (.t 7), none, 4, []⟩,
    ⟨(some 9), .bin .geq (.t 8) (.c (.s (.int .i64 8))), none, 5, []⟩]) (RC.cond (.t 9) (RC.seq (RC.region 2 [
    ⟨(some 2), .move (.c (.s (.int .i64 0))), none, 0, []⟩,
    ⟨(some 3), .move (.c (.s (.int .i64 (-33)))), none, 1, []⟩]) (RC.ret)) (RC.skip))) (RC.seq (RC.region 11 [
    ⟨(some 10), .move (.t 0), none, 0, []⟩,
    ⟨(some 11), .move (.t 0), none, 1, []⟩,
    ⟨(some 12), .nilCheck (.t 11), none, 2, []⟩,
    ⟨(some 13), .fieldAddr 3 (.t 12), none, 3, []⟩,
    ⟨(some 14), .load none (.t 13), none, 4, []⟩,
    ⟨(some 15), .build [.bool false, .int .u64 0] [], none, 5, []⟩,
    ⟨(some 16), .buildSlice 2 1 [.bool false, .int .u64 0] [(0, 2, (.t 15))], none, 6, []⟩,
    ⟨(some 17), .append 2 16 (.t 14) (.t 16), none, 7, []⟩,
    ⟨(some 18), .nilCheck (.t 10), none, 8, []⟩,
    ⟨(some 19), .fieldAddr 3 (.t 18), none, 9, []⟩,
    ⟨none, .store 1 (.t 19) (.t 17), none, 10, []⟩]) (RC.seq (RC.region 7 [
    ⟨(some 20), .move (.t 0), none, 0, []⟩,
    ⟨(some 21), .nilCheck (.t 20), none, 1, []⟩,
    ⟨(some 22), .fieldAddr 3 (.t 21), none, 2, []⟩,
    ⟨(some 23), .load none (.t 22), none, 3, []⟩,
    ⟨(some 24), .len (.t 23), none, 4, []⟩,
    ⟨(some 2), .move (.t 24), none, 5, []⟩,
    ⟨(some 3), .move (.c (.s (.int .i64 0))), none, 6, []⟩]) (RC.ret)))))
theorem cyc_Hands_Alarm_ok : chkFunc Go.Proofs.Tryz.prog [0] Go.Proofs.Tryz.f19 cyc_Hands_Alarm = true := by kernel_rfl
def mtx_All_SetBase_l0 : RC :=
  RC.seq (RC.seq (RC.region 7 [
    ⟨(some 17), .move (.t 7), none, 0, []⟩,
    ⟨(some 18), .move (.t 0), none, 1, []⟩,
    ⟨(some 19), .nilCheck (.t 18), none, 2, []⟩,
    ⟨(some 20), .fieldAddr 0 (.t 19), none, 3, []⟩,
    ⟨(some 21), .load none (.t 20), none, 4, []⟩,
    ⟨(some 22), .len (.t 21), none, 5, []⟩,
    ⟨(some 23), .bin .lss (.t 17) (.t 22), none, 6, []⟩]) (RC.cond (.t 23) (RC.skip) (RC.exit 1))) (RC.seq (RC.block 2 (RC.seq (RC.region 9 [
    ⟨(some 26), .move (.t 0), none, 0, []⟩,
    ⟨(some 27), .nilCheck (.t 26), none, 1, []⟩,
    ⟨(some 28), .fieldAddr 0 (.t 27), none, 2, []⟩,
    ⟨(some 29), .load none (.t 28), none, 3, []⟩,
    ⟨(some 30), .move (.t 7), none, 4, []⟩,
    ⟨(some 31), .indexSl 4 (.t 29) (.t 30), none, 5, []⟩,
    ⟨(some 32), .load (some 4) (.t 31), none, 6, []⟩,
    ⟨(some 8), .newc [.int .i64 0, .int .i64 0, .int .i64 0, .slice none 0 0 1], none, 7, []⟩,
    ⟨none, .store 4 (.t 8) (.t 32), none, 8, []⟩]) (RC.seq (RC.region 28 [
    ⟨(some 33), .fieldAddr 0 (.t 8), none, 0, []⟩,
    ⟨(some 34), .fieldAddr 0 (.t 33), none, 1, []⟩,
    ⟨(some 35), .load none (.t 34), none, 2, []⟩,
    ⟨(some 36), .bin .eql (.t 35) (.c (.s (.int .i64 3))), none, 3, []⟩,
    ⟨(some 37), .move (.t 36), none, 4, []⟩,
    ⟨(some 38), .fieldAddr 0 (.t 8), (some (37, true)), 5, []⟩,
    ⟨(some 39), .fieldAddr 1 (.t 38), (some (37, true)), 6, []⟩,
    ⟨(some 40), .load none (.t 39), (some (37, true)), 7, []⟩,
    ⟨(some 41), .move (.t 2), (some (37, true)), 8, []⟩,
    ⟨(some 42), .bin .gtr (.t 40) (.t 41), (some (37, true)), 9, []⟩,
    ⟨(some 43), .pick (.t 37) (.t 42) (.c (.s (.bool false))), none, 10, []⟩,
    ⟨(some 44), .move (.t 43), none, 11, []⟩,
    ⟨(some 45), .fieldAddr 2 (.t 8), (some (44, true)), 12, []⟩,
    ⟨(some 46), .load none (.t 45), (some (44, true)), 13, []⟩,
    ⟨(some 47), .move (.t 1), (some (44, true)), 14, []⟩,
    ⟨(some 48), .bin .eql (.t 46) (.t 47), (some (44, true)), 15, []⟩,
    ⟨(some 49), .move (.t 48), (some (44, true)), 16, []⟩,
    ⟨(some 50), .move (.t 0), (some (49, false)), 17, []⟩,
    ⟨(some 51), .move (.t 1), (some (49, false)), 18, []⟩,
    ⟨(some 52), .nilCheck (.t 50), (some (49, false)), 19, []⟩,
    ⟨(some 53), .fieldAddr 1 (.t 52), (some (49, false)), 20, []⟩,
    ⟨(some 54), .indexArr 17 3 (.t 53) (.t 51), (some (49, false)), 21, []⟩,
    ⟨(some 55), .fieldAddr 2 (.t 54), (some (49, false)), 22, []⟩,
    ⟨(some 56), .load none (.t 55), (some (49, false)), 23, []⟩,
    ⟨(some 57), .move (.t 7), (some (49, false)), 24, []⟩,
    ⟨(some 58), .bin .eql (.t 56) (.t 57), (some (49, false)), 25, []⟩,
    ⟨(some 59), .pick (.t 49) (.c (.s (.bool true))) (.t 58), (some (44, true)), 26, []⟩,
    ⟨(some 60), .pick (.t 44) (.t 59) (.c (.s (.bool false))), none, 27, []⟩]) (RC.cond (.t 60) (RC.seq (RC.region 1 [
    ⟨(some 6), .move (.c (.s (.int .i64 (-28)))), none, 0, []⟩]) (RC.ret)) (RC.skip))))) (RC.region 3 [
    ⟨(some 24), .move (.t 7), none, 0, []⟩,
    ⟨(some 25), .bin .add (.t 24) (.c (.s (.int .i64 1))), none, 1, []⟩,
    ⟨(some 7), .move (.t 25), none, 2, []⟩]))
def mtx_All_SetBase_s1 : RC :=
  RC.seq (RC.region 8 [
    ⟨(some 61), .move (.t 0), none, 0, []⟩,
    ⟨(some 62), .move (.t 1), none, 1, []⟩,
    ⟨(some 63), .move (.t 2), none, 2, []⟩,
    ⟨(some 64), .nilCheck (.t 61), none, 3, []⟩,
    ⟨(some 65), .fieldAddr 1 (.t 64), none, 4, []⟩,
    ⟨(some 66), .indexArr 17 3 (.t 65) (.t 62), none, 5, []⟩,
    ⟨(some 67), .fieldAddr 0 (.t 66), none, 6, []⟩,
    ⟨none, .store 1 (.t 67) (.t 63), none, 7, []⟩]) (RC.seq (RC.region 2 [
    ⟨(some 68), .move (.t 0), none, 0, []⟩,
    ⟨(some 69), .call F.mtx_All_settle [(.t 68)], none, 1, []⟩]) (RC.seq (RC.region 1 [
    ⟨(some 6), .move (.c (.s (.int .i64 0))), none, 0, []⟩]) (RC.ret)))
def mtx_All_SetBase : RFunc := RFunc.mk 70 [.tmp 6] (
  RC.seq (RC.region 1 [
    ⟨(some 6), .move (.c (.s (.int .i64 0))), none, 0, []⟩]) (RC.seq (RC.block 0 (RC.seq (RC.region 4 [
    ⟨(some 10), .move (.t 1), none, 0, []⟩,
    ⟨(some 11), .call F.mtx_is [(.t 10)], none, 1, []⟩,
    ⟨(some 12), .un .not (.t 11), none, 2, []⟩,
    ⟨(some 9), .move (.t 12), none, 3, []⟩]) (RC.cond (.t 9) (RC.seq (RC.region 1 [
    ⟨(some 6), .move (.c (.s (.int .i64 (-18)))), none, 0, []⟩]) (RC.ret)) (RC.seq (RC.region 4 [
    ⟨(some 14), .move (.t 2), none, 0, []⟩,
    ⟨(some 15), .call F.mtx_may [(.t 14)], none, 1, []⟩,
    ⟨(some 16), .un .not (.t 15), none, 2, []⟩,
    ⟨(some 13), .move (.t 16), none, 3, []⟩]) (RC.cond (.t 13) (RC.seq (RC.region 1 [
    ⟨(some 6), .move (.c (.s (.int .i64 (-17)))), none, 0, []⟩]) (RC.ret)) (RC.skip)))))) (RC.seq (RC.seq (RC.region 1 [
    ⟨(some 7), .move (.c (.s (.int .i64 1))), none, 0, []⟩]) (RC.block 1 (RC.loop R.mtx_All_SetBase_l0))) R.mtx_All_SetBase_s1)))
theorem mtx_All_SetBase_ok : chkFunc Go.Proofs.Tryz.prog [0] Go.Proofs.Tryz.f20 mtx_All_SetBase = true := by kernel_rfl
def tcb_New : RFunc := RFunc.mk 3 [.tmp 0] (
  RC.seq (RC.region 1 [
    ⟨(some 0), .move (.c (.s (.ptr none))), none, 0, []⟩]) (RC.seq (RC.region 3 [
    ⟨(some 1), .build [.int .i64 0, .int .i64 0, .int .i64 0, .int .i64 0, .bool false] [(3, 1, (.c (.s (.int .i64 16))))], none, 0, []⟩,
    ⟨(some 2), .box (.t 1), none, 1, []⟩,
    ⟨(some 0), .move (.t 2), none, 2, []⟩]) (RC.ret)))
theorem tcb_New_ok : chkFunc Go.Proofs.Tryz.prog [0] Go.Proofs.Tryz.f21 tcb_New = true := by kernel_rfl
def kern_Kernel_act : RFunc := RFunc.mk 36 [.tmp 4] (
  RC.seq (RC.region 1 [
    ⟨(some 4), .move (.c (.s (.int .i64 0))), none, 0, []⟩]) (RC.seq (RC.region 16 [
    ⟨(some 8), .move (.t 0), none, 0, []⟩,
    ⟨(some 9), .nilCheck (.t 8), none, 1, []⟩,
    ⟨(some 10), .fieldAddr 9 (.t 9), none, 2, []⟩,
    ⟨(some 11), .load none (.t 10), none, 3, []⟩,
    ⟨(some 12), .move (.t 1), none, 4, []⟩,
    ⟨(some 13), .indexSl 1 (.t 11) (.t 12), none, 5, []⟩,
    ⟨(some 14), .load none (.t 13), none, 6, []⟩,
    ⟨(some 15), .nilCheck (.t 14), none, 7, []⟩,
    ⟨(some 16), .fieldAddr 0 (.t 15), none, 8, []⟩,
    ⟨(some 17), .load none (.t 16), none, 9, []⟩,
    ⟨(some 18), .call F.tcb_Task_Act [(.t 17)], none, 10, []⟩,
    ⟨(some 7), .move (.t 18), none, 11, []⟩,
    ⟨(some 19), .extract 0 (.t 7), none, 12, []⟩,
    ⟨(some 20), .extract 1 (.t 7), none, 13, []⟩,
    ⟨(some 5), .move (.t 19), none, 14, []⟩,
    ⟨(some 6), .move (.t 20), none, 15, []⟩]) (RC.seq (RC.seq (RC.region 1 [
    ⟨(some 21), .move (.t 5), none, 0, []⟩]) (RC.cond (.t 21) (RC.seq (RC.region 11 [
    ⟨(some 22), .move (.t 0), none, 0, []⟩,
    ⟨(some 23), .nilCheck (.t 22), none, 1, []⟩,
    ⟨(some 24), .fieldAddr 9 (.t 23), none, 2, []⟩,
    ⟨(some 25), .load none (.t 24), none, 3, []⟩,
    ⟨(some 26), .move (.t 1), none, 4, []⟩,
    ⟨(some 27), .indexSl 1 (.t 25) (.t 26), none, 5, []⟩,
    ⟨(some 28), .load none (.t 27), none, 6, []⟩,
    ⟨(some 29), .build [.int .i64 0, .int .i64 0] [], none, 7, []⟩,
    ⟨(some 30), .nilCheck (.t 28), none, 8, []⟩,
    ⟨(some 31), .fieldAddr 6 (.t 30), none, 9, []⟩,
    ⟨none, .store 2 (.t 31) (.t 29), none, 10, []⟩]) (RC.region 3 [
    ⟨(some 32), .move (.t 0), none, 0, []⟩,
    ⟨(some 33), .move (.t 1), none, 1, []⟩,
    ⟨(some 34), .call F.kern_Kernel_enter [(.t 32), (.t 33)], none, 2, []⟩])) (RC.skip))) (RC.seq (RC.region 2 [
    ⟨(some 35), .move (.t 6), none, 0, []⟩,
    ⟨(some 4), .move (.t 35), none, 1, []⟩]) (RC.ret)))))
theorem kern_Kernel_act_ok : chkFunc Go.Proofs.Tryz.prog [0] Go.Proofs.Tryz.f22 kern_Kernel_act = true := by kernel_rfl
def kern_Kernel_choose : RFunc := RFunc.mk 20 [] (
  RC.seq (RC.region 7 [
    ⟨(some 2), .move (.t 0), none, 0, []⟩,
    ⟨(some 3), .nilCheck (.t 2), none, 1, []⟩,
    ⟨(some 4), .fieldAddr 6 (.t 3), none, 2, []⟩,
    ⟨(some 5), .load none (.t 4), none, 3, []⟩,
    ⟨(some 6), .nilCheck (.t 5), none, 4, []⟩,
    ⟨(some 7), .fieldAddr 0 (.t 6), none, 5, []⟩,
    ⟨(some 8), .call F.ctx_state_Dispatch [(.t 7)], none, 6, []⟩]) (RC.cond (.t 8) (RC.region 12 [
    ⟨(some 10), .move (.t 0), none, 0, []⟩,
    ⟨(some 11), .move (.t 0), none, 1, []⟩,
    ⟨(some 12), .nilCheck (.t 11), none, 2, []⟩,
    ⟨(some 13), .fieldAddr 8 (.t 12), none, 3, []⟩,
    ⟨(some 14), .load none (.t 13), none, 4, []⟩,
    ⟨(some 15), .call F.ready_Queue_First [(.t 14)], none, 5, []⟩,
    ⟨(some 9), .move (.t 15), none, 6, []⟩,
    ⟨(some 16), .extract 0 (.t 9), none, 7, []⟩,
    ⟨(some 17), .extract 1 (.t 9), none, 8, []⟩,
    ⟨(some 18), .nilCheck (.t 10), none, 9, []⟩,
    ⟨(some 19), .fieldAddr 12 (.t 18), none, 10, []⟩,
    ⟨none, .store 1 (.t 19) (.t 16), none, 11, []⟩]) (RC.skip)))
theorem kern_Kernel_choose_ok : chkFunc Go.Proofs.Tryz.prog [0] Go.Proofs.Tryz.f23 kern_Kernel_choose = true := by kernel_rfl
def judge_look_l0 : RC :=
  RC.seq (RC.seq (RC.region 5 [
    ⟨(some 14), .move (.t 6), none, 0, []⟩,
    ⟨(some 15), .fieldAddr 1 (.t 2), none, 1, []⟩,
    ⟨(some 16), .load none (.t 15), none, 2, []⟩,
    ⟨(some 17), .len (.t 16), none, 3, []⟩,
    ⟨(some 18), .bin .leq (.t 14) (.t 17), none, 4, []⟩]) (RC.cond (.t 18) (RC.skip) (RC.exit 0))) (RC.seq (RC.block 1 (RC.seq (RC.region 12 [
    ⟨(some 22), .move (.t 1), none, 0, []⟩,
    ⟨(some 23), .move (.t 6), none, 1, []⟩,
    ⟨(some 24), .call F.kern_Kernel_Task [(.t 22), (.t 23)], none, 2, []⟩,
    ⟨(some 21), .move (.t 24), none, 3, []⟩,
    ⟨(some 25), .extract 0 (.t 21), none, 4, []⟩,
    ⟨(some 26), .extract 1 (.t 21), none, 5, []⟩,
    ⟨(some 27), .extract 2 (.t 21), none, 6, []⟩,
    ⟨(some 7), .newc [.int .i64 0, .int .i64 0, .int .i64 0, .int .i64 0, .int .i64 0, .int .i64 0, .int .i64 0, .int .i64 0], none, 7, []⟩,
    ⟨(some 8), .newc [.int .i64 0, .int .i64 0, .int .i64 0], none, 8, []⟩,
    ⟨none, .store 8 (.t 7) (.t 25), none, 9, []⟩,
    ⟨none, .store 3 (.t 8) (.t 26), none, 10, []⟩,
    ⟨(some 9), .move (.t 27), none, 11, []⟩]) (RC.region 7 [
    ⟨(some 28), .fieldAddr 10 (.t 5), none, 0, []⟩,
    ⟨(some 29), .load none (.t 28), none, 1, []⟩,
    ⟨(some 30), .load (some 8) (.t 7), none, 2, []⟩,
    ⟨(some 31), .buildSlice 8 1 [.int .i64 0, .int .i64 0, .int .i64 0, .int .i64 0, .int .i64 0, .int .i64 0, .int .i64 0, .int .i64 0] [(0, 8, (.t 30))], none, 3, []⟩,
    ⟨(some 32), .append 8 64 (.t 29) (.t 31), none, 4, []⟩,
    ⟨(some 33), .fieldAddr 10 (.t 5), none, 5, []⟩,
    ⟨none, .store 1 (.t 33) (.t 32), none, 6, []⟩]))) (RC.region 3 [
    ⟨(some 19), .move (.t 6), none, 0, []⟩,
    ⟨(some 20), .bin .add (.t 19) (.c (.s (.int .i64 1))), none, 1, []⟩,
    ⟨(some 6), .move (.t 20), none, 2, []⟩]))
def judge_look_s1 : RC :=
  RC.seq (RC.region 2 [
    ⟨(some 34), .load (some 11) (.t 5), none, 0, []⟩,
    ⟨none, .store 11 (.t 4) (.t 34), none, 1, []⟩]) (RC.ret)
def judge_look : RFunc := RFunc.mk 35 [.cell 4 (some 11)] (
  RC.seq (RC.region 2 [
    ⟨(some 2), .box (.t 0), none, 0, []⟩,
    ⟨(some 4), .newc [.int .i64 0, .slice none 0 0 1, .slice none 0 0 1, .slice none 0 0 1, .slice none 0 0 1, .slice none 0 0 1, .slice none 0 0 1, .slice none 0 0 1, .int .i64 0, .ptr none, .slice none 0 0 1], none, 1, []⟩]) (RC.seq (RC.region 6 [
    ⟨(some 10), .load (some 9) (.t 2), none, 0, []⟩,
    ⟨(some 11), .move (.t 1), none, 1, []⟩,
    ⟨(some 12), .makeSlice 8 64 [.int .i64 0, .int .i64 0, .int .i64 0, .int .i64 0, .int .i64 0, .int .i64 0, .int .i64 0, .int .i64 0] (.c (.s (.int .i64 1))) (.c (.s (.int .i64 1))), none, 2, []⟩,
    ⟨(some 13), .build [.int .i64 0, .slice none 0 0 1, .slice none 0 0 1, .slice none 0 0 1, .slice none 0 0 1, .slice none 0 0 1, .slice none 0 0 1, .slice none 0 0 1, .int .i64 0, .ptr none, .slice none 0 0 1] [(0, 9, (.t 10)), (9, 1, (.t 11)), (10, 1, (.t 12))], none, 3, []⟩,
    ⟨(some 5), .newc [.int .i64 0, .slice none 0 0 1, .slice none 0 0 1, .slice none 0 0 1, .slice none 0 0 1, .slice none 0 0 1, .slice none 0 0 1, .slice none 0 0 1, .int .i64 0, .ptr none, .slice none 0 0 1], none, 4, []⟩,
    ⟨none, .store 11 (.t 5) (.t 13), none, 5, []⟩]) (RC.seq (RC.seq (RC.region 1 [
    ⟨(some 6), .move (.c (.s (.int .i64 1))), none, 0, []⟩]) (RC.block 0 (RC.loop R.judge_look_l0))) R.judge_look_s1)))
theorem judge_look_ok : chkFunc Go.Proofs.Tryz.prog [0] Go.Proofs.Tryz.f24 judge_look = true := by kernel_rfl
def judge_view_running : RFunc := RFunc.mk 37 [.tmp 2] (
  RC.seq (RC.region 2 [
    ⟨(some 1), .box (.t 0), none, 0, []⟩,
    ⟨(some 2), .move (.c (.s (.bool false))), none, 1, []⟩]) (RC.seq (RC.region 4 [
    ⟨(some 6), .fieldAddr 9 (.t 1), none, 0, []⟩,
    ⟨(some 7), .load none (.t 6), none, 1, []⟩,
    ⟨(some 8), .call F.kern_Kernel_Running [(.t 7)], none, 2, []⟩,
    ⟨(some 3), .move (.t 8), none, 3, []⟩]) (RC.seq (RC.seq (RC.region 9 [
    ⟨(some 9), .move (.t 3), none, 0, []⟩,
    ⟨(some 10), .bin .lss (.t 9) (.c (.s (.int .i64 0))), none, 1, []⟩,
    ⟨(some 11), .move (.t 10), none, 2, []⟩,
    ⟨(some 12), .move (.t 3), (some (11, false)), 3, []⟩,
    ⟨(some 13), .fieldAddr 10 (.t 1), (some (11, false)), 4, []⟩,
    ⟨(some 14), .load none (.t 13), (some (11, false)), 5, []⟩,
    ⟨(some 15), .len (.t 14), (some (11, false)), 6, []⟩,
    ⟨(some 16), .bin .geq (.t 12) (.t 15), (some (11, false)), 7, []⟩,
    ⟨(some 17), .pick (.t 11) (.c (.s (.bool true))) (.t 16), none, 8, []⟩]) (RC.cond (.t 17) (RC.seq (RC.region 1 [
    ⟨(some 2), .move (.c (.s (.bool false))), none, 0, []⟩]) (RC.ret)) (RC.skip))) (RC.seq (RC.seq (RC.region 7 [
    ⟨(some 18), .fieldAddr 9 (.t 1), none, 0, []⟩,
    ⟨(some 19), .load none (.t 18), none, 1, []⟩,
    ⟨(some 20), .call F.kern_Kernel_Twin [(.t 19)], none, 2, []⟩,
    ⟨(some 21), .call F.calls_Make [(.c (.s (.int .i64 64))), (.c (.s (.slice none 0 0 1)))], none, 3, []⟩,
    ⟨(some 22), .call F.kern_Kernel_Do [(.t 20), (.t 21)], none, 4, []⟩,
    ⟨(some 23), .field none 1 (.t 22), none, 5, []⟩,
    ⟨(some 24), .bin .neq (.t 23) (.c (.s (.int .i64 0))), none, 6, []⟩]) (RC.cond (.t 24) (RC.seq (RC.region 1 [
    ⟨(some 2), .move (.c (.s (.bool true))), none, 0, []⟩]) (RC.ret)) (RC.skip))) (RC.seq (RC.region 1 [
    ⟨(some 4), .move (.c (.s (.int .i64 0))), none, 0, []⟩]) (RC.seq (RC.seq (RC.region 4 [
    ⟨(some 25), .fieldAddr 9 (.t 1), none, 0, []⟩,
    ⟨(some 26), .load none (.t 25), none, 1, []⟩,
    ⟨(some 27), .call F.kern_Kernel_Ready [(.t 26)], none, 2, []⟩,
    ⟨(some 5), .move (.t 27), none, 3, []⟩]) (RC.seq (RC.region 3 [
    ⟨(some 28), .move (.t 5), none, 0, []⟩,
    ⟨(some 29), .len (.t 28), none, 1, []⟩,
    ⟨(some 30), .bin .gtr (.t 29) (.c (.s (.int .i64 0))), none, 2, []⟩]) (RC.cond (.t 30) (RC.region 4 [
    ⟨(some 31), .move (.t 5), none, 0, []⟩,
    ⟨(some 32), .indexSl 1 (.t 31) (.c (.s (.int .i64 0))), none, 1, []⟩,
    ⟨(some 33), .load none (.t 32), none, 2, []⟩,
    ⟨(some 4), .move (.t 33), none, 3, []⟩]) (RC.skip)))) (RC.seq (RC.region 4 [
    ⟨(some 34), .move (.t 3), none, 0, []⟩,
    ⟨(some 35), .move (.t 4), none, 1, []⟩,
    ⟨(some 36), .bin .eql (.t 34) (.t 35), none, 2, []⟩,
    ⟨(some 2), .move (.t 36), none, 3, []⟩]) (RC.ret))))))))
theorem judge_view_running_ok : chkFunc Go.Proofs.Tryz.prog [0] Go.Proofs.Tryz.f25 judge_view_running = true := by kernel_rfl
def judge_view_ready_l0 : RC :=
  RC.seq (RC.region 1 [
    ⟨(some 17), .bin .lss (.t 16) (.t 15), none, 0, []⟩]) (RC.seq (RC.cond (.t 17) (RC.skip) (RC.exit 0)) (RC.seq (RC.block 1 (RC.seq (RC.region 4 [
    ⟨(some 18), .indexSl 8 (.t 14) (.t 16), none, 0, []⟩,
    ⟨(some 19), .load (some 8) (.t 18), none, 1, []⟩,
    ⟨(some 6), .newc [.int .i64 0, .int .i64 0, .int .i64 0, .int .i64 0, .int .i64 0, .int .i64 0, .int .i64 0, .int .i64 0], none, 2, []⟩,
    ⟨none, .store 8 (.t 6) (.t 19), none, 3, []⟩]) (RC.seq (RC.region 8 [
    ⟨(some 20), .fieldAddr 0 (.t 6), none, 0, []⟩,
    ⟨(some 21), .load none (.t 20), none, 1, []⟩,
    ⟨(some 22), .bin .eql (.t 21) (.c (.s (.int .i64 1))), none, 2, []⟩,
    ⟨(some 23), .move (.t 22), none, 3, []⟩,
    ⟨(some 24), .fieldAddr 0 (.t 6), (some (23, false)), 4, []⟩,
    ⟨(some 25), .load none (.t 24), (some (23, false)), 5, []⟩,
    ⟨(some 26), .bin .eql (.t 25) (.c (.s (.int .i64 2))), (some (23, false)), 6, []⟩,
    ⟨(some 27), .pick (.t 23) (.c (.s (.bool true))) (.t 26), none, 7, []⟩]) (RC.cond (.t 27) (RC.region 3 [
    ⟨(some 28), .move (.t 4), none, 0, []⟩,
    ⟨(some 29), .bin .add (.t 28) (.c (.s (.int .i64 1))), none, 1, []⟩,
    ⟨(some 4), .move (.t 29), none, 2, []⟩]) (RC.skip))))) (RC.region 2 [
    ⟨(some 30), .bin .add (.t 16) (.c (.s (.int .i64 1))), none, 0, []⟩,
    ⟨(some 16), .move (.t 30), none, 1, []⟩])))
def judge_view_ready_l1 : RC :=
  RC.seq (RC.region 1 [
    ⟨(some 34), .bin .lss (.t 33) (.t 32), none, 0, []⟩]) (RC.seq (RC.cond (.t 34) (RC.skip) (RC.exit 2)) (RC.seq (RC.block 3 (RC.seq (RC.region 5 [
    ⟨(some 35), .move (.t 33), none, 0, []⟩,
    ⟨(some 36), .indexSl 1 (.t 31) (.t 33), none, 1, []⟩,
    ⟨(some 37), .load none (.t 36), none, 2, []⟩,
    ⟨(some 7), .move (.t 35), none, 3, []⟩,
    ⟨(some 8), .move (.t 37), none, 4, []⟩]) (RC.seq (RC.seq (RC.region 34 [
    ⟨(some 38), .move (.t 8), none, 0, []⟩,
    ⟨(some 39), .bin .lss (.t 38) (.c (.s (.int .i64 1))), none, 1, []⟩,
    ⟨(some 40), .move (.t 39), none, 2, []⟩,
    ⟨(some 41), .move (.t 8), (some (40, false)), 3, []⟩,
    ⟨(some 42), .fieldAddr 10 (.t 1), (some (40, false)), 4, []⟩,
    ⟨(some 43), .load none (.t 42), (some (40, false)), 5, []⟩,
    ⟨(some 44), .len (.t 43), (some (40, false)), 6, []⟩,
    ⟨(some 45), .bin .geq (.t 41) (.t 44), (some (40, false)), 7, []⟩,
    ⟨(some 46), .pick (.t 40) (.c (.s (.bool true))) (.t 45), none, 8, []⟩,
    ⟨(some 47), .move (.t 46), none, 9, []⟩,
    ⟨(some 48), .move (.t 3), (some (47, false)), 10, []⟩,
    ⟨(some 49), .move (.t 7), (some (47, false)), 11, []⟩,
    ⟨(some 50), .slSl 1 (.t 48) none (some (.t 49)) none, (some (47, false)), 12, []⟩,
    ⟨(some 51), .move (.t 8), (some (47, false)), 13, []⟩,
    ⟨(some 52), .call F.slices_Contains__int_int [(.t 50), (.t 51)], (some (47, false)), 14, []⟩,
    ⟨(some 53), .pick (.t 47) (.c (.s (.bool true))) (.t 52), none, 15, []⟩,
    ⟨(some 54), .move (.t 53), none, 16, []⟩,
    ⟨(some 55), .fieldAddr 10 (.t 1), (some (54, false)), 17, []⟩,
    ⟨(some 56), .load none (.t 55), (some (54, false)), 18, []⟩,
    ⟨(some 57), .move (.t 8), (some (54, false)), 19, []⟩,
    ⟨(some 58), .indexSl 8 (.t 56) (.t 57), (some (54, false)), 20, []⟩,
    ⟨(some 59), .fieldAddr 0 (.t 58), (some (54, false)), 21, []⟩,
    ⟨(some 60), .load none (.t 59), (some (54, false)), 22, []⟩,
    ⟨(some 61), .bin .neq (.t 60) (.c (.s (.int .i64 1))), (some (54, false)), 23, []⟩,
    ⟨(some 62), .move (.t 61), (some (54, false)), 24, []⟩,
    ⟨(some 63), .fieldAddr 10 (.t 1), (some (62, true)), 25, []⟩,
    ⟨(some 64), .load none (.t 63), (some (62, true)), 26, []⟩,
    ⟨(some 65), .move (.t 8), (some (62, true)), 27, []⟩,
    ⟨(some 66), .indexSl 8 (.t 64) (.t 65), (some (62, true)), 28, []⟩,
    ⟨(some 67), .fieldAddr 0 (.t 66), (some (62, true)), 29, []⟩,
    ⟨(some 68), .load none (.t 67), (some (62, true)), 30, []⟩,
    ⟨(some 69), .bin .neq (.t 68) (.c (.s (.int .i64 2))), (some (62, true)), 31, []⟩,
    ⟨(some 70), .pick (.t 62) (.t 69) (.c (.s (.bool false))), (some (54, false)), 32, []⟩,
    ⟨(some 71), .pick (.t 54) (.c (.s (.bool true))) (.t 70), none, 33, []⟩]) (RC.cond (.t 71) (RC.seq (RC.region 1 [
    ⟨(some 2), .move (.c (.s (.bool false))), none, 0, []⟩]) (RC.ret)) (RC.skip))) (RC.seq (RC.region 21 [
    ⟨(some 72), .move (.t 7), none, 0, []⟩,
    ⟨(some 73), .bin .gtr (.t 72) (.c (.s (.int .i64 0))), none, 1, []⟩,
    ⟨(some 74), .move (.t 73), none, 2, []⟩,
    ⟨(some 75), .fieldAddr 10 (.t 1), (some (74, true)), 3, []⟩,
    ⟨(some 76), .load none (.t 75), (some (74, true)), 4, []⟩,
    ⟨(some 77), .move (.t 3), (some (74, true)), 5, []⟩,
    ⟨(some 78), .move (.t 7), (some (74, true)), 6, []⟩,
    ⟨(some 79), .bin .sub (.t 78) (.c (.s (.int .i64 1))), (some (74, true)), 7, []⟩,
    ⟨(some 80), .indexSl 1 (.t 77) (.t 79), (some (74, true)), 8, []⟩,
    ⟨(some 81), .load none (.t 80), (some (74, true)), 9, []⟩,
    ⟨(some 82), .indexSl 8 (.t 76) (.t 81), (some (74, true)), 10, []⟩,
    ⟨(some 83), .fieldAddr 1 (.t 82), (some (74, true)), 11, []⟩,
    ⟨(some 84), .load none (.t 83), (some (74, true)), 12, []⟩,
    ⟨(some 85), .fieldAddr 10 (.t 1), (some (74, true)), 13, []⟩,
    ⟨(some 86), .load none (.t 85), (some (74, true)), 14, []⟩,
    ⟨(some 87), .move (.t 8), (some (74, true)), 15, []⟩,
    ⟨(some 88), .indexSl 8 (.t 86) (.t 87), (some (74, true)), 16, []⟩,
    ⟨(some 89), .fieldAddr 1 (.t 88), (some (74, true)), 17, []⟩,
    ⟨(some 90), .load none (.t 89), (some (74, true)), 18, []⟩,
    ⟨(some 91), .bin .gtr (.t 84) (.t 90), (some (74, true)), 19, []⟩,
    ⟨(some 92), .pick (.t 74) (.t 91) (.c (.s (.bool false))), none, 20, []⟩]) (RC.cond (.t 92) (RC.seq (RC.region 1 [
    ⟨(some 2), .move (.c (.s (.bool false))), none, 0, []⟩]) (RC.ret)) (RC.skip)))))) (RC.region 2 [
    ⟨(some 93), .bin .add (.t 33) (.c (.s (.int .i64 1))), none, 0, []⟩,
    ⟨(some 33), .move (.t 93), none, 1, []⟩])))
def judge_view_ready_s2 : RC :=
  RC.seq (RC.region 5 [
    ⟨(some 94), .move (.t 3), none, 0, []⟩,
    ⟨(some 95), .len (.t 94), none, 1, []⟩,
    ⟨(some 96), .move (.t 4), none, 2, []⟩,
    ⟨(some 97), .bin .eql (.t 95) (.t 96), none, 3, []⟩,
    ⟨(some 2), .move (.t 97), none, 4, []⟩]) (RC.ret)
def judge_view_ready_s3 : RC :=
  RC.seq (RC.seq (RC.region 3 [
    ⟨(some 31), .move (.t 3), none, 0, []⟩,
    ⟨(some 32), .len (.t 31), none, 1, []⟩,
    ⟨(some 33), .move (.c (.s (.int .i64 0))), none, 2, []⟩]) (RC.block 2 (RC.loop R.judge_view_ready_l1))) R.judge_view_ready_s2
def judge_view_ready : RFunc := RFunc.mk 98 [.tmp 2] (
  RC.seq (RC.region 2 [
    ⟨(some 1), .box (.t 0), none, 0, []⟩,
    ⟨(some 2), .move (.c (.s (.bool false))), none, 1, []⟩]) (RC.seq (RC.region 4 [
    ⟨(some 9), .fieldAddr 9 (.t 1), none, 0, []⟩,
    ⟨(some 10), .load none (.t 9), none, 1, []⟩,
    ⟨(some 11), .call F.kern_Kernel_Ready [(.t 10)], none, 2, []⟩,
    ⟨(some 3), .move (.t 11), none, 3, []⟩]) (RC.seq (RC.region 1 [
    ⟨(some 4), .move (.c (.s (.int .i64 0))), none, 0, []⟩]) (RC.seq (RC.seq (RC.region 5 [
    ⟨(some 12), .fieldAddr 10 (.t 1), none, 0, []⟩,
    ⟨(some 13), .load none (.t 12), none, 1, []⟩,
    ⟨(some 14), .slSl 8 (.t 13) (some (.c (.s (.int .i64 1)))) none none, none, 2, []⟩,
    ⟨(some 15), .len (.t 14), none, 3, []⟩,
    ⟨(some 16), .move (.c (.s (.int .i64 0))), none, 4, []⟩]) (RC.block 0 (RC.loop R.judge_view_ready_l0))) R.judge_view_ready_s3))))
theorem judge_view_ready_ok : chkFunc Go.Proofs.Tryz.prog [0] Go.Proofs.Tryz.f26 judge_view_ready = true := by kernel_rfl
def judge_view_pri_l0 : RC :=
  RC.seq (RC.region 1 [
    ⟨(some 17), .bin .lss (.t 16) (.t 15), none, 0, []⟩]) (RC.seq (RC.cond (.t 17) (RC.skip) (RC.exit 0)) (RC.seq (RC.block 1 (RC.seq (RC.region 4 [
    ⟨(some 18), .indexSl 8 (.t 14) (.t 16), none, 0, []⟩,
    ⟨(some 19), .load (some 8) (.t 18), none, 1, []⟩,
    ⟨(some 4), .newc [.int .i64 0, .int .i64 0, .int .i64 0, .int .i64 0, .int .i64 0, .int .i64 0, .int .i64 0, .int .i64 0], none, 2, []⟩,
    ⟨none, .store 8 (.t 4) (.t 19), none, 3, []⟩]) (RC.seq (RC.region 5 [
    ⟨(some 20), .fieldAddr 1 (.t 4), none, 0, []⟩,
    ⟨(some 21), .load none (.t 20), none, 1, []⟩,
    ⟨(some 22), .fieldAddr 2 (.t 4), none, 2, []⟩,
    ⟨(some 23), .load none (.t 22), none, 3, []⟩,
    ⟨(some 24), .bin .gtr (.t 21) (.t 23), none, 4, []⟩]) (RC.cond (.t 24) (RC.seq (RC.region 1 [
    ⟨(some 2), .move (.c (.s (.bool false))), none, 0, []⟩]) (RC.ret)) (RC.skip))))) (RC.region 2 [
    ⟨(some 25), .bin .add (.t 16) (.c (.s (.int .i64 1))), none, 0, []⟩,
    ⟨(some 16), .move (.t 25), none, 1, []⟩])))
def judge_view_pri_l1 : RC :=
  RC.seq (RC.region 1 [
    ⟨(some 47), .bin .lss (.t 46) (.t 45), none, 0, []⟩]) (RC.seq (RC.cond (.t 47) (RC.skip) (RC.exit 4)) (RC.seq (RC.block 5 (RC.seq (RC.region 3 [
    ⟨(some 48), .indexSl 1 (.t 44) (.t 46), none, 0, []⟩,
    ⟨(some 49), .load none (.t 48), none, 1, []⟩,
    ⟨(some 11), .move (.t 49), none, 2, []⟩]) (RC.seq (RC.region 22 [
    ⟨(some 50), .fieldAddr 0 (.t 6), none, 0, []⟩,
    ⟨(some 51), .load none (.t 50), none, 1, []⟩,
    ⟨(some 52), .bin .eql (.t 51) (.c (.s (.int .i64 2))), none, 2, []⟩,
    ⟨(some 53), .move (.t 52), none, 3, []⟩,
    ⟨(some 54), .move (.t 7), (some (53, true)), 4, []⟩,
    ⟨(some 55), .bin .gtr (.t 54) (.c (.s (.int .i64 0))), (some (53, true)), 5, []⟩,
    ⟨(some 56), .pick (.t 53) (.t 55) (.c (.s (.bool false))), none, 6, []⟩,
    ⟨(some 57), .move (.t 56), none, 7, []⟩,
    ⟨(some 58), .fieldAddr 10 (.t 1), (some (57, true)), 8, []⟩,
    ⟨(some 59), .load none (.t 58), (some (57, true)), 9, []⟩,
    ⟨(some 60), .move (.t 7), (some (57, true)), 10, []⟩,
    ⟨(some 61), .indexSl 8 (.t 59) (.t 60), (some (57, true)), 11, []⟩,
    ⟨(some 62), .fieldAddr 1 (.t 61), (some (57, true)), 12, []⟩,
    ⟨(some 63), .load none (.t 62), (some (57, true)), 13, []⟩,
    ⟨(some 64), .fieldAddr 10 (.t 1), (some (57, true)), 14, []⟩,
    ⟨(some 65), .load none (.t 64), (some (57, true)), 15, []⟩,
    ⟨(some 66), .move (.t 11), (some (57, true)), 16, []⟩,
    ⟨(some 67), .indexSl 8 (.t 65) (.t 66), (some (57, true)), 17, []⟩,
    ⟨(some 68), .fieldAddr 1 (.t 67), (some (57, true)), 18, []⟩,
    ⟨(some 69), .load none (.t 68), (some (57, true)), 19, []⟩,
    ⟨(some 70), .bin .gtr (.t 63) (.t 69), (some (57, true)), 20, []⟩,
    ⟨(some 71), .pick (.t 57) (.t 70) (.c (.s (.bool false))), none, 21, []⟩]) (RC.cond (.t 71) (RC.seq (RC.region 1 [
    ⟨(some 2), .move (.c (.s (.bool false))), none, 0, []⟩]) (RC.ret)) (RC.skip))))) (RC.region 2 [
    ⟨(some 72), .bin .add (.t 46) (.c (.s (.int .i64 1))), none, 0, []⟩,
    ⟨(some 46), .move (.t 72), none, 1, []⟩])))
def judge_view_pri_s2 : RC :=
  RC.region 2 [
    ⟨(some 73), .bin .add (.t 30) (.c (.s (.int .i64 1))), none, 0, []⟩,
    ⟨(some 30), .move (.t 73), none, 1, []⟩]
def judge_view_pri_l3 : RC :=
  RC.seq (RC.region 1 [
    ⟨(some 31), .bin .lss (.t 30) (.t 29), none, 0, []⟩]) (RC.seq (RC.cond (.t 31) (RC.skip) (RC.exit 2)) (RC.seq (RC.block 3 (RC.seq (RC.region 6 [
    ⟨(some 32), .move (.t 30), none, 0, []⟩,
    ⟨(some 33), .indexSl 2 (.t 28) (.t 30), none, 1, []⟩,
    ⟨(some 34), .load (some 2) (.t 33), none, 2, []⟩,
    ⟨(some 6), .newc [.int .i64 0, .int .i64 0], none, 3, []⟩,
    ⟨(some 5), .move (.t 32), none, 4, []⟩,
    ⟨none, .store 2 (.t 6) (.t 34), none, 5, []⟩]) (RC.seq (RC.region 12 [
    ⟨(some 36), .fieldAddr 9 (.t 1), none, 0, []⟩,
    ⟨(some 37), .load none (.t 36), none, 1, []⟩,
    ⟨(some 38), .move (.t 5), none, 2, []⟩,
    ⟨(some 39), .bin .add (.t 38) (.c (.s (.int .i64 1))), none, 3, []⟩,
    ⟨(some 40), .call F.kern_Kernel_Mtx [(.t 37), (.t 39)], none, 4, []⟩,
    ⟨(some 35), .move (.t 40), none, 5, []⟩,
    ⟨(some 41), .extract 0 (.t 35), none, 6, []⟩,
    ⟨(some 42), .extract 1 (.t 35), none, 7, []⟩,
    ⟨(some 43), .extract 2 (.t 35), none, 8, []⟩,
    ⟨(some 7), .move (.t 41), none, 9, []⟩,
    ⟨(some 8), .move (.t 42), none, 10, []⟩,
    ⟨(some 9), .move (.t 43), none, 11, []⟩]) (RC.seq (RC.region 3 [
    ⟨(some 44), .move (.t 8), none, 0, []⟩,
    ⟨(some 45), .len (.t 44), none, 1, []⟩,
    ⟨(some 46), .move (.c (.s (.int .i64 0))), none, 2, []⟩]) (RC.block 4 (RC.loop R.judge_view_pri_l1)))))) R.judge_view_pri_s2))
def judge_view_pri_s4 : RC :=
  RC.seq (RC.region 1 [
    ⟨(some 2), .move (.c (.s (.bool true))), none, 0, []⟩]) (RC.ret)
def judge_view_pri_s5 : RC :=
  RC.seq (RC.seq (RC.region 5 [
    ⟨(some 26), .fieldAddr 0 (.t 1), none, 0, []⟩,
    ⟨(some 27), .fieldAddr 5 (.t 26), none, 1, []⟩,
    ⟨(some 28), .load none (.t 27), none, 2, []⟩,
    ⟨(some 29), .len (.t 28), none, 3, []⟩,
    ⟨(some 30), .move (.c (.s (.int .i64 0))), none, 4, []⟩]) (RC.block 2 (RC.loop R.judge_view_pri_l3))) R.judge_view_pri_s4
def judge_view_pri : RFunc := RFunc.mk 74 [.tmp 2] (
  RC.seq (RC.region 2 [
    ⟨(some 1), .box (.t 0), none, 0, []⟩,
    ⟨(some 2), .move (.c (.s (.bool false))), none, 1, []⟩]) (RC.seq (RC.seq (RC.region 5 [
    ⟨(some 12), .fieldAddr 10 (.t 1), none, 0, []⟩,
    ⟨(some 13), .load none (.t 12), none, 1, []⟩,
    ⟨(some 14), .slSl 8 (.t 13) (some (.c (.s (.int .i64 1)))) none none, none, 2, []⟩,
    ⟨(some 15), .len (.t 14), none, 3, []⟩,
    ⟨(some 16), .move (.c (.s (.int .i64 0))), none, 4, []⟩]) (RC.block 0 (RC.loop R.judge_view_pri_l0))) R.judge_view_pri_s5))
theorem judge_view_pri_ok : chkFunc Go.Proofs.Tryz.prog [0] Go.Proofs.Tryz.f27 judge_view_pri = true := by kernel_rfl
def judge_view_wait_l0 : RC :=
  RC.seq (RC.region 1 [
    ⟨(some 28), .bin .lss (.t 27) (.t 26), none, 0, []⟩]) (RC.seq (RC.cond (.t 28) (RC.skip) (RC.exit 4)) (RC.seq (RC.block 5 (RC.seq (RC.region 3 [
    ⟨(some 29), .indexSl 1 (.t 25) (.t 27), none, 0, []⟩,
    ⟨(some 30), .load none (.t 29), none, 1, []⟩,
    ⟨(some 8), .move (.t 30), none, 2, []⟩]) (RC.seq (RC.region 30 [
    ⟨(some 31), .move (.t 8), none, 0, []⟩,
    ⟨(some 32), .bin .lss (.t 31) (.c (.s (.int .i64 1))), none, 1, []⟩,
    ⟨(some 33), .move (.t 32), none, 2, []⟩,
    ⟨(some 34), .move (.t 8), (some (33, false)), 3, []⟩,
    ⟨(some 35), .fieldAddr 10 (.t 1), (some (33, false)), 4, []⟩,
    ⟨(some 36), .load none (.t 35), (some (33, false)), 5, []⟩,
    ⟨(some 37), .len (.t 36), (some (33, false)), 6, []⟩,
    ⟨(some 38), .bin .geq (.t 34) (.t 37), (some (33, false)), 7, []⟩,
    ⟨(some 39), .pick (.t 33) (.c (.s (.bool true))) (.t 38), none, 8, []⟩,
    ⟨(some 40), .move (.t 39), none, 9, []⟩,
    ⟨(some 41), .fieldAddr 10 (.t 1), (some (40, false)), 10, []⟩,
    ⟨(some 42), .load none (.t 41), (some (40, false)), 11, []⟩,
    ⟨(some 43), .move (.t 8), (some (40, false)), 12, []⟩,
    ⟨(some 44), .indexSl 8 (.t 42) (.t 43), (some (40, false)), 13, []⟩,
    ⟨(some 45), .fieldAddr 4 (.t 44), (some (40, false)), 14, []⟩,
    ⟨(some 46), .load none (.t 45), (some (40, false)), 15, []⟩,
    ⟨(some 47), .move (.t 3), (some (40, false)), 16, []⟩,
    ⟨(some 48), .bin .neq (.t 46) (.t 47), (some (40, false)), 17, []⟩,
    ⟨(some 49), .pick (.t 40) (.c (.s (.bool true))) (.t 48), none, 18, []⟩,
    ⟨(some 50), .move (.t 49), none, 19, []⟩,
    ⟨(some 51), .fieldAddr 10 (.t 1), (some (50, false)), 20, []⟩,
    ⟨(some 52), .load none (.t 51), (some (50, false)), 21, []⟩,
    ⟨(some 53), .move (.t 8), (some (50, false)), 22, []⟩,
    ⟨(some 54), .indexSl 8 (.t 52) (.t 53), (some (50, false)), 23, []⟩,
    ⟨(some 55), .fieldAddr 5 (.t 54), (some (50, false)), 24, []⟩,
    ⟨(some 56), .load none (.t 55), (some (50, false)), 25, []⟩,
    ⟨(some 57), .move (.t 5), (some (50, false)), 26, []⟩,
    ⟨(some 58), .bin .add (.t 57) (.c (.s (.int .i64 1))), (some (50, false)), 27, []⟩,
    ⟨(some 59), .bin .neq (.t 56) (.t 58), (some (50, false)), 28, []⟩,
    ⟨(some 60), .pick (.t 50) (.c (.s (.bool true))) (.t 59), none, 29, []⟩]) (RC.cond (.t 60) (RC.seq (RC.region 1 [
    ⟨(some 2), .move (.c (.s (.bool false))), none, 0, []⟩]) (RC.ret)) (RC.skip))))) (RC.region 2 [
    ⟨(some 61), .bin .add (.t 27) (.c (.s (.int .i64 1))), none, 0, []⟩,
    ⟨(some 27), .move (.t 61), none, 1, []⟩])))
def judge_view_wait_s1 : RC :=
  RC.region 2 [
    ⟨(some 62), .bin .add (.t 20) (.c (.s (.int .i64 1))), none, 0, []⟩,
    ⟨(some 20), .move (.t 62), none, 1, []⟩]
def judge_view_wait_l2 : RC :=
  RC.seq (RC.region 1 [
    ⟨(some 21), .bin .lss (.t 20) (.t 19), none, 0, []⟩]) (RC.seq (RC.cond (.t 21) (RC.skip) (RC.exit 2)) (RC.seq (RC.block 3 (RC.seq (RC.region 5 [
    ⟨(some 22), .move (.t 20), none, 0, []⟩,
    ⟨(some 23), .indexSl 1 (.t 18) (.t 20), none, 1, []⟩,
    ⟨(some 24), .load none (.t 23), none, 2, []⟩,
    ⟨(some 5), .move (.t 22), none, 3, []⟩,
    ⟨(some 6), .move (.t 24), none, 4, []⟩]) (RC.seq (RC.region 3 [
    ⟨(some 25), .move (.t 6), none, 0, []⟩,
    ⟨(some 26), .len (.t 25), none, 1, []⟩,
    ⟨(some 27), .move (.c (.s (.int .i64 0))), none, 2, []⟩]) (RC.block 4 (RC.loop R.judge_view_wait_l0))))) R.judge_view_wait_s1))
def judge_view_wait_l3 : RC :=
  RC.seq (RC.region 1 [
    ⟨(some 67), .bin .lss (.t 66) (.t 65), none, 0, []⟩]) (RC.seq (RC.cond (.t 67) (RC.skip) (RC.exit 6)) (RC.seq (RC.block 7 (RC.seq (RC.region 6 [
    ⟨(some 68), .move (.t 66), none, 0, []⟩,
    ⟨(some 69), .indexSl 8 (.t 64) (.t 66), none, 1, []⟩,
    ⟨(some 70), .load (some 8) (.t 69), none, 2, []⟩,
    ⟨(some 10), .newc [.int .i64 0, .int .i64 0, .int .i64 0, .int .i64 0, .int .i64 0, .int .i64 0, .int .i64 0, .int .i64 0], none, 3, []⟩,
    ⟨(some 9), .move (.t 68), none, 4, []⟩,
    ⟨none, .store 8 (.t 10) (.t 70), none, 5, []⟩]) (RC.seq (RC.region 27 [
    ⟨(some 71), .fieldAddr 4 (.t 10), none, 0, []⟩,
    ⟨(some 72), .load none (.t 71), none, 1, []⟩,
    ⟨(some 73), .move (.t 3), none, 2, []⟩,
    ⟨(some 74), .bin .eql (.t 72) (.t 73), none, 3, []⟩,
    ⟨(some 75), .move (.t 74), none, 4, []⟩,
    ⟨(some 76), .fieldAddr 5 (.t 10), (some (75, true)), 5, []⟩,
    ⟨(some 77), .load none (.t 76), (some (75, true)), 6, []⟩,
    ⟨(some 78), .bin .lss (.t 77) (.c (.s (.int .i64 1))), (some (75, true)), 7, []⟩,
    ⟨(some 79), .move (.t 78), (some (75, true)), 8, []⟩,
    ⟨(some 80), .fieldAddr 5 (.t 10), (some (79, false)), 9, []⟩,
    ⟨(some 81), .load none (.t 80), (some (79, false)), 10, []⟩,
    ⟨(some 82), .move (.t 4), (some (79, false)), 11, []⟩,
    ⟨(some 83), .len (.t 82), (some (79, false)), 12, []⟩,
    ⟨(some 84), .bin .gtr (.t 81) (.t 83), (some (79, false)), 13, []⟩,
    ⟨(some 85), .pick (.t 79) (.c (.s (.bool true))) (.t 84), (some (75, true)), 14, []⟩,
    ⟨(some 86), .move (.t 85), (some (75, true)), 15, []⟩,
    ⟨(some 87), .move (.t 4), (some (86, false)), 16, []⟩,
    ⟨(some 88), .fieldAddr 5 (.t 10), (some (86, false)), 17, []⟩,
    ⟨(some 89), .load none (.t 88), (some (86, false)), 18, []⟩,
    ⟨(some 90), .bin .sub (.t 89) (.c (.s (.int .i64 1))), (some (86, false)), 19, []⟩,
    ⟨(some 91), .indexSl 1 (.t 87) (.t 90), (some (86, false)), 20, []⟩,
    ⟨(some 92), .load none (.t 91), (some (86, false)), 21, []⟩,
    ⟨(some 93), .move (.t 9), (some (86, false)), 22, []⟩,
    ⟨(some 94), .call F.slices_Contains__int_int [(.t 92), (.t 93)], (some (86, false)), 23, []⟩,
    ⟨(some 95), .un .not (.t 94), (some (86, false)), 24, []⟩,
    ⟨(some 96), .pick (.t 86) (.c (.s (.bool true))) (.t 95), (some (75, true)), 25, []⟩,
    ⟨(some 97), .pick (.t 75) (.t 96) (.c (.s (.bool false))), none, 26, []⟩]) (RC.cond (.t 97) (RC.seq (RC.region 1 [
    ⟨(some 2), .move (.c (.s (.bool false))), none, 0, []⟩]) (RC.ret)) (RC.skip))))) (RC.region 2 [
    ⟨(some 98), .bin .add (.t 66) (.c (.s (.int .i64 1))), none, 0, []⟩,
    ⟨(some 66), .move (.t 98), none, 1, []⟩])))
def judge_view_wait_s4 : RC :=
  RC.seq (RC.region 4 [
    ⟨(some 63), .fieldAddr 10 (.t 1), none, 0, []⟩,
    ⟨(some 64), .load none (.t 63), none, 1, []⟩,
    ⟨(some 65), .len (.t 64), none, 2, []⟩,
    ⟨(some 66), .move (.c (.s (.int .i64 0))), none, 3, []⟩]) (RC.block 6 (RC.loop R.judge_view_wait_l3))
def judge_view_wait_s5 : RC :=
  RC.region 3 [
    ⟨(some 13), .move (.t 3), none, 0, []⟩,
    ⟨(some 14), .bin .add (.t 13) (.c (.s (.int .i64 1))), none, 1, []⟩,
    ⟨(some 3), .move (.t 14), none, 2, []⟩]
def judge_view_wait_l6 : RC :=
  RC.seq (RC.seq (RC.region 2 [
    ⟨(some 11), .move (.t 3), none, 0, []⟩,
    ⟨(some 12), .bin .leq (.t 11) (.c (.s (.int .i64 8))), none, 1, []⟩]) (RC.cond (.t 12) (RC.skip) (RC.exit 0))) (RC.seq (RC.block 1 (RC.seq (RC.region 4 [
    ⟨(some 15), .load (some 11) (.t 1), none, 0, []⟩,
    ⟨(some 16), .move (.t 3), none, 1, []⟩,
    ⟨(some 17), .call F.judge_view_lines [(.t 15), (.t 16)], none, 2, []⟩,
    ⟨(some 4), .move (.t 17), none, 3, []⟩]) (RC.seq (RC.seq (RC.region 3 [
    ⟨(some 18), .move (.t 4), none, 0, []⟩,
    ⟨(some 19), .len (.t 18), none, 1, []⟩,
    ⟨(some 20), .move (.c (.s (.int .i64 0))), none, 2, []⟩]) (RC.block 2 (RC.loop R.judge_view_wait_l2))) R.judge_view_wait_s4))) R.judge_view_wait_s5)
def judge_view_wait_s7 : RC :=
  RC.seq (RC.region 1 [
    ⟨(some 2), .move (.c (.s (.bool true))), none, 0, []⟩]) (RC.ret)
def judge_view_wait : RFunc := RFunc.mk 99 [.tmp 2] (
  RC.seq (RC.region 2 [
    ⟨(some 1), .box (.t 0), none, 0, []⟩,
    ⟨(some 2), .move (.c (.s (.bool false))), none, 1, []⟩]) (RC.seq (RC.seq (RC.region 1 [
    ⟨(some 3), .move (.c (.s (.int .i64 3))), none, 0, []⟩]) (RC.block 0 (RC.loop R.judge_view_wait_l6))) R.judge_view_wait_s7))
theorem judge_view_wait_ok : chkFunc Go.Proofs.Tryz.prog [0] Go.Proofs.Tryz.f28 judge_view_wait = true := by kernel_rfl
def judge_view_count_l0 : RC :=
  RC.seq (RC.region 1 [
    ⟨(some 19), .bin .lss (.t 18) (.t 17), none, 0, []⟩]) (RC.seq (RC.cond (.t 19) (RC.skip) (RC.exit 0)) (RC.seq (RC.block 1 (RC.seq (RC.region 6 [
    ⟨(some 20), .move (.t 18), none, 0, []⟩,
    ⟨(some 21), .indexSl 3 (.t 16) (.t 18), none, 1, []⟩,
    ⟨(some 22), .load (some 3) (.t 21), none, 2, []⟩,
    ⟨(some 4), .newc [.bool false, .int .i64 0, .int .i64 0], none, 3, []⟩,
    ⟨(some 3), .move (.t 20), none, 4, []⟩,
    ⟨none, .store 3 (.t 4) (.t 22), none, 5, []⟩]) (RC.seq (RC.region 12 [
    ⟨(some 24), .fieldAddr 9 (.t 1), none, 0, []⟩,
    ⟨(some 25), .load none (.t 24), none, 1, []⟩,
    ⟨(some 26), .move (.t 3), none, 2, []⟩,
    ⟨(some 27), .bin .add (.t 26) (.c (.s (.int .i64 1))), none, 3, []⟩,
    ⟨(some 28), .call F.kern_Kernel_Sem [(.t 25), (.t 27)], none, 4, []⟩,
    ⟨(some 23), .move (.t 28), none, 5, []⟩,
    ⟨(some 29), .extract 0 (.t 23), none, 6, []⟩,
    ⟨(some 30), .extract 1 (.t 23), none, 7, []⟩,
    ⟨(some 31), .extract 2 (.t 23), none, 8, []⟩,
    ⟨(some 5), .move (.t 29), none, 9, []⟩,
    ⟨(some 6), .move (.t 30), none, 10, []⟩,
    ⟨(some 7), .move (.t 31), none, 11, []⟩]) (RC.seq (RC.region 13 [
    ⟨(some 32), .move (.t 5), none, 0, []⟩,
    ⟨(some 33), .fieldAddr 2 (.t 4), none, 1, []⟩,
    ⟨(some 34), .load none (.t 33), none, 2, []⟩,
    ⟨(some 35), .bin .gtr (.t 32) (.t 34), none, 3, []⟩,
    ⟨(some 36), .move (.t 35), none, 4, []⟩,
    ⟨(some 37), .move (.t 5), (some (36, false)), 5, []⟩,
    ⟨(some 38), .bin .neq (.t 37) (.c (.s (.int .i64 0))), (some (36, false)), 6, []⟩,
    ⟨(some 39), .move (.t 38), (some (36, false)), 7, []⟩,
    ⟨(some 40), .move (.t 6), (some (39, true)), 8, []⟩,
    ⟨(some 41), .len (.t 40), (some (39, true)), 9, []⟩,
    ⟨(some 42), .bin .gtr (.t 41) (.c (.s (.int .i64 0))), (some (39, true)), 10, []⟩,
    ⟨(some 43), .pick (.t 39) (.t 42) (.c (.s (.bool false))), (some (36, false)), 11, []⟩,
    ⟨(some 44), .pick (.t 36) (.c (.s (.bool true))) (.t 43), none, 12, []⟩]) (RC.cond (.t 44) (RC.seq (RC.region 1 [
    ⟨(some 2), .move (.c (.s (.bool false))), none, 0, []⟩]) (RC.ret)) (RC.skip)))))) (RC.region 2 [
    ⟨(some 45), .bin .add (.t 18) (.c (.s (.int .i64 1))), none, 0, []⟩,
    ⟨(some 18), .move (.t 45), none, 1, []⟩])))
def judge_view_count_l1 : RC :=
  RC.seq (RC.region 1 [
    ⟨(some 51), .bin .lss (.t 50) (.t 49), none, 0, []⟩]) (RC.seq (RC.cond (.t 51) (RC.skip) (RC.exit 2)) (RC.seq (RC.block 3 (RC.seq (RC.region 6 [
    ⟨(some 52), .move (.t 50), none, 0, []⟩,
    ⟨(some 53), .indexSl 2 (.t 48) (.t 50), none, 1, []⟩,
    ⟨(some 54), .load (some 2) (.t 53), none, 2, []⟩,
    ⟨(some 9), .newc [.bool false, .int .i64 0], none, 3, []⟩,
    ⟨(some 8), .move (.t 52), none, 4, []⟩,
    ⟨none, .store 2 (.t 9) (.t 54), none, 5, []⟩]) (RC.seq (RC.region 14 [
    ⟨(some 56), .fieldAddr 9 (.t 1), none, 0, []⟩,
    ⟨(some 57), .load none (.t 56), none, 1, []⟩,
    ⟨(some 58), .move (.t 8), none, 2, []⟩,
    ⟨(some 59), .bin .add (.t 58) (.c (.s (.int .i64 1))), none, 3, []⟩,
    ⟨(some 60), .call F.kern_Kernel_Data [(.t 57), (.t 59)], none, 4, []⟩,
    ⟨(some 55), .move (.t 60), none, 5, []⟩,
    ⟨(some 61), .extract 0 (.t 55), none, 6, []⟩,
    ⟨(some 62), .extract 1 (.t 55), none, 7, []⟩,
    ⟨(some 63), .extract 2 (.t 55), none, 8, []⟩,
    ⟨(some 64), .extract 3 (.t 55), none, 9, []⟩,
    ⟨(some 10), .move (.t 61), none, 10, []⟩,
    ⟨(some 11), .move (.t 62), none, 11, []⟩,
    ⟨(some 12), .move (.t 63), none, 12, []⟩,
    ⟨(some 13), .move (.t 64), none, 13, []⟩]) (RC.seq (RC.region 5 [
    ⟨(some 65), .move (.t 10), none, 0, []⟩,
    ⟨(some 66), .len (.t 65), none, 1, []⟩,
    ⟨(some 67), .fieldAddr 1 (.t 9), none, 2, []⟩,
    ⟨(some 68), .load none (.t 67), none, 3, []⟩,
    ⟨(some 69), .bin .gtr (.t 66) (.t 68), none, 4, []⟩]) (RC.cond (.t 69) (RC.seq (RC.region 1 [
    ⟨(some 2), .move (.c (.s (.bool false))), none, 0, []⟩]) (RC.ret)) (RC.skip)))))) (RC.region 2 [
    ⟨(some 70), .bin .add (.t 50) (.c (.s (.int .i64 1))), none, 0, []⟩,
    ⟨(some 50), .move (.t 70), none, 1, []⟩])))
def judge_view_count_s2 : RC :=
  RC.seq (RC.region 1 [
    ⟨(some 2), .move (.c (.s (.bool true))), none, 0, []⟩]) (RC.ret)
def judge_view_count_s3 : RC :=
  RC.seq (RC.seq (RC.region 5 [
    ⟨(some 46), .fieldAddr 0 (.t 1), none, 0, []⟩,
    ⟨(some 47), .fieldAddr 4 (.t 46), none, 1, []⟩,
    ⟨(some 48), .load none (.t 47), none, 2, []⟩,
    ⟨(some 49), .len (.t 48), none, 3, []⟩,
    ⟨(some 50), .move (.c (.s (.int .i64 0))), none, 4, []⟩]) (RC.block 2 (RC.loop R.judge_view_count_l1))) R.judge_view_count_s2
def judge_view_count : RFunc := RFunc.mk 71 [.tmp 2] (
  RC.seq (RC.region 2 [
    ⟨(some 1), .box (.t 0), none, 0, []⟩,
    ⟨(some 2), .move (.c (.s (.bool false))), none, 1, []⟩]) (RC.seq (RC.seq (RC.region 5 [
    ⟨(some 14), .fieldAddr 0 (.t 1), none, 0, []⟩,
    ⟨(some 15), .fieldAddr 2 (.t 14), none, 1, []⟩,
    ⟨(some 16), .load none (.t 15), none, 2, []⟩,
    ⟨(some 17), .len (.t 16), none, 3, []⟩,
    ⟨(some 18), .move (.c (.s (.int .i64 0))), none, 4, []⟩]) (RC.block 0 (RC.loop R.judge_view_count_l0))) R.judge_view_count_s3))
theorem judge_view_count_ok : chkFunc Go.Proofs.Tryz.prog [0] Go.Proofs.Tryz.f29 judge_view_count = true := by kernel_rfl
def kern_Kernel_Do_s0 : RC :=
  RC.seq (RC.region 2 [
    ⟨(some 80), .move (.t 0), none, 0, []⟩,
    ⟨(some 81), .call F.kern_Kernel_choose [(.t 80)], none, 1, []⟩]) (RC.seq (RC.region 2 [
    ⟨(some 82), .load (some 2) (.t 6), none, 0, []⟩,
    ⟨none, .store 2 (.t 4) (.t 82), none, 1, []⟩]) (RC.ret))
def kern_Kernel_Do : RFunc := RFunc.mk 83 [.cell 4 (some 2)] (
  RC.seq (RC.region 2 [
    ⟨(some 3), .box (.t 1), none, 0, []⟩,
    ⟨(some 4), .newc [.int .i64 0, .int .i64 0], none, 1, []⟩]) (RC.seq (RC.seq (RC.region 4 [
    ⟨(some 7), .fieldAddr 0 (.t 3), none, 0, []⟩,
    ⟨(some 8), .load none (.t 7), none, 1, []⟩,
    ⟨(some 9), .call F.calls_Known [(.t 8)], none, 2, []⟩,
    ⟨(some 10), .un .not (.t 9), none, 3, []⟩]) (RC.cond (.t 10) (RC.seq (RC.region 2 [
    ⟨(some 11), .call F.kern_say [(.c (.s (.int .i64 (-10)))), (.c (.s (.slice none 0 0 1)))], none, 0, []⟩,
    ⟨none, .store 2 (.t 4) (.t 11), none, 1, []⟩]) (RC.ret)) (RC.skip))) (RC.seq (RC.seq (RC.region 13 [
    ⟨(some 12), .move (.t 0), none, 0, []⟩,
    ⟨(some 13), .nilCheck (.t 12), none, 1, []⟩,
    ⟨(some 14), .fieldAddr 6 (.t 13), none, 2, []⟩,
    ⟨(some 15), .load none (.t 14), none, 3, []⟩,
    ⟨(some 16), .load (some 5) (.t 3), none, 4, []⟩,
    ⟨(some 18), .move (.t 0), none, 6, []⟩,
    ⟨(some 19), .nilCheck (.t 18), none, 7, []⟩,
    ⟨(some 20), .fieldAddr 12 (.t 19), none, 8, []⟩,
    ⟨(some 21), .load none (.t 20), none, 9, []⟩,
    ⟨(some 22), .bin .eql (.t 21) (.c (.s (.int .i64 0))), none, 10, []⟩,
    ⟨(some 17), .call F.calls_Kind [(.t 16)], none, 5, [⟨15, none, (.t 14), none⟩, ⟨21, none, (.t 20), none⟩]⟩,
    ⟨(some 23), .call F.ctx_Place_May [(.t 15), (.t 17), (.t 22)], none, 11, []⟩,
    ⟨(some 5), .move (.t 23), none, 12, []⟩]) (RC.seq (RC.region 2 [
    ⟨(some 24), .move (.t 5), none, 0, []⟩,
    ⟨(some 25), .bin .neq (.t 24) (.c (.s (.int .i64 0))), none, 1, []⟩]) (RC.cond (.t 25) (RC.seq (RC.region 3 [
    ⟨(some 26), .move (.t 5), none, 0, []⟩,
    ⟨(some 27), .call F.kern_say [(.t 26), (.c (.s (.slice none 0 0 1)))], none, 1, []⟩,
    ⟨none, .store 2 (.t 4) (.t 27), none, 2, []⟩]) (RC.ret)) (RC.skip)))) (RC.seq (RC.region 1 [
    ⟨(some 6), .newc [.int .i64 0, .int .i64 0], none, 0, []⟩]) (RC.seq (RC.block 0 (RC.seq (RC.region 4 [
    ⟨(some 32), .fieldAddr 0 (.t 3), none, 0, []⟩,
    ⟨(some 33), .load none (.t 32), none, 1, []⟩,
    ⟨(some 34), .bin .leq (.t 33) (.c (.s (.int .i64 22))), none, 2, []⟩,
    ⟨(some 31), .move (.t 34), none, 3, []⟩]) (RC.cond (.t 31) (RC.region 4 [
    ⟨(some 35), .move (.t 0), none, 0, []⟩,
    ⟨(some 36), .load (some 5) (.t 3), none, 1, []⟩,
    ⟨(some 37), .call F.kern_Kernel_tasks [(.t 35), (.t 36)], none, 2, []⟩,
    ⟨none, .store 2 (.t 6) (.t 37), none, 3, []⟩]) (RC.seq (RC.region 4 [
    ⟨(some 39), .fieldAddr 0 (.t 3), none, 0, []⟩,
    ⟨(some 40), .load none (.t 39), none, 1, []⟩,
    ⟨(some 41), .bin .leq (.t 40) (.c (.s (.int .i64 27))), none, 2, []⟩,
    ⟨(some 38), .move (.t 41), none, 3, []⟩]) (RC.cond (.t 38) (RC.region 4 [
    ⟨(some 42), .move (.t 0), none, 0, []⟩,
    ⟨(some 43), .load (some 5) (.t 3), none, 1, []⟩,
    ⟨(some 44), .call F.kern_Kernel_sem [(.t 42), (.t 43)], none, 2, []⟩,
    ⟨none, .store 2 (.t 6) (.t 44), none, 3, []⟩]) (RC.seq (RC.region 4 [
    ⟨(some 46), .fieldAddr 0 (.t 3), none, 0, []⟩,
    ⟨(some 47), .load none (.t 46), none, 1, []⟩,
    ⟨(some 48), .bin .leq (.t 47) (.c (.s (.int .i64 33))), none, 2, []⟩,
    ⟨(some 45), .move (.t 48), none, 3, []⟩]) (RC.cond (.t 45) (RC.region 4 [
    ⟨(some 49), .move (.t 0), none, 0, []⟩,
    ⟨(some 50), .load (some 5) (.t 3), none, 1, []⟩,
    ⟨(some 51), .call F.kern_Kernel_flag [(.t 49), (.t 50)], none, 2, []⟩,
    ⟨none, .store 2 (.t 6) (.t 51), none, 3, []⟩]) (RC.seq (RC.region 4 [
    ⟨(some 53), .fieldAddr 0 (.t 3), none, 0, []⟩,
    ⟨(some 54), .load none (.t 53), none, 1, []⟩,
    ⟨(some 55), .bin .leq (.t 54) (.c (.s (.int .i64 42))), none, 2, []⟩,
    ⟨(some 52), .move (.t 55), none, 3, []⟩]) (RC.cond (.t 52) (RC.region 4 [
    ⟨(some 56), .move (.t 0), none, 0, []⟩,
    ⟨(some 57), .load (some 5) (.t 3), none, 1, []⟩,
    ⟨(some 58), .call F.kern_Kernel_data [(.t 56), (.t 57)], none, 2, []⟩,
    ⟨none, .store 2 (.t 6) (.t 58), none, 3, []⟩]) (RC.seq (RC.region 4 [
    ⟨(some 60), .fieldAddr 0 (.t 3), none, 0, []⟩,
    ⟨(some 61), .load none (.t 60), none, 1, []⟩,
    ⟨(some 62), .bin .leq (.t 61) (.c (.s (.int .i64 46))), none, 2, []⟩,
    ⟨(some 59), .move (.t 62), none, 3, []⟩]) (RC.cond (.t 59) (RC.region 4 [
    ⟨(some 63), .move (.t 0), none, 0, []⟩,
    ⟨(some 64), .load (some 5) (.t 3), none, 1, []⟩,
    ⟨(some 65), .call F.kern_Kernel_mutex [(.t 63), (.t 64)], none, 2, []⟩,
    ⟨none, .store 2 (.t 6) (.t 65), none, 3, []⟩]) (RC.seq (RC.region 4 [
    ⟨(some 67), .fieldAddr 0 (.t 3), none, 0, []⟩,
    ⟨(some 68), .load none (.t 67), none, 1, []⟩,
    ⟨(some 69), .bin .leq (.t 68) (.c (.s (.int .i64 50))), none, 2, []⟩,
    ⟨(some 66), .move (.t 69), none, 3, []⟩]) (RC.cond (.t 66) (RC.region 4 [
    ⟨(some 70), .move (.t 0), none, 0, []⟩,
    ⟨(some 71), .load (some 5) (.t 3), none, 1, []⟩,
    ⟨(some 72), .call F.kern_Kernel_block [(.t 70), (.t 71)], none, 2, []⟩,
    ⟨none, .store 2 (.t 6) (.t 72), none, 3, []⟩]) (RC.seq (RC.region 4 [
    ⟨(some 74), .fieldAddr 0 (.t 3), none, 0, []⟩,
    ⟨(some 75), .load none (.t 74), none, 1, []⟩,
    ⟨(some 76), .bin .leq (.t 75) (.c (.s (.int .i64 56))), none, 2, []⟩,
    ⟨(some 73), .move (.t 76), none, 3, []⟩]) (RC.cond (.t 73) (RC.region 4 [
    ⟨(some 77), .move (.t 0), none, 0, []⟩,
    ⟨(some 78), .load (some 5) (.t 3), none, 1, []⟩,
    ⟨(some 79), .call F.kern_Kernel_time [(.t 77), (.t 78)], none, 2, []⟩,
    ⟨none, .store 2 (.t 6) (.t 79), none, 3, []⟩]) (RC.region 4 [
    ⟨(some 28), .move (.t 0), none, 0, []⟩,
    ⟨(some 29), .load (some 5) (.t 3), none, 1, []⟩,
    ⟨(some 30), .call F.kern_Kernel_state [(.t 28), (.t 29)], none, 2, []⟩,
    ⟨none, .store 2 (.t 6) (.t 30), none, 3, []⟩])))))))))))))))) R.kern_Kernel_Do_s0)))))
theorem kern_Kernel_Do_ok : chkFunc Go.Proofs.Tryz.prog [0] Go.Proofs.Tryz.f30 kern_Kernel_Do = true := by kernel_rfl
def kern_Kernel_Tick_s0 : RC :=
  RC.seq (RC.region 3 [
    ⟨(some 33), .move (.t 0), none, 0, []⟩,
    ⟨(some 34), .move (.t 6), none, 1, []⟩,
    ⟨(some 35), .call F.kern_Kernel_leave [(.t 33), (.t 34)], none, 2, []⟩]) (RC.seq (RC.region 5 [
    ⟨(some 36), .move (.t 0), none, 0, []⟩,
    ⟨(some 37), .move (.t 6), none, 1, []⟩,
    ⟨(some 38), .move (.t 7), none, 2, []⟩,
    ⟨(some 39), .build [.int .i64 0, .int .i64 0] [(0, 1, (.t 38))], none, 3, []⟩,
    ⟨(some 40), .call F.kern_Kernel_wake [(.t 36), (.t 37), (.t 39)], none, 4, []⟩]) (RC.region 2 [
    ⟨(some 41), .move (.t 0), none, 0, []⟩,
    ⟨(some 42), .call F.kern_Kernel_settle [(.t 41)], none, 1, []⟩]))
def kern_Kernel_Tick_s1 : RC :=
  RC.region 2 [
    ⟨(some 43), .bin .add (.t 18) (.c (.s (.int .i64 1))), none, 0, []⟩,
    ⟨(some 18), .move (.t 43), none, 1, []⟩]
def kern_Kernel_Tick_l2 : RC :=
  RC.seq (RC.region 1 [
    ⟨(some 19), .bin .lss (.t 18) (.t 17), none, 0, []⟩]) (RC.seq (RC.cond (.t 19) (RC.skip) (RC.exit 0)) (RC.seq (RC.block 1 (RC.seq (RC.region 3 [
    ⟨(some 20), .indexSl 1 (.t 16) (.t 18), none, 0, []⟩,
    ⟨(some 21), .load none (.t 20), none, 1, []⟩,
    ⟨(some 6), .move (.t 21), none, 2, []⟩]) (RC.seq (RC.region 1 [
    ⟨(some 7), .move (.c (.s (.int .i64 (-50)))), none, 0, []⟩]) (RC.seq (RC.seq (RC.region 11 [
    ⟨(some 22), .move (.t 0), none, 0, []⟩,
    ⟨(some 23), .nilCheck (.t 22), none, 1, []⟩,
    ⟨(some 24), .fieldAddr 9 (.t 23), none, 2, []⟩,
    ⟨(some 25), .load none (.t 24), none, 3, []⟩,
    ⟨(some 26), .move (.t 6), none, 4, []⟩,
    ⟨(some 27), .indexSl 1 (.t 25) (.t 26), none, 5, []⟩,
    ⟨(some 28), .load none (.t 27), none, 6, []⟩,
    ⟨(some 29), .nilCheck (.t 28), none, 7, []⟩,
    ⟨(some 30), .fieldAddr 3 (.t 29), none, 8, []⟩,
    ⟨(some 31), .load none (.t 30), none, 9, []⟩,
    ⟨(some 32), .bin .eql (.t 31) (.c (.s (.int .i64 2))), none, 10, []⟩]) (RC.cond (.t 32) (RC.region 1 [
    ⟨(some 7), .move (.c (.s (.int .i64 0))), none, 0, []⟩]) (RC.skip))) R.kern_Kernel_Tick_s0)))) R.kern_Kernel_Tick_s1))
def kern_Kernel_Tick_s3 : RC :=
  RC.seq (RC.region 2 [
    ⟨(some 44), .move (.t 0), none, 0, []⟩,
    ⟨(some 45), .call F.kern_Kernel_choose [(.t 44)], none, 1, []⟩]) (RC.seq (RC.region 2 [
    ⟨(some 46), .move (.t 3), none, 0, []⟩,
    ⟨(some 2), .move (.t 46), none, 1, []⟩]) (RC.ret))
def kern_Kernel_Tick : RFunc := RFunc.mk 47 [.tmp 2] (
  RC.seq (RC.region 1 [
    ⟨(some 2), .move (.c (.s (.slice none 0 0 1))), none, 0, []⟩]) (RC.seq (RC.region 10 [
    ⟨(some 9), .move (.t 0), none, 0, []⟩,
    ⟨(some 10), .nilCheck (.t 9), none, 1, []⟩,
    ⟨(some 11), .fieldAddr 7 (.t 10), none, 2, []⟩,
    ⟨(some 12), .load none (.t 11), none, 3, []⟩,
    ⟨(some 13), .call F.cyc_Hands_Pass [(.t 12)], none, 4, []⟩,
    ⟨(some 8), .move (.t 13), none, 5, []⟩,
    ⟨(some 14), .extract 0 (.t 8), none, 6, []⟩,
    ⟨(some 15), .extract 1 (.t 8), none, 7, []⟩,
    ⟨(some 3), .move (.t 14), none, 8, []⟩,
    ⟨(some 4), .move (.t 15), none, 9, []⟩]) (RC.seq (RC.seq (RC.region 3 [
    ⟨(some 16), .move (.t 4), none, 0, []⟩,
    ⟨(some 17), .len (.t 16), none, 1, []⟩,
    ⟨(some 18), .move (.c (.s (.int .i64 0))), none, 2, []⟩]) (RC.block 0 (RC.loop R.kern_Kernel_Tick_l2))) R.kern_Kernel_Tick_s3)))
theorem kern_Kernel_Tick_ok : chkFunc Go.Proofs.Tryz.prog [0] Go.Proofs.Tryz.f31 kern_Kernel_Tick = true := by kernel_rfl
def kern_Kernel_Int : RFunc := RFunc.mk 15 [.tmp 4] (
  RC.seq (RC.region 1 [
    ⟨(some 4), .move (.c (.s (.int .i64 0))), none, 0, []⟩]) (RC.seq (RC.region 7 [
    ⟨(some 6), .move (.t 0), none, 0, []⟩,
    ⟨(some 7), .nilCheck (.t 6), none, 1, []⟩,
    ⟨(some 8), .fieldAddr 6 (.t 7), none, 2, []⟩,
    ⟨(some 9), .load none (.t 8), none, 3, []⟩,
    ⟨(some 10), .move (.t 1), none, 4, []⟩,
    ⟨(some 11), .call F.ctx_Place_Enter [(.t 9), (.t 10)], none, 5, []⟩,
    ⟨(some 5), .move (.t 11), none, 6, []⟩]) (RC.seq (RC.region 2 [
    ⟨(some 12), .move (.t 0), none, 0, []⟩,
    ⟨(some 13), .call F.kern_Kernel_choose [(.t 12)], none, 1, []⟩]) (RC.seq (RC.region 2 [
    ⟨(some 14), .move (.t 5), none, 0, []⟩,
    ⟨(some 4), .move (.t 14), none, 1, []⟩]) (RC.ret)))))
theorem kern_Kernel_Int_ok : chkFunc Go.Proofs.Tryz.prog [0] Go.Proofs.Tryz.f32 kern_Kernel_Int = true := by kernel_rfl
def kern_Kernel_Ret : RFunc := RFunc.mk 12 [.tmp 2] (
  RC.seq (RC.region 1 [
    ⟨(some 2), .move (.c (.s (.int .i64 0))), none, 0, []⟩]) (RC.seq (RC.region 6 [
    ⟨(some 4), .move (.t 0), none, 0, []⟩,
    ⟨(some 5), .nilCheck (.t 4), none, 1, []⟩,
    ⟨(some 6), .fieldAddr 6 (.t 5), none, 2, []⟩,
    ⟨(some 7), .load none (.t 6), none, 3, []⟩,
    ⟨(some 8), .call F.ctx_Place_Exit [(.t 7)], none, 4, []⟩,
    ⟨(some 3), .move (.t 8), none, 5, []⟩]) (RC.seq (RC.region 2 [
    ⟨(some 9), .move (.t 0), none, 0, []⟩,
    ⟨(some 10), .call F.kern_Kernel_choose [(.t 9)], none, 1, []⟩]) (RC.seq (RC.region 2 [
    ⟨(some 11), .move (.t 3), none, 0, []⟩,
    ⟨(some 2), .move (.t 11), none, 1, []⟩]) (RC.ret)))))
theorem kern_Kernel_Ret_ok : chkFunc Go.Proofs.Tryz.prog [0] Go.Proofs.Tryz.f33 kern_Kernel_Ret = true := by kernel_rfl
def conf_first_l0 : RC :=
  RC.seq (RC.region 1 [
    ⟨(some 32), .bin .lss (.t 31) (.t 30), none, 0, []⟩]) (RC.seq (RC.cond (.t 32) (RC.skip) (RC.exit 2)) (RC.seq (RC.block 3 (RC.seq (RC.region 2 [
    ⟨(some 33), .move (.t 31), none, 0, []⟩,
    ⟨(some 7), .move (.t 33), none, 1, []⟩]) (RC.seq (RC.region 5 [
    ⟨(some 34), .fieldAddr 5 (.t 6), none, 0, []⟩,
    ⟨(some 35), .load none (.t 34), none, 1, []⟩,
    ⟨(some 36), .move (.t 7), none, 2, []⟩,
    ⟨(some 37), .callv (.t 35) [(.t 36)], none, 3, []⟩,
    ⟨(some 8), .move (.t 37), none, 4, []⟩]) (RC.seq (RC.region 2 [
    ⟨(some 38), .move (.t 8), none, 0, []⟩,
    ⟨(some 39), .bin .neq (.t 38) (.c (.s (.int .i64 0))), none, 1, []⟩]) (RC.cond (.t 39) (RC.seq (RC.region 8 [
    ⟨(some 40), .fieldAddr 0 (.t 6), none, 0, []⟩,
    ⟨(some 41), .load none (.t 40), none, 1, []⟩,
    ⟨(some 42), .move (.t 7), none, 2, []⟩,
    ⟨(some 43), .bin .add (.t 42) (.c (.s (.int .i64 1))), none, 3, []⟩,
    ⟨(some 44), .move (.t 8), none, 4, []⟩,
    ⟨(some 2), .move (.t 41), none, 5, []⟩,
    ⟨(some 3), .move (.t 43), none, 6, []⟩,
    ⟨(some 4), .move (.t 44), none, 7, []⟩]) (RC.ret)) (RC.skip)))))) (RC.region 2 [
    ⟨(some 45), .bin .add (.t 31) (.c (.s (.int .i64 1))), none, 0, []⟩,
    ⟨(some 31), .move (.t 45), none, 1, []⟩])))
def conf_first_s1 : RC :=
  RC.region 2 [
    ⟨(some 46), .bin .add (.t 11) (.c (.s (.int .i64 1))), none, 0, []⟩,
    ⟨(some 11), .move (.t 46), none, 1, []⟩]
def conf_first_l2 : RC :=
  RC.seq (RC.region 1 [
    ⟨(some 12), .bin .lss (.t 11) (.t 10), none, 0, []⟩]) (RC.seq (RC.cond (.t 12) (RC.skip) (RC.exit 0)) (RC.seq (RC.block 1 (RC.seq (RC.region 4 [
    ⟨(some 13), .indexSl 6 (.t 9) (.t 11), none, 0, []⟩,
    ⟨(some 14), .load (some 6) (.t 13), none, 1, []⟩,
    ⟨(some 6), .newc [.str ⟨#[]⟩, .str ⟨#[]⟩, .int .i64 0, .int .i64 0, .int .i64 0, .nilfn], none, 2, []⟩,
    ⟨none, .store 6 (.t 6) (.t 14), none, 3, []⟩]) (RC.seq (RC.seq (RC.region 12 [
    ⟨(some 15), .fieldAddr 2 (.t 6), none, 0, []⟩,
    ⟨(some 16), .load none (.t 15), none, 1, []⟩,
    ⟨(some 17), .fieldAddr 3 (.t 6), none, 2, []⟩,
    ⟨(some 18), .load none (.t 17), none, 3, []⟩,
    ⟨(some 19), .bin .lss (.t 16) (.t 18), none, 4, []⟩,
    ⟨(some 20), .move (.t 19), none, 5, []⟩,
    ⟨(some 21), .fieldAddr 2 (.t 6), (some (20, false)), 6, []⟩,
    ⟨(some 22), .load none (.t 21), (some (20, false)), 7, []⟩,
    ⟨(some 23), .fieldAddr 4 (.t 6), (some (20, false)), 8, []⟩,
    ⟨(some 24), .load none (.t 23), (some (20, false)), 9, []⟩,
    ⟨(some 25), .bin .gtr (.t 22) (.t 24), (some (20, false)), 10, []⟩,
    ⟨(some 26), .pick (.t 20) (.c (.s (.bool true))) (.t 25), none, 11, []⟩]) (RC.cond (.t 26) (RC.seq (RC.region 5 [
    ⟨(some 27), .fieldAddr 1 (.t 6), none, 0, []⟩,
    ⟨(some 28), .load none (.t 27), none, 1, []⟩,
    ⟨(some 2), .move (.t 28), none, 2, []⟩,
    ⟨(some 3), .move (.c (.s (.int .i64 0))), none, 3, []⟩,
    ⟨(some 4), .move (.c (.s (.int .i64 (-17)))), none, 4, []⟩]) (RC.ret)) (RC.skip))) (RC.seq (RC.region 3 [
    ⟨(some 29), .fieldAddr 2 (.t 6), none, 0, []⟩,
    ⟨(some 30), .load none (.t 29), none, 1, []⟩,
    ⟨(some 31), .move (.c (.s (.int .i64 0))), none, 2, []⟩]) (RC.block 2 (RC.loop R.conf_first_l0)))))) R.conf_first_s1))
def conf_first_s3 : RC :=
  RC.seq (RC.region 3 [
    ⟨(some 2), .move (.c (.s (.str ⟨#[]⟩))), none, 0, []⟩,
    ⟨(some 3), .move (.c (.s (.int .i64 0))), none, 1, []⟩,
    ⟨(some 4), .move (.c (.s (.int .i64 0))), none, 2, []⟩]) (RC.ret)
def conf_first : RFunc := RFunc.mk 47 [.tmp 2, .tmp 3, .tmp 4] (
  RC.seq (RC.region 3 [
    ⟨(some 2), .move (.c (.s (.str ⟨#[]⟩))), none, 0, []⟩,
    ⟨(some 3), .move (.c (.s (.int .i64 0))), none, 1, []⟩,
    ⟨(some 4), .move (.c (.s (.int .i64 0))), none, 2, []⟩]) (RC.seq (RC.seq (RC.region 3 [
    ⟨(some 9), .move (.t 0), none, 0, []⟩,
    ⟨(some 10), .len (.t 9), none, 1, []⟩,
    ⟨(some 11), .move (.c (.s (.int .i64 0))), none, 2, []⟩]) (RC.block 0 (RC.loop R.conf_first_l2))) R.conf_first_s3))
theorem conf_first_ok : chkFunc Go.Proofs.Tryz.prog [0] Go.Proofs.Tryz.f34 conf_first = true := by kernel_rfl
def conf_Check_1 : RFunc := RFunc.mk 17 [.tmp 3] (
  RC.seq (RC.region 1 [
    ⟨(some 3), .move (.c (.s (.int .i64 0))), none, 0, []⟩]) (RC.seq (RC.seq (RC.region 7 [
    ⟨(some 5), .fieldAddr 1 (.t 1), none, 0, []⟩,
    ⟨(some 6), .load none (.t 5), none, 1, []⟩,
    ⟨(some 7), .move (.t 0), none, 2, []⟩,
    ⟨(some 8), .indexSl 2 (.t 6) (.t 7), none, 3, []⟩,
    ⟨(some 9), .fieldAddr 0 (.t 8), none, 4, []⟩,
    ⟨(some 10), .load none (.t 9), none, 5, []⟩,
    ⟨(some 4), .move (.t 10), none, 6, []⟩]) (RC.seq (RC.region 6 [
    ⟨(some 11), .move (.t 4), none, 0, []⟩,
    ⟨(some 12), .bin .lss (.t 11) (.c (.s (.int .i64 1))), none, 1, []⟩,
    ⟨(some 13), .move (.t 12), none, 2, []⟩,
    ⟨(some 14), .move (.t 4), (some (13, false)), 3, []⟩,
    ⟨(some 15), .bin .gtr (.t 14) (.c (.s (.int .i64 16))), (some (13, false)), 4, []⟩,
    ⟨(some 16), .pick (.t 13) (.c (.s (.bool true))) (.t 15), none, 5, []⟩]) (RC.cond (.t 16) (RC.seq (RC.region 1 [
    ⟨(some 3), .move (.c (.s (.int .i64 (-17)))), none, 0, []⟩]) (RC.ret)) (RC.skip)))) (RC.seq (RC.region 1 [
    ⟨(some 3), .move (.c (.s (.int .i64 0))), none, 0, []⟩]) (RC.ret))))
theorem conf_Check_1_ok : chkFunc Go.Proofs.Tryz.prog [0] Go.Proofs.Tryz.f35 conf_Check_1 = true := by kernel_rfl
def conf_objects : RFunc := RFunc.mk 12 [.cell 6 (some 6)] (
  RC.seq (RC.region 1 [
    ⟨(some 6), .newc [.str ⟨#[]⟩, .str ⟨#[]⟩, .int .i64 0, .int .i64 0, .int .i64 0, .nilfn], none, 0, []⟩]) (RC.seq (RC.region 6 [
    ⟨(some 7), .move (.t 0), none, 0, []⟩,
    ⟨(some 8), .move (.t 0), none, 1, []⟩,
    ⟨(some 9), .move (.t 1), none, 2, []⟩,
    ⟨(some 10), .move (.t 2), none, 3, []⟩,
    ⟨(some 11), .build [.str ⟨#[]⟩, .str ⟨#[]⟩, .int .i64 0, .int .i64 0, .int .i64 0, .nilfn] [(0, 1, (.t 7)), (1, 1, (.t 8)), (2, 1, (.t 9)), (3, 1, (.c (.s (.int .i64 0)))), (4, 1, (.c (.s (.int .i64 8)))), (5, 1, (.t 10))], none, 4, []⟩,
    ⟨none, .store 6 (.t 6) (.t 11), none, 5, []⟩]) (RC.ret)))
theorem conf_objects_ok : chkFunc Go.Proofs.Tryz.prog [0] Go.Proofs.Tryz.f36 conf_objects = true := by kernel_rfl
def conf_Check_2 : RFunc := RFunc.mk 29 [.tmp 3] (
  RC.seq (RC.region 1 [
    ⟨(some 3), .move (.c (.s (.int .i64 0))), none, 0, []⟩]) (RC.seq (RC.region 24 [
    ⟨(some 7), .fieldAddr 2 (.t 1), none, 0, []⟩,
    ⟨(some 8), .load none (.t 7), none, 1, []⟩,
    ⟨(some 9), .move (.t 0), none, 2, []⟩,
    ⟨(some 10), .indexSl 3 (.t 8) (.t 9), none, 3, []⟩,
    ⟨(some 11), .fieldAddr 0 (.t 10), none, 4, []⟩,
    ⟨(some 12), .load none (.t 11), none, 5, []⟩,
    ⟨(some 13), .fieldAddr 2 (.t 1), none, 6, []⟩,
    ⟨(some 14), .load none (.t 13), none, 7, []⟩,
    ⟨(some 15), .move (.t 0), none, 8, []⟩,
    ⟨(some 16), .indexSl 3 (.t 14) (.t 15), none, 9, []⟩,
    ⟨(some 17), .fieldAddr 1 (.t 16), none, 10, []⟩,
    ⟨(some 18), .load none (.t 17), none, 11, []⟩,
    ⟨(some 19), .fieldAddr 2 (.t 1), none, 12, []⟩,
    ⟨(some 20), .load none (.t 19), none, 13, []⟩,
    ⟨(some 21), .move (.t 0), none, 14, []⟩,
    ⟨(some 22), .indexSl 3 (.t 20) (.t 21), none, 15, []⟩,
    ⟨(some 23), .fieldAddr 2 (.t 22), none, 16, []⟩,
    ⟨(some 24), .load none (.t 23), none, 17, []⟩,
    ⟨(some 25), .call F.sem_NewSem [(.t 12), (.t 18), (.t 24)], none, 18, []⟩,
    ⟨(some 6), .move (.t 25), none, 19, []⟩,
    ⟨(some 26), .extract 0 (.t 6), none, 20, []⟩,
    ⟨(some 27), .extract 1 (.t 6), none, 21, []⟩,
    ⟨(some 4), .move (.t 26), none, 22, []⟩,
    ⟨(some 5), .move (.t 27), none, 23, []⟩]) (RC.seq (RC.region 2 [
    ⟨(some 28), .move (.t 5), none, 0, []⟩,
    ⟨(some 3), .move (.t 28), none, 1, []⟩]) (RC.ret))))
theorem conf_Check_2_ok : chkFunc Go.Proofs.Tryz.prog [0] Go.Proofs.Tryz.f37 conf_Check_2 = true := by kernel_rfl
def conf_fine : RFunc := RFunc.mk 3 [.tmp 2] (
  RC.seq (RC.region 1 [
    ⟨(some 2), .move (.c (.s (.int .i64 0))), none, 0, []⟩]) (RC.seq (RC.region 1 [
    ⟨(some 2), .move (.c (.s (.int .i64 0))), none, 0, []⟩]) (RC.ret)))
theorem conf_fine_ok : chkFunc Go.Proofs.Tryz.prog [0] Go.Proofs.Tryz.f39 conf_fine = true := by kernel_rfl
def conf_Check_3 : RFunc := RFunc.mk 23 [.tmp 3] (
  RC.seq (RC.region 1 [
    ⟨(some 3), .move (.c (.s (.int .i64 0))), none, 0, []⟩]) (RC.seq (RC.region 18 [
    ⟨(some 7), .fieldAddr 4 (.t 1), none, 0, []⟩,
    ⟨(some 8), .load none (.t 7), none, 1, []⟩,
    ⟨(some 9), .move (.t 0), none, 2, []⟩,
    ⟨(some 10), .indexSl 2 (.t 8) (.t 9), none, 3, []⟩,
    ⟨(some 11), .fieldAddr 0 (.t 10), none, 4, []⟩,
    ⟨(some 12), .load none (.t 11), none, 5, []⟩,
    ⟨(some 13), .fieldAddr 4 (.t 1), none, 6, []⟩,
    ⟨(some 14), .load none (.t 13), none, 7, []⟩,
    ⟨(some 15), .move (.t 0), none, 8, []⟩,
    ⟨(some 16), .indexSl 2 (.t 14) (.t 15), none, 9, []⟩,
    ⟨(some 17), .fieldAddr 1 (.t 16), none, 10, []⟩,
    ⟨(some 18), .load none (.t 17), none, 11, []⟩,
    ⟨(some 19), .call F.dtq_New [(.t 12), (.t 18)], none, 12, []⟩,
    ⟨(some 6), .move (.t 19), none, 13, []⟩,
    ⟨(some 20), .extract 0 (.t 6), none, 14, []⟩,
    ⟨(some 21), .extract 1 (.t 6), none, 15, []⟩,
    ⟨(some 4), .move (.t 20), none, 16, []⟩,
    ⟨(some 5), .move (.t 21), none, 17, []⟩]) (RC.seq (RC.region 2 [
    ⟨(some 22), .move (.t 5), none, 0, []⟩,
    ⟨(some 3), .move (.t 22), none, 1, []⟩]) (RC.ret))))
theorem conf_Check_3_ok : chkFunc Go.Proofs.Tryz.prog [0] Go.Proofs.Tryz.f40 conf_Check_3 = true := by kernel_rfl
def conf_Check_4 : RFunc := RFunc.mk 17 [.tmp 3] (
  RC.seq (RC.region 1 [
    ⟨(some 3), .move (.c (.s (.int .i64 0))), none, 0, []⟩]) (RC.seq (RC.region 12 [
    ⟨(some 7), .fieldAddr 5 (.t 1), none, 0, []⟩,
    ⟨(some 8), .load none (.t 7), none, 1, []⟩,
    ⟨(some 9), .move (.t 0), none, 2, []⟩,
    ⟨(some 10), .indexSl 2 (.t 8) (.t 9), none, 3, []⟩,
    ⟨(some 11), .load (some 2) (.t 10), none, 4, []⟩,
    ⟨(some 12), .buildSlice 2 1 [.int .i64 0, .int .i64 0] [(0, 2, (.t 11))], none, 5, []⟩,
    ⟨(some 13), .call F.mtx_New [(.t 12)], none, 6, []⟩,
    ⟨(some 6), .move (.t 13), none, 7, []⟩,
    ⟨(some 14), .extract 0 (.t 6), none, 8, []⟩,
    ⟨(some 15), .extract 1 (.t 6), none, 9, []⟩,
    ⟨(some 4), .move (.t 14), none, 10, []⟩,
    ⟨(some 5), .move (.t 15), none, 11, []⟩]) (RC.seq (RC.region 2 [
    ⟨(some 16), .move (.t 5), none, 0, []⟩,
    ⟨(some 3), .move (.t 16), none, 1, []⟩]) (RC.ret))))
theorem conf_Check_4_ok : chkFunc Go.Proofs.Tryz.prog [0] Go.Proofs.Tryz.f42 conf_Check_4 = true := by kernel_rfl
def conf_Check_5 : RFunc := RFunc.mk 44 [.tmp 4] (
  RC.seq (RC.region 1 [
    ⟨(some 4), .move (.c (.s (.int .i64 0))), none, 0, []⟩]) (RC.seq (RC.region 12 [
    ⟨(some 10), .load none (.t 1), none, 0, []⟩,
    ⟨(some 11), .fieldAddr 6 (.t 2), none, 1, []⟩,
    ⟨(some 12), .load none (.t 11), none, 2, []⟩,
    ⟨(some 13), .move (.t 0), none, 3, []⟩,
    ⟨(some 14), .indexSl 3 (.t 12) (.t 13), none, 4, []⟩,
    ⟨(some 15), .load (some 3) (.t 14), none, 5, []⟩,
    ⟨(some 16), .call F.conf_next [(.t 10), (.t 15)], none, 6, []⟩,
    ⟨(some 9), .move (.t 16), none, 7, []⟩,
    ⟨(some 17), .extract 0 (.t 9), none, 8, []⟩,
    ⟨(some 18), .extract 1 (.t 9), none, 9, []⟩,
    ⟨(some 5), .move (.t 17), none, 10, []⟩,
    ⟨(some 6), .move (.t 18), none, 11, []⟩]) (RC.seq (RC.region 25 [
    ⟨(some 20), .fieldAddr 6 (.t 2), none, 0, []⟩,
    ⟨(some 21), .load none (.t 20), none, 1, []⟩,
    ⟨(some 22), .move (.t 0), none, 2, []⟩,
    ⟨(some 23), .indexSl 3 (.t 21) (.t 22), none, 3, []⟩,
    ⟨(some 24), .fieldAddr 0 (.t 23), none, 4, []⟩,
    ⟨(some 25), .load none (.t 24), none, 5, []⟩,
    ⟨(some 26), .move (.t 5), none, 6, []⟩,
    ⟨(some 27), .fieldAddr 6 (.t 2), none, 7, []⟩,
    ⟨(some 28), .load none (.t 27), none, 8, []⟩,
    ⟨(some 29), .move (.t 0), none, 9, []⟩,
    ⟨(some 30), .indexSl 3 (.t 28) (.t 29), none, 10, []⟩,
    ⟨(some 31), .fieldAddr 1 (.t 30), none, 11, []⟩,
    ⟨(some 32), .load none (.t 31), none, 12, []⟩,
    ⟨(some 33), .fieldAddr 6 (.t 2), none, 13, []⟩,
    ⟨(some 34), .load none (.t 33), none, 14, []⟩,
    ⟨(some 35), .move (.t 0), none, 15, []⟩,
    ⟨(some 36), .indexSl 3 (.t 34) (.t 35), none, 16, []⟩,
    ⟨(some 37), .fieldAddr 2 (.t 36), none, 17, []⟩,
    ⟨(some 38), .load none (.t 37), none, 18, []⟩,
    ⟨(some 39), .call F.mpf_NewPool [(.t 25), (.t 26), (.t 32), (.t 38)], none, 19, []⟩,
    ⟨(some 19), .move (.t 39), none, 20, []⟩,
    ⟨(some 40), .extract 0 (.t 19), none, 21, []⟩,
    ⟨(some 41), .extract 1 (.t 19), none, 22, []⟩,
    ⟨(some 7), .move (.t 40), none, 23, []⟩,
    ⟨(some 8), .move (.t 41), none, 24, []⟩]) (RC.seq (RC.region 2 [
    ⟨(some 42), .move (.t 6), none, 0, []⟩,
    ⟨none, .store 1 (.t 1) (.t 42), none, 1, []⟩]) (RC.seq (RC.region 2 [
    ⟨(some 43), .move (.t 8), none, 0, []⟩,
    ⟨(some 4), .move (.t 43), none, 1, []⟩]) (RC.ret))))))
theorem conf_Check_5_ok : chkFunc Go.Proofs.Tryz.prog [0] Go.Proofs.Tryz.f44 conf_Check_5 = true := by kernel_rfl
def conf_Check_6 : RFunc := RFunc.mk 27 [.tmp 4] (
  RC.seq (RC.region 1 [
    ⟨(some 4), .move (.c (.s (.int .i64 0))), none, 0, []⟩]) (RC.seq (RC.region 7 [
    ⟨(some 8), .fieldAddr 7 (.t 1), none, 0, []⟩,
    ⟨(some 9), .load none (.t 8), none, 1, []⟩,
    ⟨(some 10), .move (.t 0), none, 2, []⟩,
    ⟨(some 11), .indexSl 4 (.t 9) (.t 10), none, 3, []⟩,
    ⟨(some 12), .load (some 4) (.t 11), none, 4, []⟩,
    ⟨(some 5), .newc [.int .i64 0, .int .i64 0, .bool false, .bool false], none, 5, []⟩,
    ⟨none, .store 4 (.t 5) (.t 12), none, 6, []⟩]) (RC.seq (RC.region 15 [
    ⟨(some 14), .load none (.t 2), none, 0, []⟩,
    ⟨(some 15), .fieldAddr 0 (.t 5), none, 1, []⟩,
    ⟨(some 16), .load none (.t 15), none, 2, []⟩,
    ⟨(some 17), .fieldAddr 1 (.t 5), none, 3, []⟩,
    ⟨(some 18), .load none (.t 17), none, 4, []⟩,
    ⟨(some 19), .fieldAddr 2 (.t 5), none, 5, []⟩,
    ⟨(some 20), .load none (.t 19), none, 6, []⟩,
    ⟨(some 21), .fieldAddr 3 (.t 5), none, 7, []⟩,
    ⟨(some 22), .load none (.t 21), none, 8, []⟩,
    ⟨(some 23), .call F.cyc_Hands_Cyclic [(.t 14), (.t 16), (.t 18), (.t 20), (.t 22)], none, 9, []⟩,
    ⟨(some 13), .move (.t 23), none, 10, []⟩,
    ⟨(some 24), .extract 0 (.t 13), none, 11, []⟩,
    ⟨(some 25), .extract 1 (.t 13), none, 12, []⟩,
    ⟨(some 6), .move (.t 24), none, 13, []⟩,
    ⟨(some 7), .move (.t 25), none, 14, []⟩]) (RC.seq (RC.region 2 [
    ⟨(some 26), .move (.t 7), none, 0, []⟩,
    ⟨(some 4), .move (.t 26), none, 1, []⟩]) (RC.ret)))))
theorem conf_Check_6_ok : chkFunc Go.Proofs.Tryz.prog [0] Go.Proofs.Tryz.f47 conf_Check_6 = true := by kernel_rfl
def sem_NewSem : RFunc := RFunc.mk 29 [.tmp 6, .tmp 7] (
  RC.seq (RC.region 2 [
    ⟨(some 6), .move (.c (.s (.ptr none))), none, 0, []⟩,
    ⟨(some 7), .move (.c (.s (.int .i64 0))), none, 1, []⟩]) (RC.seq (RC.seq (RC.region 15 [
    ⟨(some 8), .move (.t 2), none, 0, []⟩,
    ⟨(some 9), .bin .lss (.t 8) (.c (.s (.int .i64 1))), none, 1, []⟩,
    ⟨(some 10), .move (.t 9), none, 2, []⟩,
    ⟨(some 11), .move (.t 2), (some (10, false)), 3, []⟩,
    ⟨(some 12), .bin .gtr (.t 11) (.c (.s (.int .i64 65535))), (some (10, false)), 4, []⟩,
    ⟨(some 13), .pick (.t 10) (.c (.s (.bool true))) (.t 12), none, 5, []⟩,
    ⟨(some 14), .move (.t 13), none, 6, []⟩,
    ⟨(some 15), .move (.t 1), (some (14, false)), 7, []⟩,
    ⟨(some 16), .bin .lss (.t 15) (.c (.s (.int .i64 0))), (some (14, false)), 8, []⟩,
    ⟨(some 17), .pick (.t 14) (.c (.s (.bool true))) (.t 16), none, 9, []⟩,
    ⟨(some 18), .move (.t 17), none, 10, []⟩,
    ⟨(some 19), .move (.t 1), (some (18, false)), 11, []⟩,
    ⟨(some 20), .move (.t 2), (some (18, false)), 12, []⟩,
    ⟨(some 21), .bin .gtr (.t 19) (.t 20), (some (18, false)), 13, []⟩,
    ⟨(some 22), .pick (.t 18) (.c (.s (.bool true))) (.t 21), none, 14, []⟩]) (RC.cond (.t 22) (RC.seq (RC.region 2 [
    ⟨(some 6), .move (.c (.s (.ptr none))), none, 0, []⟩,
    ⟨(some 7), .move (.c (.s (.int .i64 (-17)))), none, 1, []⟩]) (RC.ret)) (RC.skip))) (RC.seq (RC.region 8 [
    ⟨(some 23), .move (.t 0), none, 0, []⟩,
    ⟨(some 24), .call F.order_New [(.t 23)], none, 1, []⟩,
    ⟨(some 25), .move (.t 1), none, 2, []⟩,
    ⟨(some 26), .move (.t 2), none, 3, []⟩,
    ⟨(some 27), .build [.ptr none, .int .i64 0, .int .i64 0] [(0, 1, (.t 24)), (1, 1, (.t 25)), (2, 1, (.t 26))], none, 4, []⟩,
    ⟨(some 28), .box (.t 27), none, 5, []⟩,
    ⟨(some 6), .move (.t 28), none, 6, []⟩,
    ⟨(some 7), .move (.c (.s (.int .i64 0))), none, 7, []⟩]) (RC.ret))))
theorem sem_NewSem_ok : chkFunc Go.Proofs.Tryz.prog [0] Go.Proofs.Tryz.f38 sem_NewSem = true := by kernel_rfl
def dtq_New : RFunc := RFunc.mk 21 [.tmp 4, .tmp 5] (
  RC.seq (RC.region 2 [
    ⟨(some 4), .move (.c (.s (.ptr none))), none, 0, []⟩,
    ⟨(some 5), .move (.c (.s (.int .i64 0))), none, 1, []⟩]) (RC.seq (RC.seq (RC.region 6 [
    ⟨(some 6), .move (.t 1), none, 0, []⟩,
    ⟨(some 7), .bin .lss (.t 6) (.c (.s (.int .i64 0))), none, 1, []⟩,
    ⟨(some 8), .move (.t 7), none, 2, []⟩,
    ⟨(some 9), .move (.t 1), (some (8, false)), 3, []⟩,
    ⟨(some 10), .bin .gtr (.t 9) (.c (.s (.int .i64 64))), (some (8, false)), 4, []⟩,
    ⟨(some 11), .pick (.t 8) (.c (.s (.bool true))) (.t 10), none, 5, []⟩]) (RC.cond (.t 11) (RC.seq (RC.region 2 [
    ⟨(some 4), .move (.c (.s (.ptr none))), none, 0, []⟩,
    ⟨(some 5), .move (.c (.s (.int .i64 (-17)))), none, 1, []⟩]) (RC.ret)) (RC.skip))) (RC.seq (RC.region 11 [
    ⟨(some 12), .move (.t 0), none, 0, []⟩,
    ⟨(some 13), .call F.order_New [(.t 12)], none, 1, []⟩,
    ⟨(some 14), .build [.ptr none] [(0, 1, (.t 13))], none, 2, []⟩,
    ⟨(some 15), .call F.order_New [(.c (.s (.bool false)))], none, 3, []⟩,
    ⟨(some 16), .build [.ptr none] [(0, 1, (.t 15))], none, 4, []⟩,
    ⟨(some 17), .move (.t 1), none, 5, []⟩,
    ⟨(some 18), .hop .makeMap [], none, 6, []⟩,
    ⟨(some 19), .build [.ptr none, .ptr none, .int .i64 0, .slice none 0 0 1, .map none] [(0, 1, (.t 14)), (1, 1, (.t 16)), (2, 1, (.t 17)), (4, 1, (.t 18))], none, 7, []⟩,
    ⟨(some 20), .box (.t 19), none, 8, []⟩,
    ⟨(some 4), .move (.t 20), none, 9, []⟩,
    ⟨(some 5), .move (.c (.s (.int .i64 0))), none, 10, []⟩]) (RC.ret))))
theorem dtq_New_ok : chkFunc Go.Proofs.Tryz.prog [0] Go.Proofs.Tryz.f41 dtq_New = true := by kernel_rfl
def mtx_New_l0 : RC :=
  RC.seq (RC.region 1 [
    ⟨(some 20), .bin .lss (.t 19) (.t 18), none, 0, []⟩]) (RC.seq (RC.cond (.t 20) (RC.skip) (RC.exit 0)) (RC.seq (RC.block 1 (RC.seq (RC.region 4 [
    ⟨(some 21), .indexSl 2 (.t 17) (.t 19), none, 0, []⟩,
    ⟨(some 22), .load (some 2) (.t 21), none, 1, []⟩,
    ⟨(some 6), .newc [.int .i64 0, .int .i64 0], none, 2, []⟩,
    ⟨none, .store 2 (.t 6) (.t 22), none, 3, []⟩]) (RC.seq (RC.seq (RC.region 3 [
    ⟨(some 23), .load (some 2) (.t 6), none, 0, []⟩,
    ⟨(some 24), .call F.mtx_Kind_right [(.t 23)], none, 1, []⟩,
    ⟨(some 25), .un .not (.t 24), none, 2, []⟩]) (RC.cond (.t 25) (RC.seq (RC.region 2 [
    ⟨(some 2), .move (.c (.s (.ptr none))), none, 0, []⟩,
    ⟨(some 3), .move (.c (.s (.int .i64 (-17)))), none, 1, []⟩]) (RC.ret)) (RC.skip))) (RC.region 12 [
    ⟨(some 26), .move (.t 4), none, 0, []⟩,
    ⟨(some 27), .move (.t 4), none, 1, []⟩,
    ⟨(some 28), .nilCheck (.t 27), none, 2, []⟩,
    ⟨(some 29), .fieldAddr 0 (.t 28), none, 3, []⟩,
    ⟨(some 30), .load none (.t 29), none, 4, []⟩,
    ⟨(some 31), .load (some 2) (.t 6), none, 5, []⟩,
    ⟨(some 32), .build [.int .i64 0, .int .i64 0, .int .i64 0, .slice none 0 0 1] [(0, 2, (.t 31))], none, 6, []⟩,
    ⟨(some 33), .buildSlice 4 1 [.int .i64 0, .int .i64 0, .int .i64 0, .slice none 0 0 1] [(0, 4, (.t 32))], none, 7, []⟩,
    ⟨(some 34), .append 4 48 (.t 30) (.t 33), none, 8, []⟩,
    ⟨(some 35), .nilCheck (.t 26), none, 9, []⟩,
    ⟨(some 36), .fieldAddr 0 (.t 35), none, 10, []⟩,
    ⟨none, .store 1 (.t 36) (.t 34), none, 11, []⟩])))) (RC.region 2 [
    ⟨(some 37), .bin .add (.t 19) (.c (.s (.int .i64 1))), none, 0, []⟩,
    ⟨(some 19), .move (.t 37), none, 1, []⟩])))
def mtx_New_l1 : RC :=
  RC.seq (RC.region 1 [
    ⟨(some 39), .bin .lss (.t 38) (.c (.s (.int .i64 17))), none, 0, []⟩]) (RC.seq (RC.cond (.t 39) (RC.skip) (RC.exit 2)) (RC.seq (RC.block 3 (RC.seq (RC.region 2 [
    ⟨(some 40), .move (.t 38), none, 0, []⟩,
    ⟨(some 7), .move (.t 40), none, 1, []⟩]) (RC.region 7 [
    ⟨(some 41), .move (.t 4), none, 0, []⟩,
    ⟨(some 42), .move (.t 7), none, 1, []⟩,
    ⟨(some 43), .build [.int .i64 0, .int .i64 0, .int .i64 0] [(0, 1, (.c (.s (.int .i64 16)))), (1, 1, (.c (.s (.int .i64 16)))), (2, 1, (.c (.s (.int .i64 0))))], none, 2, []⟩,
    ⟨(some 44), .nilCheck (.t 41), none, 3, []⟩,
    ⟨(some 45), .fieldAddr 1 (.t 44), none, 4, []⟩,
    ⟨(some 46), .indexArr 17 3 (.t 45) (.t 42), none, 5, []⟩,
    ⟨none, .store 3 (.t 46) (.t 43), none, 6, []⟩]))) (RC.region 2 [
    ⟨(some 47), .bin .add (.t 38) (.c (.s (.int .i64 1))), none, 0, []⟩,
    ⟨(some 38), .move (.t 47), none, 1, []⟩])))
def mtx_New_s2 : RC :=
  RC.seq (RC.region 3 [
    ⟨(some 48), .move (.t 4), none, 0, []⟩,
    ⟨(some 2), .move (.t 48), none, 1, []⟩,
    ⟨(some 3), .move (.c (.s (.int .i64 0))), none, 2, []⟩]) (RC.ret)
def mtx_New_s3 : RC :=
  RC.seq (RC.seq (RC.region 1 [
    ⟨(some 38), .move (.c (.s (.int .i64 0))), none, 0, []⟩]) (RC.block 2 (RC.loop R.mtx_New_l1))) R.mtx_New_s2
def mtx_New : RFunc := RFunc.mk 49 [.tmp 2, .tmp 3] (
  RC.seq (RC.region 2 [
    ⟨(some 2), .move (.c (.s (.ptr none))), none, 0, []⟩,
    ⟨(some 3), .move (.c (.s (.int .i64 0))), none, 1, []⟩]) (RC.seq (RC.seq (RC.region 3 [
    ⟨(some 8), .move (.t 0), none, 0, []⟩,
    ⟨(some 9), .len (.t 8), none, 1, []⟩,
    ⟨(some 10), .bin .gtr (.t 9) (.c (.s (.int .i64 8))), none, 2, []⟩]) (RC.cond (.t 10) (RC.seq (RC.region 2 [
    ⟨(some 2), .move (.c (.s (.ptr none))), none, 0, []⟩,
    ⟨(some 3), .move (.c (.s (.int .i64 (-17)))), none, 1, []⟩]) (RC.ret)) (RC.skip))) (RC.seq (RC.region 7 [
    ⟨(some 11), .move (.t 0), none, 0, []⟩,
    ⟨(some 12), .len (.t 11), none, 1, []⟩,
    ⟨(some 13), .bin .add (.t 12) (.c (.s (.int .i64 1))), none, 2, []⟩,
    ⟨(some 14), .makeSlice 4 48 [.int .i64 0, .int .i64 0, .int .i64 0, .slice none 0 0 1] (.c (.s (.int .i64 1))) (.t 13), none, 3, []⟩,
    ⟨(some 15), .build [.slice none 0 0 1, .int .i64 0, .int .i64 0, .int .i64 0, .int .i64 0, .int .i64 0, .int .i64 0, .int .i64 0, .int .i64 0, .int .i64 0, .int .i64 0, .int .i64 0, .int .i64 0, .int .i64 0, .int .i64 0, .int .i64 0, .int .i64 0, .int .i64 0, .int .i64 0, .int .i64 0, .int .i64 0, .int .i64 0, .int .i64 0, .int .i64 0, .int .i64 0, .int .i64 0, .int .i64 0, .int .i64 0, .int .i64 0, .int .i64 0, .int .i64 0, .int .i64 0, .int .i64 0, .int .i64 0, .int .i64 0, .int .i64 0, .int .i64 0, .int .i64 0, .int .i64 0, .int .i64 0, .int .i64 0, .int .i64 0, .int .i64 0, .int .i64 0, .int .i64 0, .int .i64 0, .int .i64 0, .int .i64 0, .int .i64 0, .int .i64 0, .int .i64 0, .int .i64 0] [(0, 1, (.t 14))], none, 4, []⟩,
    ⟨(some 16), .box (.t 15), none, 5, []⟩,
    ⟨(some 4), .move (.t 16), none, 6, []⟩]) (RC.seq (RC.seq (RC.region 3 [
    ⟨(some 17), .move (.t 0), none, 0, []⟩,
    ⟨(some 18), .len (.t 17), none, 1, []⟩,
    ⟨(some 19), .move (.c (.s (.int .i64 0))), none, 2, []⟩]) (RC.block 0 (RC.loop R.mtx_New_l0))) R.mtx_New_s3))))
theorem mtx_New_ok : chkFunc Go.Proofs.Tryz.prog [0] Go.Proofs.Tryz.f43 mtx_New = true := by kernel_rfl
def mpf_NewPool : RFunc := RFunc.mk 53 [.tmp 8, .tmp 9] (
  RC.seq (RC.region 2 [
    ⟨(some 8), .move (.c (.s (.ptr none))), none, 0, []⟩,
    ⟨(some 9), .move (.c (.s (.int .i64 0))), none, 1, []⟩]) (RC.seq (RC.seq (RC.region 36 [
    ⟨(some 10), .move (.t 2), none, 0, []⟩,
    ⟨(some 11), .bin .lss (.t 10) (.c (.s (.int .i64 1))), none, 1, []⟩,
    ⟨(some 12), .move (.t 11), none, 2, []⟩,
    ⟨(some 13), .move (.t 2), (some (12, false)), 3, []⟩,
    ⟨(some 14), .bin .gtr (.t 13) (.c (.s (.int .i64 256))), (some (12, false)), 4, []⟩,
    ⟨(some 15), .pick (.t 12) (.c (.s (.bool true))) (.t 14), none, 5, []⟩,
    ⟨(some 16), .move (.t 15), none, 6, []⟩,
    ⟨(some 17), .move (.t 3), (some (16, false)), 7, []⟩,
    ⟨(some 18), .bin .lss (.t 17) (.c (.s (.int .i64 1))), (some (16, false)), 8, []⟩,
    ⟨(some 19), .pick (.t 16) (.c (.s (.bool true))) (.t 18), none, 9, []⟩,
    ⟨(some 20), .move (.t 19), none, 10, []⟩,
    ⟨(some 21), .move (.t 3), (some (20, false)), 11, []⟩,
    ⟨(some 22), .bin .gtr (.t 21) (.c (.s (.int .i64 4096))), (some (20, false)), 12, []⟩,
    ⟨(some 23), .pick (.t 20) (.c (.s (.bool true))) (.t 22), none, 13, []⟩,
    ⟨(some 24), .move (.t 23), none, 14, []⟩,
    ⟨(some 25), .move (.t 1), (some (24, false)), 15, []⟩,
    ⟨(some 26), .bin .lss (.t 25) (.c (.s (.int .i64 0))), (some (24, false)), 16, []⟩,
    ⟨(some 27), .pick (.t 24) (.c (.s (.bool true))) (.t 26), none, 17, []⟩,
    ⟨(some 28), .move (.t 27), none, 18, []⟩,
    ⟨(some 29), .move (.t 1), (some (28, false)), 19, []⟩,
    ⟨(some 30), .bin .gtr (.t 29) (.c (.s (.int .i64 65536))), (some (28, false)), 20, []⟩,
    ⟨(some 31), .pick (.t 28) (.c (.s (.bool true))) (.t 30), none, 21, []⟩,
    ⟨(some 32), .move (.t 31), none, 22, []⟩,
    ⟨(some 33), .move (.t 1), (some (32, false)), 23, []⟩,
    ⟨(some 34), .bin .rem (.t 33) (.c (.s (.int .i64 4))), (some (32, false)), 24, []⟩,
    ⟨(some 35), .bin .neq (.t 34) (.c (.s (.int .i64 0))), (some (32, false)), 25, []⟩,
    ⟨(some 36), .pick (.t 32) (.c (.s (.bool true))) (.t 35), none, 26, []⟩,
    ⟨(some 37), .move (.t 36), none, 27, []⟩,
    ⟨(some 38), .move (.t 2), (some (37, false)), 28, []⟩,
    ⟨(some 39), .move (.t 3), (some (37, false)), 29, []⟩,
    ⟨(some 40), .call F.nums_Align [(.t 39), (.c (.s (.int .i64 4)))], (some (37, false)), 30, []⟩,
    ⟨(some 41), .bin .mul (.t 38) (.t 40), (some (37, false)), 31, []⟩,
    ⟨(some 42), .move (.t 1), (some (37, false)), 32, []⟩,
    ⟨(some 43), .bin .sub (.c (.s (.int .i64 65536))) (.t 42), (some (37, false)), 33, []⟩,
    ⟨(some 44), .bin .gtr (.t 41) (.t 43), (some (37, false)), 34, []⟩,
    ⟨(some 45), .pick (.t 37) (.c (.s (.bool true))) (.t 44), none, 35, []⟩]) (RC.cond (.t 45) (RC.seq (RC.region 2 [
    ⟨(some 8), .move (.c (.s (.ptr none))), none, 0, []⟩,
    ⟨(some 9), .move (.c (.s (.int .i64 (-17)))), none, 1, []⟩]) (RC.ret)) (RC.skip))) (RC.seq (RC.region 9 [
    ⟨(some 46), .move (.t 0), none, 0, []⟩,
    ⟨(some 47), .call F.order_New [(.t 46)], none, 1, []⟩,
    ⟨(some 48), .move (.t 1), none, 2, []⟩,
    ⟨(some 49), .move (.t 2), none, 3, []⟩,
    ⟨(some 50), .move (.t 3), none, 4, []⟩,
    ⟨(some 51), .build [.ptr none, .int .i64 0, .int .i64 0, .int .i64 0, .int .i64 0, .slice none 0 0 1, .slice none 0 0 1] [(0, 1, (.t 47)), (1, 1, (.t 48)), (2, 1, (.t 49)), (3, 1, (.t 50))], none, 5, []⟩,
    ⟨(some 52), .box (.t 51), none, 6, []⟩,
    ⟨(some 8), .move (.t 52), none, 7, []⟩,
    ⟨(some 9), .move (.c (.s (.int .i64 0))), none, 8, []⟩]) (RC.ret))))
theorem mpf_NewPool_ok : chkFunc Go.Proofs.Tryz.prog [0] Go.Proofs.Tryz.f46 mpf_NewPool = true := by kernel_rfl
def flag_NewFlag : RFunc := RFunc.mk 17 [.tmp 8] (
  RC.seq (RC.region 1 [
    ⟨(some 8), .move (.c (.s (.ptr none))), none, 0, []⟩]) (RC.seq (RC.region 9 [
    ⟨(some 9), .move (.t 0), none, 0, []⟩,
    ⟨(some 10), .call F.order_New [(.t 9)], none, 1, []⟩,
    ⟨(some 11), .move (.t 3), none, 2, []⟩,
    ⟨(some 12), .move (.t 1), none, 3, []⟩,
    ⟨(some 13), .move (.t 2), none, 4, []⟩,
    ⟨(some 14), .hop .makeMap [], none, 5, []⟩,
    ⟨(some 15), .build [.ptr none, .int .u32 0, .bool false, .bool false, .map none] [(0, 1, (.t 10)), (1, 1, (.t 11)), (2, 1, (.t 12)), (3, 1, (.t 13)), (4, 1, (.t 14))], none, 6, []⟩,
    ⟨(some 16), .box (.t 15), none, 7, []⟩,
    ⟨(some 8), .move (.t 16), none, 8, []⟩]) (RC.ret)))
theorem flag_NewFlag_ok : chkFunc Go.Proofs.Tryz.prog [0] Go.Proofs.Tryz.f48 flag_NewFlag = true := by kernel_rfl
def conf_Layout_l0 : RC :=
  RC.seq (RC.region 1 [
    ⟨(some 13), .bin .lss (.t 12) (.t 11), none, 0, []⟩]) (RC.seq (RC.cond (.t 13) (RC.skip) (RC.exit 0)) (RC.seq (RC.block 1 (RC.seq (RC.region 4 [
    ⟨(some 14), .indexSl 3 (.t 10) (.t 12), none, 0, []⟩,
    ⟨(some 15), .load (some 3) (.t 14), none, 1, []⟩,
    ⟨(some 6), .newc [.bool false, .int .i64 0, .int .i64 0], none, 2, []⟩,
    ⟨none, .store 3 (.t 6) (.t 15), none, 3, []⟩]) (RC.seq (RC.region 8 [
    ⟨(some 17), .move (.t 4), none, 0, []⟩,
    ⟨(some 18), .load (some 3) (.t 6), none, 1, []⟩,
    ⟨(some 19), .call F.conf_next [(.t 17), (.t 18)], none, 2, []⟩,
    ⟨(some 16), .move (.t 19), none, 3, []⟩,
    ⟨(some 20), .extract 0 (.t 16), none, 4, []⟩,
    ⟨(some 21), .extract 1 (.t 16), none, 5, []⟩,
    ⟨(some 7), .move (.t 20), none, 6, []⟩,
    ⟨(some 8), .move (.t 21), none, 7, []⟩]) (RC.seq (RC.region 5 [
    ⟨(some 22), .move (.t 3), none, 0, []⟩,
    ⟨(some 23), .move (.t 7), none, 1, []⟩,
    ⟨(some 24), .buildSlice 1 1 [.int .i64 0] [(0, 1, (.t 23))], none, 2, []⟩,
    ⟨(some 25), .append 1 8 (.t 22) (.t 24), none, 3, []⟩,
    ⟨(some 3), .move (.t 25), none, 4, []⟩]) (RC.region 2 [
    ⟨(some 26), .move (.t 8), none, 0, []⟩,
    ⟨(some 4), .move (.t 26), none, 1, []⟩]))))) (RC.region 2 [
    ⟨(some 27), .bin .add (.t 12) (.c (.s (.int .i64 1))), none, 0, []⟩,
    ⟨(some 12), .move (.t 27), none, 1, []⟩])))
def conf_Layout_s1 : RC :=
  RC.seq (RC.region 2 [
    ⟨(some 28), .move (.t 3), none, 0, []⟩,
    ⟨(some 2), .move (.t 28), none, 1, []⟩]) (RC.ret)
def conf_Layout : RFunc := RFunc.mk 29 [.tmp 2] (
  RC.seq (RC.region 2 [
    ⟨(some 1), .box (.t 0), none, 0, []⟩,
    ⟨(some 2), .move (.c (.s (.slice none 0 0 1))), none, 1, []⟩]) (RC.seq (RC.region 1 [
    ⟨(some 3), .move (.c (.s (.slice none 0 0 1))), none, 0, []⟩]) (RC.seq (RC.region 1 [
    ⟨(some 4), .move (.c (.s (.int .i64 0))), none, 0, []⟩]) (RC.seq (RC.seq (RC.region 4 [
    ⟨(some 9), .fieldAddr 6 (.t 1), none, 0, []⟩,
    ⟨(some 10), .load none (.t 9), none, 1, []⟩,
    ⟨(some 11), .len (.t 10), none, 2, []⟩,
    ⟨(some 12), .move (.c (.s (.int .i64 0))), none, 3, []⟩]) (RC.block 0 (RC.loop R.conf_Layout_l0))) R.conf_Layout_s1))))
theorem conf_Layout_ok : chkFunc Go.Proofs.Tryz.prog [0] Go.Proofs.Tryz.f49 conf_Layout = true := by kernel_rfl
def clock_NewClock : RFunc := RFunc.mk 15 [.tmp 2, .tmp 3] (
  RC.seq (RC.region 2 [
    ⟨(some 2), .move (.c (.s (.ptr none))), none, 0, []⟩,
    ⟨(some 3), .move (.c (.s (.int .i64 0))), none, 1, []⟩]) (RC.seq (RC.seq (RC.region 6 [
    ⟨(some 4), .move (.t 0), none, 0, []⟩,
    ⟨(some 5), .bin .lss (.t 4) (.c (.s (.int .i64 1))), none, 1, []⟩,
    ⟨(some 6), .move (.t 5), none, 2, []⟩,
    ⟨(some 7), .move (.t 0), (some (6, false)), 3, []⟩,
    ⟨(some 8), .bin .gtr (.t 7) (.c (.s (.int .i64 1000))), (some (6, false)), 4, []⟩,
    ⟨(some 9), .pick (.t 6) (.c (.s (.bool true))) (.t 8), none, 5, []⟩]) (RC.cond (.t 9) (RC.seq (RC.region 2 [
    ⟨(some 2), .move (.c (.s (.ptr none))), none, 0, []⟩,
    ⟨(some 3), .move (.c (.s (.int .i64 (-17)))), none, 1, []⟩]) (RC.ret)) (RC.skip))) (RC.seq (RC.region 7 [
    ⟨(some 10), .call F.heap_New [], none, 0, []⟩,
    ⟨(some 11), .move (.t 0), none, 1, []⟩,
    ⟨(some 12), .conv .u64 (.t 11), none, 2, []⟩,
    ⟨(some 13), .build [.ptr none, .int .u64 0, .int .u64 0, .int .u64 0] [(0, 1, (.t 10)), (1, 1, (.t 12))], none, 3, []⟩,
    ⟨(some 14), .box (.t 13), none, 4, []⟩,
    ⟨(some 2), .move (.t 14), none, 5, []⟩,
    ⟨(some 3), .move (.c (.s (.int .i64 0))), none, 6, []⟩]) (RC.ret))))
theorem clock_NewClock_ok : chkFunc Go.Proofs.Tryz.prog [0] Go.Proofs.Tryz.f50 clock_NewClock = true := by kernel_rfl
end Go.AM.R
