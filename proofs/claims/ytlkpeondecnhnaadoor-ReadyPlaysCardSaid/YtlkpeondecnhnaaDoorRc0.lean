/-
  The code of the functions, as the abstract machine has it; it is the program's.
-/
import Derived.Test.YtlkpeondecnhnaaDoorAmO
import Derived.Test.YtlkpeondecnhnaaDoorIds
import Derived.Test.YtlkpeondecnhnaaDoorProg
import Derived.KernelRfl
set_option maxRecDepth 100000
namespace Go.AM.R
open Go.AM
def detentlaw5_BitsPlays_l0 : RC :=
  RC.seq (RC.seq (RC.region 8 [
    ⟨(some 56), .move (.t 8), none, 0, []⟩,
    ⟨(some 57), .move (.t 0), none, 1, []⟩,
    ⟨(some 58), .move (.t 7), none, 2, []⟩,
    ⟨(some 59), .indexSl 2 (.t 57) (.t 58), none, 3, []⟩,
    ⟨(some 60), .fieldAddr 1 (.t 59), none, 4, []⟩,
    ⟨(some 61), .load none (.t 60), none, 5, []⟩,
    ⟨(some 62), .len (.t 61), none, 6, []⟩,
    ⟨(some 63), .bin .lss (.t 56) (.t 62), none, 7, []⟩]) (RC.cond (.t 63) (RC.skip) (RC.exit 2))) (RC.seq (RC.block 3 (RC.seq (RC.region 9 [
    ⟨(some 66), .move (.t 0), none, 0, []⟩,
    ⟨(some 67), .move (.t 7), none, 1, []⟩,
    ⟨(some 68), .indexSl 2 (.t 66) (.t 67), none, 2, []⟩,
    ⟨(some 69), .fieldAddr 1 (.t 68), none, 3, []⟩,
    ⟨(some 70), .load none (.t 69), none, 4, []⟩,
    ⟨(some 71), .move (.t 8), none, 5, []⟩,
    ⟨(some 72), .indexSl 1 (.t 70) (.t 71), none, 6, []⟩,
    ⟨(some 73), .load none (.t 72), none, 7, []⟩,
    ⟨(some 9), .move (.t 73), none, 8, []⟩]) (RC.seq (RC.region 6 [
    ⟨(some 74), .move (.t 9), none, 0, []⟩,
    ⟨(some 75), .bin .geq (.t 74) (.c (.s (.int .i64 1))), none, 1, []⟩,
    ⟨(some 76), .move (.t 75), none, 2, []⟩,
    ⟨(some 77), .move (.t 9), (some (76, true)), 3, []⟩,
    ⟨(some 78), .bin .leq (.t 77) (.c (.s (.int .i64 256))), (some (76, true)), 4, []⟩,
    ⟨(some 79), .pick (.t 76) (.t 78) (.c (.s (.bool false))), none, 5, []⟩]) (RC.cond (.t 79) (RC.region 9 [
    ⟨(some 80), .move (.t 9), none, 0, []⟩,
    ⟨(some 81), .move (.t 0), none, 1, []⟩,
    ⟨(some 82), .move (.t 7), none, 2, []⟩,
    ⟨(some 83), .indexSl 2 (.t 81) (.t 82), none, 3, []⟩,
    ⟨(some 84), .fieldAddr 0 (.t 83), none, 4, []⟩,
    ⟨(some 85), .load none (.t 84), none, 5, []⟩,
    ⟨(some 86), .bin .eql (.t 85) (.c (.s (.int .i64 1))), none, 6, []⟩,
    ⟨(some 87), .indexArr 258 1 (.t 6) (.t 80), none, 7, []⟩,
    ⟨none, .store 1 (.t 87) (.t 86), none, 8, []⟩]) (RC.skip))))) (RC.region 3 [
    ⟨(some 64), .move (.t 8), none, 0, []⟩,
    ⟨(some 65), .bin .add (.t 64) (.c (.s (.int .i64 1))), none, 1, []⟩,
    ⟨(some 8), .move (.t 65), none, 2, []⟩]))
def detentlaw5_BitsPlays_s1 : RC :=
  RC.seq (RC.region 1 [
    ⟨(some 8), .move (.c (.s (.int .i64 0))), none, 0, []⟩]) (RC.block 2 (RC.loop R.detentlaw5_BitsPlays_l0))
def detentlaw5_BitsPlays_s2 : RC :=
  RC.region 3 [
    ⟨(some 29), .move (.t 7), none, 0, []⟩,
    ⟨(some 30), .bin .add (.t 29) (.c (.s (.int .i64 1))), none, 1, []⟩,
    ⟨(some 7), .move (.t 30), none, 2, []⟩]
def detentlaw5_BitsPlays_l3 : RC :=
  RC.seq (RC.seq (RC.region 4 [
    ⟨(some 25), .move (.t 7), none, 0, []⟩,
    ⟨(some 26), .move (.t 0), none, 1, []⟩,
    ⟨(some 27), .len (.t 26), none, 2, []⟩,
    ⟨(some 28), .bin .lss (.t 25) (.t 27), none, 3, []⟩]) (RC.cond (.t 28) (RC.skip) (RC.exit 0))) (RC.seq (RC.block 1 (RC.seq (RC.seq (RC.region 7 [
    ⟨(some 31), .move (.t 0), none, 0, []⟩,
    ⟨(some 32), .move (.t 7), none, 1, []⟩,
    ⟨(some 33), .indexSl 2 (.t 31) (.t 32), none, 2, []⟩,
    ⟨(some 34), .fieldAddr 1 (.t 33), none, 3, []⟩,
    ⟨(some 35), .load none (.t 34), none, 4, []⟩,
    ⟨(some 36), .len (.t 35), none, 5, []⟩,
    ⟨(some 37), .bin .gtr (.t 36) (.c (.s (.int .i64 40))), none, 6, []⟩]) (RC.cond (.t 37) (RC.seq (RC.region 1 [
    ⟨(some 4), .move (.c (.s (.bool true))), none, 0, []⟩]) (RC.ret)) (RC.skip))) (RC.seq (RC.seq (RC.region 6 [
    ⟨(some 38), .move (.t 0), none, 0, []⟩,
    ⟨(some 39), .move (.t 7), none, 1, []⟩,
    ⟨(some 40), .indexSl 2 (.t 38) (.t 39), none, 2, []⟩,
    ⟨(some 41), .fieldAddr 0 (.t 40), none, 3, []⟩,
    ⟨(some 42), .load none (.t 41), none, 4, []⟩,
    ⟨(some 43), .bin .eql (.t 42) (.c (.s (.int .i64 1))), none, 5, []⟩]) (RC.cond (.t 43) (RC.region 6 [
    ⟨(some 44), .move (.t 0), none, 0, []⟩,
    ⟨(some 45), .move (.t 7), none, 1, []⟩,
    ⟨(some 46), .indexSl 2 (.t 44) (.t 45), none, 2, []⟩,
    ⟨(some 47), .fieldAddr 1 (.t 46), none, 3, []⟩,
    ⟨(some 48), .load none (.t 47), none, 4, []⟩,
    ⟨(some 49), .call F.bits_Map_Set [(.t 5), (.t 48)], none, 5, []⟩]) (RC.region 6 [
    ⟨(some 50), .move (.t 0), none, 0, []⟩,
    ⟨(some 51), .move (.t 7), none, 1, []⟩,
    ⟨(some 52), .indexSl 2 (.t 50) (.t 51), none, 2, []⟩,
    ⟨(some 53), .fieldAddr 1 (.t 52), none, 3, []⟩,
    ⟨(some 54), .load none (.t 53), none, 4, []⟩,
    ⟨(some 55), .call F.bits_Map_Clear [(.t 5), (.t 54)], none, 5, []⟩]))) R.detentlaw5_BitsPlays_s1))) R.detentlaw5_BitsPlays_s2)
def detentlaw5_BitsPlays_s4 : RC :=
  RC.seq (RC.region 7 [
    ⟨(some 109), .move (.t 12), none, 0, []⟩,
    ⟨(some 110), .bin .eql (.t 109) (.c (.s (.int .i64 0))), none, 1, []⟩,
    ⟨(some 111), .move (.t 110), none, 2, []⟩,
    ⟨(some 112), .move (.t 13), (some (111, true)), 3, []⟩,
    ⟨(some 113), .move (.t 1), (some (111, true)), 4, []⟩,
    ⟨(some 114), .bin .gtr (.t 112) (.t 113), (some (111, true)), 5, []⟩,
    ⟨(some 115), .pick (.t 111) (.t 114) (.c (.s (.bool false))), none, 6, []⟩]) (RC.cond (.t 115) (RC.region 2 [
    ⟨(some 116), .move (.t 13), none, 0, []⟩,
    ⟨(some 12), .move (.t 116), none, 1, []⟩]) (RC.skip))
def detentlaw5_BitsPlays_s5 : RC :=
  RC.region 3 [
    ⟨(some 90), .move (.t 13), none, 0, []⟩,
    ⟨(some 91), .bin .add (.t 90) (.c (.s (.int .i64 1))), none, 1, []⟩,
    ⟨(some 13), .move (.t 91), none, 2, []⟩]
def detentlaw5_BitsPlays_l6 : RC :=
  RC.seq (RC.seq (RC.region 2 [
    ⟨(some 88), .move (.t 13), none, 0, []⟩,
    ⟨(some 89), .bin .leq (.t 88) (.c (.s (.int .i64 256))), none, 1, []⟩]) (RC.cond (.t 89) (RC.skip) (RC.exit 4))) (RC.seq (RC.block 5 (RC.seq (RC.seq (RC.region 6 [
    ⟨(some 92), .move (.t 13), none, 0, []⟩,
    ⟨(some 94), .move (.t 13), none, 2, []⟩,
    ⟨(some 95), .indexArr 258 1 (.t 6) (.t 94), none, 3, []⟩,
    ⟨(some 96), .load none (.t 95), none, 4, []⟩,
    ⟨(some 93), .call F.bits_Map_Has [(.t 5), (.t 92)], none, 1, [⟨96, none, (.t 95), none⟩]⟩,
    ⟨(some 97), .eqs .bool true (.t 93) (.t 96), none, 5, []⟩]) (RC.cond (.t 97) (RC.seq (RC.region 1 [
    ⟨(some 4), .move (.c (.s (.bool false))), none, 0, []⟩]) (RC.ret)) (RC.skip))) (RC.seq (RC.seq (RC.region 4 [
    ⟨(some 98), .move (.t 13), none, 0, []⟩,
    ⟨(some 99), .indexArr 258 1 (.t 6) (.t 98), none, 1, []⟩,
    ⟨(some 100), .load none (.t 99), none, 2, []⟩,
    ⟨(some 101), .un .not (.t 100), none, 3, []⟩]) (RC.cond (.t 101) (RC.exit 5) (RC.skip))) (RC.seq (RC.region 5 [
    ⟨(some 102), .move (.t 10), none, 0, []⟩,
    ⟨(some 103), .move (.t 13), none, 1, []⟩,
    ⟨(some 104), .buildSlice 1 1 [.int .i64 0] [(0, 1, (.t 103))], none, 2, []⟩,
    ⟨(some 105), .append 1 8 (.t 102) (.t 104), none, 3, []⟩,
    ⟨(some 10), .move (.t 105), none, 4, []⟩]) (RC.seq (RC.seq (RC.region 2 [
    ⟨(some 106), .move (.t 11), none, 0, []⟩,
    ⟨(some 107), .bin .eql (.t 106) (.c (.s (.int .i64 0))), none, 1, []⟩]) (RC.cond (.t 107) (RC.region 2 [
    ⟨(some 108), .move (.t 13), none, 0, []⟩,
    ⟨(some 11), .move (.t 108), none, 1, []⟩]) (RC.skip))) R.detentlaw5_BitsPlays_s4))))) R.detentlaw5_BitsPlays_s5)
def detentlaw5_BitsPlays_l7 : RC :=
  RC.seq (RC.seq (RC.region 4 [
    ⟨(some 169), .move (.t 19), none, 0, []⟩,
    ⟨(some 170), .move (.t 18), none, 1, []⟩,
    ⟨(some 171), .len (.t 170), none, 2, []⟩,
    ⟨(some 172), .bin .lss (.t 169) (.t 171), none, 3, []⟩]) (RC.cond (.t 172) (RC.skip) (RC.exit 6))) (RC.seq (RC.block 7 (RC.seq (RC.region 9 [
    ⟨(some 175), .move (.t 18), none, 0, []⟩,
    ⟨(some 176), .move (.t 19), none, 1, []⟩,
    ⟨(some 177), .indexSl 1 (.t 175) (.t 176), none, 2, []⟩,
    ⟨(some 178), .load none (.t 177), none, 3, []⟩,
    ⟨(some 179), .move (.t 10), none, 4, []⟩,
    ⟨(some 180), .move (.t 19), none, 5, []⟩,
    ⟨(some 181), .indexSl 1 (.t 179) (.t 180), none, 6, []⟩,
    ⟨(some 182), .load none (.t 181), none, 7, []⟩,
    ⟨(some 183), .bin .neq (.t 178) (.t 182), none, 8, []⟩]) (RC.cond (.t 183) (RC.seq (RC.region 1 [
    ⟨(some 4), .move (.c (.s (.bool false))), none, 0, []⟩]) (RC.ret)) (RC.skip)))) (RC.region 3 [
    ⟨(some 173), .move (.t 19), none, 0, []⟩,
    ⟨(some 174), .bin .add (.t 173) (.c (.s (.int .i64 1))), none, 1, []⟩,
    ⟨(some 19), .move (.t 174), none, 2, []⟩]))
def detentlaw5_BitsPlays_s8 : RC :=
  RC.seq (RC.region 1 [
    ⟨(some 4), .move (.c (.s (.bool true))), none, 0, []⟩]) (RC.ret)
def detentlaw5_BitsPlays_s9 : RC :=
  RC.seq (RC.region 6 [
    ⟨(some 118), .call F.bits_Map_First [(.t 5)], none, 0, []⟩,
    ⟨(some 117), .move (.t 118), none, 1, []⟩,
    ⟨(some 119), .extract 0 (.t 117), none, 2, []⟩,
    ⟨(some 120), .extract 1 (.t 117), none, 3, []⟩,
    ⟨(some 14), .move (.t 119), none, 4, []⟩,
    ⟨(some 15), .move (.t 120), none, 5, []⟩]) (RC.seq (RC.region 7 [
    ⟨(some 122), .move (.t 1), none, 0, []⟩,
    ⟨(some 123), .call F.bits_Map_After [(.t 5), (.t 122)], none, 1, []⟩,
    ⟨(some 121), .move (.t 123), none, 2, []⟩,
    ⟨(some 124), .extract 0 (.t 121), none, 3, []⟩,
    ⟨(some 125), .extract 1 (.t 121), none, 4, []⟩,
    ⟨(some 16), .move (.t 124), none, 5, []⟩,
    ⟨(some 17), .move (.t 125), none, 6, []⟩]) (RC.seq (RC.region 2 [
    ⟨(some 126), .call F.bits_Map_Row [(.t 5)], none, 0, []⟩,
    ⟨(some 18), .move (.t 126), none, 1, []⟩]) (RC.seq (RC.seq (RC.region 42 [
    ⟨(some 127), .move (.t 14), none, 0, []⟩,
    ⟨(some 128), .move (.t 11), none, 1, []⟩,
    ⟨(some 129), .bin .neq (.t 127) (.t 128), none, 2, []⟩,
    ⟨(some 130), .move (.t 129), none, 3, []⟩,
    ⟨(some 131), .move (.t 15), (some (130, false)), 4, []⟩,
    ⟨(some 132), .move (.t 11), (some (130, false)), 5, []⟩,
    ⟨(some 133), .bin .gtr (.t 132) (.c (.s (.int .i64 0))), (some (130, false)), 6, []⟩,
    ⟨(some 134), .eqs .bool true (.t 131) (.t 133), (some (130, false)), 7, []⟩,
    ⟨(some 135), .pick (.t 130) (.c (.s (.bool true))) (.t 134), none, 8, []⟩,
    ⟨(some 136), .move (.t 135), none, 9, []⟩,
    ⟨(some 137), .move (.t 16), (some (136, false)), 10, []⟩,
    ⟨(some 138), .move (.t 12), (some (136, false)), 11, []⟩,
    ⟨(some 139), .bin .neq (.t 137) (.t 138), (some (136, false)), 12, []⟩,
    ⟨(some 140), .pick (.t 136) (.c (.s (.bool true))) (.t 139), none, 13, []⟩,
    ⟨(some 141), .move (.t 140), none, 14, []⟩,
    ⟨(some 142), .move (.t 17), (some (141, false)), 15, []⟩,
    ⟨(some 143), .move (.t 12), (some (141, false)), 16, []⟩,
    ⟨(some 144), .bin .gtr (.t 143) (.c (.s (.int .i64 0))), (some (141, false)), 17, []⟩,
    ⟨(some 145), .eqs .bool true (.t 142) (.t 144), (some (141, false)), 18, []⟩,
    ⟨(some 146), .pick (.t 141) (.c (.s (.bool true))) (.t 145), none, 19, []⟩,
    ⟨(some 147), .move (.t 146), none, 20, []⟩,
    ⟨(some 148), .call F.bits_Map_Len [(.t 5)], (some (147, false)), 21, []⟩,
    ⟨(some 149), .move (.t 10), (some (147, false)), 22, []⟩,
    ⟨(some 150), .len (.t 149), (some (147, false)), 23, []⟩,
    ⟨(some 151), .bin .neq (.t 148) (.t 150), (some (147, false)), 24, []⟩,
    ⟨(some 152), .pick (.t 147) (.c (.s (.bool true))) (.t 151), none, 25, []⟩,
    ⟨(some 153), .move (.t 152), none, 26, []⟩,
    ⟨(some 154), .move (.t 18), (some (153, false)), 27, []⟩,
    ⟨(some 155), .len (.t 154), (some (153, false)), 28, []⟩,
    ⟨(some 156), .move (.t 10), (some (153, false)), 29, []⟩,
    ⟨(some 157), .len (.t 156), (some (153, false)), 30, []⟩,
    ⟨(some 158), .bin .neq (.t 155) (.t 157), (some (153, false)), 31, []⟩,
    ⟨(some 159), .pick (.t 153) (.c (.s (.bool true))) (.t 158), none, 32, []⟩,
    ⟨(some 160), .move (.t 159), none, 33, []⟩,
    ⟨(some 161), .call F.bits_Map_Has [(.t 5), (.c (.s (.int .i64 0)))], (some (160, false)), 34, []⟩,
    ⟨(some 162), .pick (.t 160) (.c (.s (.bool true))) (.t 161), none, 35, []⟩,
    ⟨(some 163), .move (.t 162), none, 36, []⟩,
    ⟨(some 164), .call F.bits_Map_Has [(.t 5), (.c (.s (.int .i64 257)))], (some (163, false)), 37, []⟩,
    ⟨(some 165), .pick (.t 163) (.c (.s (.bool true))) (.t 164), none, 38, []⟩,
    ⟨(some 166), .move (.t 165), none, 39, []⟩,
    ⟨(some 167), .call F.bits_Map_Has [(.t 5), (.c (.s (.int .i64 (-1))))], (some (166, false)), 40, []⟩,
    ⟨(some 168), .pick (.t 166) (.c (.s (.bool true))) (.t 167), none, 41, []⟩]) (RC.cond (.t 168) (RC.seq (RC.region 1 [
    ⟨(some 4), .move (.c (.s (.bool false))), none, 0, []⟩]) (RC.ret)) (RC.skip))) (RC.seq (RC.seq (RC.region 1 [
    ⟨(some 19), .move (.c (.s (.int .i64 0))), none, 0, []⟩]) (RC.block 6 (RC.loop R.detentlaw5_BitsPlays_l7))) R.detentlaw5_BitsPlays_s8))))
def detentlaw5_BitsPlays_s10 : RC :=
  RC.seq (RC.region 1 [
    ⟨(some 10), .move (.c (.s (.slice none 0 0 1))), none, 0, []⟩]) (RC.seq (RC.region 1 [
    ⟨(some 11), .move (.c (.s (.int .i64 0))), none, 0, []⟩]) (RC.seq (RC.region 1 [
    ⟨(some 12), .move (.c (.s (.int .i64 0))), none, 0, []⟩]) (RC.seq (RC.seq (RC.region 1 [
    ⟨(some 13), .move (.c (.s (.int .i64 1))), none, 0, []⟩]) (RC.block 4 (RC.loop R.detentlaw5_BitsPlays_l6))) R.detentlaw5_BitsPlays_s9)))
def detentlaw5_BitsPlays : RFunc := RFunc.mk 184 [.tmp 4] (
  RC.seq (RC.region 1 [
    ⟨(some 4), .move (.c (.s (.bool false))), none, 0, []⟩]) (RC.seq (RC.seq (RC.region 2 [
    ⟨(some 20), .call F.detentlaw5_known [], none, 0, []⟩,
    ⟨(some 21), .un .not (.t 20), none, 1, []⟩]) (RC.cond (.t 21) (RC.seq (RC.region 1 [
    ⟨(some 4), .move (.c (.s (.bool false))), none, 0, []⟩]) (RC.ret)) (RC.skip))) (RC.seq (RC.seq (RC.region 3 [
    ⟨(some 22), .move (.t 0), none, 0, []⟩,
    ⟨(some 23), .len (.t 22), none, 1, []⟩,
    ⟨(some 24), .bin .gtr (.t 23) (.c (.s (.int .i64 40))), none, 2, []⟩]) (RC.cond (.t 24) (RC.seq (RC.region 1 [
    ⟨(some 4), .move (.c (.s (.bool true))), none, 0, []⟩]) (RC.ret)) (RC.skip))) (RC.seq (RC.region 1 [
    ⟨(some 5), .newc [.int .u64 0, .int .u64 0, .int .u64 0, .int .u64 0], none, 0, []⟩]) (RC.seq (RC.region 1 [
    ⟨(some 6), .newc [.bool false, .bool false, .bool false, .bool false, .bool false, .bool false, .bool false, .bool false, .bool false, .bool false, .bool false, .bool false, .bool false, .bool false, .bool false, .bool false, .bool false, .bool false, .bool false, .bool false, .bool false, .bool false, .bool false, .bool false, .bool false, .bool false, .bool false, .bool false, .bool false, .bool false, .bool false, .bool false, .bool false, .bool false, .bool false, .bool false, .bool false, .bool false, .bool false, .bool false, .bool false, .bool false, .bool false, .bool false, .bool false, .bool false, .bool false, .bool false, .bool false, .bool false, .bool false, .bool false, .bool false, .bool false, .bool false, .bool false, .bool false, .bool false, .bool false, .bool false, .bool false, .bool false, .bool false, .bool false, .bool false, .bool false, .bool false, .bool false, .bool false, .bool false, .bool false, .bool false, .bool false, .bool false, .bool false, .bool false, .bool false, .bool false, .bool false, .bool false, .bool false, .bool false, .bool false, .bool false, .bool false, .bool false, .bool false, .bool false, .bool false, .bool false, .bool false, .bool false, .bool false, .bool false, .bool false, .bool false, .bool false, .bool false, .bool false, .bool false, .bool false, .bool false, .bool false, .bool false, .bool false, .bool false, .bool false, .bool false, .bool false, .bool false, .bool false, .bool false, .bool false, .bool false, .bool false, .bool false, .bool false, .bool false, .bool false, .bool false, .bool false, .bool false, .bool false, .bool false, .bool false, .bool false, .bool false, .bool false, .bool false, .bool false, .bool false, .bool false, .bool false, .bool false, .bool false, .bool false, .bool false, .bool false, .bool false, .bool false, .bool false, .bool false, .bool false, .bool false, .bool false, .bool false, .bool false, .bool false, .bool false, .bool false, .bool false, .bool false, .bool false, .bool false, .bool false, .bool false, .bool false, .bool false, .bool false, .bool false, .bool false, .bool false, .bool false, .bool false, .bool false, .bool false, .bool false, .bool false, .bool false, .bool false, .bool false, .bool false, .bool false, .bool false, .bool false, .bool false, .bool false, .bool false, .bool false, .bool false, .bool false, .bool false, .bool false, .bool false, .bool false, .bool false, .bool false, .bool false, .bool false, .bool false, .bool false, .bool false, .bool false, .bool false, .bool false, .bool false, .bool false, .bool false, .bool false, .bool false, .bool false, .bool false, .bool false, .bool false, .bool false, .bool false, .bool false, .bool false, .bool false, .bool false, .bool false, .bool false, .bool false, .bool false, .bool false, .bool false, .bool false, .bool false, .bool false, .bool false, .bool false, .bool false, .bool false, .bool false, .bool false, .bool false, .bool false, .bool false, .bool false, .bool false, .bool false, .bool false, .bool false, .bool false, .bool false, .bool false, .bool false, .bool false, .bool false, .bool false, .bool false, .bool false, .bool false, .bool false, .bool false, .bool false, .bool false, .bool false, .bool false, .bool false, .bool false, .bool false, .bool false, .bool false, .bool false, .bool false, .bool false, .bool false], none, 0, []⟩]) (RC.seq (RC.seq (RC.region 1 [
    ⟨(some 7), .move (.c (.s (.int .i64 0))), none, 0, []⟩]) (RC.block 0 (RC.loop R.detentlaw5_BitsPlays_l3))) R.detentlaw5_BitsPlays_s10))))))
theorem detentlaw5_BitsPlays_ok : chkFunc Go.Proofs.Tryd.prog [0] Go.Proofs.Tryd.f3 detentlaw5_BitsPlays = true := by kernel_rfl
def detentlaw5_BitsWalks_l0 : RC :=
  RC.seq (RC.seq (RC.region 2 [
    ⟨(some 16), .move (.t 6), none, 0, []⟩,
    ⟨(some 17), .bin .lss (.t 16) (.c (.s (.int .i64 257))), none, 1, []⟩]) (RC.cond (.t 17) (RC.skip) (RC.exit 0))) (RC.seq (RC.block 1 (RC.seq (RC.region 7 [
    ⟨(some 21), .move (.t 5), none, 0, []⟩,
    ⟨(some 22), .call F.bits_Map_After [(.t 3), (.t 21)], none, 1, []⟩,
    ⟨(some 20), .move (.t 22), none, 2, []⟩,
    ⟨(some 23), .extract 0 (.t 20), none, 3, []⟩,
    ⟨(some 24), .extract 1 (.t 20), none, 4, []⟩,
    ⟨(some 7), .move (.t 23), none, 5, []⟩,
    ⟨(some 8), .move (.t 24), none, 6, []⟩]) (RC.seq (RC.seq (RC.region 2 [
    ⟨(some 25), .move (.t 8), none, 0, []⟩,
    ⟨(some 26), .un .not (.t 25), none, 1, []⟩]) (RC.cond (.t 26) (RC.seq (RC.region 4 [
    ⟨(some 27), .move (.t 4), none, 0, []⟩,
    ⟨(some 28), .call F.bits_Map_Len [(.t 3)], none, 1, []⟩,
    ⟨(some 29), .bin .eql (.t 27) (.t 28), none, 2, []⟩,
    ⟨(some 2), .move (.t 29), none, 3, []⟩]) (RC.ret)) (RC.skip))) (RC.seq (RC.seq (RC.region 8 [
    ⟨(some 30), .move (.t 7), none, 0, []⟩,
    ⟨(some 31), .move (.t 5), none, 1, []⟩,
    ⟨(some 32), .bin .leq (.t 30) (.t 31), none, 2, []⟩,
    ⟨(some 33), .move (.t 32), none, 3, []⟩,
    ⟨(some 34), .move (.t 7), (some (33, false)), 4, []⟩,
    ⟨(some 35), .call F.bits_Map_Has [(.t 3), (.t 34)], (some (33, false)), 5, []⟩,
    ⟨(some 36), .un .not (.t 35), (some (33, false)), 6, []⟩,
    ⟨(some 37), .pick (.t 33) (.c (.s (.bool true))) (.t 36), none, 7, []⟩]) (RC.cond (.t 37) (RC.seq (RC.region 1 [
    ⟨(some 2), .move (.c (.s (.bool false))), none, 0, []⟩]) (RC.ret)) (RC.skip))) (RC.seq (RC.region 3 [
    ⟨(some 38), .move (.t 4), none, 0, []⟩,
    ⟨(some 39), .bin .add (.t 38) (.c (.s (.int .i64 1))), none, 1, []⟩,
    ⟨(some 4), .move (.t 39), none, 2, []⟩]) (RC.region 2 [
    ⟨(some 40), .move (.t 7), none, 0, []⟩,
    ⟨(some 5), .move (.t 40), none, 1, []⟩])))))) (RC.region 3 [
    ⟨(some 18), .move (.t 6), none, 0, []⟩,
    ⟨(some 19), .bin .add (.t 18) (.c (.s (.int .i64 1))), none, 1, []⟩,
    ⟨(some 6), .move (.t 19), none, 2, []⟩]))
def detentlaw5_BitsWalks_s1 : RC :=
  RC.seq (RC.region 1 [
    ⟨(some 2), .move (.c (.s (.bool false))), none, 0, []⟩]) (RC.ret)
def detentlaw5_BitsWalks : RFunc := RFunc.mk 41 [.tmp 2] (
  RC.seq (RC.region 1 [
    ⟨(some 2), .move (.c (.s (.bool false))), none, 0, []⟩]) (RC.seq (RC.seq (RC.region 2 [
    ⟨(some 9), .call F.detentlaw5_known [], none, 0, []⟩,
    ⟨(some 10), .un .not (.t 9), none, 1, []⟩]) (RC.cond (.t 10) (RC.seq (RC.region 1 [
    ⟨(some 2), .move (.c (.s (.bool false))), none, 0, []⟩]) (RC.ret)) (RC.skip))) (RC.seq (RC.seq (RC.region 3 [
    ⟨(some 11), .move (.t 0), none, 0, []⟩,
    ⟨(some 12), .len (.t 11), none, 1, []⟩,
    ⟨(some 13), .bin .gtr (.t 12) (.c (.s (.int .i64 300))), none, 2, []⟩]) (RC.cond (.t 13) (RC.seq (RC.region 1 [
    ⟨(some 2), .move (.c (.s (.bool true))), none, 0, []⟩]) (RC.ret)) (RC.skip))) (RC.seq (RC.region 1 [
    ⟨(some 3), .newc [.int .u64 0, .int .u64 0, .int .u64 0, .int .u64 0], none, 0, []⟩]) (RC.seq (RC.region 2 [
    ⟨(some 14), .move (.t 0), none, 0, []⟩,
    ⟨(some 15), .call F.bits_Map_Set [(.t 3), (.t 14)], none, 1, []⟩]) (RC.seq (RC.region 1 [
    ⟨(some 4), .move (.c (.s (.int .i64 0))), none, 0, []⟩]) (RC.seq (RC.region 1 [
    ⟨(some 5), .move (.c (.s (.int .i64 0))), none, 0, []⟩]) (RC.seq (RC.seq (RC.region 1 [
    ⟨(some 6), .move (.c (.s (.int .i64 0))), none, 0, []⟩]) (RC.block 0 (RC.loop R.detentlaw5_BitsWalks_l0))) R.detentlaw5_BitsWalks_s1))))))))
theorem detentlaw5_BitsWalks_ok : chkFunc Go.Proofs.Tryd.prog [0] Go.Proofs.Tryd.f4 detentlaw5_BitsWalks = true := by kernel_rfl
def detentlaw5_BitsBack_l0 : RC :=
  RC.seq (RC.seq (RC.region 4 [
    ⟨(some 43), .move (.t 9), none, 0, []⟩,
    ⟨(some 44), .move (.t 7), none, 1, []⟩,
    ⟨(some 45), .len (.t 44), none, 2, []⟩,
    ⟨(some 46), .bin .lss (.t 43) (.t 45), none, 3, []⟩]) (RC.cond (.t 46) (RC.skip) (RC.exit 0))) (RC.seq (RC.block 1 (RC.seq (RC.region 9 [
    ⟨(some 49), .move (.t 7), none, 0, []⟩,
    ⟨(some 50), .move (.t 9), none, 1, []⟩,
    ⟨(some 51), .indexSl 1 (.t 49) (.t 50), none, 2, []⟩,
    ⟨(some 52), .load none (.t 51), none, 3, []⟩,
    ⟨(some 53), .move (.t 8), none, 4, []⟩,
    ⟨(some 54), .move (.t 9), none, 5, []⟩,
    ⟨(some 55), .indexSl 1 (.t 53) (.t 54), none, 6, []⟩,
    ⟨(some 56), .load none (.t 55), none, 7, []⟩,
    ⟨(some 57), .bin .neq (.t 52) (.t 56), none, 8, []⟩]) (RC.cond (.t 57) (RC.seq (RC.region 1 [
    ⟨(some 4), .move (.c (.s (.bool false))), none, 0, []⟩]) (RC.ret)) (RC.skip)))) (RC.region 3 [
    ⟨(some 47), .move (.t 9), none, 0, []⟩,
    ⟨(some 48), .bin .add (.t 47) (.c (.s (.int .i64 1))), none, 1, []⟩,
    ⟨(some 9), .move (.t 48), none, 2, []⟩]))
def detentlaw5_BitsBack_l1 : RC :=
  RC.seq (RC.seq (RC.region 4 [
    ⟨(some 58), .move (.t 10), none, 0, []⟩,
    ⟨(some 59), .move (.t 1), none, 1, []⟩,
    ⟨(some 60), .len (.t 59), none, 2, []⟩,
    ⟨(some 61), .bin .lss (.t 58) (.t 60), none, 3, []⟩]) (RC.cond (.t 61) (RC.skip) (RC.exit 2))) (RC.seq (RC.block 3 (RC.seq (RC.region 5 [
    ⟨(some 64), .move (.t 1), none, 0, []⟩,
    ⟨(some 65), .move (.t 10), none, 1, []⟩,
    ⟨(some 66), .indexSl 1 (.t 64) (.t 65), none, 2, []⟩,
    ⟨(some 67), .load none (.t 66), none, 3, []⟩,
    ⟨(some 68), .call F.bits_Map_Has [(.t 5), (.t 67)], none, 4, []⟩]) (RC.cond (.t 68) (RC.seq (RC.region 1 [
    ⟨(some 4), .move (.c (.s (.bool false))), none, 0, []⟩]) (RC.ret)) (RC.skip)))) (RC.region 3 [
    ⟨(some 62), .move (.t 10), none, 0, []⟩,
    ⟨(some 63), .bin .add (.t 62) (.c (.s (.int .i64 1))), none, 1, []⟩,
    ⟨(some 10), .move (.t 63), none, 2, []⟩]))
def detentlaw5_BitsBack_s2 : RC :=
  RC.seq (RC.region 1 [
    ⟨(some 4), .move (.c (.s (.bool true))), none, 0, []⟩]) (RC.ret)
def detentlaw5_BitsBack_s3 : RC :=
  RC.seq (RC.seq (RC.region 1 [
    ⟨(some 10), .move (.c (.s (.int .i64 0))), none, 0, []⟩]) (RC.block 2 (RC.loop R.detentlaw5_BitsBack_l1))) R.detentlaw5_BitsBack_s2
def detentlaw5_BitsBack : RFunc := RFunc.mk 69 [.tmp 4] (
  RC.seq (RC.region 1 [
    ⟨(some 4), .move (.c (.s (.bool false))), none, 0, []⟩]) (RC.seq (RC.seq (RC.region 2 [
    ⟨(some 11), .call F.detentlaw5_known [], none, 0, []⟩,
    ⟨(some 12), .un .not (.t 11), none, 1, []⟩]) (RC.cond (.t 12) (RC.seq (RC.region 1 [
    ⟨(some 4), .move (.c (.s (.bool false))), none, 0, []⟩]) (RC.ret)) (RC.skip))) (RC.seq (RC.seq (RC.region 8 [
    ⟨(some 13), .move (.t 0), none, 0, []⟩,
    ⟨(some 14), .len (.t 13), none, 1, []⟩,
    ⟨(some 15), .bin .gtr (.t 14) (.c (.s (.int .i64 100))), none, 2, []⟩,
    ⟨(some 16), .move (.t 15), none, 3, []⟩,
    ⟨(some 17), .move (.t 1), (some (16, false)), 4, []⟩,
    ⟨(some 18), .len (.t 17), (some (16, false)), 5, []⟩,
    ⟨(some 19), .bin .gtr (.t 18) (.c (.s (.int .i64 100))), (some (16, false)), 6, []⟩,
    ⟨(some 20), .pick (.t 16) (.c (.s (.bool true))) (.t 19), none, 7, []⟩]) (RC.cond (.t 20) (RC.seq (RC.region 1 [
    ⟨(some 4), .move (.c (.s (.bool true))), none, 0, []⟩]) (RC.ret)) (RC.skip))) (RC.seq (RC.region 2 [
    ⟨(some 5), .newc [.int .u64 0, .int .u64 0, .int .u64 0, .int .u64 0], none, 0, []⟩,
    ⟨(some 6), .newc [.int .u64 0, .int .u64 0, .int .u64 0, .int .u64 0], none, 1, []⟩]) (RC.seq (RC.region 2 [
    ⟨(some 21), .move (.t 0), none, 0, []⟩,
    ⟨(some 22), .call F.bits_Map_Set [(.t 5), (.t 21)], none, 1, []⟩]) (RC.seq (RC.region 2 [
    ⟨(some 23), .move (.t 1), none, 0, []⟩,
    ⟨(some 24), .call F.bits_Map_Set [(.t 5), (.t 23)], none, 1, []⟩]) (RC.seq (RC.region 2 [
    ⟨(some 25), .move (.t 1), none, 0, []⟩,
    ⟨(some 26), .call F.bits_Map_Clear [(.t 5), (.t 25)], none, 1, []⟩]) (RC.seq (RC.region 2 [
    ⟨(some 27), .move (.t 0), none, 0, []⟩,
    ⟨(some 28), .call F.bits_Map_Set [(.t 6), (.t 27)], none, 1, []⟩]) (RC.seq (RC.region 2 [
    ⟨(some 29), .move (.t 1), none, 0, []⟩,
    ⟨(some 30), .call F.bits_Map_Clear [(.t 6), (.t 29)], none, 1, []⟩]) (RC.seq (RC.region 2 [
    ⟨(some 31), .call F.bits_Map_Row [(.t 5)], none, 0, []⟩,
    ⟨(some 7), .move (.t 31), none, 1, []⟩]) (RC.seq (RC.region 2 [
    ⟨(some 32), .call F.bits_Map_Row [(.t 6)], none, 0, []⟩,
    ⟨(some 8), .move (.t 32), none, 1, []⟩]) (RC.seq (RC.seq (RC.region 10 [
    ⟨(some 33), .move (.t 7), none, 0, []⟩,
    ⟨(some 34), .len (.t 33), none, 1, []⟩,
    ⟨(some 35), .move (.t 8), none, 2, []⟩,
    ⟨(some 36), .len (.t 35), none, 3, []⟩,
    ⟨(some 37), .bin .neq (.t 34) (.t 36), none, 4, []⟩,
    ⟨(some 38), .move (.t 37), none, 5, []⟩,
    ⟨(some 39), .call F.bits_Map_Len [(.t 5)], (some (38, false)), 6, []⟩,
    ⟨(some 40), .call F.bits_Map_Len [(.t 6)], (some (38, false)), 7, []⟩,
    ⟨(some 41), .bin .neq (.t 39) (.t 40), (some (38, false)), 8, []⟩,
    ⟨(some 42), .pick (.t 38) (.c (.s (.bool true))) (.t 41), none, 9, []⟩]) (RC.cond (.t 42) (RC.seq (RC.region 1 [
    ⟨(some 4), .move (.c (.s (.bool false))), none, 0, []⟩]) (RC.ret)) (RC.skip))) (RC.seq (RC.seq (RC.region 1 [
    ⟨(some 9), .move (.c (.s (.int .i64 0))), none, 0, []⟩]) (RC.block 0 (RC.loop R.detentlaw5_BitsBack_l0))) R.detentlaw5_BitsBack_s3)))))))))))))
theorem detentlaw5_BitsBack_ok : chkFunc Go.Proofs.Tryd.prog [0] Go.Proofs.Tryd.f5 detentlaw5_BitsBack = true := by kernel_rfl
def detentlaw5_BitsEnds : RFunc := RFunc.mk 57 [.tmp 2] (
  RC.seq (RC.region 1 [
    ⟨(some 2), .move (.c (.s (.bool false))), none, 0, []⟩]) (RC.seq (RC.seq (RC.region 2 [
    ⟨(some 7), .call F.detentlaw5_known [], none, 0, []⟩,
    ⟨(some 8), .un .not (.t 7), none, 1, []⟩]) (RC.cond (.t 8) (RC.seq (RC.region 1 [
    ⟨(some 2), .move (.c (.s (.bool false))), none, 0, []⟩]) (RC.ret)) (RC.skip))) (RC.seq (RC.region 1 [
    ⟨(some 3), .newc [.int .u64 0, .int .u64 0, .int .u64 0, .int .u64 0], none, 0, []⟩]) (RC.seq (RC.region 3 [
    ⟨(some 9), .move (.t 0), none, 0, []⟩,
    ⟨(some 10), .buildSlice 1 1 [.int .i64 0] [(0, 1, (.t 9))], none, 1, []⟩,
    ⟨(some 11), .call F.bits_Map_Set [(.t 3), (.t 10)], none, 2, []⟩]) (RC.seq (RC.region 7 [
    ⟨(some 12), .move (.t 0), none, 0, []⟩,
    ⟨(some 13), .bin .geq (.t 12) (.c (.s (.int .i64 1))), none, 1, []⟩,
    ⟨(some 14), .move (.t 13), none, 2, []⟩,
    ⟨(some 15), .move (.t 0), (some (14, true)), 3, []⟩,
    ⟨(some 16), .bin .leq (.t 15) (.c (.s (.int .i64 256))), (some (14, true)), 4, []⟩,
    ⟨(some 17), .pick (.t 14) (.t 16) (.c (.s (.bool false))), none, 5, []⟩,
    ⟨(some 4), .move (.t 17), none, 6, []⟩]) (RC.seq (RC.region 6 [
    ⟨(some 19), .call F.bits_Map_First [(.t 3)], none, 0, []⟩,
    ⟨(some 18), .move (.t 19), none, 1, []⟩,
    ⟨(some 20), .extract 0 (.t 18), none, 2, []⟩,
    ⟨(some 21), .extract 1 (.t 18), none, 3, []⟩,
    ⟨(some 5), .move (.t 20), none, 4, []⟩,
    ⟨(some 6), .move (.t 21), none, 5, []⟩]) (RC.seq (RC.seq (RC.region 25 [
    ⟨(some 22), .move (.t 0), none, 0, []⟩,
    ⟨(some 23), .call F.bits_Map_Has [(.t 3), (.t 22)], none, 1, []⟩,
    ⟨(some 24), .move (.t 4), none, 2, []⟩,
    ⟨(some 25), .eqs .bool true (.t 23) (.t 24), none, 3, []⟩,
    ⟨(some 26), .move (.t 25), none, 4, []⟩,
    ⟨(some 27), .move (.t 6), (some (26, false)), 5, []⟩,
    ⟨(some 28), .move (.t 4), (some (26, false)), 6, []⟩,
    ⟨(some 29), .eqs .bool true (.t 27) (.t 28), (some (26, false)), 7, []⟩,
    ⟨(some 30), .pick (.t 26) (.c (.s (.bool true))) (.t 29), none, 8, []⟩,
    ⟨(some 31), .move (.t 30), none, 9, []⟩,
    ⟨(some 32), .move (.t 4), (some (31, false)), 10, []⟩,
    ⟨(some 33), .move (.t 32), (some (31, false)), 11, []⟩,
    ⟨(some 34), .move (.t 5), (some (33, true)), 12, []⟩,
    ⟨(some 35), .move (.t 0), (some (33, true)), 13, []⟩,
    ⟨(some 36), .bin .neq (.t 34) (.t 35), (some (33, true)), 14, []⟩,
    ⟨(some 37), .pick (.t 33) (.t 36) (.c (.s (.bool false))), (some (31, false)), 15, []⟩,
    ⟨(some 38), .pick (.t 31) (.c (.s (.bool true))) (.t 37), none, 16, []⟩,
    ⟨(some 39), .move (.t 38), none, 17, []⟩,
    ⟨(some 40), .move (.t 4), (some (39, false)), 18, []⟩,
    ⟨(some 41), .un .not (.t 40), (some (39, false)), 19, []⟩,
    ⟨(some 42), .move (.t 41), (some (39, false)), 20, []⟩,
    ⟨(some 43), .move (.t 5), (some (42, true)), 21, []⟩,
    ⟨(some 44), .bin .neq (.t 43) (.c (.s (.int .i64 0))), (some (42, true)), 22, []⟩,
    ⟨(some 45), .pick (.t 42) (.t 44) (.c (.s (.bool false))), (some (39, false)), 23, []⟩,
    ⟨(some 46), .pick (.t 39) (.c (.s (.bool true))) (.t 45), none, 24, []⟩]) (RC.cond (.t 46) (RC.seq (RC.region 1 [
    ⟨(some 2), .move (.c (.s (.bool false))), none, 0, []⟩]) (RC.ret)) (RC.skip))) (RC.seq (RC.region 3 [
    ⟨(some 47), .move (.t 0), none, 0, []⟩,
    ⟨(some 48), .buildSlice 1 1 [.int .i64 0] [(0, 1, (.t 47))], none, 1, []⟩,
    ⟨(some 49), .call F.bits_Map_Clear [(.t 3), (.t 48)], none, 2, []⟩]) (RC.seq (RC.region 8 [
    ⟨(some 50), .call F.bits_Map_Len [(.t 3)], none, 0, []⟩,
    ⟨(some 51), .bin .eql (.t 50) (.c (.s (.int .i64 0))), none, 1, []⟩,
    ⟨(some 52), .move (.t 51), none, 2, []⟩,
    ⟨(some 53), .move (.t 0), (some (52, true)), 3, []⟩,
    ⟨(some 54), .call F.bits_Map_Has [(.t 3), (.t 53)], (some (52, true)), 4, []⟩,
    ⟨(some 55), .un .not (.t 54), (some (52, true)), 5, []⟩,
    ⟨(some 56), .pick (.t 52) (.t 55) (.c (.s (.bool false))), none, 6, []⟩,
    ⟨(some 2), .move (.t 56), none, 7, []⟩]) (RC.ret))))))))))
theorem detentlaw5_BitsEnds_ok : chkFunc Go.Proofs.Tryd.prog [0] Go.Proofs.Tryd.f6 detentlaw5_BitsEnds = true := by kernel_rfl
def detentlaw9_ReadyTurns_l0 : RC :=
  RC.seq (RC.seq (RC.region 4 [
    ⟨(some 26), .move (.t 6), none, 0, []⟩,
    ⟨(some 27), .move (.t 0), none, 1, []⟩,
    ⟨(some 28), .len (.t 27), none, 2, []⟩,
    ⟨(some 29), .bin .lss (.t 26) (.t 28), none, 3, []⟩]) (RC.cond (.t 29) (RC.skip) (RC.exit 0))) (RC.seq (RC.block 1 (RC.region 11 [
    ⟨(some 32), .move (.t 5), none, 0, []⟩,
    ⟨(some 33), .move (.t 6), none, 1, []⟩,
    ⟨(some 34), .bin .add (.t 33) (.c (.s (.int .i64 1))), none, 2, []⟩,
    ⟨(some 35), .move (.t 0), none, 3, []⟩,
    ⟨(some 36), .move (.t 6), none, 4, []⟩,
    ⟨(some 37), .indexSl 1 (.t 35) (.t 36), none, 5, []⟩,
    ⟨(some 38), .load none (.t 37), none, 6, []⟩,
    ⟨(some 39), .bin .rem (.t 38) (.c (.s (.int .u8 16))), none, 7, []⟩,
    ⟨(some 40), .conv .i64 (.t 39), none, 8, []⟩,
    ⟨(some 41), .bin .add (.c (.s (.int .i64 1))) (.t 40), none, 9, []⟩,
    ⟨(some 42), .call F.ready_Queue_Add [(.t 32), (.t 34), (.t 41)], none, 10, []⟩])) (RC.region 3 [
    ⟨(some 30), .move (.t 6), none, 0, []⟩,
    ⟨(some 31), .bin .add (.t 30) (.c (.s (.int .i64 1))), none, 1, []⟩,
    ⟨(some 6), .move (.t 31), none, 2, []⟩]))
def detentlaw9_ReadyTurns_l1 : RC :=
  RC.seq (RC.seq (RC.region 3 [
    ⟨(some 49), .move (.t 9), none, 0, []⟩,
    ⟨(some 50), .move (.t 8), none, 1, []⟩,
    ⟨(some 51), .bin .lss (.t 49) (.t 50), none, 2, []⟩]) (RC.cond (.t 51) (RC.skip) (RC.exit 2))) (RC.seq (RC.block 3 (RC.seq (RC.region 4 [
    ⟨(some 54), .move (.t 5), none, 0, []⟩,
    ⟨(some 55), .move (.t 1), none, 1, []⟩,
    ⟨(some 56), .call F.ready_Queue_Row [(.t 54), (.t 55)], none, 2, []⟩,
    ⟨(some 10), .move (.t 56), none, 3, []⟩]) (RC.seq (RC.seq (RC.region 4 [
    ⟨(some 57), .move (.t 5), none, 0, []⟩,
    ⟨(some 58), .move (.t 1), none, 1, []⟩,
    ⟨(some 59), .call F.ready_Queue_Rotate [(.t 57), (.t 58)], none, 2, []⟩,
    ⟨(some 60), .bin .neq (.t 59) (.c (.s (.int .i64 0))), none, 3, []⟩]) (RC.cond (.t 60) (RC.seq (RC.region 1 [
    ⟨(some 4), .move (.c (.s (.bool false))), none, 0, []⟩]) (RC.ret)) (RC.skip))) (RC.seq (RC.region 4 [
    ⟨(some 61), .move (.t 5), none, 0, []⟩,
    ⟨(some 62), .move (.t 1), none, 1, []⟩,
    ⟨(some 63), .call F.ready_Queue_Row [(.t 61), (.t 62)], none, 2, []⟩,
    ⟨(some 11), .move (.t 63), none, 3, []⟩]) (RC.seq (RC.region 28 [
    ⟨(some 64), .move (.t 11), none, 0, []⟩,
    ⟨(some 65), .len (.t 64), none, 1, []⟩,
    ⟨(some 66), .move (.t 8), none, 2, []⟩,
    ⟨(some 67), .bin .neq (.t 65) (.t 66), none, 3, []⟩,
    ⟨(some 68), .move (.t 67), none, 4, []⟩,
    ⟨(some 69), .move (.t 11), (some (68, false)), 5, []⟩,
    ⟨(some 70), .move (.t 8), (some (68, false)), 6, []⟩,
    ⟨(some 71), .bin .sub (.t 70) (.c (.s (.int .i64 1))), (some (68, false)), 7, []⟩,
    ⟨(some 72), .indexSl 1 (.t 69) (.t 71), (some (68, false)), 8, []⟩,
    ⟨(some 73), .load none (.t 72), (some (68, false)), 9, []⟩,
    ⟨(some 74), .move (.t 10), (some (68, false)), 10, []⟩,
    ⟨(some 75), .indexSl 1 (.t 74) (.c (.s (.int .i64 0))), (some (68, false)), 11, []⟩,
    ⟨(some 76), .load none (.t 75), (some (68, false)), 12, []⟩,
    ⟨(some 77), .bin .neq (.t 73) (.t 76), (some (68, false)), 13, []⟩,
    ⟨(some 78), .pick (.t 68) (.c (.s (.bool true))) (.t 77), none, 14, []⟩,
    ⟨(some 79), .move (.t 78), none, 15, []⟩,
    ⟨(some 80), .move (.t 8), (some (79, false)), 16, []⟩,
    ⟨(some 81), .bin .gtr (.t 80) (.c (.s (.int .i64 1))), (some (79, false)), 17, []⟩,
    ⟨(some 82), .move (.t 81), (some (79, false)), 18, []⟩,
    ⟨(some 83), .move (.t 11), (some (82, true)), 19, []⟩,
    ⟨(some 84), .indexSl 1 (.t 83) (.c (.s (.int .i64 0))), (some (82, true)), 20, []⟩,
    ⟨(some 85), .load none (.t 84), (some (82, true)), 21, []⟩,
    ⟨(some 86), .move (.t 10), (some (82, true)), 22, []⟩,
    ⟨(some 87), .indexSl 1 (.t 86) (.c (.s (.int .i64 1))), (some (82, true)), 23, []⟩,
    ⟨(some 88), .load none (.t 87), (some (82, true)), 24, []⟩,
    ⟨(some 89), .bin .neq (.t 85) (.t 88), (some (82, true)), 25, []⟩,
    ⟨(some 90), .pick (.t 82) (.t 89) (.c (.s (.bool false))), (some (79, false)), 26, []⟩,
    ⟨(some 91), .pick (.t 79) (.c (.s (.bool true))) (.t 90), none, 27, []⟩]) (RC.cond (.t 91) (RC.seq (RC.region 1 [
    ⟨(some 4), .move (.c (.s (.bool false))), none, 0, []⟩]) (RC.ret)) (RC.skip))))))) (RC.region 3 [
    ⟨(some 52), .move (.t 9), none, 0, []⟩,
    ⟨(some 53), .bin .add (.t 52) (.c (.s (.int .i64 1))), none, 1, []⟩,
    ⟨(some 9), .move (.t 53), none, 2, []⟩]))
def detentlaw9_ReadyTurns_s2 : RC :=
  RC.seq (RC.region 5 [
    ⟨(some 92), .move (.t 5), none, 0, []⟩,
    ⟨(some 93), .call F.ready_Queue_All [(.t 92)], none, 1, []⟩,
    ⟨(some 94), .move (.t 7), none, 2, []⟩,
    ⟨(some 95), .call F.detentlaw3_Same [(.t 93), (.t 94)], none, 3, []⟩,
    ⟨(some 4), .move (.t 95), none, 4, []⟩]) (RC.ret)
def detentlaw9_ReadyTurns_s3 : RC :=
  RC.seq (RC.region 3 [
    ⟨(some 43), .move (.t 5), none, 0, []⟩,
    ⟨(some 44), .call F.ready_Queue_All [(.t 43)], none, 1, []⟩,
    ⟨(some 7), .move (.t 44), none, 2, []⟩]) (RC.seq (RC.region 5 [
    ⟨(some 45), .move (.t 5), none, 0, []⟩,
    ⟨(some 46), .move (.t 1), none, 1, []⟩,
    ⟨(some 47), .call F.ready_Queue_Row [(.t 45), (.t 46)], none, 2, []⟩,
    ⟨(some 48), .len (.t 47), none, 3, []⟩,
    ⟨(some 8), .move (.t 48), none, 4, []⟩]) (RC.seq (RC.seq (RC.region 1 [
    ⟨(some 9), .move (.c (.s (.int .i64 0))), none, 0, []⟩]) (RC.block 2 (RC.loop R.detentlaw9_ReadyTurns_l1))) R.detentlaw9_ReadyTurns_s2))
def detentlaw9_ReadyTurns : RFunc := RFunc.mk 96 [.tmp 4] (
  RC.seq (RC.region 1 [
    ⟨(some 4), .move (.c (.s (.bool false))), none, 0, []⟩]) (RC.seq (RC.seq (RC.region 2 [
    ⟨(some 12), .call F.detentlaw9_known [], none, 0, []⟩,
    ⟨(some 13), .un .not (.t 12), none, 1, []⟩]) (RC.cond (.t 13) (RC.seq (RC.region 1 [
    ⟨(some 4), .move (.c (.s (.bool false))), none, 0, []⟩]) (RC.ret)) (RC.skip))) (RC.seq (RC.seq (RC.region 11 [
    ⟨(some 14), .move (.t 0), none, 0, []⟩,
    ⟨(some 15), .len (.t 14), none, 1, []⟩,
    ⟨(some 16), .bin .gtr (.t 15) (.c (.s (.int .i64 16))), none, 2, []⟩,
    ⟨(some 17), .move (.t 16), none, 3, []⟩,
    ⟨(some 18), .move (.t 1), (some (17, false)), 4, []⟩,
    ⟨(some 19), .bin .lss (.t 18) (.c (.s (.int .i64 1))), (some (17, false)), 5, []⟩,
    ⟨(some 20), .pick (.t 17) (.c (.s (.bool true))) (.t 19), none, 6, []⟩,
    ⟨(some 21), .move (.t 20), none, 7, []⟩,
    ⟨(some 22), .move (.t 1), (some (21, false)), 8, []⟩,
    ⟨(some 23), .bin .gtr (.t 22) (.c (.s (.int .i64 16))), (some (21, false)), 9, []⟩,
    ⟨(some 24), .pick (.t 21) (.c (.s (.bool true))) (.t 23), none, 10, []⟩]) (RC.cond (.t 24) (RC.seq (RC.region 1 [
    ⟨(some 4), .move (.c (.s (.bool true))), none, 0, []⟩]) (RC.ret)) (RC.skip))) (RC.seq (RC.region 2 [
    ⟨(some 25), .call F.ready_New [], none, 0, []⟩,
    ⟨(some 5), .move (.t 25), none, 1, []⟩]) (RC.seq (RC.seq (RC.region 1 [
    ⟨(some 6), .move (.c (.s (.int .i64 0))), none, 0, []⟩]) (RC.block 0 (RC.loop R.detentlaw9_ReadyTurns_l0))) R.detentlaw9_ReadyTurns_s3)))))
theorem detentlaw9_ReadyTurns_ok : chkFunc Go.Proofs.Tryd.prog [0] Go.Proofs.Tryd.f7 detentlaw9_ReadyTurns = true := by kernel_rfl
def detentlaw9_ReadyRefuses_s0 : RC :=
  RC.seq (RC.region 4 [
    ⟨(some 74), .move (.t 5), none, 0, []⟩,
    ⟨(some 75), .move (.t 1), none, 1, []⟩,
    ⟨(some 76), .call F.ready_Queue_Rotate [(.t 74), (.t 75)], none, 2, []⟩,
    ⟨(some 10), .move (.t 76), none, 3, []⟩]) (RC.seq (RC.region 7 [
    ⟨(some 77), .move (.t 1), none, 0, []⟩,
    ⟨(some 78), .bin .geq (.t 77) (.c (.s (.int .i64 1))), none, 1, []⟩,
    ⟨(some 79), .move (.t 78), none, 2, []⟩,
    ⟨(some 80), .move (.t 1), (some (79, true)), 3, []⟩,
    ⟨(some 81), .bin .leq (.t 80) (.c (.s (.int .i64 16))), (some (79, true)), 4, []⟩,
    ⟨(some 82), .pick (.t 79) (.t 81) (.c (.s (.bool false))), none, 5, []⟩,
    ⟨(some 11), .move (.t 82), none, 6, []⟩]) (RC.seq (RC.region 3 [
    ⟨(some 83), .move (.t 5), none, 0, []⟩,
    ⟨(some 84), .call F.ready_Queue_Row [(.t 83), (.c (.s (.int .i64 7)))], none, 1, []⟩,
    ⟨(some 12), .move (.t 84), none, 2, []⟩]) (RC.seq (RC.region 25 [
    ⟨(some 85), .move (.t 10), none, 0, []⟩,
    ⟨(some 86), .bin .eql (.t 85) (.c (.s (.int .i64 0))), none, 1, []⟩,
    ⟨(some 87), .move (.t 11), none, 2, []⟩,
    ⟨(some 88), .eqs .bool false (.t 86) (.t 87), none, 3, []⟩,
    ⟨(some 89), .move (.t 88), none, 4, []⟩,
    ⟨(some 90), .move (.t 12), (some (89, true)), 5, []⟩,
    ⟨(some 91), .len (.t 90), (some (89, true)), 6, []⟩,
    ⟨(some 92), .bin .eql (.t 91) (.c (.s (.int .i64 2))), (some (89, true)), 7, []⟩,
    ⟨(some 93), .pick (.t 89) (.t 92) (.c (.s (.bool false))), none, 8, []⟩,
    ⟨(some 94), .move (.t 93), none, 9, []⟩,
    ⟨(some 95), .move (.t 5), (some (94, true)), 10, []⟩,
    ⟨(some 96), .call F.ready_Queue_All [(.t 95)], (some (94, true)), 11, []⟩,
    ⟨(some 97), .len (.t 96), (some (94, true)), 12, []⟩,
    ⟨(some 98), .bin .eql (.t 97) (.c (.s (.int .i64 2))), (some (94, true)), 13, []⟩,
    ⟨(some 99), .pick (.t 94) (.t 98) (.c (.s (.bool false))), none, 14, []⟩,
    ⟨(some 100), .move (.t 99), none, 15, []⟩,
    ⟨(some 101), .move (.t 1), (some (100, true)), 16, []⟩,
    ⟨(some 102), .bin .eql (.t 101) (.c (.s (.int .i64 7))), (some (100, true)), 17, []⟩,
    ⟨(some 103), .move (.t 12), (some (100, true)), 18, []⟩,
    ⟨(some 104), .indexSl 1 (.t 103) (.c (.s (.int .i64 0))), (some (100, true)), 19, []⟩,
    ⟨(some 105), .load none (.t 104), (some (100, true)), 20, []⟩,
    ⟨(some 106), .bin .eql (.t 105) (.c (.s (.int .i64 5))), (some (100, true)), 21, []⟩,
    ⟨(some 107), .eqs .bool false (.t 102) (.t 106), (some (100, true)), 22, []⟩,
    ⟨(some 108), .pick (.t 100) (.t 107) (.c (.s (.bool false))), none, 23, []⟩,
    ⟨(some 4), .move (.t 108), none, 24, []⟩]) (RC.ret))))
def detentlaw9_ReadyRefuses : RFunc := RFunc.mk 109 [.tmp 4] (
  RC.seq (RC.region 1 [
    ⟨(some 4), .move (.c (.s (.bool false))), none, 0, []⟩]) (RC.seq (RC.seq (RC.region 2 [
    ⟨(some 13), .call F.detentlaw9_known [], none, 0, []⟩,
    ⟨(some 14), .un .not (.t 13), none, 1, []⟩]) (RC.cond (.t 14) (RC.seq (RC.region 1 [
    ⟨(some 4), .move (.c (.s (.bool false))), none, 0, []⟩]) (RC.ret)) (RC.skip))) (RC.seq (RC.region 2 [
    ⟨(some 15), .call F.ready_New [], none, 0, []⟩,
    ⟨(some 5), .move (.t 15), none, 1, []⟩]) (RC.seq (RC.region 2 [
    ⟨(some 16), .move (.t 5), none, 0, []⟩,
    ⟨(some 17), .call F.ready_Queue_Add [(.t 16), (.c (.s (.int .i64 4))), (.c (.s (.int .i64 7)))], none, 1, []⟩]) (RC.seq (RC.region 2 [
    ⟨(some 18), .move (.t 5), none, 0, []⟩,
    ⟨(some 19), .call F.ready_Queue_Add [(.t 18), (.c (.s (.int .i64 5))), (.c (.s (.int .i64 7)))], none, 1, []⟩]) (RC.seq (RC.region 5 [
    ⟨(some 20), .move (.t 5), none, 0, []⟩,
    ⟨(some 21), .move (.t 0), none, 1, []⟩,
    ⟨(some 22), .move (.t 1), none, 2, []⟩,
    ⟨(some 23), .call F.ready_Queue_Add [(.t 20), (.t 21), (.t 22)], none, 3, []⟩,
    ⟨(some 6), .move (.t 23), none, 4, []⟩]) (RC.seq (RC.region 15 [
    ⟨(some 24), .move (.t 0), none, 0, []⟩,
    ⟨(some 25), .bin .geq (.t 24) (.c (.s (.int .i64 1))), none, 1, []⟩,
    ⟨(some 26), .move (.t 25), none, 2, []⟩,
    ⟨(some 27), .move (.t 0), (some (26, true)), 3, []⟩,
    ⟨(some 28), .bin .leq (.t 27) (.c (.s (.int .i64 16))), (some (26, true)), 4, []⟩,
    ⟨(some 29), .pick (.t 26) (.t 28) (.c (.s (.bool false))), none, 5, []⟩,
    ⟨(some 30), .move (.t 29), none, 6, []⟩,
    ⟨(some 31), .move (.t 1), (some (30, true)), 7, []⟩,
    ⟨(some 32), .bin .geq (.t 31) (.c (.s (.int .i64 1))), (some (30, true)), 8, []⟩,
    ⟨(some 33), .pick (.t 30) (.t 32) (.c (.s (.bool false))), none, 9, []⟩,
    ⟨(some 34), .move (.t 33), none, 10, []⟩,
    ⟨(some 35), .move (.t 1), (some (34, true)), 11, []⟩,
    ⟨(some 36), .bin .leq (.t 35) (.c (.s (.int .i64 16))), (some (34, true)), 12, []⟩,
    ⟨(some 37), .pick (.t 34) (.t 36) (.c (.s (.bool false))), none, 13, []⟩,
    ⟨(some 7), .move (.t 37), none, 14, []⟩]) (RC.seq (RC.block 0 (RC.seq (RC.region 3 [
    ⟨(some 61), .move (.t 7), none, 0, []⟩,
    ⟨(some 62), .un .not (.t 61), none, 1, []⟩,
    ⟨(some 60), .move (.t 62), none, 2, []⟩]) (RC.cond (.t 60) (RC.seq (RC.region 2 [
    ⟨(some 63), .move (.t 6), none, 0, []⟩,
    ⟨(some 64), .bin .neq (.t 63) (.c (.s (.int .i64 (-17)))), none, 1, []⟩]) (RC.cond (.t 64) (RC.seq (RC.region 1 [
    ⟨(some 4), .move (.c (.s (.bool false))), none, 0, []⟩]) (RC.ret)) (RC.skip))) (RC.seq (RC.region 7 [
    ⟨(some 66), .move (.t 0), none, 0, []⟩,
    ⟨(some 67), .bin .eql (.t 66) (.c (.s (.int .i64 4))), none, 1, []⟩,
    ⟨(some 68), .move (.t 67), none, 2, []⟩,
    ⟨(some 69), .move (.t 0), (some (68, false)), 3, []⟩,
    ⟨(some 70), .bin .eql (.t 69) (.c (.s (.int .i64 5))), (some (68, false)), 4, []⟩,
    ⟨(some 71), .pick (.t 68) (.c (.s (.bool true))) (.t 70), none, 5, []⟩,
    ⟨(some 65), .move (.t 71), none, 6, []⟩]) (RC.cond (.t 65) (RC.seq (RC.region 2 [
    ⟨(some 72), .move (.t 6), none, 0, []⟩,
    ⟨(some 73), .bin .neq (.t 72) (.c (.s (.int .i64 (-41)))), none, 1, []⟩]) (RC.cond (.t 73) (RC.seq (RC.region 1 [
    ⟨(some 4), .move (.c (.s (.bool false))), none, 0, []⟩]) (RC.ret)) (RC.skip))) (RC.seq (RC.region 8 [
    ⟨(some 39), .move (.t 5), none, 0, []⟩,
    ⟨(some 40), .move (.t 0), none, 1, []⟩,
    ⟨(some 41), .call F.ready_Queue_Pri [(.t 39), (.t 40)], none, 2, []⟩,
    ⟨(some 38), .move (.t 41), none, 3, []⟩,
    ⟨(some 42), .extract 0 (.t 38), none, 4, []⟩,
    ⟨(some 43), .extract 1 (.t 38), none, 5, []⟩,
    ⟨(some 8), .move (.t 42), none, 6, []⟩,
    ⟨(some 9), .move (.t 43), none, 7, []⟩]) (RC.seq (RC.region 17 [
    ⟨(some 44), .move (.t 6), none, 0, []⟩,
    ⟨(some 45), .bin .eql (.t 44) (.c (.s (.int .i64 0))), none, 1, []⟩,
    ⟨(some 46), .move (.t 45), none, 2, []⟩,
    ⟨(some 47), .move (.t 8), (some (46, true)), 3, []⟩,
    ⟨(some 48), .move (.t 1), (some (46, true)), 4, []⟩,
    ⟨(some 49), .bin .eql (.t 47) (.t 48), (some (46, true)), 5, []⟩,
    ⟨(some 50), .pick (.t 46) (.t 49) (.c (.s (.bool false))), none, 6, []⟩,
    ⟨(some 51), .move (.t 50), none, 7, []⟩,
    ⟨(some 52), .move (.t 9), (some (51, true)), 8, []⟩,
    ⟨(some 53), .pick (.t 51) (.t 52) (.c (.s (.bool false))), none, 9, []⟩,
    ⟨(some 54), .move (.t 53), none, 10, []⟩,
    ⟨(some 55), .move (.t 5), (some (54, true)), 11, []⟩,
    ⟨(some 56), .call F.ready_Queue_All [(.t 55)], (some (54, true)), 12, []⟩,
    ⟨(some 57), .len (.t 56), (some (54, true)), 13, []⟩,
    ⟨(some 58), .bin .eql (.t 57) (.c (.s (.int .i64 3))), (some (54, true)), 14, []⟩,
    ⟨(some 59), .pick (.t 54) (.t 58) (.c (.s (.bool false))), none, 15, []⟩,
    ⟨(some 4), .move (.t 59), none, 16, []⟩]) (RC.ret)))))))) R.detentlaw9_ReadyRefuses_s0))))))))
theorem detentlaw9_ReadyRefuses_ok : chkFunc Go.Proofs.Tryd.prog [0] Go.Proofs.Tryd.f8 detentlaw9_ReadyRefuses = true := by kernel_rfl
def detentlaw9_ReadyFirst_l0 : RC :=
  RC.seq (RC.seq (RC.region 4 [
    ⟨(some 19), .move (.t 4), none, 0, []⟩,
    ⟨(some 20), .move (.t 0), none, 1, []⟩,
    ⟨(some 21), .len (.t 20), none, 2, []⟩,
    ⟨(some 22), .bin .lss (.t 19) (.t 21), none, 3, []⟩]) (RC.cond (.t 22) (RC.skip) (RC.exit 0))) (RC.seq (RC.block 1 (RC.seq (RC.region 12 [
    ⟨(some 25), .move (.t 3), none, 0, []⟩,
    ⟨(some 26), .move (.t 4), none, 1, []⟩,
    ⟨(some 27), .bin .add (.t 26) (.c (.s (.int .i64 1))), none, 2, []⟩,
    ⟨(some 28), .move (.t 0), none, 3, []⟩,
    ⟨(some 29), .move (.t 4), none, 4, []⟩,
    ⟨(some 30), .indexSl 1 (.t 28) (.t 29), none, 5, []⟩,
    ⟨(some 31), .load none (.t 30), none, 6, []⟩,
    ⟨(some 32), .bin .rem (.t 31) (.c (.s (.int .u8 16))), none, 7, []⟩,
    ⟨(some 33), .conv .i64 (.t 32), none, 8, []⟩,
    ⟨(some 34), .bin .add (.c (.s (.int .i64 1))) (.t 33), none, 9, []⟩,
    ⟨(some 35), .call F.ready_Queue_Add [(.t 25), (.t 27), (.t 34)], none, 10, []⟩,
    ⟨(some 36), .bin .neq (.t 35) (.c (.s (.int .i64 0))), none, 11, []⟩]) (RC.cond (.t 36) (RC.seq (RC.region 1 [
    ⟨(some 2), .move (.c (.s (.bool false))), none, 0, []⟩]) (RC.ret)) (RC.skip)))) (RC.region 3 [
    ⟨(some 23), .move (.t 4), none, 0, []⟩,
    ⟨(some 24), .bin .add (.t 23) (.c (.s (.int .i64 1))), none, 1, []⟩,
    ⟨(some 4), .move (.t 24), none, 2, []⟩]))
def detentlaw9_ReadyFirst_l1 : RC :=
  RC.seq (RC.seq (RC.region 4 [
    ⟨(some 39), .move (.t 6), none, 0, []⟩,
    ⟨(some 40), .move (.t 0), none, 1, []⟩,
    ⟨(some 41), .len (.t 40), none, 2, []⟩,
    ⟨(some 42), .bin .lss (.t 39) (.t 41), none, 3, []⟩]) (RC.cond (.t 42) (RC.skip) (RC.exit 2))) (RC.seq (RC.block 3 (RC.seq (RC.region 7 [
    ⟨(some 46), .move (.t 3), none, 0, []⟩,
    ⟨(some 47), .call F.ready_Queue_First [(.t 46)], none, 1, []⟩,
    ⟨(some 45), .move (.t 47), none, 2, []⟩,
    ⟨(some 48), .extract 0 (.t 45), none, 3, []⟩,
    ⟨(some 49), .extract 1 (.t 45), none, 4, []⟩,
    ⟨(some 7), .move (.t 48), none, 5, []⟩,
    ⟨(some 8), .move (.t 49), none, 6, []⟩]) (RC.seq (RC.seq (RC.region 16 [
    ⟨(some 50), .move (.t 8), none, 0, []⟩,
    ⟨(some 51), .un .not (.t 50), none, 1, []⟩,
    ⟨(some 52), .move (.t 51), none, 2, []⟩,
    ⟨(some 53), .move (.t 7), (some (52, false)), 3, []⟩,
    ⟨(some 54), .move (.t 5), (some (52, false)), 4, []⟩,
    ⟨(some 55), .move (.t 6), (some (52, false)), 5, []⟩,
    ⟨(some 56), .indexSl 1 (.t 54) (.t 55), (some (52, false)), 6, []⟩,
    ⟨(some 57), .load none (.t 56), (some (52, false)), 7, []⟩,
    ⟨(some 58), .bin .neq (.t 53) (.t 57), (some (52, false)), 8, []⟩,
    ⟨(some 59), .pick (.t 52) (.c (.s (.bool true))) (.t 58), none, 9, []⟩,
    ⟨(some 60), .move (.t 59), none, 10, []⟩,
    ⟨(some 61), .move (.t 3), (some (60, false)), 11, []⟩,
    ⟨(some 62), .move (.t 7), (some (60, false)), 12, []⟩,
    ⟨(some 63), .call F.ready_Queue_Remove [(.t 61), (.t 62)], (some (60, false)), 13, []⟩,
    ⟨(some 64), .un .not (.t 63), (some (60, false)), 14, []⟩,
    ⟨(some 65), .pick (.t 60) (.c (.s (.bool true))) (.t 64), none, 15, []⟩]) (RC.cond (.t 65) (RC.seq (RC.region 1 [
    ⟨(some 2), .move (.c (.s (.bool false))), none, 0, []⟩]) (RC.ret)) (RC.skip))) (RC.seq (RC.region 2 [
    ⟨(some 66), .move (.t 6), none, 0, []⟩,
    ⟨(some 67), .bin .gtr (.t 66) (.c (.s (.int .i64 0))), none, 1, []⟩]) (RC.cond (.t 67) (RC.seq (RC.region 11 [
    ⟨(some 68), .move (.t 0), none, 0, []⟩,
    ⟨(some 69), .move (.t 5), none, 1, []⟩,
    ⟨(some 70), .move (.t 6), none, 2, []⟩,
    ⟨(some 71), .bin .sub (.t 70) (.c (.s (.int .i64 1))), none, 3, []⟩,
    ⟨(some 72), .indexSl 1 (.t 69) (.t 71), none, 4, []⟩,
    ⟨(some 73), .load none (.t 72), none, 5, []⟩,
    ⟨(some 74), .bin .sub (.t 73) (.c (.s (.int .i64 1))), none, 6, []⟩,
    ⟨(some 75), .indexSl 1 (.t 68) (.t 74), none, 7, []⟩,
    ⟨(some 76), .load none (.t 75), none, 8, []⟩,
    ⟨(some 77), .bin .rem (.t 76) (.c (.s (.int .u8 16))), none, 9, []⟩,
    ⟨(some 9), .move (.t 77), none, 10, []⟩]) (RC.seq (RC.region 10 [
    ⟨(some 78), .move (.t 0), none, 0, []⟩,
    ⟨(some 79), .move (.t 5), none, 1, []⟩,
    ⟨(some 80), .move (.t 6), none, 2, []⟩,
    ⟨(some 81), .indexSl 1 (.t 79) (.t 80), none, 3, []⟩,
    ⟨(some 82), .load none (.t 81), none, 4, []⟩,
    ⟨(some 83), .bin .sub (.t 82) (.c (.s (.int .i64 1))), none, 5, []⟩,
    ⟨(some 84), .indexSl 1 (.t 78) (.t 83), none, 6, []⟩,
    ⟨(some 85), .load none (.t 84), none, 7, []⟩,
    ⟨(some 86), .bin .rem (.t 85) (.c (.s (.int .u8 16))), none, 8, []⟩,
    ⟨(some 10), .move (.t 86), none, 9, []⟩]) (RC.seq (RC.region 20 [
    ⟨(some 87), .move (.t 9), none, 0, []⟩,
    ⟨(some 88), .move (.t 10), none, 1, []⟩,
    ⟨(some 89), .bin .gtr (.t 87) (.t 88), none, 2, []⟩,
    ⟨(some 90), .move (.t 89), none, 3, []⟩,
    ⟨(some 91), .move (.t 9), (some (90, false)), 4, []⟩,
    ⟨(some 92), .move (.t 10), (some (90, false)), 5, []⟩,
    ⟨(some 93), .bin .eql (.t 91) (.t 92), (some (90, false)), 6, []⟩,
    ⟨(some 94), .move (.t 93), (some (90, false)), 7, []⟩,
    ⟨(some 95), .move (.t 5), (some (94, true)), 8, []⟩,
    ⟨(some 96), .move (.t 6), (some (94, true)), 9, []⟩,
    ⟨(some 97), .bin .sub (.t 96) (.c (.s (.int .i64 1))), (some (94, true)), 10, []⟩,
    ⟨(some 98), .indexSl 1 (.t 95) (.t 97), (some (94, true)), 11, []⟩,
    ⟨(some 99), .load none (.t 98), (some (94, true)), 12, []⟩,
    ⟨(some 100), .move (.t 5), (some (94, true)), 13, []⟩,
    ⟨(some 101), .move (.t 6), (some (94, true)), 14, []⟩,
    ⟨(some 102), .indexSl 1 (.t 100) (.t 101), (some (94, true)), 15, []⟩,
    ⟨(some 103), .load none (.t 102), (some (94, true)), 16, []⟩,
    ⟨(some 104), .bin .gtr (.t 99) (.t 103), (some (94, true)), 17, []⟩,
    ⟨(some 105), .pick (.t 94) (.t 104) (.c (.s (.bool false))), (some (90, false)), 18, []⟩,
    ⟨(some 106), .pick (.t 90) (.c (.s (.bool true))) (.t 105), none, 19, []⟩]) (RC.cond (.t 106) (RC.seq (RC.region 1 [
    ⟨(some 2), .move (.c (.s (.bool false))), none, 0, []⟩]) (RC.ret)) (RC.skip))))) (RC.skip)))))) (RC.region 3 [
    ⟨(some 43), .move (.t 6), none, 0, []⟩,
    ⟨(some 44), .bin .add (.t 43) (.c (.s (.int .i64 1))), none, 1, []⟩,
    ⟨(some 6), .move (.t 44), none, 2, []⟩]))
def detentlaw9_ReadyFirst_s2 : RC :=
  RC.seq (RC.region 7 [
    ⟨(some 108), .move (.t 3), none, 0, []⟩,
    ⟨(some 109), .call F.ready_Queue_First [(.t 108)], none, 1, []⟩,
    ⟨(some 107), .move (.t 109), none, 2, []⟩,
    ⟨(some 110), .extract 0 (.t 107), none, 3, []⟩,
    ⟨(some 111), .extract 1 (.t 107), none, 4, []⟩,
    ⟨(some 11), .move (.t 110), none, 5, []⟩,
    ⟨(some 12), .move (.t 111), none, 6, []⟩]) (RC.seq (RC.region 9 [
    ⟨(some 112), .move (.t 12), none, 0, []⟩,
    ⟨(some 113), .un .not (.t 112), none, 1, []⟩,
    ⟨(some 114), .move (.t 113), none, 2, []⟩,
    ⟨(some 115), .move (.t 3), (some (114, true)), 3, []⟩,
    ⟨(some 116), .call F.ready_Queue_All [(.t 115)], (some (114, true)), 4, []⟩,
    ⟨(some 117), .len (.t 116), (some (114, true)), 5, []⟩,
    ⟨(some 118), .bin .eql (.t 117) (.c (.s (.int .i64 0))), (some (114, true)), 6, []⟩,
    ⟨(some 119), .pick (.t 114) (.t 118) (.c (.s (.bool false))), none, 7, []⟩,
    ⟨(some 2), .move (.t 119), none, 8, []⟩]) (RC.ret))
def detentlaw9_ReadyFirst_s3 : RC :=
  RC.seq (RC.region 3 [
    ⟨(some 37), .move (.t 3), none, 0, []⟩,
    ⟨(some 38), .call F.ready_Queue_All [(.t 37)], none, 1, []⟩,
    ⟨(some 5), .move (.t 38), none, 2, []⟩]) (RC.seq (RC.seq (RC.region 1 [
    ⟨(some 6), .move (.c (.s (.int .i64 0))), none, 0, []⟩]) (RC.block 2 (RC.loop R.detentlaw9_ReadyFirst_l1))) R.detentlaw9_ReadyFirst_s2)
def detentlaw9_ReadyFirst : RFunc := RFunc.mk 120 [.tmp 2] (
  RC.seq (RC.region 1 [
    ⟨(some 2), .move (.c (.s (.bool false))), none, 0, []⟩]) (RC.seq (RC.seq (RC.region 2 [
    ⟨(some 13), .call F.detentlaw9_known [], none, 0, []⟩,
    ⟨(some 14), .un .not (.t 13), none, 1, []⟩]) (RC.cond (.t 14) (RC.seq (RC.region 1 [
    ⟨(some 2), .move (.c (.s (.bool false))), none, 0, []⟩]) (RC.ret)) (RC.skip))) (RC.seq (RC.seq (RC.region 3 [
    ⟨(some 15), .move (.t 0), none, 0, []⟩,
    ⟨(some 16), .len (.t 15), none, 1, []⟩,
    ⟨(some 17), .bin .gtr (.t 16) (.c (.s (.int .i64 16))), none, 2, []⟩]) (RC.cond (.t 17) (RC.seq (RC.region 1 [
    ⟨(some 2), .move (.c (.s (.bool true))), none, 0, []⟩]) (RC.ret)) (RC.skip))) (RC.seq (RC.region 2 [
    ⟨(some 18), .call F.ready_New [], none, 0, []⟩,
    ⟨(some 3), .move (.t 18), none, 1, []⟩]) (RC.seq (RC.seq (RC.region 1 [
    ⟨(some 4), .move (.c (.s (.int .i64 0))), none, 0, []⟩]) (RC.block 0 (RC.loop R.detentlaw9_ReadyFirst_l0))) R.detentlaw9_ReadyFirst_s3)))))
theorem detentlaw9_ReadyFirst_ok : chkFunc Go.Proofs.Tryd.prog [0] Go.Proofs.Tryd.f9 detentlaw9_ReadyFirst = true := by kernel_rfl
def detentlaw9_ReadyAgain_l0 : RC :=
  RC.seq (RC.seq (RC.region 4 [
    ⟨(some 32), .move (.t 7), none, 0, []⟩,
    ⟨(some 33), .move (.t 0), none, 1, []⟩,
    ⟨(some 34), .len (.t 33), none, 2, []⟩,
    ⟨(some 35), .bin .lss (.t 32) (.t 34), none, 3, []⟩]) (RC.cond (.t 35) (RC.skip) (RC.exit 0))) (RC.seq (RC.block 1 (RC.seq (RC.region 11 [
    ⟨(some 38), .move (.t 5), none, 0, []⟩,
    ⟨(some 39), .move (.t 7), none, 1, []⟩,
    ⟨(some 40), .bin .add (.t 39) (.c (.s (.int .i64 1))), none, 2, []⟩,
    ⟨(some 41), .move (.t 0), none, 3, []⟩,
    ⟨(some 42), .move (.t 7), none, 4, []⟩,
    ⟨(some 43), .indexSl 1 (.t 41) (.t 42), none, 5, []⟩,
    ⟨(some 44), .load none (.t 43), none, 6, []⟩,
    ⟨(some 45), .bin .rem (.t 44) (.c (.s (.int .u8 4))), none, 7, []⟩,
    ⟨(some 46), .conv .i64 (.t 45), none, 8, []⟩,
    ⟨(some 47), .bin .add (.c (.s (.int .i64 1))) (.t 46), none, 9, []⟩,
    ⟨(some 48), .call F.ready_Queue_Add [(.t 38), (.t 40), (.t 47)], none, 10, []⟩]) (RC.region 11 [
    ⟨(some 49), .move (.t 6), none, 0, []⟩,
    ⟨(some 50), .move (.t 7), none, 1, []⟩,
    ⟨(some 51), .bin .add (.t 50) (.c (.s (.int .i64 1))), none, 2, []⟩,
    ⟨(some 52), .move (.t 0), none, 3, []⟩,
    ⟨(some 53), .move (.t 7), none, 4, []⟩,
    ⟨(some 54), .indexSl 1 (.t 52) (.t 53), none, 5, []⟩,
    ⟨(some 55), .load none (.t 54), none, 6, []⟩,
    ⟨(some 56), .bin .rem (.t 55) (.c (.s (.int .u8 4))), none, 7, []⟩,
    ⟨(some 57), .conv .i64 (.t 56), none, 8, []⟩,
    ⟨(some 58), .bin .add (.c (.s (.int .i64 1))) (.t 57), none, 9, []⟩,
    ⟨(some 59), .call F.ready_Queue_Add [(.t 49), (.t 51), (.t 58)], none, 10, []⟩]))) (RC.region 3 [
    ⟨(some 36), .move (.t 7), none, 0, []⟩,
    ⟨(some 37), .bin .add (.t 36) (.c (.s (.int .i64 1))), none, 1, []⟩,
    ⟨(some 7), .move (.t 37), none, 2, []⟩]))
def detentlaw9_ReadyAgain_s1 : RC :=
  RC.seq (RC.region 9 [
    ⟨(some 60), .move (.t 0), none, 0, []⟩,
    ⟨(some 61), .move (.t 1), none, 1, []⟩,
    ⟨(some 62), .bin .sub (.t 61) (.c (.s (.int .i64 1))), none, 2, []⟩,
    ⟨(some 63), .indexSl 1 (.t 60) (.t 62), none, 3, []⟩,
    ⟨(some 64), .load none (.t 63), none, 4, []⟩,
    ⟨(some 65), .bin .rem (.t 64) (.c (.s (.int .u8 4))), none, 5, []⟩,
    ⟨(some 66), .conv .i64 (.t 65), none, 6, []⟩,
    ⟨(some 67), .bin .add (.c (.s (.int .i64 1))) (.t 66), none, 7, []⟩,
    ⟨(some 8), .move (.t 67), none, 8, []⟩]) (RC.seq (RC.seq (RC.region 18 [
    ⟨(some 68), .move (.t 5), none, 0, []⟩,
    ⟨(some 69), .move (.t 1), none, 1, []⟩,
    ⟨(some 70), .call F.ready_Queue_Remove [(.t 68), (.t 69)], none, 2, []⟩,
    ⟨(some 71), .un .not (.t 70), none, 3, []⟩,
    ⟨(some 72), .move (.t 71), none, 4, []⟩,
    ⟨(some 73), .move (.t 5), (some (72, false)), 5, []⟩,
    ⟨(some 74), .move (.t 1), (some (72, false)), 6, []⟩,
    ⟨(some 75), .move (.t 8), (some (72, false)), 7, []⟩,
    ⟨(some 76), .call F.ready_Queue_Add [(.t 73), (.t 74), (.t 75)], (some (72, false)), 8, []⟩,
    ⟨(some 77), .bin .neq (.t 76) (.c (.s (.int .i64 0))), (some (72, false)), 9, []⟩,
    ⟨(some 78), .pick (.t 72) (.c (.s (.bool true))) (.t 77), none, 10, []⟩,
    ⟨(some 79), .move (.t 78), none, 11, []⟩,
    ⟨(some 80), .move (.t 6), (some (79, false)), 12, []⟩,
    ⟨(some 81), .move (.t 1), (some (79, false)), 13, []⟩,
    ⟨(some 82), .move (.t 8), (some (79, false)), 14, []⟩,
    ⟨(some 83), .call F.ready_Queue_Change [(.t 80), (.t 81), (.t 82)], (some (79, false)), 15, []⟩,
    ⟨(some 84), .un .not (.t 83), (some (79, false)), 16, []⟩,
    ⟨(some 85), .pick (.t 79) (.c (.s (.bool true))) (.t 84), none, 17, []⟩]) (RC.cond (.t 85) (RC.seq (RC.region 1 [
    ⟨(some 4), .move (.c (.s (.bool false))), none, 0, []⟩]) (RC.ret)) (RC.skip))) (RC.seq (RC.region 4 [
    ⟨(some 86), .move (.t 5), none, 0, []⟩,
    ⟨(some 87), .move (.t 8), none, 1, []⟩,
    ⟨(some 88), .call F.ready_Queue_Row [(.t 86), (.t 87)], none, 2, []⟩,
    ⟨(some 9), .move (.t 88), none, 3, []⟩]) (RC.seq (RC.region 16 [
    ⟨(some 89), .move (.t 5), none, 0, []⟩,
    ⟨(some 90), .call F.ready_Queue_All [(.t 89)], none, 1, []⟩,
    ⟨(some 91), .move (.t 6), none, 2, []⟩,
    ⟨(some 92), .call F.ready_Queue_All [(.t 91)], none, 3, []⟩,
    ⟨(some 93), .call F.detentlaw3_Same [(.t 90), (.t 92)], none, 4, []⟩,
    ⟨(some 94), .move (.t 93), none, 5, []⟩,
    ⟨(some 95), .move (.t 9), (some (94, true)), 6, []⟩,
    ⟨(some 96), .move (.t 9), (some (94, true)), 7, []⟩,
    ⟨(some 97), .len (.t 96), (some (94, true)), 8, []⟩,
    ⟨(some 98), .bin .sub (.t 97) (.c (.s (.int .i64 1))), (some (94, true)), 9, []⟩,
    ⟨(some 99), .indexSl 1 (.t 95) (.t 98), (some (94, true)), 10, []⟩,
    ⟨(some 100), .load none (.t 99), (some (94, true)), 11, []⟩,
    ⟨(some 101), .move (.t 1), (some (94, true)), 12, []⟩,
    ⟨(some 102), .bin .eql (.t 100) (.t 101), (some (94, true)), 13, []⟩,
    ⟨(some 103), .pick (.t 94) (.t 102) (.c (.s (.bool false))), none, 14, []⟩,
    ⟨(some 4), .move (.t 103), none, 15, []⟩]) (RC.ret))))
def detentlaw9_ReadyAgain : RFunc := RFunc.mk 104 [.tmp 4] (
  RC.seq (RC.region 1 [
    ⟨(some 4), .move (.c (.s (.bool false))), none, 0, []⟩]) (RC.seq (RC.seq (RC.region 2 [
    ⟨(some 10), .call F.detentlaw9_known [], none, 0, []⟩,
    ⟨(some 11), .un .not (.t 10), none, 1, []⟩]) (RC.cond (.t 11) (RC.seq (RC.region 1 [
    ⟨(some 4), .move (.c (.s (.bool false))), none, 0, []⟩]) (RC.ret)) (RC.skip))) (RC.seq (RC.seq (RC.region 18 [
    ⟨(some 12), .move (.t 0), none, 0, []⟩,
    ⟨(some 13), .len (.t 12), none, 1, []⟩,
    ⟨(some 14), .bin .eql (.t 13) (.c (.s (.int .i64 0))), none, 2, []⟩,
    ⟨(some 15), .move (.t 14), none, 3, []⟩,
    ⟨(some 16), .move (.t 0), (some (15, false)), 4, []⟩,
    ⟨(some 17), .len (.t 16), (some (15, false)), 5, []⟩,
    ⟨(some 18), .bin .gtr (.t 17) (.c (.s (.int .i64 16))), (some (15, false)), 6, []⟩,
    ⟨(some 19), .pick (.t 15) (.c (.s (.bool true))) (.t 18), none, 7, []⟩,
    ⟨(some 20), .move (.t 19), none, 8, []⟩,
    ⟨(some 21), .move (.t 1), (some (20, false)), 9, []⟩,
    ⟨(some 22), .bin .lss (.t 21) (.c (.s (.int .i64 1))), (some (20, false)), 10, []⟩,
    ⟨(some 23), .pick (.t 20) (.c (.s (.bool true))) (.t 22), none, 11, []⟩,
    ⟨(some 24), .move (.t 23), none, 12, []⟩,
    ⟨(some 25), .move (.t 1), (some (24, false)), 13, []⟩,
    ⟨(some 26), .move (.t 0), (some (24, false)), 14, []⟩,
    ⟨(some 27), .len (.t 26), (some (24, false)), 15, []⟩,
    ⟨(some 28), .bin .gtr (.t 25) (.t 27), (some (24, false)), 16, []⟩,
    ⟨(some 29), .pick (.t 24) (.c (.s (.bool true))) (.t 28), none, 17, []⟩]) (RC.cond (.t 29) (RC.seq (RC.region 1 [
    ⟨(some 4), .move (.c (.s (.bool true))), none, 0, []⟩]) (RC.ret)) (RC.skip))) (RC.seq (RC.region 2 [
    ⟨(some 30), .call F.ready_New [], none, 0, []⟩,
    ⟨(some 5), .move (.t 30), none, 1, []⟩]) (RC.seq (RC.region 2 [
    ⟨(some 31), .call F.ready_New [], none, 0, []⟩,
    ⟨(some 6), .move (.t 31), none, 1, []⟩]) (RC.seq (RC.seq (RC.region 1 [
    ⟨(some 7), .move (.c (.s (.int .i64 0))), none, 0, []⟩]) (RC.block 0 (RC.loop R.detentlaw9_ReadyAgain_l0))) R.detentlaw9_ReadyAgain_s1))))))
theorem detentlaw9_ReadyAgain_ok : chkFunc Go.Proofs.Tryd.prog [0] Go.Proofs.Tryd.f10 detentlaw9_ReadyAgain = true := by kernel_rfl
def detentlaw9_ReadyPlays_l0 : RC :=
  RC.seq (RC.seq (RC.region 2 [
    ⟨(some 87), .move (.t 8), none, 0, []⟩,
    ⟨(some 88), .bin .leq (.t 87) (.c (.s (.int .i64 16))), none, 1, []⟩]) (RC.cond (.t 88) (RC.skip) (RC.exit 3))) (RC.seq (RC.block 4 (RC.region 3 [
    ⟨(some 91), .move (.t 3), none, 0, []⟩,
    ⟨(some 92), .move (.t 8), none, 1, []⟩,
    ⟨(some 93), .call F.ready_Queue_Remove [(.t 91), (.t 92)], none, 2, []⟩])) (RC.region 3 [
    ⟨(some 89), .move (.t 8), none, 0, []⟩,
    ⟨(some 90), .bin .add (.t 89) (.c (.s (.int .i64 1))), none, 1, []⟩,
    ⟨(some 8), .move (.t 90), none, 2, []⟩]))
def detentlaw9_ReadyPlays_s1 : RC :=
  RC.region 2 [
    ⟨(some 94), .move (.t 7), none, 0, []⟩,
    ⟨(some 3), .move (.t 94), none, 1, []⟩]
def detentlaw9_ReadyPlays_s2 : RC :=
  RC.seq (RC.region 4 [
    ⟨(some 95), .move (.t 3), none, 0, []⟩,
    ⟨(some 96), .move (.t 4), none, 1, []⟩,
    ⟨(some 97), .call F.detentlaw9_same [(.t 95), (.t 96)], none, 2, []⟩,
    ⟨(some 98), .un .not (.t 97), none, 3, []⟩]) (RC.cond (.t 98) (RC.seq (RC.region 1 [
    ⟨(some 2), .move (.c (.s (.bool false))), none, 0, []⟩]) (RC.ret)) (RC.skip))
def detentlaw9_ReadyPlays_s3 : RC :=
  RC.region 3 [
    ⟨(some 21), .move (.t 5), none, 0, []⟩,
    ⟨(some 22), .bin .add (.t 21) (.c (.s (.int .i64 1))), none, 1, []⟩,
    ⟨(some 5), .move (.t 22), none, 2, []⟩]
def detentlaw9_ReadyPlays_l4 : RC :=
  RC.seq (RC.seq (RC.region 4 [
    ⟨(some 17), .move (.t 5), none, 0, []⟩,
    ⟨(some 18), .move (.t 0), none, 1, []⟩,
    ⟨(some 19), .len (.t 18), none, 2, []⟩,
    ⟨(some 20), .bin .lss (.t 17) (.t 19), none, 3, []⟩]) (RC.cond (.t 20) (RC.skip) (RC.exit 0))) (RC.seq (RC.block 1 (RC.seq (RC.region 6 [
    ⟨(some 23), .move (.t 0), none, 0, []⟩,
    ⟨(some 24), .move (.t 5), none, 1, []⟩,
    ⟨(some 25), .indexSl 3 (.t 23) (.t 24), none, 2, []⟩,
    ⟨(some 26), .load (some 3) (.t 25), none, 3, []⟩,
    ⟨(some 6), .newc [.int .i64 0, .int .i64 0, .int .i64 0], none, 4, []⟩,
    ⟨none, .store 3 (.t 6) (.t 26), none, 5, []⟩]) (RC.seq (RC.seq (RC.region 2 [
    ⟨(some 27), .fieldAddr 0 (.t 6), none, 0, []⟩,
    ⟨(some 28), .load none (.t 27), none, 1, []⟩]) (RC.block 2 (RC.seq (RC.region 2 [
    ⟨(some 30), .bin .eql (.t 28) (.c (.s (.int .i64 1))), none, 0, []⟩,
    ⟨(some 29), .move (.t 30), none, 1, []⟩]) (RC.cond (.t 29) (RC.seq (RC.region 13 [
    ⟨(some 31), .move (.t 3), none, 0, []⟩,
    ⟨(some 32), .fieldAddr 1 (.t 6), none, 1, []⟩,
    ⟨(some 33), .load none (.t 32), none, 2, []⟩,
    ⟨(some 34), .fieldAddr 2 (.t 6), none, 3, []⟩,
    ⟨(some 35), .load none (.t 34), none, 4, []⟩,
    ⟨(some 37), .move (.t 4), none, 6, []⟩,
    ⟨(some 38), .fieldAddr 1 (.t 6), none, 7, []⟩,
    ⟨(some 39), .load none (.t 38), none, 8, []⟩,
    ⟨(some 40), .fieldAddr 2 (.t 6), none, 9, []⟩,
    ⟨(some 41), .load none (.t 40), none, 10, []⟩,
    ⟨(some 36), .call F.ready_Queue_Add [(.t 31), (.t 33), (.t 35)], none, 5, [⟨39, none, (.t 38), none⟩, ⟨41, none, (.t 40), none⟩]⟩,
    ⟨(some 42), .call F.detentref9_Queue_Add [(.t 37), (.t 39), (.t 41)], none, 11, []⟩,
    ⟨(some 43), .bin .neq (.t 36) (.t 42), none, 12, []⟩]) (RC.cond (.t 43) (RC.seq (RC.region 1 [
    ⟨(some 2), .move (.c (.s (.bool false))), none, 0, []⟩]) (RC.ret)) (RC.skip))) (RC.seq (RC.region 2 [
    ⟨(some 45), .bin .eql (.t 28) (.c (.s (.int .i64 2))), none, 0, []⟩,
    ⟨(some 44), .move (.t 45), none, 1, []⟩]) (RC.cond (.t 44) (RC.seq (RC.region 9 [
    ⟨(some 46), .move (.t 3), none, 0, []⟩,
    ⟨(some 47), .fieldAddr 1 (.t 6), none, 1, []⟩,
    ⟨(some 48), .load none (.t 47), none, 2, []⟩,
    ⟨(some 50), .move (.t 4), none, 4, []⟩,
    ⟨(some 51), .fieldAddr 1 (.t 6), none, 5, []⟩,
    ⟨(some 52), .load none (.t 51), none, 6, []⟩,
    ⟨(some 49), .call F.ready_Queue_Remove [(.t 46), (.t 48)], none, 3, [⟨52, none, (.t 51), none⟩]⟩,
    ⟨(some 53), .call F.detentref9_Queue_Remove [(.t 50), (.t 52)], none, 7, []⟩,
    ⟨(some 54), .eqs .bool true (.t 49) (.t 53), none, 8, []⟩]) (RC.cond (.t 54) (RC.seq (RC.region 1 [
    ⟨(some 2), .move (.c (.s (.bool false))), none, 0, []⟩]) (RC.ret)) (RC.skip))) (RC.seq (RC.region 2 [
    ⟨(some 56), .bin .eql (.t 28) (.c (.s (.int .i64 3))), none, 0, []⟩,
    ⟨(some 55), .move (.t 56), none, 1, []⟩]) (RC.cond (.t 55) (RC.seq (RC.region 13 [
    ⟨(some 57), .move (.t 3), none, 0, []⟩,
    ⟨(some 58), .fieldAddr 1 (.t 6), none, 1, []⟩,
    ⟨(some 59), .load none (.t 58), none, 2, []⟩,
    ⟨(some 60), .fieldAddr 2 (.t 6), none, 3, []⟩,
    ⟨(some 61), .load none (.t 60), none, 4, []⟩,
    ⟨(some 63), .move (.t 4), none, 6, []⟩,
    ⟨(some 64), .fieldAddr 1 (.t 6), none, 7, []⟩,
    ⟨(some 65), .load none (.t 64), none, 8, []⟩,
    ⟨(some 66), .fieldAddr 2 (.t 6), none, 9, []⟩,
    ⟨(some 67), .load none (.t 66), none, 10, []⟩,
    ⟨(some 62), .call F.ready_Queue_Change [(.t 57), (.t 59), (.t 61)], none, 5, [⟨65, none, (.t 64), none⟩, ⟨67, none, (.t 66), none⟩]⟩,
    ⟨(some 68), .call F.detentref9_Queue_Change [(.t 63), (.t 65), (.t 67)], none, 11, []⟩,
    ⟨(some 69), .eqs .bool true (.t 62) (.t 68), none, 12, []⟩]) (RC.cond (.t 69) (RC.seq (RC.region 1 [
    ⟨(some 2), .move (.c (.s (.bool false))), none, 0, []⟩]) (RC.ret)) (RC.skip))) (RC.seq (RC.region 2 [
    ⟨(some 71), .bin .eql (.t 28) (.c (.s (.int .i64 4))), none, 0, []⟩,
    ⟨(some 70), .move (.t 71), none, 1, []⟩]) (RC.cond (.t 70) (RC.seq (RC.region 9 [
    ⟨(some 72), .move (.t 3), none, 0, []⟩,
    ⟨(some 73), .fieldAddr 2 (.t 6), none, 1, []⟩,
    ⟨(some 74), .load none (.t 73), none, 2, []⟩,
    ⟨(some 76), .move (.t 4), none, 4, []⟩,
    ⟨(some 77), .fieldAddr 2 (.t 6), none, 5, []⟩,
    ⟨(some 78), .load none (.t 77), none, 6, []⟩,
    ⟨(some 75), .call F.ready_Queue_Rotate [(.t 72), (.t 74)], none, 3, [⟨78, none, (.t 77), none⟩]⟩,
    ⟨(some 79), .call F.detentref9_Queue_Rotate [(.t 76), (.t 78)], none, 7, []⟩,
    ⟨(some 80), .bin .neq (.t 75) (.t 79), none, 8, []⟩]) (RC.cond (.t 80) (RC.seq (RC.region 1 [
    ⟨(some 2), .move (.c (.s (.bool false))), none, 0, []⟩]) (RC.ret)) (RC.skip))) (RC.seq (RC.region 2 [
    ⟨(some 82), .bin .eql (.t 28) (.c (.s (.int .i64 5))), none, 0, []⟩,
    ⟨(some 81), .move (.t 82), none, 1, []⟩]) (RC.cond (.t 81) (RC.seq (RC.region 3 [
    ⟨(some 83), .move (.t 3), none, 0, []⟩,
    ⟨(some 84), .call F.ready_Queue_Twin [(.t 83)], none, 1, []⟩,
    ⟨(some 7), .move (.t 84), none, 2, []⟩]) (RC.seq (RC.seq (RC.region 2 [
    ⟨(some 85), .move (.t 7), none, 0, []⟩,
    ⟨(some 86), .eqs .ptr false (.t 85) (.c (.s (.ptr none))), none, 1, []⟩]) (RC.cond (.t 86) (RC.seq (RC.region 1 [
    ⟨(some 2), .move (.c (.s (.bool false))), none, 0, []⟩]) (RC.ret)) (RC.skip))) (RC.seq (RC.seq (RC.region 1 [
    ⟨(some 8), .move (.c (.s (.int .i64 1))), none, 0, []⟩]) (RC.block 3 (RC.loop R.detentlaw9_ReadyPlays_l0))) R.detentlaw9_ReadyPlays_s1))) (RC.skip))))))))))))) R.detentlaw9_ReadyPlays_s2))) R.detentlaw9_ReadyPlays_s3)
def detentlaw9_ReadyPlays_s5 : RC :=
  RC.seq (RC.region 1 [
    ⟨(some 2), .move (.c (.s (.bool true))), none, 0, []⟩]) (RC.ret)
def detentlaw9_ReadyPlays : RFunc := RFunc.mk 99 [.tmp 2] (
  RC.seq (RC.region 1 [
    ⟨(some 2), .move (.c (.s (.bool false))), none, 0, []⟩]) (RC.seq (RC.seq (RC.region 2 [
    ⟨(some 9), .call F.detentlaw9_known [], none, 0, []⟩,
    ⟨(some 10), .un .not (.t 9), none, 1, []⟩]) (RC.cond (.t 10) (RC.seq (RC.region 1 [
    ⟨(some 2), .move (.c (.s (.bool false))), none, 0, []⟩]) (RC.ret)) (RC.skip))) (RC.seq (RC.seq (RC.region 3 [
    ⟨(some 11), .move (.t 0), none, 0, []⟩,
    ⟨(some 12), .len (.t 11), none, 1, []⟩,
    ⟨(some 13), .bin .gtr (.t 12) (.c (.s (.int .i64 100))), none, 2, []⟩]) (RC.cond (.t 13) (RC.seq (RC.region 1 [
    ⟨(some 2), .move (.c (.s (.bool true))), none, 0, []⟩]) (RC.ret)) (RC.skip))) (RC.seq (RC.region 2 [
    ⟨(some 14), .call F.ready_New [], none, 0, []⟩,
    ⟨(some 3), .move (.t 14), none, 1, []⟩]) (RC.seq (RC.region 3 [
    ⟨(some 15), .build [.slice none 0 0 1, .slice none 0 0 1, .slice none 0 0 1, .slice none 0 0 1, .slice none 0 0 1, .slice none 0 0 1, .slice none 0 0 1, .slice none 0 0 1, .slice none 0 0 1, .slice none 0 0 1, .slice none 0 0 1, .slice none 0 0 1, .slice none 0 0 1, .slice none 0 0 1, .slice none 0 0 1, .slice none 0 0 1, .slice none 0 0 1] [], none, 0, []⟩,
    ⟨(some 16), .box (.t 15), none, 1, []⟩,
    ⟨(some 4), .move (.t 16), none, 2, []⟩]) (RC.seq (RC.seq (RC.region 1 [
    ⟨(some 5), .move (.c (.s (.int .i64 0))), none, 0, []⟩]) (RC.block 0 (RC.loop R.detentlaw9_ReadyPlays_l4))) R.detentlaw9_ReadyPlays_s5))))))
theorem detentlaw9_ReadyPlays_ok : chkFunc Go.Proofs.Tryd.prog [0] Go.Proofs.Tryd.f11 detentlaw9_ReadyPlays = true := by kernel_rfl
def detentlaw3_Same_l0 : RC :=
  RC.seq (RC.seq (RC.region 4 [
    ⟨(some 11), .move (.t 5), none, 0, []⟩,
    ⟨(some 12), .move (.t 0), none, 1, []⟩,
    ⟨(some 13), .len (.t 12), none, 2, []⟩,
    ⟨(some 14), .bin .lss (.t 11) (.t 13), none, 3, []⟩]) (RC.cond (.t 14) (RC.skip) (RC.exit 0))) (RC.seq (RC.block 1 (RC.seq (RC.region 9 [
    ⟨(some 17), .move (.t 0), none, 0, []⟩,
    ⟨(some 18), .move (.t 5), none, 1, []⟩,
    ⟨(some 19), .indexSl 1 (.t 17) (.t 18), none, 2, []⟩,
    ⟨(some 20), .load none (.t 19), none, 3, []⟩,
    ⟨(some 21), .move (.t 1), none, 4, []⟩,
    ⟨(some 22), .move (.t 5), none, 5, []⟩,
    ⟨(some 23), .indexSl 1 (.t 21) (.t 22), none, 6, []⟩,
    ⟨(some 24), .load none (.t 23), none, 7, []⟩,
    ⟨(some 25), .bin .neq (.t 20) (.t 24), none, 8, []⟩]) (RC.cond (.t 25) (RC.seq (RC.region 1 [
    ⟨(some 4), .move (.c (.s (.bool false))), none, 0, []⟩]) (RC.ret)) (RC.skip)))) (RC.region 3 [
    ⟨(some 15), .move (.t 5), none, 0, []⟩,
    ⟨(some 16), .bin .add (.t 15) (.c (.s (.int .i64 1))), none, 1, []⟩,
    ⟨(some 5), .move (.t 16), none, 2, []⟩]))
def detentlaw3_Same_s1 : RC :=
  RC.seq (RC.region 1 [
    ⟨(some 4), .move (.c (.s (.bool true))), none, 0, []⟩]) (RC.ret)
def detentlaw3_Same : RFunc := RFunc.mk 26 [.tmp 4] (
  RC.seq (RC.region 1 [
    ⟨(some 4), .move (.c (.s (.bool false))), none, 0, []⟩]) (RC.seq (RC.seq (RC.region 5 [
    ⟨(some 6), .move (.t 0), none, 0, []⟩,
    ⟨(some 7), .len (.t 6), none, 1, []⟩,
    ⟨(some 8), .move (.t 1), none, 2, []⟩,
    ⟨(some 9), .len (.t 8), none, 3, []⟩,
    ⟨(some 10), .bin .neq (.t 7) (.t 9), none, 4, []⟩]) (RC.cond (.t 10) (RC.seq (RC.region 1 [
    ⟨(some 4), .move (.c (.s (.bool false))), none, 0, []⟩]) (RC.ret)) (RC.skip))) (RC.seq (RC.seq (RC.region 1 [
    ⟨(some 5), .move (.c (.s (.int .i64 0))), none, 0, []⟩]) (RC.block 0 (RC.loop R.detentlaw3_Same_l0))) R.detentlaw3_Same_s1)))
theorem detentlaw3_Same_ok : chkFunc Go.Proofs.Tryd.prog [0] Go.Proofs.Tryd.f26 detentlaw3_Same = true := by kernel_rfl
def detentlaw5_known : RFunc := RFunc.mk 46 [.tmp 0] (
  RC.seq (RC.region 1 [
    ⟨(some 0), .move (.c (.s (.bool false))), none, 0, []⟩]) (RC.seq (RC.region 1 [
    ⟨(some 1), .newc [.int .u64 0, .int .u64 0, .int .u64 0, .int .u64 0], none, 0, []⟩]) (RC.seq (RC.region 2 [
    ⟨(some 6), .buildSlice 1 3 [.int .i64 0, .int .i64 0, .int .i64 0] [(0, 1, (.c (.s (.int .i64 5)))), (1, 1, (.c (.s (.int .i64 200)))), (2, 1, (.c (.s (.int .i64 64))))], none, 0, []⟩,
    ⟨(some 7), .call F.bits_Map_Set [(.t 1), (.t 6)], none, 1, []⟩]) (RC.seq (RC.region 2 [
    ⟨(some 8), .buildSlice 1 1 [.int .i64 0] [(0, 1, (.c (.s (.int .i64 64))))], none, 0, []⟩,
    ⟨(some 9), .call F.bits_Map_Clear [(.t 1), (.t 8)], none, 1, []⟩]) (RC.seq (RC.region 6 [
    ⟨(some 11), .call F.bits_Map_First [(.t 1)], none, 0, []⟩,
    ⟨(some 10), .move (.t 11), none, 1, []⟩,
    ⟨(some 12), .extract 0 (.t 10), none, 2, []⟩,
    ⟨(some 13), .extract 1 (.t 10), none, 3, []⟩,
    ⟨(some 2), .move (.t 12), none, 4, []⟩,
    ⟨(some 3), .move (.t 13), none, 5, []⟩]) (RC.seq (RC.region 6 [
    ⟨(some 15), .call F.bits_Map_After [(.t 1), (.c (.s (.int .i64 5)))], none, 0, []⟩,
    ⟨(some 14), .move (.t 15), none, 1, []⟩,
    ⟨(some 16), .extract 0 (.t 14), none, 2, []⟩,
    ⟨(some 17), .extract 1 (.t 14), none, 3, []⟩,
    ⟨(some 4), .move (.t 16), none, 4, []⟩,
    ⟨(some 5), .move (.t 17), none, 5, []⟩]) (RC.seq (RC.region 29 [
    ⟨(some 18), .move (.t 2), none, 0, []⟩,
    ⟨(some 19), .bin .eql (.t 18) (.c (.s (.int .i64 5))), none, 1, []⟩,
    ⟨(some 20), .move (.t 19), none, 2, []⟩,
    ⟨(some 21), .move (.t 3), (some (20, true)), 3, []⟩,
    ⟨(some 22), .pick (.t 20) (.t 21) (.c (.s (.bool false))), none, 4, []⟩,
    ⟨(some 23), .move (.t 22), none, 5, []⟩,
    ⟨(some 24), .move (.t 4), (some (23, true)), 6, []⟩,
    ⟨(some 25), .bin .eql (.t 24) (.c (.s (.int .i64 200))), (some (23, true)), 7, []⟩,
    ⟨(some 26), .pick (.t 23) (.t 25) (.c (.s (.bool false))), none, 8, []⟩,
    ⟨(some 27), .move (.t 26), none, 9, []⟩,
    ⟨(some 28), .move (.t 5), (some (27, true)), 10, []⟩,
    ⟨(some 29), .pick (.t 27) (.t 28) (.c (.s (.bool false))), none, 11, []⟩,
    ⟨(some 30), .move (.t 29), none, 12, []⟩,
    ⟨(some 31), .call F.bits_Map_Len [(.t 1)], (some (30, true)), 13, []⟩,
    ⟨(some 32), .bin .eql (.t 31) (.c (.s (.int .i64 2))), (some (30, true)), 14, []⟩,
    ⟨(some 33), .pick (.t 30) (.t 32) (.c (.s (.bool false))), none, 15, []⟩,
    ⟨(some 34), .move (.t 33), none, 16, []⟩,
    ⟨(some 35), .call F.bits_Map_Has [(.t 1), (.c (.s (.int .i64 200)))], (some (34, true)), 17, []⟩,
    ⟨(some 36), .pick (.t 34) (.t 35) (.c (.s (.bool false))), none, 18, []⟩,
    ⟨(some 37), .move (.t 36), none, 19, []⟩,
    ⟨(some 38), .call F.bits_Map_Has [(.t 1), (.c (.s (.int .i64 64)))], (some (37, true)), 20, []⟩,
    ⟨(some 39), .un .not (.t 38), (some (37, true)), 21, []⟩,
    ⟨(some 40), .pick (.t 37) (.t 39) (.c (.s (.bool false))), none, 22, []⟩,
    ⟨(some 41), .move (.t 40), none, 23, []⟩,
    ⟨(some 42), .call F.bits_Map_Row [(.t 1)], (some (41, true)), 24, []⟩,
    ⟨(some 43), .len (.t 42), (some (41, true)), 25, []⟩,
    ⟨(some 44), .bin .eql (.t 43) (.c (.s (.int .i64 2))), (some (41, true)), 26, []⟩,
    ⟨(some 45), .pick (.t 41) (.t 44) (.c (.s (.bool false))), none, 27, []⟩,
    ⟨(some 0), .move (.t 45), none, 28, []⟩]) (RC.ret))))))))
theorem detentlaw5_known_ok : chkFunc Go.Proofs.Tryd.prog [0] Go.Proofs.Tryd.f12 detentlaw5_known = true := by kernel_rfl
def bits_Map_Set_l0 : RC :=
  RC.seq (RC.region 1 [
    ⟨(some 12), .bin .lss (.t 11) (.t 10), none, 0, []⟩]) (RC.seq (RC.cond (.t 12) (RC.skip) (RC.exit 0)) (RC.seq (RC.block 1 (RC.seq (RC.region 3 [
    ⟨(some 13), .indexSl 1 (.t 9) (.t 11), none, 0, []⟩,
    ⟨(some 14), .load none (.t 13), none, 1, []⟩,
    ⟨(some 5), .move (.t 14), none, 2, []⟩]) (RC.seq (RC.region 9 [
    ⟨(some 16), .move (.t 5), none, 0, []⟩,
    ⟨(some 17), .call F.bits_place [(.t 16)], none, 1, []⟩,
    ⟨(some 15), .move (.t 17), none, 2, []⟩,
    ⟨(some 18), .extract 0 (.t 15), none, 3, []⟩,
    ⟨(some 19), .extract 1 (.t 15), none, 4, []⟩,
    ⟨(some 20), .extract 2 (.t 15), none, 5, []⟩,
    ⟨(some 6), .move (.t 18), none, 6, []⟩,
    ⟨(some 7), .move (.t 19), none, 7, []⟩,
    ⟨(some 8), .move (.t 20), none, 8, []⟩]) (RC.seq (RC.region 1 [
    ⟨(some 21), .move (.t 8), none, 0, []⟩]) (RC.cond (.t 21) (RC.region 12 [
    ⟨(some 22), .move (.t 0), none, 0, []⟩,
    ⟨(some 23), .move (.t 6), none, 1, []⟩,
    ⟨(some 24), .nilCheck (.t 22), none, 2, []⟩,
    ⟨(some 25), .fieldAddr 0 (.t 24), none, 3, []⟩,
    ⟨(some 26), .indexArr 4 1 (.t 25) (.t 23), none, 4, []⟩,
    ⟨(some 27), .load none (.t 26), none, 5, []⟩,
    ⟨(some 28), .move (.t 7), none, 6, []⟩,
    ⟨(some 29), .bin .or (.t 27) (.t 28), none, 7, []⟩,
    ⟨(some 30), .nilCheck (.t 22), none, 8, []⟩,
    ⟨(some 31), .fieldAddr 0 (.t 30), none, 9, []⟩,
    ⟨(some 32), .indexArr 4 1 (.t 31) (.t 23), none, 10, []⟩,
    ⟨none, .store 1 (.t 32) (.t 29), none, 11, []⟩]) (RC.skip)))))) (RC.region 2 [
    ⟨(some 33), .bin .add (.t 11) (.c (.s (.int .i64 1))), none, 0, []⟩,
    ⟨(some 11), .move (.t 33), none, 1, []⟩])))
def bits_Map_Set : RFunc := RFunc.mk 34 [] (
  RC.seq (RC.region 3 [
    ⟨(some 9), .move (.t 1), none, 0, []⟩,
    ⟨(some 10), .len (.t 9), none, 1, []⟩,
    ⟨(some 11), .move (.c (.s (.int .i64 0))), none, 2, []⟩]) (RC.block 0 (RC.loop R.bits_Map_Set_l0)))
theorem bits_Map_Set_ok : chkFunc Go.Proofs.Tryd.prog [0] Go.Proofs.Tryd.f13 bits_Map_Set = true := by kernel_rfl
def bits_Map_Clear_l0 : RC :=
  RC.seq (RC.region 1 [
    ⟨(some 12), .bin .lss (.t 11) (.t 10), none, 0, []⟩]) (RC.seq (RC.cond (.t 12) (RC.skip) (RC.exit 0)) (RC.seq (RC.block 1 (RC.seq (RC.region 3 [
    ⟨(some 13), .indexSl 1 (.t 9) (.t 11), none, 0, []⟩,
    ⟨(some 14), .load none (.t 13), none, 1, []⟩,
    ⟨(some 5), .move (.t 14), none, 2, []⟩]) (RC.seq (RC.region 9 [
    ⟨(some 16), .move (.t 5), none, 0, []⟩,
    ⟨(some 17), .call F.bits_place [(.t 16)], none, 1, []⟩,
    ⟨(some 15), .move (.t 17), none, 2, []⟩,
    ⟨(some 18), .extract 0 (.t 15), none, 3, []⟩,
    ⟨(some 19), .extract 1 (.t 15), none, 4, []⟩,
    ⟨(some 20), .extract 2 (.t 15), none, 5, []⟩,
    ⟨(some 6), .move (.t 18), none, 6, []⟩,
    ⟨(some 7), .move (.t 19), none, 7, []⟩,
    ⟨(some 8), .move (.t 20), none, 8, []⟩]) (RC.seq (RC.region 1 [
    ⟨(some 21), .move (.t 8), none, 0, []⟩]) (RC.cond (.t 21) (RC.region 12 [
    ⟨(some 22), .move (.t 0), none, 0, []⟩,
    ⟨(some 23), .move (.t 6), none, 1, []⟩,
    ⟨(some 24), .nilCheck (.t 22), none, 2, []⟩,
    ⟨(some 25), .fieldAddr 0 (.t 24), none, 3, []⟩,
    ⟨(some 26), .indexArr 4 1 (.t 25) (.t 23), none, 4, []⟩,
    ⟨(some 27), .load none (.t 26), none, 5, []⟩,
    ⟨(some 28), .move (.t 7), none, 6, []⟩,
    ⟨(some 29), .bin .andNot (.t 27) (.t 28), none, 7, []⟩,
    ⟨(some 30), .nilCheck (.t 22), none, 8, []⟩,
    ⟨(some 31), .fieldAddr 0 (.t 30), none, 9, []⟩,
    ⟨(some 32), .indexArr 4 1 (.t 31) (.t 23), none, 10, []⟩,
    ⟨none, .store 1 (.t 32) (.t 29), none, 11, []⟩]) (RC.skip)))))) (RC.region 2 [
    ⟨(some 33), .bin .add (.t 11) (.c (.s (.int .i64 1))), none, 0, []⟩,
    ⟨(some 11), .move (.t 33), none, 1, []⟩])))
def bits_Map_Clear : RFunc := RFunc.mk 34 [] (
  RC.seq (RC.region 3 [
    ⟨(some 9), .move (.t 1), none, 0, []⟩,
    ⟨(some 10), .len (.t 9), none, 1, []⟩,
    ⟨(some 11), .move (.c (.s (.int .i64 0))), none, 2, []⟩]) (RC.block 0 (RC.loop R.bits_Map_Clear_l0)))
theorem bits_Map_Clear_ok : chkFunc Go.Proofs.Tryd.prog [0] Go.Proofs.Tryd.f14 bits_Map_Clear = true := by kernel_rfl
def bits_Map_Has : RFunc := RFunc.mk 26 [.tmp 4] (
  RC.seq (RC.region 1 [
    ⟨(some 4), .move (.c (.s (.bool false))), none, 0, []⟩]) (RC.seq (RC.region 9 [
    ⟨(some 9), .move (.t 1), none, 0, []⟩,
    ⟨(some 10), .call F.bits_place [(.t 9)], none, 1, []⟩,
    ⟨(some 8), .move (.t 10), none, 2, []⟩,
    ⟨(some 11), .extract 0 (.t 8), none, 3, []⟩,
    ⟨(some 12), .extract 1 (.t 8), none, 4, []⟩,
    ⟨(some 13), .extract 2 (.t 8), none, 5, []⟩,
    ⟨(some 5), .move (.t 11), none, 6, []⟩,
    ⟨(some 6), .move (.t 12), none, 7, []⟩,
    ⟨(some 7), .move (.t 13), none, 8, []⟩]) (RC.seq (RC.region 13 [
    ⟨(some 14), .move (.t 7), none, 0, []⟩,
    ⟨(some 15), .move (.t 14), none, 1, []⟩,
    ⟨(some 16), .move (.t 0), (some (15, true)), 2, []⟩,
    ⟨(some 17), .move (.t 5), (some (15, true)), 3, []⟩,
    ⟨(some 18), .nilCheck (.t 16), (some (15, true)), 4, []⟩,
    ⟨(some 19), .fieldAddr 0 (.t 18), (some (15, true)), 5, []⟩,
    ⟨(some 20), .indexArr 4 1 (.t 19) (.t 17), (some (15, true)), 6, []⟩,
    ⟨(some 21), .load none (.t 20), (some (15, true)), 7, []⟩,
    ⟨(some 22), .move (.t 6), (some (15, true)), 8, []⟩,
    ⟨(some 23), .bin .and (.t 21) (.t 22), (some (15, true)), 9, []⟩,
    ⟨(some 24), .bin .neq (.t 23) (.c (.s (.int .u64 0))), (some (15, true)), 10, []⟩,
    ⟨(some 25), .pick (.t 15) (.t 24) (.c (.s (.bool false))), none, 11, []⟩,
    ⟨(some 4), .move (.t 25), none, 12, []⟩]) (RC.ret))))
theorem bits_Map_Has_ok : chkFunc Go.Proofs.Tryd.prog [0] Go.Proofs.Tryd.f15 bits_Map_Has = true := by kernel_rfl
def bits_Map_First : RFunc := RFunc.mk 8 [.tmp 2, .tmp 3] (
  RC.seq (RC.region 2 [
    ⟨(some 2), .move (.c (.s (.int .i64 0))), none, 0, []⟩,
    ⟨(some 3), .move (.c (.s (.bool false))), none, 1, []⟩]) (RC.seq (RC.region 6 [
    ⟨(some 4), .move (.t 0), none, 0, []⟩,
    ⟨(some 5), .call F.bits_Map_After [(.t 4), (.c (.s (.int .i64 0)))], none, 1, []⟩,
    ⟨(some 6), .extract 0 (.t 5), none, 2, []⟩,
    ⟨(some 7), .extract 1 (.t 5), none, 3, []⟩,
    ⟨(some 2), .move (.t 6), none, 4, []⟩,
    ⟨(some 3), .move (.t 7), none, 5, []⟩]) (RC.ret)))
theorem bits_Map_First_ok : chkFunc Go.Proofs.Tryd.prog [0] Go.Proofs.Tryd.f16 bits_Map_First = true := by kernel_rfl
def bits_Map_After_s0 : RC :=
  RC.seq (RC.region 2 [
    ⟨(some 35), .move (.t 7), none, 0, []⟩,
    ⟨(some 36), .bin .neq (.t 35) (.c (.s (.int .u64 0))), none, 1, []⟩]) (RC.cond (.t 36) (RC.seq (RC.region 8 [
    ⟨(some 37), .move (.t 6), none, 0, []⟩,
    ⟨(some 38), .bin .mul (.t 37) (.c (.s (.int .i64 64))), none, 1, []⟩,
    ⟨(some 39), .move (.t 7), none, 2, []⟩,
    ⟨(some 40), .call F.math_bits_TrailingZeros64 [(.t 39)], none, 3, []⟩,
    ⟨(some 41), .bin .add (.t 38) (.t 40), none, 4, []⟩,
    ⟨(some 42), .bin .add (.t 41) (.c (.s (.int .i64 1))), none, 5, []⟩,
    ⟨(some 4), .move (.t 42), none, 6, []⟩,
    ⟨(some 5), .move (.c (.s (.bool true))), none, 7, []⟩]) (RC.ret)) (RC.skip))
def bits_Map_After_s1 : RC :=
  RC.region 3 [
    ⟨(some 16), .move (.t 6), none, 0, []⟩,
    ⟨(some 17), .bin .add (.t 16) (.c (.s (.int .i64 1))), none, 1, []⟩,
    ⟨(some 6), .move (.t 17), none, 2, []⟩]
def bits_Map_After_l2 : RC :=
  RC.seq (RC.seq (RC.region 2 [
    ⟨(some 14), .move (.t 6), none, 0, []⟩,
    ⟨(some 15), .bin .lss (.t 14) (.c (.s (.int .i64 4))), none, 1, []⟩]) (RC.cond (.t 15) (RC.skip) (RC.exit 0))) (RC.seq (RC.block 1 (RC.seq (RC.region 7 [
    ⟨(some 18), .move (.t 0), none, 0, []⟩,
    ⟨(some 19), .move (.t 6), none, 1, []⟩,
    ⟨(some 20), .nilCheck (.t 18), none, 2, []⟩,
    ⟨(some 21), .fieldAddr 0 (.t 20), none, 3, []⟩,
    ⟨(some 22), .indexArr 4 1 (.t 21) (.t 19), none, 4, []⟩,
    ⟨(some 23), .load none (.t 22), none, 5, []⟩,
    ⟨(some 7), .move (.t 23), none, 6, []⟩]) (RC.seq (RC.seq (RC.region 4 [
    ⟨(some 24), .move (.t 6), none, 0, []⟩,
    ⟨(some 25), .move (.t 1), none, 1, []⟩,
    ⟨(some 26), .bin .quo (.t 25) (.c (.s (.int .i64 64))), none, 2, []⟩,
    ⟨(some 27), .bin .eql (.t 24) (.t 26), none, 3, []⟩]) (RC.cond (.t 27) (RC.region 8 [
    ⟨(some 28), .move (.t 7), none, 0, []⟩,
    ⟨(some 29), .move (.t 1), none, 1, []⟩,
    ⟨(some 30), .bin .rem (.t 29) (.c (.s (.int .i64 64))), none, 2, []⟩,
    ⟨(some 31), .bin .shr (.t 28) (.t 30), none, 3, []⟩,
    ⟨(some 32), .move (.t 1), none, 4, []⟩,
    ⟨(some 33), .bin .rem (.t 32) (.c (.s (.int .i64 64))), none, 5, []⟩,
    ⟨(some 34), .bin .shl (.t 31) (.t 33), none, 6, []⟩,
    ⟨(some 7), .move (.t 34), none, 7, []⟩]) (RC.skip))) R.bits_Map_After_s0))) R.bits_Map_After_s1)
def bits_Map_After_s3 : RC :=
  RC.seq (RC.region 2 [
    ⟨(some 4), .move (.c (.s (.int .i64 0))), none, 0, []⟩,
    ⟨(some 5), .move (.c (.s (.bool false))), none, 1, []⟩]) (RC.ret)
def bits_Map_After : RFunc := RFunc.mk 43 [.tmp 4, .tmp 5] (
  RC.seq (RC.region 2 [
    ⟨(some 4), .move (.c (.s (.int .i64 0))), none, 0, []⟩,
    ⟨(some 5), .move (.c (.s (.bool false))), none, 1, []⟩]) (RC.seq (RC.region 3 [
    ⟨(some 8), .move (.t 1), none, 0, []⟩,
    ⟨(some 9), .minmax true (.t 8) (.c (.s (.int .i64 0))), none, 1, []⟩,
    ⟨(some 1), .move (.t 9), none, 2, []⟩]) (RC.seq (RC.seq (RC.region 2 [
    ⟨(some 10), .move (.t 1), none, 0, []⟩,
    ⟨(some 11), .bin .geq (.t 10) (.c (.s (.int .i64 256))), none, 1, []⟩]) (RC.cond (.t 11) (RC.seq (RC.region 2 [
    ⟨(some 4), .move (.c (.s (.int .i64 0))), none, 0, []⟩,
    ⟨(some 5), .move (.c (.s (.bool false))), none, 1, []⟩]) (RC.ret)) (RC.skip))) (RC.seq (RC.seq (RC.region 3 [
    ⟨(some 12), .move (.t 1), none, 0, []⟩,
    ⟨(some 13), .bin .quo (.t 12) (.c (.s (.int .i64 64))), none, 1, []⟩,
    ⟨(some 6), .move (.t 13), none, 2, []⟩]) (RC.block 0 (RC.loop R.bits_Map_After_l2))) R.bits_Map_After_s3))))
theorem bits_Map_After_ok : chkFunc Go.Proofs.Tryd.prog [0] Go.Proofs.Tryd.f17 bits_Map_After = true := by kernel_rfl
def bits_Map_Row_l0 : RC :=
  RC.seq (RC.seq (RC.region 1 [
    ⟨(some 11), .move (.t 5), none, 0, []⟩]) (RC.cond (.t 11) (RC.skip) (RC.exit 0))) (RC.seq (RC.block 1 (RC.region 5 [
    ⟨(some 18), .move (.t 3), none, 0, []⟩,
    ⟨(some 19), .move (.t 4), none, 1, []⟩,
    ⟨(some 20), .buildSlice 1 1 [.int .i64 0] [(0, 1, (.t 19))], none, 2, []⟩,
    ⟨(some 21), .append 1 8 (.t 18) (.t 20), none, 3, []⟩,
    ⟨(some 3), .move (.t 21), none, 4, []⟩])) (RC.region 8 [
    ⟨(some 13), .move (.t 0), none, 0, []⟩,
    ⟨(some 14), .move (.t 4), none, 1, []⟩,
    ⟨(some 15), .call F.bits_Map_After [(.t 13), (.t 14)], none, 2, []⟩,
    ⟨(some 12), .move (.t 15), none, 3, []⟩,
    ⟨(some 16), .extract 0 (.t 12), none, 4, []⟩,
    ⟨(some 17), .extract 1 (.t 12), none, 5, []⟩,
    ⟨(some 4), .move (.t 16), none, 6, []⟩,
    ⟨(some 5), .move (.t 17), none, 7, []⟩]))
def bits_Map_Row_s1 : RC :=
  RC.seq (RC.region 2 [
    ⟨(some 22), .move (.t 3), none, 0, []⟩,
    ⟨(some 2), .move (.t 22), none, 1, []⟩]) (RC.ret)
def bits_Map_Row : RFunc := RFunc.mk 23 [.tmp 2] (
  RC.seq (RC.region 1 [
    ⟨(some 2), .move (.c (.s (.slice none 0 0 1))), none, 0, []⟩]) (RC.seq (RC.region 1 [
    ⟨(some 3), .move (.c (.s (.slice none 0 0 1))), none, 0, []⟩]) (RC.seq (RC.seq (RC.region 7 [
    ⟨(some 7), .move (.t 0), none, 0, []⟩,
    ⟨(some 8), .call F.bits_Map_First [(.t 7)], none, 1, []⟩,
    ⟨(some 6), .move (.t 8), none, 2, []⟩,
    ⟨(some 9), .extract 0 (.t 6), none, 3, []⟩,
    ⟨(some 10), .extract 1 (.t 6), none, 4, []⟩,
    ⟨(some 4), .move (.t 9), none, 5, []⟩,
    ⟨(some 5), .move (.t 10), none, 6, []⟩]) (RC.block 0 (RC.loop R.bits_Map_Row_l0))) R.bits_Map_Row_s1)))
theorem bits_Map_Row_ok : chkFunc Go.Proofs.Tryd.prog [0] Go.Proofs.Tryd.f18 bits_Map_Row = true := by kernel_rfl
def bits_Map_Len_l0 : RC :=
  RC.seq (RC.region 1 [
    ⟨(some 11), .bin .lss (.t 10) (.c (.s (.int .i64 4))), none, 0, []⟩]) (RC.seq (RC.cond (.t 11) (RC.skip) (RC.exit 0)) (RC.seq (RC.block 1 (RC.seq (RC.region 2 [
    ⟨(some 12), .index 4 1 none (.t 9) (.t 10), none, 0, []⟩,
    ⟨(some 5), .move (.t 12), none, 1, []⟩]) (RC.region 5 [
    ⟨(some 13), .move (.t 3), none, 0, []⟩,
    ⟨(some 14), .move (.t 5), none, 1, []⟩,
    ⟨(some 15), .call F.math_bits_OnesCount64 [(.t 14)], none, 2, []⟩,
    ⟨(some 16), .bin .add (.t 13) (.t 15), none, 3, []⟩,
    ⟨(some 3), .move (.t 16), none, 4, []⟩]))) (RC.region 2 [
    ⟨(some 17), .bin .add (.t 10) (.c (.s (.int .i64 1))), none, 0, []⟩,
    ⟨(some 10), .move (.t 17), none, 1, []⟩])))
def bits_Map_Len_s1 : RC :=
  RC.seq (RC.region 2 [
    ⟨(some 18), .move (.t 3), none, 0, []⟩,
    ⟨(some 2), .move (.t 18), none, 1, []⟩]) (RC.ret)
def bits_Map_Len : RFunc := RFunc.mk 19 [.tmp 2] (
  RC.seq (RC.region 1 [
    ⟨(some 2), .move (.c (.s (.int .i64 0))), none, 0, []⟩]) (RC.seq (RC.region 1 [
    ⟨(some 3), .move (.c (.s (.int .i64 0))), none, 0, []⟩]) (RC.seq (RC.seq (RC.region 5 [
    ⟨(some 6), .move (.t 0), none, 0, []⟩,
    ⟨(some 7), .nilCheck (.t 6), none, 1, []⟩,
    ⟨(some 8), .fieldAddr 0 (.t 7), none, 2, []⟩,
    ⟨(some 9), .load (some 4) (.t 8), none, 3, []⟩,
    ⟨(some 10), .move (.c (.s (.int .i64 0))), none, 4, []⟩]) (RC.block 0 (RC.loop R.bits_Map_Len_l0))) R.bits_Map_Len_s1)))
theorem bits_Map_Len_ok : chkFunc Go.Proofs.Tryd.prog [0] Go.Proofs.Tryd.f19 bits_Map_Len = true := by kernel_rfl
def detentlaw9_known : RFunc := RFunc.mk 80 [.tmp 0] (
  RC.seq (RC.region 1 [
    ⟨(some 0), .move (.c (.s (.bool false))), none, 0, []⟩]) (RC.seq (RC.region 2 [
    ⟨(some 11), .call F.ready_New [], none, 0, []⟩,
    ⟨(some 1), .move (.t 11), none, 1, []⟩]) (RC.seq (RC.seq (RC.region 2 [
    ⟨(some 12), .move (.t 1), none, 0, []⟩,
    ⟨(some 13), .eqs .ptr false (.t 12) (.c (.s (.ptr none))), none, 1, []⟩]) (RC.cond (.t 13) (RC.seq (RC.region 1 [
    ⟨(some 0), .move (.c (.s (.bool false))), none, 0, []⟩]) (RC.ret)) (RC.skip))) (RC.seq (RC.region 2 [
    ⟨(some 14), .move (.t 1), none, 0, []⟩,
    ⟨(some 15), .call F.ready_Queue_Add [(.t 14), (.c (.s (.int .i64 1))), (.c (.s (.int .i64 5)))], none, 1, []⟩]) (RC.seq (RC.region 2 [
    ⟨(some 16), .move (.t 1), none, 0, []⟩,
    ⟨(some 17), .call F.ready_Queue_Add [(.t 16), (.c (.s (.int .i64 2))), (.c (.s (.int .i64 3)))], none, 1, []⟩]) (RC.seq (RC.region 3 [
    ⟨(some 18), .move (.t 1), none, 0, []⟩,
    ⟨(some 19), .call F.ready_Queue_Add [(.t 18), (.c (.s (.int .i64 3))), (.c (.s (.int .i64 3)))], none, 1, []⟩,
    ⟨(some 2), .move (.t 19), none, 2, []⟩]) (RC.seq (RC.region 3 [
    ⟨(some 20), .move (.t 1), none, 0, []⟩,
    ⟨(some 21), .call F.ready_Queue_Add [(.t 20), (.c (.s (.int .i64 3))), (.c (.s (.int .i64 3)))], none, 1, []⟩,
    ⟨(some 3), .move (.t 21), none, 2, []⟩]) (RC.seq (RC.region 7 [
    ⟨(some 23), .move (.t 1), none, 0, []⟩,
    ⟨(some 24), .call F.ready_Queue_First [(.t 23)], none, 1, []⟩,
    ⟨(some 22), .move (.t 24), none, 2, []⟩,
    ⟨(some 25), .extract 0 (.t 22), none, 3, []⟩,
    ⟨(some 26), .extract 1 (.t 22), none, 4, []⟩,
    ⟨(some 4), .move (.t 25), none, 5, []⟩,
    ⟨(some 5), .move (.t 26), none, 6, []⟩]) (RC.seq (RC.region 3 [
    ⟨(some 27), .move (.t 1), none, 0, []⟩,
    ⟨(some 28), .call F.ready_Queue_Rotate [(.t 27), (.c (.s (.int .i64 3)))], none, 1, []⟩,
    ⟨(some 6), .move (.t 28), none, 2, []⟩]) (RC.seq (RC.region 7 [
    ⟨(some 30), .move (.t 1), none, 0, []⟩,
    ⟨(some 31), .call F.ready_Queue_First [(.t 30)], none, 1, []⟩,
    ⟨(some 29), .move (.t 31), none, 2, []⟩,
    ⟨(some 32), .extract 0 (.t 29), none, 3, []⟩,
    ⟨(some 33), .extract 1 (.t 29), none, 4, []⟩,
    ⟨(some 7), .move (.t 32), none, 5, []⟩,
    ⟨(some 8), .move (.t 33), none, 6, []⟩]) (RC.seq (RC.region 7 [
    ⟨(some 35), .move (.t 1), none, 0, []⟩,
    ⟨(some 36), .call F.ready_Queue_Pri [(.t 35), (.c (.s (.int .i64 1)))], none, 1, []⟩,
    ⟨(some 34), .move (.t 36), none, 2, []⟩,
    ⟨(some 37), .extract 0 (.t 34), none, 3, []⟩,
    ⟨(some 38), .extract 1 (.t 34), none, 4, []⟩,
    ⟨(some 9), .move (.t 37), none, 5, []⟩,
    ⟨(some 10), .move (.t 38), none, 6, []⟩]) (RC.seq (RC.region 42 [
    ⟨(some 39), .move (.t 2), none, 0, []⟩,
    ⟨(some 40), .move (.t 6), none, 1, []⟩,
    ⟨(some 41), .bin .add (.t 39) (.t 40), none, 2, []⟩,
    ⟨(some 42), .bin .eql (.t 41) (.c (.s (.int .i64 0))), none, 3, []⟩,
    ⟨(some 43), .move (.t 42), none, 4, []⟩,
    ⟨(some 44), .move (.t 3), (some (43, true)), 5, []⟩,
    ⟨(some 45), .bin .eql (.t 44) (.c (.s (.int .i64 (-41)))), (some (43, true)), 6, []⟩,
    ⟨(some 46), .pick (.t 43) (.t 45) (.c (.s (.bool false))), none, 7, []⟩,
    ⟨(some 47), .move (.t 46), none, 8, []⟩,
    ⟨(some 48), .move (.t 4), (some (47, true)), 9, []⟩,
    ⟨(some 49), .bin .eql (.t 48) (.c (.s (.int .i64 2))), (some (47, true)), 10, []⟩,
    ⟨(some 50), .pick (.t 47) (.t 49) (.c (.s (.bool false))), none, 11, []⟩,
    ⟨(some 51), .move (.t 50), none, 12, []⟩,
    ⟨(some 52), .move (.t 5), (some (51, true)), 13, []⟩,
    ⟨(some 53), .pick (.t 51) (.t 52) (.c (.s (.bool false))), none, 14, []⟩,
    ⟨(some 54), .move (.t 53), none, 15, []⟩,
    ⟨(some 55), .move (.t 7), (some (54, true)), 16, []⟩,
    ⟨(some 56), .bin .eql (.t 55) (.c (.s (.int .i64 3))), (some (54, true)), 17, []⟩,
    ⟨(some 57), .pick (.t 54) (.t 56) (.c (.s (.bool false))), none, 18, []⟩,
    ⟨(some 58), .move (.t 57), none, 19, []⟩,
    ⟨(some 59), .move (.t 8), (some (58, true)), 20, []⟩,
    ⟨(some 60), .pick (.t 58) (.t 59) (.c (.s (.bool false))), none, 21, []⟩,
    ⟨(some 61), .move (.t 60), none, 22, []⟩,
    ⟨(some 62), .move (.t 9), (some (61, true)), 23, []⟩,
    ⟨(some 63), .bin .eql (.t 62) (.c (.s (.int .i64 5))), (some (61, true)), 24, []⟩,
    ⟨(some 64), .pick (.t 61) (.t 63) (.c (.s (.bool false))), none, 25, []⟩,
    ⟨(some 65), .move (.t 64), none, 26, []⟩,
    ⟨(some 66), .move (.t 10), (some (65, true)), 27, []⟩,
    ⟨(some 67), .pick (.t 65) (.t 66) (.c (.s (.bool false))), none, 28, []⟩,
    ⟨(some 68), .move (.t 67), none, 29, []⟩,
    ⟨(some 69), .move (.t 1), (some (68, true)), 30, []⟩,
    ⟨(some 70), .call F.ready_Queue_Row [(.t 69), (.c (.s (.int .i64 3)))], (some (68, true)), 31, []⟩,
    ⟨(some 71), .len (.t 70), (some (68, true)), 32, []⟩,
    ⟨(some 72), .bin .eql (.t 71) (.c (.s (.int .i64 2))), (some (68, true)), 33, []⟩,
    ⟨(some 73), .pick (.t 68) (.t 72) (.c (.s (.bool false))), none, 34, []⟩,
    ⟨(some 74), .move (.t 73), none, 35, []⟩,
    ⟨(some 75), .move (.t 1), (some (74, true)), 36, []⟩,
    ⟨(some 76), .call F.ready_Queue_All [(.t 75)], (some (74, true)), 37, []⟩,
    ⟨(some 77), .len (.t 76), (some (74, true)), 38, []⟩,
    ⟨(some 78), .bin .eql (.t 77) (.c (.s (.int .i64 3))), (some (74, true)), 39, []⟩,
    ⟨(some 79), .pick (.t 74) (.t 78) (.c (.s (.bool false))), none, 40, []⟩,
    ⟨(some 0), .move (.t 79), none, 41, []⟩]) (RC.ret)))))))))))))
theorem detentlaw9_known_ok : chkFunc Go.Proofs.Tryd.prog [0] Go.Proofs.Tryd.f20 detentlaw9_known = true := by kernel_rfl
def ready_New : RFunc := RFunc.mk 3 [.tmp 0] (
  RC.seq (RC.region 1 [
    ⟨(some 0), .move (.c (.s (.ptr none))), none, 0, []⟩]) (RC.seq (RC.region 3 [
    ⟨(some 1), .build [.int .u64 0, .int .u64 0, .int .u64 0, .int .u64 0, .slice none 0 0 1, .slice none 0 0 1, .slice none 0 0 1, .slice none 0 0 1, .slice none 0 0 1, .slice none 0 0 1, .slice none 0 0 1, .slice none 0 0 1, .slice none 0 0 1, .slice none 0 0 1, .slice none 0 0 1, .slice none 0 0 1, .slice none 0 0 1, .slice none 0 0 1, .slice none 0 0 1, .slice none 0 0 1, .slice none 0 0 1, .int .i64 0, .int .i64 0, .int .i64 0, .int .i64 0, .int .i64 0, .int .i64 0, .int .i64 0, .int .i64 0, .int .i64 0, .int .i64 0, .int .i64 0, .int .i64 0, .int .i64 0, .int .i64 0, .int .i64 0, .int .i64 0, .int .i64 0] [], none, 0, []⟩,
    ⟨(some 2), .box (.t 1), none, 1, []⟩,
    ⟨(some 0), .move (.t 2), none, 2, []⟩]) (RC.ret)))
theorem ready_New_ok : chkFunc Go.Proofs.Tryd.prog [0] Go.Proofs.Tryd.f21 ready_New = true := by kernel_rfl
def ready_Queue_Add : RFunc := RFunc.mk 28 [.tmp 6] (
  RC.seq (RC.region 1 [
    ⟨(some 6), .move (.c (.s (.int .i64 0))), none, 0, []⟩]) (RC.seq (RC.block 0 (RC.seq (RC.region 9 [
    ⟨(some 8), .move (.t 1), none, 0, []⟩,
    ⟨(some 9), .call F.ready_task [(.t 8)], none, 1, []⟩,
    ⟨(some 10), .un .not (.t 9), none, 2, []⟩,
    ⟨(some 11), .move (.t 10), none, 3, []⟩,
    ⟨(some 12), .move (.t 2), (some (11, false)), 4, []⟩,
    ⟨(some 13), .call F.ready_may [(.t 12)], (some (11, false)), 5, []⟩,
    ⟨(some 14), .un .not (.t 13), (some (11, false)), 6, []⟩,
    ⟨(some 15), .pick (.t 11) (.c (.s (.bool true))) (.t 14), none, 7, []⟩,
    ⟨(some 7), .move (.t 15), none, 8, []⟩]) (RC.cond (.t 7) (RC.seq (RC.region 1 [
    ⟨(some 6), .move (.c (.s (.int .i64 (-17)))), none, 0, []⟩]) (RC.ret)) (RC.seq (RC.region 8 [
    ⟨(some 17), .move (.t 0), none, 0, []⟩,
    ⟨(some 18), .move (.t 1), none, 1, []⟩,
    ⟨(some 19), .nilCheck (.t 17), none, 2, []⟩,
    ⟨(some 20), .fieldAddr 21 (.t 19), none, 3, []⟩,
    ⟨(some 21), .indexArr 17 1 (.t 20) (.t 18), none, 4, []⟩,
    ⟨(some 22), .load none (.t 21), none, 5, []⟩,
    ⟨(some 23), .bin .gtr (.t 22) (.c (.s (.int .i64 0))), none, 6, []⟩,
    ⟨(some 16), .move (.t 23), none, 7, []⟩]) (RC.cond (.t 16) (RC.seq (RC.region 1 [
    ⟨(some 6), .move (.c (.s (.int .i64 (-41)))), none, 0, []⟩]) (RC.ret)) (RC.skip)))))) (RC.seq (RC.region 4 [
    ⟨(some 24), .move (.t 0), none, 0, []⟩,
    ⟨(some 25), .move (.t 1), none, 1, []⟩,
    ⟨(some 26), .move (.t 2), none, 2, []⟩,
    ⟨(some 27), .call F.ready_Queue_put [(.t 24), (.t 25), (.t 26)], none, 3, []⟩]) (RC.seq (RC.region 1 [
    ⟨(some 6), .move (.c (.s (.int .i64 0))), none, 0, []⟩]) (RC.ret)))))
theorem ready_Queue_Add_ok : chkFunc Go.Proofs.Tryd.prog [0] Go.Proofs.Tryd.f22 ready_Queue_Add = true := by kernel_rfl
def ready_Queue_All_l0 : RC :=
  RC.seq (RC.region 1 [
    ⟨(some 12), .bin .lss (.t 11) (.t 10), none, 0, []⟩]) (RC.seq (RC.cond (.t 12) (RC.skip) (RC.exit 0)) (RC.seq (RC.block 1 (RC.seq (RC.region 3 [
    ⟨(some 13), .indexSl 1 (.t 9) (.t 11), none, 0, []⟩,
    ⟨(some 14), .load none (.t 13), none, 1, []⟩,
    ⟨(some 5), .move (.t 14), none, 2, []⟩]) (RC.region 9 [
    ⟨(some 15), .move (.t 3), none, 0, []⟩,
    ⟨(some 16), .move (.t 0), none, 1, []⟩,
    ⟨(some 17), .move (.t 5), none, 2, []⟩,
    ⟨(some 18), .nilCheck (.t 16), none, 3, []⟩,
    ⟨(some 19), .fieldAddr 4 (.t 18), none, 4, []⟩,
    ⟨(some 20), .indexArr 17 1 (.t 19) (.t 17), none, 5, []⟩,
    ⟨(some 21), .load none (.t 20), none, 6, []⟩,
    ⟨(some 22), .append 1 8 (.t 15) (.t 21), none, 7, []⟩,
    ⟨(some 3), .move (.t 22), none, 8, []⟩]))) (RC.region 2 [
    ⟨(some 23), .bin .add (.t 11) (.c (.s (.int .i64 1))), none, 0, []⟩,
    ⟨(some 11), .move (.t 23), none, 1, []⟩])))
def ready_Queue_All_s1 : RC :=
  RC.seq (RC.region 3 [
    ⟨(some 24), .move (.t 3), none, 0, []⟩,
    ⟨(some 25), .call F.slices_Clip__int_int [(.t 24)], none, 1, []⟩,
    ⟨(some 2), .move (.t 25), none, 2, []⟩]) (RC.ret)
def ready_Queue_All : RFunc := RFunc.mk 26 [.tmp 2] (
  RC.seq (RC.region 1 [
    ⟨(some 2), .move (.c (.s (.slice none 0 0 1))), none, 0, []⟩]) (RC.seq (RC.region 1 [
    ⟨(some 3), .move (.c (.s (.slice none 0 0 1))), none, 0, []⟩]) (RC.seq (RC.seq (RC.region 6 [
    ⟨(some 6), .move (.t 0), none, 0, []⟩,
    ⟨(some 7), .nilCheck (.t 6), none, 1, []⟩,
    ⟨(some 8), .fieldAddr 0 (.t 7), none, 2, []⟩,
    ⟨(some 9), .call F.bits_Map_Row [(.t 8)], none, 3, []⟩,
    ⟨(some 10), .len (.t 9), none, 4, []⟩,
    ⟨(some 11), .move (.c (.s (.int .i64 0))), none, 5, []⟩]) (RC.block 0 (RC.loop R.ready_Queue_All_l0))) R.ready_Queue_All_s1)))
theorem ready_Queue_All_ok : chkFunc Go.Proofs.Tryd.prog [0] Go.Proofs.Tryd.f23 ready_Queue_All = true := by kernel_rfl
def ready_Queue_Row : RFunc := RFunc.mk 16 [.tmp 4] (
  RC.seq (RC.region 1 [
    ⟨(some 4), .move (.c (.s (.slice none 0 0 1))), none, 0, []⟩]) (RC.seq (RC.seq (RC.region 3 [
    ⟨(some 5), .move (.t 1), none, 0, []⟩,
    ⟨(some 6), .call F.ready_may [(.t 5)], none, 1, []⟩,
    ⟨(some 7), .un .not (.t 6), none, 2, []⟩]) (RC.cond (.t 7) (RC.seq (RC.region 1 [
    ⟨(some 4), .move (.c (.s (.slice none 0 0 1))), none, 0, []⟩]) (RC.ret)) (RC.skip))) (RC.seq (RC.region 9 [
    ⟨(some 8), .move (.t 0), none, 0, []⟩,
    ⟨(some 9), .move (.t 1), none, 1, []⟩,
    ⟨(some 10), .nilCheck (.t 8), none, 2, []⟩,
    ⟨(some 11), .fieldAddr 4 (.t 10), none, 3, []⟩,
    ⟨(some 12), .indexArr 17 1 (.t 11) (.t 9), none, 4, []⟩,
    ⟨(some 13), .load none (.t 12), none, 5, []⟩,
    ⟨(some 14), .call F.slices_Clone__int_int [(.t 13)], none, 6, []⟩,
    ⟨(some 15), .call F.slices_Clip__int_int [(.t 14)], none, 7, []⟩,
    ⟨(some 4), .move (.t 15), none, 8, []⟩]) (RC.ret))))
theorem ready_Queue_Row_ok : chkFunc Go.Proofs.Tryd.prog [0] Go.Proofs.Tryd.f24 ready_Queue_Row = true := by kernel_rfl
def ready_Queue_Rotate : RFunc := RFunc.mk 31 [.tmp 4] (
  RC.seq (RC.region 1 [
    ⟨(some 4), .move (.c (.s (.int .i64 0))), none, 0, []⟩]) (RC.seq (RC.seq (RC.region 3 [
    ⟨(some 6), .move (.t 1), none, 0, []⟩,
    ⟨(some 7), .call F.ready_may [(.t 6)], none, 1, []⟩,
    ⟨(some 8), .un .not (.t 7), none, 2, []⟩]) (RC.cond (.t 8) (RC.seq (RC.region 1 [
    ⟨(some 4), .move (.c (.s (.int .i64 (-17)))), none, 0, []⟩]) (RC.ret)) (RC.skip))) (RC.seq (RC.seq (RC.region 7 [
    ⟨(some 9), .move (.t 0), none, 0, []⟩,
    ⟨(some 10), .move (.t 1), none, 1, []⟩,
    ⟨(some 11), .nilCheck (.t 9), none, 2, []⟩,
    ⟨(some 12), .fieldAddr 4 (.t 11), none, 3, []⟩,
    ⟨(some 13), .indexArr 17 1 (.t 12) (.t 10), none, 4, []⟩,
    ⟨(some 14), .load none (.t 13), none, 5, []⟩,
    ⟨(some 5), .move (.t 14), none, 6, []⟩]) (RC.seq (RC.region 3 [
    ⟨(some 15), .move (.t 5), none, 0, []⟩,
    ⟨(some 16), .len (.t 15), none, 1, []⟩,
    ⟨(some 17), .bin .gtr (.t 16) (.c (.s (.int .i64 1))), none, 2, []⟩]) (RC.cond (.t 17) (RC.region 14 [
    ⟨(some 18), .move (.t 0), none, 0, []⟩,
    ⟨(some 19), .move (.t 1), none, 1, []⟩,
    ⟨(some 20), .move (.t 5), none, 2, []⟩,
    ⟨(some 21), .slSl 1 (.t 20) (some (.c (.s (.int .i64 1)))) none none, none, 3, []⟩,
    ⟨(some 23), .move (.t 5), none, 5, []⟩,
    ⟨(some 24), .indexSl 1 (.t 23) (.c (.s (.int .i64 0))), none, 6, []⟩,
    ⟨(some 25), .load none (.t 24), none, 7, []⟩,
    ⟨(some 28), .nilCheck (.t 18), none, 10, []⟩,
    ⟨(some 29), .fieldAddr 4 (.t 28), none, 11, []⟩,
    ⟨(some 22), .call F.slices_Clone__int_int [(.t 21)], none, 4, [⟨25, none, (.t 24), none⟩]⟩,
    ⟨(some 26), .buildSlice 1 1 [.int .i64 0] [(0, 1, (.t 25))], none, 8, []⟩,
    ⟨(some 27), .append 1 8 (.t 22) (.t 26), none, 9, []⟩,
    ⟨(some 30), .indexArr 17 1 (.t 29) (.t 19), none, 12, []⟩,
    ⟨none, .store 1 (.t 30) (.t 27), none, 13, []⟩]) (RC.skip)))) (RC.seq (RC.region 1 [
    ⟨(some 4), .move (.c (.s (.int .i64 0))), none, 0, []⟩]) (RC.ret)))))
theorem ready_Queue_Rotate_ok : chkFunc Go.Proofs.Tryd.prog [0] Go.Proofs.Tryd.f25 ready_Queue_Rotate = true := by kernel_rfl
def ready_Queue_Pri : RFunc := RFunc.mk 24 [.tmp 4, .tmp 5] (
  RC.seq (RC.region 2 [
    ⟨(some 4), .move (.c (.s (.int .i64 0))), none, 0, []⟩,
    ⟨(some 5), .move (.c (.s (.bool false))), none, 1, []⟩]) (RC.seq (RC.seq (RC.region 12 [
    ⟨(some 6), .move (.t 1), none, 0, []⟩,
    ⟨(some 7), .call F.ready_task [(.t 6)], none, 1, []⟩,
    ⟨(some 8), .un .not (.t 7), none, 2, []⟩,
    ⟨(some 9), .move (.t 8), none, 3, []⟩,
    ⟨(some 10), .move (.t 0), (some (9, false)), 4, []⟩,
    ⟨(some 11), .move (.t 1), (some (9, false)), 5, []⟩,
    ⟨(some 12), .nilCheck (.t 10), (some (9, false)), 6, []⟩,
    ⟨(some 13), .fieldAddr 21 (.t 12), (some (9, false)), 7, []⟩,
    ⟨(some 14), .indexArr 17 1 (.t 13) (.t 11), (some (9, false)), 8, []⟩,
    ⟨(some 15), .load none (.t 14), (some (9, false)), 9, []⟩,
    ⟨(some 16), .bin .eql (.t 15) (.c (.s (.int .i64 0))), (some (9, false)), 10, []⟩,
    ⟨(some 17), .pick (.t 9) (.c (.s (.bool true))) (.t 16), none, 11, []⟩]) (RC.cond (.t 17) (RC.seq (RC.region 2 [
    ⟨(some 4), .move (.c (.s (.int .i64 0))), none, 0, []⟩,
    ⟨(some 5), .move (.c (.s (.bool false))), none, 1, []⟩]) (RC.ret)) (RC.skip))) (RC.seq (RC.region 8 [
    ⟨(some 18), .move (.t 0), none, 0, []⟩,
    ⟨(some 19), .move (.t 1), none, 1, []⟩,
    ⟨(some 20), .nilCheck (.t 18), none, 2, []⟩,
    ⟨(some 21), .fieldAddr 21 (.t 20), none, 3, []⟩,
    ⟨(some 22), .indexArr 17 1 (.t 21) (.t 19), none, 4, []⟩,
    ⟨(some 23), .load none (.t 22), none, 5, []⟩,
    ⟨(some 4), .move (.t 23), none, 6, []⟩,
    ⟨(some 5), .move (.c (.s (.bool true))), none, 7, []⟩]) (RC.ret))))
theorem ready_Queue_Pri_ok : chkFunc Go.Proofs.Tryd.prog [0] Go.Proofs.Tryd.f27 ready_Queue_Pri = true := by kernel_rfl
def ready_Queue_First : RFunc := RFunc.mk 23 [.tmp 2, .tmp 3] (
  RC.seq (RC.region 2 [
    ⟨(some 2), .move (.c (.s (.int .i64 0))), none, 0, []⟩,
    ⟨(some 3), .move (.c (.s (.bool false))), none, 1, []⟩]) (RC.seq (RC.region 9 [
    ⟨(some 7), .move (.t 0), none, 0, []⟩,
    ⟨(some 8), .nilCheck (.t 7), none, 1, []⟩,
    ⟨(some 9), .fieldAddr 0 (.t 8), none, 2, []⟩,
    ⟨(some 10), .call F.bits_Map_First [(.t 9)], none, 3, []⟩,
    ⟨(some 6), .move (.t 10), none, 4, []⟩,
    ⟨(some 11), .extract 0 (.t 6), none, 5, []⟩,
    ⟨(some 12), .extract 1 (.t 6), none, 6, []⟩,
    ⟨(some 4), .move (.t 11), none, 7, []⟩,
    ⟨(some 5), .move (.t 12), none, 8, []⟩]) (RC.seq (RC.seq (RC.region 2 [
    ⟨(some 13), .move (.t 5), none, 0, []⟩,
    ⟨(some 14), .un .not (.t 13), none, 1, []⟩]) (RC.cond (.t 14) (RC.seq (RC.region 2 [
    ⟨(some 2), .move (.c (.s (.int .i64 0))), none, 0, []⟩,
    ⟨(some 3), .move (.c (.s (.bool false))), none, 1, []⟩]) (RC.ret)) (RC.skip))) (RC.seq (RC.region 10 [
    ⟨(some 15), .move (.t 0), none, 0, []⟩,
    ⟨(some 16), .move (.t 4), none, 1, []⟩,
    ⟨(some 17), .nilCheck (.t 15), none, 2, []⟩,
    ⟨(some 18), .fieldAddr 4 (.t 17), none, 3, []⟩,
    ⟨(some 19), .indexArr 17 1 (.t 18) (.t 16), none, 4, []⟩,
    ⟨(some 20), .load none (.t 19), none, 5, []⟩,
    ⟨(some 21), .indexSl 1 (.t 20) (.c (.s (.int .i64 0))), none, 6, []⟩,
    ⟨(some 22), .load none (.t 21), none, 7, []⟩,
    ⟨(some 2), .move (.t 22), none, 8, []⟩,
    ⟨(some 3), .move (.c (.s (.bool true))), none, 9, []⟩]) (RC.ret)))))
theorem ready_Queue_First_ok : chkFunc Go.Proofs.Tryd.prog [0] Go.Proofs.Tryd.f28 ready_Queue_First = true := by kernel_rfl
def ready_Queue_Remove : RFunc := RFunc.mk 67 [.tmp 4] (
  RC.seq (RC.region 1 [
    ⟨(some 4), .move (.c (.s (.bool false))), none, 0, []⟩]) (RC.seq (RC.seq (RC.region 12 [
    ⟨(some 7), .move (.t 1), none, 0, []⟩,
    ⟨(some 8), .call F.ready_task [(.t 7)], none, 1, []⟩,
    ⟨(some 9), .un .not (.t 8), none, 2, []⟩,
    ⟨(some 10), .move (.t 9), none, 3, []⟩,
    ⟨(some 11), .move (.t 0), (some (10, false)), 4, []⟩,
    ⟨(some 12), .move (.t 1), (some (10, false)), 5, []⟩,
    ⟨(some 13), .nilCheck (.t 11), (some (10, false)), 6, []⟩,
    ⟨(some 14), .fieldAddr 21 (.t 13), (some (10, false)), 7, []⟩,
    ⟨(some 15), .indexArr 17 1 (.t 14) (.t 12), (some (10, false)), 8, []⟩,
    ⟨(some 16), .load none (.t 15), (some (10, false)), 9, []⟩,
    ⟨(some 17), .bin .eql (.t 16) (.c (.s (.int .i64 0))), (some (10, false)), 10, []⟩,
    ⟨(some 18), .pick (.t 10) (.c (.s (.bool true))) (.t 17), none, 11, []⟩]) (RC.cond (.t 18) (RC.seq (RC.region 1 [
    ⟨(some 4), .move (.c (.s (.bool false))), none, 0, []⟩]) (RC.ret)) (RC.skip))) (RC.seq (RC.region 7 [
    ⟨(some 19), .move (.t 0), none, 0, []⟩,
    ⟨(some 20), .move (.t 1), none, 1, []⟩,
    ⟨(some 21), .nilCheck (.t 19), none, 2, []⟩,
    ⟨(some 22), .fieldAddr 21 (.t 21), none, 3, []⟩,
    ⟨(some 23), .indexArr 17 1 (.t 22) (.t 20), none, 4, []⟩,
    ⟨(some 24), .load none (.t 23), none, 5, []⟩,
    ⟨(some 5), .move (.t 24), none, 6, []⟩]) (RC.seq (RC.region 9 [
    ⟨(some 25), .move (.t 0), none, 0, []⟩,
    ⟨(some 26), .move (.t 5), none, 1, []⟩,
    ⟨(some 27), .nilCheck (.t 25), none, 2, []⟩,
    ⟨(some 28), .fieldAddr 4 (.t 27), none, 3, []⟩,
    ⟨(some 29), .indexArr 17 1 (.t 28) (.t 26), none, 4, []⟩,
    ⟨(some 30), .load none (.t 29), none, 5, []⟩,
    ⟨(some 31), .move (.t 1), none, 6, []⟩,
    ⟨(some 32), .call F.slices_Index__int_int [(.t 30), (.t 31)], none, 7, []⟩,
    ⟨(some 6), .move (.t 32), none, 8, []⟩]) (RC.seq (RC.region 16 [
    ⟨(some 33), .move (.t 0), none, 0, []⟩,
    ⟨(some 34), .move (.t 5), none, 1, []⟩,
    ⟨(some 35), .move (.t 0), none, 2, []⟩,
    ⟨(some 36), .move (.t 5), none, 3, []⟩,
    ⟨(some 37), .nilCheck (.t 35), none, 4, []⟩,
    ⟨(some 38), .fieldAddr 4 (.t 37), none, 5, []⟩,
    ⟨(some 39), .indexArr 17 1 (.t 38) (.t 36), none, 6, []⟩,
    ⟨(some 40), .load none (.t 39), none, 7, []⟩,
    ⟨(some 41), .move (.t 6), none, 8, []⟩,
    ⟨(some 42), .move (.t 6), none, 9, []⟩,
    ⟨(some 43), .bin .add (.t 42) (.c (.s (.int .i64 1))), none, 10, []⟩,
    ⟨(some 45), .nilCheck (.t 33), none, 12, []⟩,
    ⟨(some 46), .fieldAddr 4 (.t 45), none, 13, []⟩,
    ⟨(some 44), .call F.slices_Delete__int_int [(.t 40), (.t 41), (.t 43)], none, 11, []⟩,
    ⟨(some 47), .indexArr 17 1 (.t 46) (.t 34), none, 14, []⟩,
    ⟨none, .store 1 (.t 47) (.t 44), none, 15, []⟩]) (RC.seq (RC.region 6 [
    ⟨(some 48), .move (.t 0), none, 0, []⟩,
    ⟨(some 49), .move (.t 1), none, 1, []⟩,
    ⟨(some 50), .nilCheck (.t 48), none, 2, []⟩,
    ⟨(some 51), .fieldAddr 21 (.t 50), none, 3, []⟩,
    ⟨(some 52), .indexArr 17 1 (.t 51) (.t 49), none, 4, []⟩,
    ⟨none, .store 1 (.t 52) (.c (.s (.int .i64 0))), none, 5, []⟩]) (RC.seq (RC.seq (RC.region 8 [
    ⟨(some 53), .move (.t 0), none, 0, []⟩,
    ⟨(some 54), .move (.t 5), none, 1, []⟩,
    ⟨(some 55), .nilCheck (.t 53), none, 2, []⟩,
    ⟨(some 56), .fieldAddr 4 (.t 55), none, 3, []⟩,
    ⟨(some 57), .indexArr 17 1 (.t 56) (.t 54), none, 4, []⟩,
    ⟨(some 58), .load none (.t 57), none, 5, []⟩,
    ⟨(some 59), .len (.t 58), none, 6, []⟩,
    ⟨(some 60), .bin .eql (.t 59) (.c (.s (.int .i64 0))), none, 7, []⟩]) (RC.cond (.t 60) (RC.region 6 [
    ⟨(some 61), .move (.t 0), none, 0, []⟩,
    ⟨(some 62), .nilCheck (.t 61), none, 1, []⟩,
    ⟨(some 63), .fieldAddr 0 (.t 62), none, 2, []⟩,
    ⟨(some 64), .move (.t 5), none, 3, []⟩,
    ⟨(some 65), .buildSlice 1 1 [.int .i64 0] [(0, 1, (.t 64))], none, 4, []⟩,
    ⟨(some 66), .call F.bits_Map_Clear [(.t 63), (.t 65)], none, 5, []⟩]) (RC.skip))) (RC.seq (RC.region 1 [
    ⟨(some 4), .move (.c (.s (.bool true))), none, 0, []⟩]) (RC.ret)))))))))
theorem ready_Queue_Remove_ok : chkFunc Go.Proofs.Tryd.prog [0] Go.Proofs.Tryd.f29 ready_Queue_Remove = true := by kernel_rfl
def ready_Queue_Change : RFunc := RFunc.mk 20 [.tmp 6] (
  RC.seq (RC.region 1 [
    ⟨(some 6), .move (.c (.s (.bool false))), none, 0, []⟩]) (RC.seq (RC.seq (RC.region 9 [
    ⟨(some 7), .move (.t 2), none, 0, []⟩,
    ⟨(some 8), .call F.ready_may [(.t 7)], none, 1, []⟩,
    ⟨(some 9), .un .not (.t 8), none, 2, []⟩,
    ⟨(some 10), .move (.t 9), none, 3, []⟩,
    ⟨(some 11), .move (.t 0), (some (10, false)), 4, []⟩,
    ⟨(some 12), .move (.t 1), (some (10, false)), 5, []⟩,
    ⟨(some 13), .call F.ready_Queue_Remove [(.t 11), (.t 12)], (some (10, false)), 6, []⟩,
    ⟨(some 14), .un .not (.t 13), (some (10, false)), 7, []⟩,
    ⟨(some 15), .pick (.t 10) (.c (.s (.bool true))) (.t 14), none, 8, []⟩]) (RC.cond (.t 15) (RC.seq (RC.region 1 [
    ⟨(some 6), .move (.c (.s (.bool false))), none, 0, []⟩]) (RC.ret)) (RC.skip))) (RC.seq (RC.region 4 [
    ⟨(some 16), .move (.t 0), none, 0, []⟩,
    ⟨(some 17), .move (.t 1), none, 1, []⟩,
    ⟨(some 18), .move (.t 2), none, 2, []⟩,
    ⟨(some 19), .call F.ready_Queue_put [(.t 16), (.t 17), (.t 18)], none, 3, []⟩]) (RC.seq (RC.region 1 [
    ⟨(some 6), .move (.c (.s (.bool true))), none, 0, []⟩]) (RC.ret)))))
theorem ready_Queue_Change_ok : chkFunc Go.Proofs.Tryd.prog [0] Go.Proofs.Tryd.f30 ready_Queue_Change = true := by kernel_rfl
def detentref9_Queue_Add : RFunc := RFunc.mk 38 [.tmp 6] (
  RC.seq (RC.region 1 [
    ⟨(some 6), .move (.c (.s (.int .i64 0))), none, 0, []⟩]) (RC.seq (RC.seq (RC.region 11 [
    ⟨(some 7), .move (.t 1), none, 0, []⟩,
    ⟨(some 8), .bin .lss (.t 7) (.c (.s (.int .i64 1))), none, 1, []⟩,
    ⟨(some 9), .move (.t 8), none, 2, []⟩,
    ⟨(some 10), .move (.t 1), (some (9, false)), 3, []⟩,
    ⟨(some 11), .bin .gtr (.t 10) (.c (.s (.int .i64 16))), (some (9, false)), 4, []⟩,
    ⟨(some 12), .pick (.t 9) (.c (.s (.bool true))) (.t 11), none, 5, []⟩,
    ⟨(some 13), .move (.t 12), none, 6, []⟩,
    ⟨(some 14), .move (.t 2), (some (13, false)), 7, []⟩,
    ⟨(some 15), .call F.detentref9_good [(.t 14)], (some (13, false)), 8, []⟩,
    ⟨(some 16), .un .not (.t 15), (some (13, false)), 9, []⟩,
    ⟨(some 17), .pick (.t 13) (.c (.s (.bool true))) (.t 16), none, 10, []⟩]) (RC.cond (.t 17) (RC.seq (RC.region 1 [
    ⟨(some 6), .move (.c (.s (.int .i64 (-17)))), none, 0, []⟩]) (RC.ret)) (RC.skip))) (RC.seq (RC.seq (RC.region 4 [
    ⟨(some 18), .move (.t 0), none, 0, []⟩,
    ⟨(some 19), .move (.t 1), none, 1, []⟩,
    ⟨(some 20), .call F.detentref9_Queue_Pri [(.t 18), (.t 19)], none, 2, []⟩,
    ⟨(some 21), .bin .gtr (.t 20) (.c (.s (.int .i64 0))), none, 3, []⟩]) (RC.cond (.t 21) (RC.seq (RC.region 1 [
    ⟨(some 6), .move (.c (.s (.int .i64 (-41)))), none, 0, []⟩]) (RC.ret)) (RC.skip))) (RC.seq (RC.region 17 [
    ⟨(some 22), .move (.t 0), none, 0, []⟩,
    ⟨(some 23), .move (.t 2), none, 1, []⟩,
    ⟨(some 25), .move (.t 0), none, 3, []⟩,
    ⟨(some 26), .move (.t 2), none, 4, []⟩,
    ⟨(some 27), .nilCheck (.t 25), none, 5, []⟩,
    ⟨(some 28), .fieldAddr 0 (.t 27), none, 6, []⟩,
    ⟨(some 29), .indexArr 17 1 (.t 28) (.t 26), none, 7, []⟩,
    ⟨(some 30), .load none (.t 29), none, 8, []⟩,
    ⟨(some 32), .move (.t 1), none, 10, []⟩,
    ⟨(some 35), .nilCheck (.t 22), none, 13, []⟩,
    ⟨(some 36), .fieldAddr 0 (.t 35), none, 14, []⟩,
    ⟨(some 24), .buildSlice 1 0 [] [], none, 2, []⟩,
    ⟨(some 31), .append 1 8 (.t 24) (.t 30), none, 9, []⟩,
    ⟨(some 33), .buildSlice 1 1 [.int .i64 0] [(0, 1, (.t 32))], none, 11, []⟩,
    ⟨(some 34), .append 1 8 (.t 31) (.t 33), none, 12, []⟩,
    ⟨(some 37), .indexArr 17 1 (.t 36) (.t 23), none, 15, []⟩,
    ⟨none, .store 1 (.t 37) (.t 34), none, 16, []⟩]) (RC.seq (RC.region 1 [
    ⟨(some 6), .move (.c (.s (.int .i64 0))), none, 0, []⟩]) (RC.ret))))))
theorem detentref9_Queue_Add_ok : chkFunc Go.Proofs.Tryd.prog [0] Go.Proofs.Tryd.f31 detentref9_Queue_Add = true := by kernel_rfl
def detentref9_Queue_Remove_l0 : RC :=
  RC.seq (RC.seq (RC.region 9 [
    ⟨(some 13), .move (.t 7), none, 0, []⟩,
    ⟨(some 14), .move (.t 0), none, 1, []⟩,
    ⟨(some 15), .move (.t 5), none, 2, []⟩,
    ⟨(some 16), .nilCheck (.t 14), none, 3, []⟩,
    ⟨(some 17), .fieldAddr 0 (.t 16), none, 4, []⟩,
    ⟨(some 18), .indexArr 17 1 (.t 17) (.t 15), none, 5, []⟩,
    ⟨(some 19), .load none (.t 18), none, 6, []⟩,
    ⟨(some 20), .len (.t 19), none, 7, []⟩,
    ⟨(some 21), .bin .lss (.t 13) (.t 20), none, 8, []⟩]) (RC.cond (.t 21) (RC.skip) (RC.exit 0))) (RC.seq (RC.block 1 (RC.seq (RC.region 11 [
    ⟨(some 24), .move (.t 0), none, 0, []⟩,
    ⟨(some 25), .move (.t 5), none, 1, []⟩,
    ⟨(some 26), .nilCheck (.t 24), none, 2, []⟩,
    ⟨(some 27), .fieldAddr 0 (.t 26), none, 3, []⟩,
    ⟨(some 28), .indexArr 17 1 (.t 27) (.t 25), none, 4, []⟩,
    ⟨(some 29), .load none (.t 28), none, 5, []⟩,
    ⟨(some 30), .move (.t 7), none, 6, []⟩,
    ⟨(some 31), .indexSl 1 (.t 29) (.t 30), none, 7, []⟩,
    ⟨(some 32), .load none (.t 31), none, 8, []⟩,
    ⟨(some 33), .move (.t 1), none, 9, []⟩,
    ⟨(some 34), .bin .neq (.t 32) (.t 33), none, 10, []⟩]) (RC.cond (.t 34) (RC.region 13 [
    ⟨(some 35), .move (.t 6), none, 0, []⟩,
    ⟨(some 36), .move (.t 0), none, 1, []⟩,
    ⟨(some 37), .move (.t 5), none, 2, []⟩,
    ⟨(some 38), .nilCheck (.t 36), none, 3, []⟩,
    ⟨(some 39), .fieldAddr 0 (.t 38), none, 4, []⟩,
    ⟨(some 40), .indexArr 17 1 (.t 39) (.t 37), none, 5, []⟩,
    ⟨(some 41), .load none (.t 40), none, 6, []⟩,
    ⟨(some 42), .move (.t 7), none, 7, []⟩,
    ⟨(some 43), .indexSl 1 (.t 41) (.t 42), none, 8, []⟩,
    ⟨(some 44), .load none (.t 43), none, 9, []⟩,
    ⟨(some 45), .buildSlice 1 1 [.int .i64 0] [(0, 1, (.t 44))], none, 10, []⟩,
    ⟨(some 46), .append 1 8 (.t 35) (.t 45), none, 11, []⟩,
    ⟨(some 6), .move (.t 46), none, 12, []⟩]) (RC.skip)))) (RC.region 3 [
    ⟨(some 22), .move (.t 7), none, 0, []⟩,
    ⟨(some 23), .bin .add (.t 22) (.c (.s (.int .i64 1))), none, 1, []⟩,
    ⟨(some 7), .move (.t 23), none, 2, []⟩]))
def detentref9_Queue_Remove_s1 : RC :=
  RC.seq (RC.region 7 [
    ⟨(some 47), .move (.t 0), none, 0, []⟩,
    ⟨(some 48), .move (.t 5), none, 1, []⟩,
    ⟨(some 49), .move (.t 6), none, 2, []⟩,
    ⟨(some 50), .nilCheck (.t 47), none, 3, []⟩,
    ⟨(some 51), .fieldAddr 0 (.t 50), none, 4, []⟩,
    ⟨(some 52), .indexArr 17 1 (.t 51) (.t 48), none, 5, []⟩,
    ⟨none, .store 1 (.t 52) (.t 49), none, 6, []⟩]) (RC.seq (RC.region 1 [
    ⟨(some 4), .move (.c (.s (.bool true))), none, 0, []⟩]) (RC.ret))
def detentref9_Queue_Remove : RFunc := RFunc.mk 53 [.tmp 4] (
  RC.seq (RC.region 1 [
    ⟨(some 4), .move (.c (.s (.bool false))), none, 0, []⟩]) (RC.seq (RC.region 4 [
    ⟨(some 8), .move (.t 0), none, 0, []⟩,
    ⟨(some 9), .move (.t 1), none, 1, []⟩,
    ⟨(some 10), .call F.detentref9_Queue_Pri [(.t 8), (.t 9)], none, 2, []⟩,
    ⟨(some 5), .move (.t 10), none, 3, []⟩]) (RC.seq (RC.seq (RC.region 2 [
    ⟨(some 11), .move (.t 5), none, 0, []⟩,
    ⟨(some 12), .bin .eql (.t 11) (.c (.s (.int .i64 0))), none, 1, []⟩]) (RC.cond (.t 12) (RC.seq (RC.region 1 [
    ⟨(some 4), .move (.c (.s (.bool false))), none, 0, []⟩]) (RC.ret)) (RC.skip))) (RC.seq (RC.region 1 [
    ⟨(some 6), .move (.c (.s (.slice none 0 0 1))), none, 0, []⟩]) (RC.seq (RC.seq (RC.region 1 [
    ⟨(some 7), .move (.c (.s (.int .i64 0))), none, 0, []⟩]) (RC.block 0 (RC.loop R.detentref9_Queue_Remove_l0))) R.detentref9_Queue_Remove_s1)))))
theorem detentref9_Queue_Remove_ok : chkFunc Go.Proofs.Tryd.prog [0] Go.Proofs.Tryd.f32 detentref9_Queue_Remove = true := by kernel_rfl
def detentref9_Queue_Change : RFunc := RFunc.mk 20 [.tmp 6] (
  RC.seq (RC.region 1 [
    ⟨(some 6), .move (.c (.s (.bool false))), none, 0, []⟩]) (RC.seq (RC.seq (RC.region 9 [
    ⟨(some 7), .move (.t 2), none, 0, []⟩,
    ⟨(some 8), .call F.detentref9_good [(.t 7)], none, 1, []⟩,
    ⟨(some 9), .un .not (.t 8), none, 2, []⟩,
    ⟨(some 10), .move (.t 9), none, 3, []⟩,
    ⟨(some 11), .move (.t 0), (some (10, false)), 4, []⟩,
    ⟨(some 12), .move (.t 1), (some (10, false)), 5, []⟩,
    ⟨(some 13), .call F.detentref9_Queue_Remove [(.t 11), (.t 12)], (some (10, false)), 6, []⟩,
    ⟨(some 14), .un .not (.t 13), (some (10, false)), 7, []⟩,
    ⟨(some 15), .pick (.t 10) (.c (.s (.bool true))) (.t 14), none, 8, []⟩]) (RC.cond (.t 15) (RC.seq (RC.region 1 [
    ⟨(some 6), .move (.c (.s (.bool false))), none, 0, []⟩]) (RC.ret)) (RC.skip))) (RC.seq (RC.region 4 [
    ⟨(some 16), .move (.t 0), none, 0, []⟩,
    ⟨(some 17), .move (.t 1), none, 1, []⟩,
    ⟨(some 18), .move (.t 2), none, 2, []⟩,
    ⟨(some 19), .call F.detentref9_Queue_Add [(.t 16), (.t 17), (.t 18)], none, 3, []⟩]) (RC.seq (RC.region 1 [
    ⟨(some 6), .move (.c (.s (.bool true))), none, 0, []⟩]) (RC.ret)))))
theorem detentref9_Queue_Change_ok : chkFunc Go.Proofs.Tryd.prog [0] Go.Proofs.Tryd.f33 detentref9_Queue_Change = true := by kernel_rfl
def detentref9_Queue_Rotate : RFunc := RFunc.mk 32 [.tmp 4] (
  RC.seq (RC.region 1 [
    ⟨(some 4), .move (.c (.s (.int .i64 0))), none, 0, []⟩]) (RC.seq (RC.seq (RC.region 3 [
    ⟨(some 6), .move (.t 1), none, 0, []⟩,
    ⟨(some 7), .call F.detentref9_good [(.t 6)], none, 1, []⟩,
    ⟨(some 8), .un .not (.t 7), none, 2, []⟩]) (RC.cond (.t 8) (RC.seq (RC.region 1 [
    ⟨(some 4), .move (.c (.s (.int .i64 (-17)))), none, 0, []⟩]) (RC.ret)) (RC.skip))) (RC.seq (RC.region 7 [
    ⟨(some 9), .move (.t 0), none, 0, []⟩,
    ⟨(some 10), .move (.t 1), none, 1, []⟩,
    ⟨(some 11), .nilCheck (.t 9), none, 2, []⟩,
    ⟨(some 12), .fieldAddr 0 (.t 11), none, 3, []⟩,
    ⟨(some 13), .indexArr 17 1 (.t 12) (.t 10), none, 4, []⟩,
    ⟨(some 14), .load none (.t 13), none, 5, []⟩,
    ⟨(some 5), .move (.t 14), none, 6, []⟩]) (RC.seq (RC.seq (RC.region 3 [
    ⟨(some 15), .move (.t 5), none, 0, []⟩,
    ⟨(some 16), .len (.t 15), none, 1, []⟩,
    ⟨(some 17), .bin .gtr (.t 16) (.c (.s (.int .i64 1))), none, 2, []⟩]) (RC.cond (.t 17) (RC.region 15 [
    ⟨(some 18), .move (.t 0), none, 0, []⟩,
    ⟨(some 19), .move (.t 1), none, 1, []⟩,
    ⟨(some 21), .move (.t 5), none, 3, []⟩,
    ⟨(some 22), .slSl 1 (.t 21) (some (.c (.s (.int .i64 1)))) none none, none, 4, []⟩,
    ⟨(some 24), .move (.t 5), none, 6, []⟩,
    ⟨(some 25), .indexSl 1 (.t 24) (.c (.s (.int .i64 0))), none, 7, []⟩,
    ⟨(some 26), .load none (.t 25), none, 8, []⟩,
    ⟨(some 29), .nilCheck (.t 18), none, 11, []⟩,
    ⟨(some 30), .fieldAddr 0 (.t 29), none, 12, []⟩,
    ⟨(some 20), .buildSlice 1 0 [] [], none, 2, []⟩,
    ⟨(some 23), .append 1 8 (.t 20) (.t 22), none, 5, [⟨26, none, (.t 25), none⟩]⟩,
    ⟨(some 27), .buildSlice 1 1 [.int .i64 0] [(0, 1, (.t 26))], none, 9, []⟩,
    ⟨(some 28), .append 1 8 (.t 23) (.t 27), none, 10, []⟩,
    ⟨(some 31), .indexArr 17 1 (.t 30) (.t 19), none, 13, []⟩,
    ⟨none, .store 1 (.t 31) (.t 28), none, 14, []⟩]) (RC.skip))) (RC.seq (RC.region 1 [
    ⟨(some 4), .move (.c (.s (.int .i64 0))), none, 0, []⟩]) (RC.ret))))))
theorem detentref9_Queue_Rotate_ok : chkFunc Go.Proofs.Tryd.prog [0] Go.Proofs.Tryd.f34 detentref9_Queue_Rotate = true := by kernel_rfl
def ready_Queue_Twin_l0 : RC :=
  RC.seq (RC.region 1 [
    ⟨(some 14), .bin .lss (.t 13) (.c (.s (.int .i64 17))), none, 0, []⟩]) (RC.seq (RC.cond (.t 14) (RC.skip) (RC.exit 0)) (RC.seq (RC.block 1 (RC.seq (RC.region 4 [
    ⟨(some 15), .move (.t 13), none, 0, []⟩,
    ⟨(some 16), .index 17 1 none (.t 12) (.t 13), none, 1, []⟩,
    ⟨(some 4), .move (.t 15), none, 2, []⟩,
    ⟨(some 5), .move (.t 16), none, 3, []⟩]) (RC.region 6 [
    ⟨(some 17), .move (.t 4), none, 0, []⟩,
    ⟨(some 18), .move (.t 5), none, 1, []⟩,
    ⟨(some 19), .call F.slices_Clone__int_int [(.t 18)], none, 2, []⟩,
    ⟨(some 20), .fieldAddr 4 (.t 3), none, 3, []⟩,
    ⟨(some 21), .indexArr 17 1 (.t 20) (.t 17), none, 4, []⟩,
    ⟨none, .store 1 (.t 21) (.t 19), none, 5, []⟩]))) (RC.region 2 [
    ⟨(some 22), .bin .add (.t 13) (.c (.s (.int .i64 1))), none, 0, []⟩,
    ⟨(some 13), .move (.t 22), none, 1, []⟩])))
def ready_Queue_Twin_s1 : RC :=
  RC.seq (RC.region 1 [
    ⟨(some 2), .move (.t 3), none, 0, []⟩]) (RC.ret)
def ready_Queue_Twin : RFunc := RFunc.mk 23 [.tmp 2] (
  RC.seq (RC.region 1 [
    ⟨(some 2), .move (.c (.s (.ptr none))), none, 0, []⟩]) (RC.seq (RC.region 5 [
    ⟨(some 6), .move (.t 0), none, 0, []⟩,
    ⟨(some 7), .nilCheck (.t 6), none, 1, []⟩,
    ⟨(some 8), .load (some 38) (.t 7), none, 2, []⟩,
    ⟨(some 3), .newc [.int .u64 0, .int .u64 0, .int .u64 0, .int .u64 0, .slice none 0 0 1, .slice none 0 0 1, .slice none 0 0 1, .slice none 0 0 1, .slice none 0 0 1, .slice none 0 0 1, .slice none 0 0 1, .slice none 0 0 1, .slice none 0 0 1, .slice none 0 0 1, .slice none 0 0 1, .slice none 0 0 1, .slice none 0 0 1, .slice none 0 0 1, .slice none 0 0 1, .slice none 0 0 1, .slice none 0 0 1, .int .i64 0, .int .i64 0, .int .i64 0, .int .i64 0, .int .i64 0, .int .i64 0, .int .i64 0, .int .i64 0, .int .i64 0, .int .i64 0, .int .i64 0, .int .i64 0, .int .i64 0, .int .i64 0, .int .i64 0, .int .i64 0, .int .i64 0], none, 3, []⟩,
    ⟨none, .store 38 (.t 3) (.t 8), none, 4, []⟩]) (RC.seq (RC.seq (RC.region 5 [
    ⟨(some 9), .move (.t 0), none, 0, []⟩,
    ⟨(some 10), .nilCheck (.t 9), none, 1, []⟩,
    ⟨(some 11), .fieldAddr 4 (.t 10), none, 2, []⟩,
    ⟨(some 12), .load (some 17) (.t 11), none, 3, []⟩,
    ⟨(some 13), .move (.c (.s (.int .i64 0))), none, 4, []⟩]) (RC.block 0 (RC.loop R.ready_Queue_Twin_l0))) R.ready_Queue_Twin_s1)))
theorem ready_Queue_Twin_ok : chkFunc Go.Proofs.Tryd.prog [0] Go.Proofs.Tryd.f35 ready_Queue_Twin = true := by kernel_rfl
def detentlaw9_same_s0 : RC :=
  RC.seq (RC.seq (RC.region 6 [
    ⟨(some 51), .move (.t 0), none, 0, []⟩,
    ⟨(some 52), .move (.t 7), none, 1, []⟩,
    ⟨(some 53), .call F.ready_Queue_Row [(.t 51), (.t 52)], none, 2, []⟩,
    ⟨(some 54), .move (.t 8), none, 3, []⟩,
    ⟨(some 55), .call F.detentlaw3_Same [(.t 53), (.t 54)], none, 4, []⟩,
    ⟨(some 56), .un .not (.t 55), none, 5, []⟩]) (RC.cond (.t 56) (RC.seq (RC.region 1 [
    ⟨(some 4), .move (.c (.s (.bool false))), none, 0, []⟩]) (RC.ret)) (RC.skip))) (RC.seq (RC.region 8 [
    ⟨(some 58), .move (.t 0), none, 0, []⟩,
    ⟨(some 59), .move (.t 7), none, 1, []⟩,
    ⟨(some 60), .call F.ready_Queue_Pri [(.t 58), (.t 59)], none, 2, []⟩,
    ⟨(some 57), .move (.t 60), none, 3, []⟩,
    ⟨(some 61), .extract 0 (.t 57), none, 4, []⟩,
    ⟨(some 62), .extract 1 (.t 57), none, 5, []⟩,
    ⟨(some 9), .move (.t 61), none, 6, []⟩,
    ⟨(some 10), .move (.t 62), none, 7, []⟩]) (RC.seq (RC.region 13 [
    ⟨(some 63), .move (.t 9), none, 0, []⟩,
    ⟨(some 64), .move (.t 1), none, 1, []⟩,
    ⟨(some 65), .move (.t 7), none, 2, []⟩,
    ⟨(some 66), .call F.detentref9_Queue_Pri [(.t 64), (.t 65)], none, 3, []⟩,
    ⟨(some 67), .bin .neq (.t 63) (.t 66), none, 4, []⟩,
    ⟨(some 68), .move (.t 67), none, 5, []⟩,
    ⟨(some 69), .move (.t 10), (some (68, false)), 6, []⟩,
    ⟨(some 70), .move (.t 1), (some (68, false)), 7, []⟩,
    ⟨(some 71), .move (.t 7), (some (68, false)), 8, []⟩,
    ⟨(some 72), .call F.detentref9_Queue_Pri [(.t 70), (.t 71)], (some (68, false)), 9, []⟩,
    ⟨(some 73), .bin .neq (.t 72) (.c (.s (.int .i64 0))), (some (68, false)), 10, []⟩,
    ⟨(some 74), .eqs .bool true (.t 69) (.t 73), (some (68, false)), 11, []⟩,
    ⟨(some 75), .pick (.t 68) (.c (.s (.bool true))) (.t 74), none, 12, []⟩]) (RC.cond (.t 75) (RC.seq (RC.region 1 [
    ⟨(some 4), .move (.c (.s (.bool false))), none, 0, []⟩]) (RC.ret)) (RC.skip))))
def detentlaw9_same_s1 : RC :=
  RC.region 3 [
    ⟨(some 37), .move (.t 7), none, 0, []⟩,
    ⟨(some 38), .bin .add (.t 37) (.c (.s (.int .i64 1))), none, 1, []⟩,
    ⟨(some 7), .move (.t 38), none, 2, []⟩]
def detentlaw9_same_l2 : RC :=
  RC.seq (RC.seq (RC.region 2 [
    ⟨(some 35), .move (.t 7), none, 0, []⟩,
    ⟨(some 36), .bin .leq (.t 35) (.c (.s (.int .i64 17))), none, 1, []⟩]) (RC.cond (.t 36) (RC.skip) (RC.exit 0))) (RC.seq (RC.block 1 (RC.seq (RC.region 1 [
    ⟨(some 8), .move (.c (.s (.slice none 0 0 1))), none, 0, []⟩]) (RC.seq (RC.seq (RC.region 6 [
    ⟨(some 39), .move (.t 7), none, 0, []⟩,
    ⟨(some 40), .bin .geq (.t 39) (.c (.s (.int .i64 1))), none, 1, []⟩,
    ⟨(some 41), .move (.t 40), none, 2, []⟩,
    ⟨(some 42), .move (.t 7), (some (41, true)), 3, []⟩,
    ⟨(some 43), .bin .leq (.t 42) (.c (.s (.int .i64 16))), (some (41, true)), 4, []⟩,
    ⟨(some 44), .pick (.t 41) (.t 43) (.c (.s (.bool false))), none, 5, []⟩]) (RC.cond (.t 44) (RC.region 7 [
    ⟨(some 45), .move (.t 1), none, 0, []⟩,
    ⟨(some 46), .move (.t 7), none, 1, []⟩,
    ⟨(some 47), .nilCheck (.t 45), none, 2, []⟩,
    ⟨(some 48), .fieldAddr 0 (.t 47), none, 3, []⟩,
    ⟨(some 49), .indexArr 17 1 (.t 48) (.t 46), none, 4, []⟩,
    ⟨(some 50), .load none (.t 49), none, 5, []⟩,
    ⟨(some 8), .move (.t 50), none, 6, []⟩]) (RC.skip))) R.detentlaw9_same_s0))) R.detentlaw9_same_s1)
def detentlaw9_same_s3 : RC :=
  RC.seq (RC.region 1 [
    ⟨(some 4), .move (.c (.s (.bool true))), none, 0, []⟩]) (RC.ret)
def detentlaw9_same : RFunc := RFunc.mk 76 [.tmp 4] (
  RC.seq (RC.region 1 [
    ⟨(some 4), .move (.c (.s (.bool false))), none, 0, []⟩]) (RC.seq (RC.region 7 [
    ⟨(some 12), .move (.t 0), none, 0, []⟩,
    ⟨(some 13), .call F.ready_Queue_First [(.t 12)], none, 1, []⟩,
    ⟨(some 11), .move (.t 13), none, 2, []⟩,
    ⟨(some 14), .extract 0 (.t 11), none, 3, []⟩,
    ⟨(some 15), .extract 1 (.t 11), none, 4, []⟩,
    ⟨(some 5), .move (.t 14), none, 5, []⟩,
    ⟨(some 6), .move (.t 15), none, 6, []⟩]) (RC.seq (RC.seq (RC.region 19 [
    ⟨(some 16), .move (.t 5), none, 0, []⟩,
    ⟨(some 17), .move (.t 1), none, 1, []⟩,
    ⟨(some 18), .call F.detentref9_Queue_First [(.t 17)], none, 2, []⟩,
    ⟨(some 19), .bin .neq (.t 16) (.t 18), none, 3, []⟩,
    ⟨(some 20), .move (.t 19), none, 4, []⟩,
    ⟨(some 21), .move (.t 6), (some (20, false)), 5, []⟩,
    ⟨(some 22), .move (.t 1), (some (20, false)), 6, []⟩,
    ⟨(some 23), .call F.detentref9_Queue_First [(.t 22)], (some (20, false)), 7, []⟩,
    ⟨(some 24), .bin .neq (.t 23) (.c (.s (.int .i64 0))), (some (20, false)), 8, []⟩,
    ⟨(some 25), .eqs .bool true (.t 21) (.t 24), (some (20, false)), 9, []⟩,
    ⟨(some 26), .pick (.t 20) (.c (.s (.bool true))) (.t 25), none, 10, []⟩,
    ⟨(some 27), .move (.t 26), none, 11, []⟩,
    ⟨(some 28), .move (.t 0), (some (27, false)), 12, []⟩,
    ⟨(some 29), .call F.ready_Queue_All [(.t 28)], (some (27, false)), 13, []⟩,
    ⟨(some 30), .move (.t 1), (some (27, false)), 14, []⟩,
    ⟨(some 31), .call F.detentref9_Queue_All [(.t 30)], (some (27, false)), 15, []⟩,
    ⟨(some 32), .call F.detentlaw3_Same [(.t 29), (.t 31)], (some (27, false)), 16, []⟩,
    ⟨(some 33), .un .not (.t 32), (some (27, false)), 17, []⟩,
    ⟨(some 34), .pick (.t 27) (.c (.s (.bool true))) (.t 33), none, 18, []⟩]) (RC.cond (.t 34) (RC.seq (RC.region 1 [
    ⟨(some 4), .move (.c (.s (.bool false))), none, 0, []⟩]) (RC.ret)) (RC.skip))) (RC.seq (RC.seq (RC.region 1 [
    ⟨(some 7), .move (.c (.s (.int .i64 0))), none, 0, []⟩]) (RC.block 0 (RC.loop R.detentlaw9_same_l2))) R.detentlaw9_same_s3))))
theorem detentlaw9_same_ok : chkFunc Go.Proofs.Tryd.prog [0] Go.Proofs.Tryd.f36 detentlaw9_same = true := by kernel_rfl
def bits_place : RFunc := RFunc.mk 18 [.tmp 2, .tmp 3, .tmp 4] (
  RC.seq (RC.region 3 [
    ⟨(some 2), .move (.c (.s (.int .i64 0))), none, 0, []⟩,
    ⟨(some 3), .move (.c (.s (.int .u64 0))), none, 1, []⟩,
    ⟨(some 4), .move (.c (.s (.bool false))), none, 2, []⟩]) (RC.seq (RC.seq (RC.region 6 [
    ⟨(some 5), .move (.t 0), none, 0, []⟩,
    ⟨(some 6), .bin .lss (.t 5) (.c (.s (.int .i64 1))), none, 1, []⟩,
    ⟨(some 7), .move (.t 6), none, 2, []⟩,
    ⟨(some 8), .move (.t 0), (some (7, false)), 3, []⟩,
    ⟨(some 9), .bin .gtr (.t 8) (.c (.s (.int .i64 256))), (some (7, false)), 4, []⟩,
    ⟨(some 10), .pick (.t 7) (.c (.s (.bool true))) (.t 9), none, 5, []⟩]) (RC.cond (.t 10) (RC.seq (RC.region 3 [
    ⟨(some 2), .move (.c (.s (.int .i64 0))), none, 0, []⟩,
    ⟨(some 3), .move (.c (.s (.int .u64 0))), none, 1, []⟩,
    ⟨(some 4), .move (.c (.s (.bool false))), none, 2, []⟩]) (RC.ret)) (RC.skip))) (RC.seq (RC.region 10 [
    ⟨(some 11), .move (.t 0), none, 0, []⟩,
    ⟨(some 12), .bin .sub (.t 11) (.c (.s (.int .i64 1))), none, 1, []⟩,
    ⟨(some 13), .bin .quo (.t 12) (.c (.s (.int .i64 64))), none, 2, []⟩,
    ⟨(some 14), .move (.t 0), none, 3, []⟩,
    ⟨(some 15), .bin .sub (.t 14) (.c (.s (.int .i64 1))), none, 4, []⟩,
    ⟨(some 16), .bin .rem (.t 15) (.c (.s (.int .i64 64))), none, 5, []⟩,
    ⟨(some 17), .bin .shl (.c (.s (.int .u64 1))) (.t 16), none, 6, []⟩,
    ⟨(some 2), .move (.t 13), none, 7, []⟩,
    ⟨(some 3), .move (.t 17), none, 8, []⟩,
    ⟨(some 4), .move (.c (.s (.bool true))), none, 9, []⟩]) (RC.ret))))
theorem bits_place_ok : chkFunc Go.Proofs.Tryd.prog [0] Go.Proofs.Tryd.f37 bits_place = true := by kernel_rfl
def math_bits_TrailingZeros64 : RFunc := RFunc.mk 14 [.tmp 2] (
  RC.seq (RC.region 1 [
    ⟨(some 2), .move (.c (.s (.int .i64 0))), none, 0, []⟩]) (RC.seq (RC.seq (RC.region 2 [
    ⟨(some 3), .move (.t 0), none, 0, []⟩,
    ⟨(some 4), .bin .eql (.t 3) (.c (.s (.int .u64 0))), none, 1, []⟩]) (RC.cond (.t 4) (RC.seq (RC.region 1 [
    ⟨(some 2), .move (.c (.s (.int .i64 64))), none, 0, []⟩]) (RC.ret)) (RC.skip))) (RC.seq (RC.region 10 [
    ⟨(some 5), .move (.t 0), none, 0, []⟩,
    ⟨(some 6), .move (.t 0), none, 1, []⟩,
    ⟨(some 7), .un .neg (.t 6), none, 2, []⟩,
    ⟨(some 8), .bin .and (.t 5) (.t 7), none, 3, []⟩,
    ⟨(some 9), .bin .mul (.t 8) (.c (.s (.int .u64 285870213051353865))), none, 4, []⟩,
    ⟨(some 10), .bin .shr (.t 9) (.c (.s (.int .u64 58))), none, 5, []⟩,
    ⟨(some 11), .indexArr 64 1 (.g 0) (.t 10), none, 6, []⟩,
    ⟨(some 12), .load none (.t 11), none, 7, []⟩,
    ⟨(some 13), .conv .i64 (.t 12), none, 8, []⟩,
    ⟨(some 2), .move (.t 13), none, 9, []⟩]) (RC.ret))))
theorem math_bits_TrailingZeros64_ok : chkFunc Go.Proofs.Tryd.prog [0] Go.Proofs.Tryd.f38 math_bits_TrailingZeros64 = true := by kernel_rfl
def math_bits_OnesCount64 : RFunc := RFunc.mk 35 [.tmp 2] (
  RC.seq (RC.region 1 [
    ⟨(some 2), .move (.c (.s (.int .i64 0))), none, 0, []⟩]) (RC.seq (RC.region 7 [
    ⟨(some 3), .move (.t 0), none, 0, []⟩,
    ⟨(some 4), .bin .shr (.t 3) (.c (.s (.int .u64 1))), none, 1, []⟩,
    ⟨(some 5), .bin .and (.t 4) (.c (.s (.int .u64 6148914691236517205))), none, 2, []⟩,
    ⟨(some 6), .move (.t 0), none, 3, []⟩,
    ⟨(some 7), .bin .and (.t 6) (.c (.s (.int .u64 6148914691236517205))), none, 4, []⟩,
    ⟨(some 8), .bin .add (.t 5) (.t 7), none, 5, []⟩,
    ⟨(some 0), .move (.t 8), none, 6, []⟩]) (RC.seq (RC.region 7 [
    ⟨(some 9), .move (.t 0), none, 0, []⟩,
    ⟨(some 10), .bin .shr (.t 9) (.c (.s (.int .u64 2))), none, 1, []⟩,
    ⟨(some 11), .bin .and (.t 10) (.c (.s (.int .u64 3689348814741910323))), none, 2, []⟩,
    ⟨(some 12), .move (.t 0), none, 3, []⟩,
    ⟨(some 13), .bin .and (.t 12) (.c (.s (.int .u64 3689348814741910323))), none, 4, []⟩,
    ⟨(some 14), .bin .add (.t 11) (.t 13), none, 5, []⟩,
    ⟨(some 0), .move (.t 14), none, 6, []⟩]) (RC.seq (RC.region 6 [
    ⟨(some 15), .move (.t 0), none, 0, []⟩,
    ⟨(some 16), .bin .shr (.t 15) (.c (.s (.int .u64 4))), none, 1, []⟩,
    ⟨(some 17), .move (.t 0), none, 2, []⟩,
    ⟨(some 18), .bin .add (.t 16) (.t 17), none, 3, []⟩,
    ⟨(some 19), .bin .and (.t 18) (.c (.s (.int .u64 1085102592571150095))), none, 4, []⟩,
    ⟨(some 0), .move (.t 19), none, 5, []⟩]) (RC.seq (RC.region 5 [
    ⟨(some 20), .move (.t 0), none, 0, []⟩,
    ⟨(some 21), .move (.t 0), none, 1, []⟩,
    ⟨(some 22), .bin .shr (.t 21) (.c (.s (.int .u64 8))), none, 2, []⟩,
    ⟨(some 23), .bin .add (.t 20) (.t 22), none, 3, []⟩,
    ⟨(some 0), .move (.t 23), none, 4, []⟩]) (RC.seq (RC.region 5 [
    ⟨(some 24), .move (.t 0), none, 0, []⟩,
    ⟨(some 25), .move (.t 0), none, 1, []⟩,
    ⟨(some 26), .bin .shr (.t 25) (.c (.s (.int .u64 16))), none, 2, []⟩,
    ⟨(some 27), .bin .add (.t 24) (.t 26), none, 3, []⟩,
    ⟨(some 0), .move (.t 27), none, 4, []⟩]) (RC.seq (RC.region 5 [
    ⟨(some 28), .move (.t 0), none, 0, []⟩,
    ⟨(some 29), .move (.t 0), none, 1, []⟩,
    ⟨(some 30), .bin .shr (.t 29) (.c (.s (.int .u64 32))), none, 2, []⟩,
    ⟨(some 31), .bin .add (.t 28) (.t 30), none, 3, []⟩,
    ⟨(some 0), .move (.t 31), none, 4, []⟩]) (RC.seq (RC.region 4 [
    ⟨(some 32), .move (.t 0), none, 0, []⟩,
    ⟨(some 33), .conv .i64 (.t 32), none, 1, []⟩,
    ⟨(some 34), .bin .and (.t 33) (.c (.s (.int .i64 127))), none, 2, []⟩,
    ⟨(some 2), .move (.t 34), none, 3, []⟩]) (RC.ret)))))))))
theorem math_bits_OnesCount64_ok : chkFunc Go.Proofs.Tryd.prog [0] Go.Proofs.Tryd.f39 math_bits_OnesCount64 = true := by kernel_rfl
def ready_task : RFunc := RFunc.mk 9 [.tmp 2] (
  RC.seq (RC.region 1 [
    ⟨(some 2), .move (.c (.s (.bool false))), none, 0, []⟩]) (RC.seq (RC.region 7 [
    ⟨(some 3), .move (.t 0), none, 0, []⟩,
    ⟨(some 4), .bin .geq (.t 3) (.c (.s (.int .i64 1))), none, 1, []⟩,
    ⟨(some 5), .move (.t 4), none, 2, []⟩,
    ⟨(some 6), .move (.t 0), (some (5, true)), 3, []⟩,
    ⟨(some 7), .bin .leq (.t 6) (.c (.s (.int .i64 16))), (some (5, true)), 4, []⟩,
    ⟨(some 8), .pick (.t 5) (.t 7) (.c (.s (.bool false))), none, 5, []⟩,
    ⟨(some 2), .move (.t 8), none, 6, []⟩]) (RC.ret)))
theorem ready_task_ok : chkFunc Go.Proofs.Tryd.prog [0] Go.Proofs.Tryd.f40 ready_task = true := by kernel_rfl
def ready_may : RFunc := RFunc.mk 9 [.tmp 2] (
  RC.seq (RC.region 1 [
    ⟨(some 2), .move (.c (.s (.bool false))), none, 0, []⟩]) (RC.seq (RC.region 7 [
    ⟨(some 3), .move (.t 0), none, 0, []⟩,
    ⟨(some 4), .bin .geq (.t 3) (.c (.s (.int .i64 1))), none, 1, []⟩,
    ⟨(some 5), .move (.t 4), none, 2, []⟩,
    ⟨(some 6), .move (.t 0), (some (5, true)), 3, []⟩,
    ⟨(some 7), .bin .leq (.t 6) (.c (.s (.int .i64 16))), (some (5, true)), 4, []⟩,
    ⟨(some 8), .pick (.t 5) (.t 7) (.c (.s (.bool false))), none, 5, []⟩,
    ⟨(some 2), .move (.t 8), none, 6, []⟩]) (RC.ret)))
theorem ready_may_ok : chkFunc Go.Proofs.Tryd.prog [0] Go.Proofs.Tryd.f41 ready_may = true := by kernel_rfl
def ready_Queue_put : RFunc := RFunc.mk 32 [] (
  RC.seq (RC.region 15 [
    ⟨(some 6), .move (.t 0), none, 0, []⟩,
    ⟨(some 7), .move (.t 2), none, 1, []⟩,
    ⟨(some 8), .move (.t 0), none, 2, []⟩,
    ⟨(some 9), .move (.t 2), none, 3, []⟩,
    ⟨(some 10), .nilCheck (.t 8), none, 4, []⟩,
    ⟨(some 11), .fieldAddr 4 (.t 10), none, 5, []⟩,
    ⟨(some 12), .indexArr 17 1 (.t 11) (.t 9), none, 6, []⟩,
    ⟨(some 13), .load none (.t 12), none, 7, []⟩,
    ⟨(some 14), .move (.t 1), none, 8, []⟩,
    ⟨(some 17), .nilCheck (.t 6), none, 11, []⟩,
    ⟨(some 18), .fieldAddr 4 (.t 17), none, 12, []⟩,
    ⟨(some 15), .buildSlice 1 1 [.int .i64 0] [(0, 1, (.t 14))], none, 9, []⟩,
    ⟨(some 16), .append 1 8 (.t 13) (.t 15), none, 10, []⟩,
    ⟨(some 19), .indexArr 17 1 (.t 18) (.t 7), none, 13, []⟩,
    ⟨none, .store 1 (.t 19) (.t 16), none, 14, []⟩]) (RC.seq (RC.region 7 [
    ⟨(some 20), .move (.t 0), none, 0, []⟩,
    ⟨(some 21), .move (.t 1), none, 1, []⟩,
    ⟨(some 22), .move (.t 2), none, 2, []⟩,
    ⟨(some 23), .nilCheck (.t 20), none, 3, []⟩,
    ⟨(some 24), .fieldAddr 21 (.t 23), none, 4, []⟩,
    ⟨(some 25), .indexArr 17 1 (.t 24) (.t 21), none, 5, []⟩,
    ⟨none, .store 1 (.t 25) (.t 22), none, 6, []⟩]) (RC.region 6 [
    ⟨(some 26), .move (.t 0), none, 0, []⟩,
    ⟨(some 27), .nilCheck (.t 26), none, 1, []⟩,
    ⟨(some 28), .fieldAddr 0 (.t 27), none, 2, []⟩,
    ⟨(some 29), .move (.t 2), none, 3, []⟩,
    ⟨(some 30), .buildSlice 1 1 [.int .i64 0] [(0, 1, (.t 29))], none, 4, []⟩,
    ⟨(some 31), .call F.bits_Map_Set [(.t 28), (.t 30)], none, 5, []⟩])))
theorem ready_Queue_put_ok : chkFunc Go.Proofs.Tryd.prog [0] Go.Proofs.Tryd.f42 ready_Queue_put = true := by kernel_rfl
def slices_Clip__int_int : RFunc := RFunc.mk 9 [.tmp 2] (
  RC.seq (RC.region 1 [
    ⟨(some 2), .move (.c (.s (.slice none 0 0 1))), none, 0, []⟩]) (RC.seq (RC.region 7 [
    ⟨(some 3), .move (.t 0), none, 0, []⟩,
    ⟨(some 4), .move (.t 0), none, 1, []⟩,
    ⟨(some 5), .len (.t 4), none, 2, []⟩,
    ⟨(some 6), .move (.t 0), none, 3, []⟩,
    ⟨(some 7), .len (.t 6), none, 4, []⟩,
    ⟨(some 8), .slSl 1 (.t 3) none (some (.t 5)) (some (.t 7)), none, 5, []⟩,
    ⟨(some 2), .move (.t 8), none, 6, []⟩]) (RC.ret)))
theorem slices_Clip__int_int_ok : chkFunc Go.Proofs.Tryd.prog [0] Go.Proofs.Tryd.f43 slices_Clip__int_int = true := by kernel_rfl
def slices_Clone__int_int : RFunc := RFunc.mk 8 [.tmp 2] (
  RC.seq (RC.region 1 [
    ⟨(some 2), .move (.c (.s (.slice none 0 0 1))), none, 0, []⟩]) (RC.seq (RC.seq (RC.region 2 [
    ⟨(some 3), .move (.t 0), none, 0, []⟩,
    ⟨(some 4), .eqs .slice false (.t 3) (.c (.s (.slice none 0 0 1))), none, 1, []⟩]) (RC.cond (.t 4) (RC.seq (RC.region 1 [
    ⟨(some 2), .move (.c (.s (.slice none 0 0 1))), none, 0, []⟩]) (RC.ret)) (RC.skip))) (RC.seq (RC.region 4 [
    ⟨(some 5), .buildSlice 1 0 [] [], none, 0, []⟩,
    ⟨(some 6), .move (.t 0), none, 1, []⟩,
    ⟨(some 7), .append 1 8 (.t 5) (.t 6), none, 2, []⟩,
    ⟨(some 2), .move (.t 7), none, 3, []⟩]) (RC.ret))))
theorem slices_Clone__int_int_ok : chkFunc Go.Proofs.Tryd.prog [0] Go.Proofs.Tryd.f44 slices_Clone__int_int = true := by kernel_rfl
def slices_Index__int_int_l0 : RC :=
  RC.seq (RC.region 1 [
    ⟨(some 9), .bin .lss (.t 8) (.t 7), none, 0, []⟩]) (RC.seq (RC.cond (.t 9) (RC.skip) (RC.exit 0)) (RC.seq (RC.block 1 (RC.seq (RC.region 2 [
    ⟨(some 10), .move (.t 8), none, 0, []⟩,
    ⟨(some 5), .move (.t 10), none, 1, []⟩]) (RC.seq (RC.region 6 [
    ⟨(some 11), .move (.t 1), none, 0, []⟩,
    ⟨(some 12), .move (.t 0), none, 1, []⟩,
    ⟨(some 13), .move (.t 5), none, 2, []⟩,
    ⟨(some 14), .indexSl 1 (.t 12) (.t 13), none, 3, []⟩,
    ⟨(some 15), .load none (.t 14), none, 4, []⟩,
    ⟨(some 16), .bin .eql (.t 11) (.t 15), none, 5, []⟩]) (RC.cond (.t 16) (RC.seq (RC.region 2 [
    ⟨(some 17), .move (.t 5), none, 0, []⟩,
    ⟨(some 4), .move (.t 17), none, 1, []⟩]) (RC.ret)) (RC.skip))))) (RC.region 2 [
    ⟨(some 18), .bin .add (.t 8) (.c (.s (.int .i64 1))), none, 0, []⟩,
    ⟨(some 8), .move (.t 18), none, 1, []⟩])))
def slices_Index__int_int_s1 : RC :=
  RC.seq (RC.region 1 [
    ⟨(some 4), .move (.c (.s (.int .i64 (-1)))), none, 0, []⟩]) (RC.ret)
def slices_Index__int_int : RFunc := RFunc.mk 19 [.tmp 4] (
  RC.seq (RC.region 1 [
    ⟨(some 4), .move (.c (.s (.int .i64 0))), none, 0, []⟩]) (RC.seq (RC.seq (RC.region 3 [
    ⟨(some 6), .move (.t 0), none, 0, []⟩,
    ⟨(some 7), .len (.t 6), none, 1, []⟩,
    ⟨(some 8), .move (.c (.s (.int .i64 0))), none, 2, []⟩]) (RC.block 0 (RC.loop R.slices_Index__int_int_l0))) R.slices_Index__int_int_s1))
theorem slices_Index__int_int_ok : chkFunc Go.Proofs.Tryd.prog [0] Go.Proofs.Tryd.f45 slices_Index__int_int = true := by kernel_rfl
def slices_Delete__int_int : RFunc := RFunc.mk 33 [.tmp 6] (
  RC.seq (RC.region 1 [
    ⟨(some 6), .move (.c (.s (.slice none 0 0 1))), none, 0, []⟩]) (RC.seq (RC.region 6 [
    ⟨(some 8), .move (.t 0), none, 0, []⟩,
    ⟨(some 9), .move (.t 1), none, 1, []⟩,
    ⟨(some 10), .move (.t 2), none, 2, []⟩,
    ⟨(some 11), .move (.t 0), none, 3, []⟩,
    ⟨(some 12), .len (.t 11), none, 4, []⟩,
    ⟨(some 13), .slSl 1 (.t 8) (some (.t 9)) (some (.t 10)) (some (.t 12)), none, 5, []⟩]) (RC.seq (RC.seq (RC.region 3 [
    ⟨(some 14), .move (.t 1), none, 0, []⟩,
    ⟨(some 15), .move (.t 2), none, 1, []⟩,
    ⟨(some 16), .bin .eql (.t 14) (.t 15), none, 2, []⟩]) (RC.cond (.t 16) (RC.seq (RC.region 2 [
    ⟨(some 17), .move (.t 0), none, 0, []⟩,
    ⟨(some 6), .move (.t 17), none, 1, []⟩]) (RC.ret)) (RC.skip))) (RC.seq (RC.region 3 [
    ⟨(some 18), .move (.t 0), none, 0, []⟩,
    ⟨(some 19), .len (.t 18), none, 1, []⟩,
    ⟨(some 7), .move (.t 19), none, 2, []⟩]) (RC.seq (RC.region 8 [
    ⟨(some 20), .move (.t 0), none, 0, []⟩,
    ⟨(some 21), .move (.t 1), none, 1, []⟩,
    ⟨(some 22), .slSl 1 (.t 20) none (some (.t 21)) none, none, 2, []⟩,
    ⟨(some 23), .move (.t 0), none, 3, []⟩,
    ⟨(some 24), .move (.t 2), none, 4, []⟩,
    ⟨(some 25), .slSl 1 (.t 23) (some (.t 24)) none none, none, 5, []⟩,
    ⟨(some 26), .append 1 8 (.t 22) (.t 25), none, 6, []⟩,
    ⟨(some 0), .move (.t 26), none, 7, []⟩]) (RC.seq (RC.region 6 [
    ⟨(some 27), .move (.t 0), none, 0, []⟩,
    ⟨(some 28), .move (.t 0), none, 1, []⟩,
    ⟨(some 29), .len (.t 28), none, 2, []⟩,
    ⟨(some 30), .move (.t 7), none, 3, []⟩,
    ⟨(some 31), .slSl 1 (.t 27) (some (.t 29)) (some (.t 30)) none, none, 4, []⟩,
    ⟨none, .clear 1 [.int .i64 0] (.t 31), none, 5, []⟩]) (RC.seq (RC.region 2 [
    ⟨(some 32), .move (.t 0), none, 0, []⟩,
    ⟨(some 6), .move (.t 32), none, 1, []⟩]) (RC.ret))))))))
theorem slices_Delete__int_int_ok : chkFunc Go.Proofs.Tryd.prog [0] Go.Proofs.Tryd.f46 slices_Delete__int_int = true := by kernel_rfl
def detentref9_good : RFunc := RFunc.mk 9 [.tmp 2] (
  RC.seq (RC.region 1 [
    ⟨(some 2), .move (.c (.s (.bool false))), none, 0, []⟩]) (RC.seq (RC.region 7 [
    ⟨(some 3), .move (.t 0), none, 0, []⟩,
    ⟨(some 4), .bin .geq (.t 3) (.c (.s (.int .i64 1))), none, 1, []⟩,
    ⟨(some 5), .move (.t 4), none, 2, []⟩,
    ⟨(some 6), .move (.t 0), (some (5, true)), 3, []⟩,
    ⟨(some 7), .bin .leq (.t 6) (.c (.s (.int .i64 16))), (some (5, true)), 4, []⟩,
    ⟨(some 8), .pick (.t 5) (.t 7) (.c (.s (.bool false))), none, 5, []⟩,
    ⟨(some 2), .move (.t 8), none, 6, []⟩]) (RC.ret)))
theorem detentref9_good_ok : chkFunc Go.Proofs.Tryd.prog [0] Go.Proofs.Tryd.f47 detentref9_good = true := by kernel_rfl
def detentref9_Queue_Pri_l0 : RC :=
  RC.seq (RC.seq (RC.region 9 [
    ⟨(some 11), .move (.t 6), none, 0, []⟩,
    ⟨(some 12), .move (.t 0), none, 1, []⟩,
    ⟨(some 13), .move (.t 5), none, 2, []⟩,
    ⟨(some 14), .nilCheck (.t 12), none, 3, []⟩,
    ⟨(some 15), .fieldAddr 0 (.t 14), none, 4, []⟩,
    ⟨(some 16), .indexArr 17 1 (.t 15) (.t 13), none, 5, []⟩,
    ⟨(some 17), .load none (.t 16), none, 6, []⟩,
    ⟨(some 18), .len (.t 17), none, 7, []⟩,
    ⟨(some 19), .bin .lss (.t 11) (.t 18), none, 8, []⟩]) (RC.cond (.t 19) (RC.skip) (RC.exit 2))) (RC.seq (RC.block 3 (RC.seq (RC.region 11 [
    ⟨(some 22), .move (.t 0), none, 0, []⟩,
    ⟨(some 23), .move (.t 5), none, 1, []⟩,
    ⟨(some 24), .nilCheck (.t 22), none, 2, []⟩,
    ⟨(some 25), .fieldAddr 0 (.t 24), none, 3, []⟩,
    ⟨(some 26), .indexArr 17 1 (.t 25) (.t 23), none, 4, []⟩,
    ⟨(some 27), .load none (.t 26), none, 5, []⟩,
    ⟨(some 28), .move (.t 6), none, 6, []⟩,
    ⟨(some 29), .indexSl 1 (.t 27) (.t 28), none, 7, []⟩,
    ⟨(some 30), .load none (.t 29), none, 8, []⟩,
    ⟨(some 31), .move (.t 1), none, 9, []⟩,
    ⟨(some 32), .bin .eql (.t 30) (.t 31), none, 10, []⟩]) (RC.cond (.t 32) (RC.seq (RC.region 2 [
    ⟨(some 33), .move (.t 5), none, 0, []⟩,
    ⟨(some 4), .move (.t 33), none, 1, []⟩]) (RC.ret)) (RC.skip)))) (RC.region 3 [
    ⟨(some 20), .move (.t 6), none, 0, []⟩,
    ⟨(some 21), .bin .add (.t 20) (.c (.s (.int .i64 1))), none, 1, []⟩,
    ⟨(some 6), .move (.t 21), none, 2, []⟩]))
def detentref9_Queue_Pri_s1 : RC :=
  RC.region 3 [
    ⟨(some 9), .move (.t 5), none, 0, []⟩,
    ⟨(some 10), .bin .add (.t 9) (.c (.s (.int .i64 1))), none, 1, []⟩,
    ⟨(some 5), .move (.t 10), none, 2, []⟩]
def detentref9_Queue_Pri_l2 : RC :=
  RC.seq (RC.seq (RC.region 2 [
    ⟨(some 7), .move (.t 5), none, 0, []⟩,
    ⟨(some 8), .bin .leq (.t 7) (.c (.s (.int .i64 16))), none, 1, []⟩]) (RC.cond (.t 8) (RC.skip) (RC.exit 0))) (RC.seq (RC.block 1 (RC.seq (RC.region 1 [
    ⟨(some 6), .move (.c (.s (.int .i64 0))), none, 0, []⟩]) (RC.block 2 (RC.loop R.detentref9_Queue_Pri_l0)))) R.detentref9_Queue_Pri_s1)
def detentref9_Queue_Pri_s3 : RC :=
  RC.seq (RC.region 1 [
    ⟨(some 4), .move (.c (.s (.int .i64 0))), none, 0, []⟩]) (RC.ret)
def detentref9_Queue_Pri : RFunc := RFunc.mk 34 [.tmp 4] (
  RC.seq (RC.region 1 [
    ⟨(some 4), .move (.c (.s (.int .i64 0))), none, 0, []⟩]) (RC.seq (RC.seq (RC.region 1 [
    ⟨(some 5), .move (.c (.s (.int .i64 1))), none, 0, []⟩]) (RC.block 0 (RC.loop R.detentref9_Queue_Pri_l2))) R.detentref9_Queue_Pri_s3))
theorem detentref9_Queue_Pri_ok : chkFunc Go.Proofs.Tryd.prog [0] Go.Proofs.Tryd.f48 detentref9_Queue_Pri = true := by kernel_rfl
def detentref9_Queue_First : RFunc := RFunc.mk 12 [.tmp 2] (
  RC.seq (RC.region 1 [
    ⟨(some 2), .move (.c (.s (.int .i64 0))), none, 0, []⟩]) (RC.seq (RC.region 3 [
    ⟨(some 4), .move (.t 0), none, 0, []⟩,
    ⟨(some 5), .call F.detentref9_Queue_All [(.t 4)], none, 1, []⟩,
    ⟨(some 3), .move (.t 5), none, 2, []⟩]) (RC.seq (RC.seq (RC.region 3 [
    ⟨(some 6), .move (.t 3), none, 0, []⟩,
    ⟨(some 7), .len (.t 6), none, 1, []⟩,
    ⟨(some 8), .bin .eql (.t 7) (.c (.s (.int .i64 0))), none, 2, []⟩]) (RC.cond (.t 8) (RC.seq (RC.region 1 [
    ⟨(some 2), .move (.c (.s (.int .i64 0))), none, 0, []⟩]) (RC.ret)) (RC.skip))) (RC.seq (RC.region 4 [
    ⟨(some 9), .move (.t 3), none, 0, []⟩,
    ⟨(some 10), .indexSl 1 (.t 9) (.c (.s (.int .i64 0))), none, 1, []⟩,
    ⟨(some 11), .load none (.t 10), none, 2, []⟩,
    ⟨(some 2), .move (.t 11), none, 3, []⟩]) (RC.ret)))))
theorem detentref9_Queue_First_ok : chkFunc Go.Proofs.Tryd.prog [0] Go.Proofs.Tryd.f49 detentref9_Queue_First = true := by kernel_rfl
end Go.AM.R
