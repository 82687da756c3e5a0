/-
  The code of the functions, as the abstract machine has it; it is the program's.
-/
import Derived.Test.YtineacililniiaaGreatDoorAmO
import Derived.Test.YtineacililniiaaGreatDoorIds
import Derived.Test.YtineacililniiaaGreatDoorProg
import Derived.KernelRfl
set_option maxRecDepth 100000
namespace Go.AM.R
open Go.AM
def slices_IndexFunc__order_Item_order_Item_l0 : RC :=
  RC.seq (RC.region 1 [
    ⟨(some 9), .bin .lss (.t 8) (.t 7), none, 0, []⟩]) (RC.seq (RC.cond (.t 9) (RC.skip) (RC.exit 0)) (RC.seq (RC.block 1 (RC.seq (RC.region 2 [
    ⟨(some 10), .move (.t 8), none, 0, []⟩,
    ⟨(some 5), .move (.t 10), none, 1, []⟩]) (RC.seq (RC.region 6 [
    ⟨(some 11), .move (.t 1), none, 0, []⟩,
    ⟨(some 12), .move (.t 0), none, 1, []⟩,
    ⟨(some 13), .move (.t 5), none, 2, []⟩,
    ⟨(some 14), .indexSl 2 (.t 12) (.t 13), none, 3, []⟩,
    ⟨(some 15), .load (some 2) (.t 14), none, 4, []⟩,
    ⟨(some 16), .callv (.t 11) [(.t 15)], none, 5, []⟩]) (RC.cond (.t 16) (RC.seq (RC.region 2 [
    ⟨(some 17), .move (.t 5), none, 0, []⟩,
    ⟨(some 4), .move (.t 17), none, 1, []⟩]) (RC.ret)) (RC.skip))))) (RC.region 2 [
    ⟨(some 18), .bin .add (.t 8) (.c (.s (.int .i64 1))), none, 0, []⟩,
    ⟨(some 8), .move (.t 18), none, 1, []⟩])))
def slices_IndexFunc__order_Item_order_Item_s1 : RC :=
  RC.seq (RC.region 1 [
    ⟨(some 4), .move (.c (.s (.int .i64 (-1)))), none, 0, []⟩]) (RC.ret)
def slices_IndexFunc__order_Item_order_Item : RFunc := RFunc.mk 19 [.tmp 4] (
  RC.seq (RC.region 1 [
    ⟨(some 4), .move (.c (.s (.int .i64 0))), none, 0, []⟩]) (RC.seq (RC.seq (RC.region 3 [
    ⟨(some 6), .move (.t 0), none, 0, []⟩,
    ⟨(some 7), .len (.t 6), none, 1, []⟩,
    ⟨(some 8), .move (.c (.s (.int .i64 0))), none, 2, []⟩]) (RC.block 0 (RC.loop R.slices_IndexFunc__order_Item_order_Item_l0))) R.slices_IndexFunc__order_Item_order_Item_s1))
theorem slices_IndexFunc__order_Item_order_Item_ok : chkFunc Go.Proofs.Tryz.prog [0] Go.Proofs.Tryz.f215 slices_IndexFunc__order_Item_order_Item = true := by kernel_rfl
def order_Line_at_1 : RFunc := RFunc.mk 8 [.tmp 3] (
  RC.seq (RC.region 2 [
    ⟨(some 2), .box (.t 0), none, 0, []⟩,
    ⟨(some 3), .move (.c (.s (.bool false))), none, 1, []⟩]) (RC.seq (RC.region 5 [
    ⟨(some 4), .fieldAddr 0 (.t 2), none, 0, []⟩,
    ⟨(some 5), .load none (.t 4), none, 1, []⟩,
    ⟨(some 6), .load none (.t 1), none, 2, []⟩,
    ⟨(some 7), .bin .eql (.t 5) (.t 6), none, 3, []⟩,
    ⟨(some 3), .move (.t 7), none, 4, []⟩]) (RC.ret)))
theorem order_Line_at_1_ok : chkFunc Go.Proofs.Tryz.prog [0] Go.Proofs.Tryz.f216 order_Line_at_1 = true := by kernel_rfl
def slices_IndexFunc__int_int_l0 : RC :=
  RC.seq (RC.region 1 [
    ⟨(some 9), .bin .lss (.t 8) (.t 7), none, 0, []⟩]) (RC.seq (RC.cond (.t 9) (RC.skip) (RC.exit 0)) (RC.seq (RC.block 1 (RC.seq (RC.region 2 [
    ⟨(some 10), .move (.t 8), none, 0, []⟩,
    ⟨(some 5), .move (.t 10), none, 1, []⟩]) (RC.seq (RC.region 6 [
    ⟨(some 11), .move (.t 1), none, 0, []⟩,
    ⟨(some 12), .move (.t 0), none, 1, []⟩,
    ⟨(some 13), .move (.t 5), none, 2, []⟩,
    ⟨(some 14), .indexSl 1 (.t 12) (.t 13), none, 3, []⟩,
    ⟨(some 15), .load none (.t 14), none, 4, []⟩,
    ⟨(some 16), .callv (.t 11) [(.t 15)], none, 5, []⟩]) (RC.cond (.t 16) (RC.seq (RC.region 2 [
    ⟨(some 17), .move (.t 5), none, 0, []⟩,
    ⟨(some 4), .move (.t 17), none, 1, []⟩]) (RC.ret)) (RC.skip))))) (RC.region 2 [
    ⟨(some 18), .bin .add (.t 8) (.c (.s (.int .i64 1))), none, 0, []⟩,
    ⟨(some 8), .move (.t 18), none, 1, []⟩])))
def slices_IndexFunc__int_int_s1 : RC :=
  RC.seq (RC.region 1 [
    ⟨(some 4), .move (.c (.s (.int .i64 (-1)))), none, 0, []⟩]) (RC.ret)
def slices_IndexFunc__int_int : RFunc := RFunc.mk 19 [.tmp 4] (
  RC.seq (RC.region 1 [
    ⟨(some 4), .move (.c (.s (.int .i64 0))), none, 0, []⟩]) (RC.seq (RC.seq (RC.region 3 [
    ⟨(some 6), .move (.t 0), none, 0, []⟩,
    ⟨(some 7), .len (.t 6), none, 1, []⟩,
    ⟨(some 8), .move (.c (.s (.int .i64 0))), none, 2, []⟩]) (RC.block 0 (RC.loop R.slices_IndexFunc__int_int_l0))) R.slices_IndexFunc__int_int_s1))
theorem slices_IndexFunc__int_int_ok : chkFunc Go.Proofs.Tryz.prog [0] Go.Proofs.Tryz.f217 slices_IndexFunc__int_int = true := by kernel_rfl
def bits_Map_Set_l0 : RC :=
  RC.seq (RC.region 1 [
    ⟨(some 12), .bin .lss (.t 11) (.t 10), none, 0, []⟩]) (RC.seq (RC.cond (.t 12) (RC.skip) (RC.exit 0)) (RC.seq (RC.block 1 (RC.seq (RC.region 3 [
    ⟨(some 13), .indexSl 1 (.t 9) (.t 11), none, 0, []⟩,
    ⟨(some 14), .load none (.t 13), none, 1, []⟩,
    ⟨(some 5), .move (.t 14), none, 2, []⟩]) (RC.seq (RC.region 9 [
    ⟨(some 16), .move (.t 5), none, 0, []⟩,
    ⟨(some 17), .call F.bits_place [(.t 16)], none, 1, []⟩,
    ⟨(some 15), .move (.t 17), none, 2, []⟩,
    ⟨(some 18), .extract 0 (.t 15), none, 3, []⟩,
    ⟨(some 19), .extract 1 (.t 15), none, 4, []⟩,
    ⟨(some 20), .extract 2 (.t 15), none, 5, []⟩,
    ⟨(some 6), .move (.t 18), none, 6, []⟩,
    ⟨(some 7), .move (.t 19), none, 7, []⟩,
    ⟨(some 8), .move (.t 20), none, 8, []⟩]) (RC.seq (RC.region 1 [
    ⟨(some 21), .move (.t 8), none, 0, []⟩]) (RC.cond (.t 21) (RC.region 12 [
    ⟨(some 22), .move (.t 0), none, 0, []⟩,
    ⟨(some 23), .move (.t 6), none, 1, []⟩,
    ⟨(some 24), .nilCheck (.t 22), none, 2, []⟩,
    ⟨(some 25), .fieldAddr 0 (.t 24), none, 3, []⟩,
    ⟨(some 26), .indexArr 4 1 (.t 25) (.t 23), none, 4, []⟩,
    ⟨(some 27), .load none (.t 26), none, 5, []⟩,
    ⟨(some 28), .move (.t 7), none, 6, []⟩,
    ⟨(some 29), .bin .or (.t 27) (.t 28), none, 7, []⟩,
    ⟨(some 30), .nilCheck (.t 22), none, 8, []⟩,
    ⟨(some 31), .fieldAddr 0 (.t 30), none, 9, []⟩,
    ⟨(some 32), .indexArr 4 1 (.t 31) (.t 23), none, 10, []⟩,
    ⟨none, .store 1 (.t 32) (.t 29), none, 11, []⟩]) (RC.skip)))))) (RC.region 2 [
    ⟨(some 33), .bin .add (.t 11) (.c (.s (.int .i64 1))), none, 0, []⟩,
    ⟨(some 11), .move (.t 33), none, 1, []⟩])))
def bits_Map_Set : RFunc := RFunc.mk 34 [] (
  RC.seq (RC.region 3 [
    ⟨(some 9), .move (.t 1), none, 0, []⟩,
    ⟨(some 10), .len (.t 9), none, 1, []⟩,
    ⟨(some 11), .move (.c (.s (.int .i64 0))), none, 2, []⟩]) (RC.block 0 (RC.loop R.bits_Map_Set_l0)))
theorem bits_Map_Set_ok : chkFunc Go.Proofs.Tryz.prog [0] Go.Proofs.Tryz.f218 bits_Map_Set = true := by kernel_rfl
def slices_Insert__order_Item_order_Item : RFunc := RFunc.mk 95 [.tmp 6] (
  RC.seq (RC.region 1 [
    ⟨(some 6), .move (.c (.s (.slice none 0 0 1))), none, 0, []⟩]) (RC.seq (RC.region 3 [
    ⟨(some 10), .move (.t 0), none, 0, []⟩,
    ⟨(some 11), .move (.t 1), none, 1, []⟩,
    ⟨(some 12), .slSl 2 (.t 10) (some (.t 11)) none none, none, 2, []⟩]) (RC.seq (RC.region 3 [
    ⟨(some 13), .move (.t 2), none, 0, []⟩,
    ⟨(some 14), .len (.t 13), none, 1, []⟩,
    ⟨(some 7), .move (.t 14), none, 2, []⟩]) (RC.seq (RC.seq (RC.region 2 [
    ⟨(some 15), .move (.t 7), none, 0, []⟩,
    ⟨(some 16), .bin .eql (.t 15) (.c (.s (.int .i64 0))), none, 1, []⟩]) (RC.cond (.t 16) (RC.seq (RC.region 2 [
    ⟨(some 17), .move (.t 0), none, 0, []⟩,
    ⟨(some 6), .move (.t 17), none, 1, []⟩]) (RC.ret)) (RC.skip))) (RC.seq (RC.region 3 [
    ⟨(some 18), .move (.t 0), none, 0, []⟩,
    ⟨(some 19), .len (.t 18), none, 1, []⟩,
    ⟨(some 8), .move (.t 19), none, 2, []⟩]) (RC.seq (RC.seq (RC.region 3 [
    ⟨(some 20), .move (.t 1), none, 0, []⟩,
    ⟨(some 21), .move (.t 8), none, 1, []⟩,
    ⟨(some 22), .bin .eql (.t 20) (.t 21), none, 2, []⟩]) (RC.cond (.t 22) (RC.seq (RC.region 4 [
    ⟨(some 23), .move (.t 0), none, 0, []⟩,
    ⟨(some 24), .move (.t 2), none, 1, []⟩,
    ⟨(some 25), .append 2 16 (.t 23) (.t 24), none, 2, []⟩,
    ⟨(some 6), .move (.t 25), none, 3, []⟩]) (RC.ret)) (RC.skip))) (RC.seq (RC.seq (RC.region 6 [
    ⟨(some 26), .move (.t 8), none, 0, []⟩,
    ⟨(some 27), .move (.t 7), none, 1, []⟩,
    ⟨(some 28), .bin .add (.t 26) (.t 27), none, 2, []⟩,
    ⟨(some 29), .move (.t 0), none, 3, []⟩,
    ⟨(some 30), .stuck, none, 4, []⟩,
    ⟨(some 31), .bin .gtr (.t 28) (.t 30), none, 5, []⟩]) (RC.cond (.t 31) (RC.seq (RC.region 10 [
    ⟨(some 32), .move (.t 0), none, 0, []⟩,
    ⟨(some 33), .move (.t 1), none, 1, []⟩,
    ⟨(some 34), .slSl 2 (.t 32) none (some (.t 33)) none, none, 2, []⟩,
    ⟨(some 35), .move (.t 8), none, 3, []⟩,
    ⟨(some 36), .move (.t 7), none, 4, []⟩,
    ⟨(some 37), .bin .add (.t 35) (.t 36), none, 5, []⟩,
    ⟨(some 38), .move (.t 1), none, 6, []⟩,
    ⟨(some 39), .bin .sub (.t 37) (.t 38), none, 7, []⟩,
    ⟨(some 40), .stuck, none, 8, []⟩,
    ⟨(some 9), .move (.t 40), none, 9, []⟩]) (RC.seq (RC.region 5 [
    ⟨(some 41), .move (.t 9), none, 0, []⟩,
    ⟨(some 42), .move (.t 1), none, 1, []⟩,
    ⟨(some 43), .slSl 2 (.t 41) (some (.t 42)) none none, none, 2, []⟩,
    ⟨(some 44), .move (.t 2), none, 3, []⟩,
    ⟨(some 45), .copy 2 (.t 43) (.t 44), none, 4, []⟩]) (RC.seq (RC.region 9 [
    ⟨(some 46), .move (.t 9), none, 0, []⟩,
    ⟨(some 47), .move (.t 1), none, 1, []⟩,
    ⟨(some 48), .move (.t 7), none, 2, []⟩,
    ⟨(some 49), .bin .add (.t 47) (.t 48), none, 3, []⟩,
    ⟨(some 50), .slSl 2 (.t 46) (some (.t 49)) none none, none, 4, []⟩,
    ⟨(some 51), .move (.t 0), none, 5, []⟩,
    ⟨(some 52), .move (.t 1), none, 6, []⟩,
    ⟨(some 53), .slSl 2 (.t 51) (some (.t 52)) none none, none, 7, []⟩,
    ⟨(some 54), .copy 2 (.t 50) (.t 53), none, 8, []⟩]) (RC.seq (RC.region 2 [
    ⟨(some 55), .move (.t 9), none, 0, []⟩,
    ⟨(some 6), .move (.t 55), none, 1, []⟩]) (RC.ret))))) (RC.skip))) (RC.seq (RC.region 6 [
    ⟨(some 56), .move (.t 0), none, 0, []⟩,
    ⟨(some 57), .move (.t 8), none, 1, []⟩,
    ⟨(some 58), .move (.t 7), none, 2, []⟩,
    ⟨(some 59), .bin .add (.t 57) (.t 58), none, 3, []⟩,
    ⟨(some 60), .slSl 2 (.t 56) none (some (.t 59)) none, none, 4, []⟩,
    ⟨(some 0), .move (.t 60), none, 5, []⟩]) (RC.seq (RC.seq (RC.region 8 [
    ⟨(some 61), .move (.t 2), none, 0, []⟩,
    ⟨(some 62), .move (.t 0), none, 1, []⟩,
    ⟨(some 63), .move (.t 1), none, 2, []⟩,
    ⟨(some 64), .move (.t 7), none, 3, []⟩,
    ⟨(some 65), .bin .add (.t 63) (.t 64), none, 4, []⟩,
    ⟨(some 66), .slSl 2 (.t 62) (some (.t 65)) none none, none, 5, []⟩,
    ⟨(some 67), .call F.slices_overlaps_order_Item [(.t 61), (.t 66)], none, 6, []⟩,
    ⟨(some 68), .un .not (.t 67), none, 7, []⟩]) (RC.cond (.t 68) (RC.seq (RC.region 9 [
    ⟨(some 69), .move (.t 0), none, 0, []⟩,
    ⟨(some 70), .move (.t 1), none, 1, []⟩,
    ⟨(some 71), .move (.t 7), none, 2, []⟩,
    ⟨(some 72), .bin .add (.t 70) (.t 71), none, 3, []⟩,
    ⟨(some 73), .slSl 2 (.t 69) (some (.t 72)) none none, none, 4, []⟩,
    ⟨(some 74), .move (.t 0), none, 5, []⟩,
    ⟨(some 75), .move (.t 1), none, 6, []⟩,
    ⟨(some 76), .slSl 2 (.t 74) (some (.t 75)) none none, none, 7, []⟩,
    ⟨(some 77), .copy 2 (.t 73) (.t 76), none, 8, []⟩]) (RC.seq (RC.region 5 [
    ⟨(some 78), .move (.t 0), none, 0, []⟩,
    ⟨(some 79), .move (.t 1), none, 1, []⟩,
    ⟨(some 80), .slSl 2 (.t 78) (some (.t 79)) none none, none, 2, []⟩,
    ⟨(some 81), .move (.t 2), none, 3, []⟩,
    ⟨(some 82), .copy 2 (.t 80) (.t 81), none, 4, []⟩]) (RC.seq (RC.region 2 [
    ⟨(some 83), .move (.t 0), none, 0, []⟩,
    ⟨(some 6), .move (.t 83), none, 1, []⟩]) (RC.ret)))) (RC.skip))) (RC.seq (RC.region 5 [
    ⟨(some 84), .move (.t 0), none, 0, []⟩,
    ⟨(some 85), .move (.t 8), none, 1, []⟩,
    ⟨(some 86), .slSl 2 (.t 84) (some (.t 85)) none none, none, 2, []⟩,
    ⟨(some 87), .move (.t 2), none, 3, []⟩,
    ⟨(some 88), .copy 2 (.t 86) (.t 87), none, 4, []⟩]) (RC.seq (RC.region 5 [
    ⟨(some 89), .move (.t 0), none, 0, []⟩,
    ⟨(some 90), .move (.t 1), none, 1, []⟩,
    ⟨(some 91), .slSl 2 (.t 89) (some (.t 90)) none none, none, 2, []⟩,
    ⟨(some 92), .move (.t 7), none, 3, []⟩,
    ⟨(some 93), .call F.slices_rotateRight_order_Item [(.t 91), (.t 92)], none, 4, []⟩]) (RC.seq (RC.region 2 [
    ⟨(some 94), .move (.t 0), none, 0, []⟩,
    ⟨(some 6), .move (.t 94), none, 1, []⟩]) (RC.ret)))))))))))))
theorem slices_Insert__order_Item_order_Item_ok : chkFunc Go.Proofs.Tryz.prog [0] Go.Proofs.Tryz.f219 slices_Insert__order_Item_order_Item = true := by kernel_rfl
def math_bits_TrailingZeros64 : RFunc := RFunc.mk 14 [.tmp 2] (
  RC.seq (RC.region 1 [
    ⟨(some 2), .move (.c (.s (.int .i64 0))), none, 0, []⟩]) (RC.seq (RC.seq (RC.region 2 [
    ⟨(some 3), .move (.t 0), none, 0, []⟩,
    ⟨(some 4), .bin .eql (.t 3) (.c (.s (.int .u64 0))), none, 1, []⟩]) (RC.cond (.t 4) (RC.seq (RC.region 1 [
    ⟨(some 2), .move (.c (.s (.int .i64 64))), none, 0, []⟩]) (RC.ret)) (RC.skip))) (RC.seq (RC.region 10 [
    ⟨(some 5), .move (.t 0), none, 0, []⟩,
    ⟨(some 6), .move (.t 0), none, 1, []⟩,
    ⟨(some 7), .un .neg (.t 6), none, 2, []⟩,
    ⟨(some 8), .bin .and (.t 5) (.t 7), none, 3, []⟩,
    ⟨(some 9), .bin .mul (.t 8) (.c (.s (.int .u64 285870213051353865))), none, 4, []⟩,
    ⟨(some 10), .bin .shr (.t 9) (.c (.s (.int .u64 58))), none, 5, []⟩,
    ⟨(some 11), .indexArr 64 1 (.g 0) (.t 10), none, 6, []⟩,
    ⟨(some 12), .load none (.t 11), none, 7, []⟩,
    ⟨(some 13), .conv .i64 (.t 12), none, 8, []⟩,
    ⟨(some 2), .move (.t 13), none, 9, []⟩]) (RC.ret))))
theorem math_bits_TrailingZeros64_ok : chkFunc Go.Proofs.Tryz.prog [0] Go.Proofs.Tryz.f220 math_bits_TrailingZeros64 = true := by kernel_rfl
def heap_Timers_find : RFunc := RFunc.mk 11 [.tmp 4] (
  RC.seq (RC.region 2 [
    ⟨(some 3), .box (.t 1), none, 0, []⟩,
    ⟨(some 4), .move (.c (.s (.int .i64 0))), none, 1, []⟩]) (RC.seq (RC.region 7 [
    ⟨(some 5), .move (.t 0), none, 0, []⟩,
    ⟨(some 6), .nilCheck (.t 5), none, 1, []⟩,
    ⟨(some 7), .fieldAddr 0 (.t 6), none, 2, []⟩,
    ⟨(some 8), .load none (.t 7), none, 3, []⟩,
    ⟨(some 9), .makeFunc F.heap_Timers_find_1 [(.t 3)], none, 4, []⟩,
    ⟨(some 10), .call F.slices_IndexFunc_heap_row_heap_entry [(.t 8), (.t 9)], none, 5, []⟩,
    ⟨(some 4), .move (.t 10), none, 6, []⟩]) (RC.ret)))
theorem heap_Timers_find_ok : chkFunc Go.Proofs.Tryz.prog [0] Go.Proofs.Tryz.f221 heap_Timers_find = true := by kernel_rfl
def bits_place : RFunc := RFunc.mk 18 [.tmp 2, .tmp 3, .tmp 4] (
  RC.seq (RC.region 3 [
    ⟨(some 2), .move (.c (.s (.int .i64 0))), none, 0, []⟩,
    ⟨(some 3), .move (.c (.s (.int .u64 0))), none, 1, []⟩,
    ⟨(some 4), .move (.c (.s (.bool false))), none, 2, []⟩]) (RC.seq (RC.seq (RC.region 6 [
    ⟨(some 5), .move (.t 0), none, 0, []⟩,
    ⟨(some 6), .bin .lss (.t 5) (.c (.s (.int .i64 1))), none, 1, []⟩,
    ⟨(some 7), .move (.t 6), none, 2, []⟩,
    ⟨(some 8), .move (.t 0), (some (7, false)), 3, []⟩,
    ⟨(some 9), .bin .gtr (.t 8) (.c (.s (.int .i64 256))), (some (7, false)), 4, []⟩,
    ⟨(some 10), .pick (.t 7) (.c (.s (.bool true))) (.t 9), none, 5, []⟩]) (RC.cond (.t 10) (RC.seq (RC.region 3 [
    ⟨(some 2), .move (.c (.s (.int .i64 0))), none, 0, []⟩,
    ⟨(some 3), .move (.c (.s (.int .u64 0))), none, 1, []⟩,
    ⟨(some 4), .move (.c (.s (.bool false))), none, 2, []⟩]) (RC.ret)) (RC.skip))) (RC.seq (RC.region 10 [
    ⟨(some 11), .move (.t 0), none, 0, []⟩,
    ⟨(some 12), .bin .sub (.t 11) (.c (.s (.int .i64 1))), none, 1, []⟩,
    ⟨(some 13), .bin .quo (.t 12) (.c (.s (.int .i64 64))), none, 2, []⟩,
    ⟨(some 14), .move (.t 0), none, 3, []⟩,
    ⟨(some 15), .bin .sub (.t 14) (.c (.s (.int .i64 1))), none, 4, []⟩,
    ⟨(some 16), .bin .rem (.t 15) (.c (.s (.int .i64 64))), none, 5, []⟩,
    ⟨(some 17), .bin .shl (.c (.s (.int .u64 1))) (.t 16), none, 6, []⟩,
    ⟨(some 2), .move (.t 13), none, 7, []⟩,
    ⟨(some 3), .move (.t 17), none, 8, []⟩,
    ⟨(some 4), .move (.c (.s (.bool true))), none, 9, []⟩]) (RC.ret))))
theorem bits_place_ok : chkFunc Go.Proofs.Tryz.prog [0] Go.Proofs.Tryz.f222 bits_place = true := by kernel_rfl
def heap_Timers_Insert : RFunc := RFunc.mk 52 [.tmp 6, .tmp 7] (
  RC.seq (RC.region 2 [
    ⟨(some 6), .move (.c (.s (.int .i64 0))), none, 0, []⟩,
    ⟨(some 7), .move (.c (.s (.int .i64 0))), none, 1, []⟩]) (RC.seq (RC.seq (RC.region 6 [
    ⟨(some 8), .move (.t 0), none, 0, []⟩,
    ⟨(some 9), .nilCheck (.t 8), none, 1, []⟩,
    ⟨(some 10), .fieldAddr 0 (.t 9), none, 2, []⟩,
    ⟨(some 11), .load none (.t 10), none, 3, []⟩,
    ⟨(some 12), .len (.t 11), none, 4, []⟩,
    ⟨(some 13), .bin .geq (.t 12) (.c (.s (.int .i64 256))), none, 5, []⟩]) (RC.cond (.t 13) (RC.seq (RC.region 2 [
    ⟨(some 6), .move (.c (.s (.int .i64 0))), none, 0, []⟩,
    ⟨(some 7), .move (.c (.s (.int .i64 (-33)))), none, 1, []⟩]) (RC.ret)) (RC.skip))) (RC.seq (RC.region 8 [
    ⟨(some 14), .move (.t 0), none, 0, []⟩,
    ⟨(some 15), .nilCheck (.t 14), none, 1, []⟩,
    ⟨(some 16), .fieldAddr 1 (.t 15), none, 2, []⟩,
    ⟨(some 17), .load none (.t 16), none, 3, []⟩,
    ⟨(some 18), .bin .add (.t 17) (.c (.s (.int .i64 1))), none, 4, []⟩,
    ⟨(some 19), .nilCheck (.t 14), none, 5, []⟩,
    ⟨(some 20), .fieldAddr 1 (.t 19), none, 6, []⟩,
    ⟨none, .store 1 (.t 20) (.t 18), none, 7, []⟩]) (RC.seq (RC.region 17 [
    ⟨(some 21), .move (.t 0), none, 0, []⟩,
    ⟨(some 22), .move (.t 0), none, 1, []⟩,
    ⟨(some 23), .nilCheck (.t 22), none, 2, []⟩,
    ⟨(some 24), .fieldAddr 0 (.t 23), none, 3, []⟩,
    ⟨(some 25), .load none (.t 24), none, 4, []⟩,
    ⟨(some 26), .move (.t 1), none, 5, []⟩,
    ⟨(some 27), .move (.t 0), none, 6, []⟩,
    ⟨(some 28), .nilCheck (.t 27), none, 7, []⟩,
    ⟨(some 29), .fieldAddr 1 (.t 28), none, 8, []⟩,
    ⟨(some 30), .load none (.t 29), none, 9, []⟩,
    ⟨(some 31), .move (.t 2), none, 10, []⟩,
    ⟨(some 32), .build [.int .u64 0, .int .i64 0, .int .i64 0] [(0, 1, (.t 26)), (1, 1, (.t 30)), (2, 1, (.t 31))], none, 11, []⟩,
    ⟨(some 33), .buildSlice 3 1 [.int .u64 0, .int .i64 0, .int .i64 0] [(0, 3, (.t 32))], none, 12, []⟩,
    ⟨(some 34), .append 3 24 (.t 25) (.t 33), none, 13, []⟩,
    ⟨(some 35), .nilCheck (.t 21), none, 14, []⟩,
    ⟨(some 36), .fieldAddr 0 (.t 35), none, 15, []⟩,
    ⟨none, .store 1 (.t 36) (.t 34), none, 16, []⟩]) (RC.seq (RC.region 11 [
    ⟨(some 37), .move (.t 0), none, 0, []⟩,
    ⟨(some 38), .nilCheck (.t 37), none, 1, []⟩,
    ⟨(some 39), .fieldAddr 0 (.t 38), none, 2, []⟩,
    ⟨(some 40), .load none (.t 39), none, 3, []⟩,
    ⟨(some 41), .move (.t 0), none, 4, []⟩,
    ⟨(some 42), .nilCheck (.t 41), none, 5, []⟩,
    ⟨(some 43), .fieldAddr 0 (.t 42), none, 6, []⟩,
    ⟨(some 44), .load none (.t 43), none, 7, []⟩,
    ⟨(some 45), .len (.t 44), none, 8, []⟩,
    ⟨(some 46), .bin .sub (.t 45) (.c (.s (.int .i64 1))), none, 9, []⟩,
    ⟨(some 47), .call F.heap_row_up [(.t 40), (.t 46)], none, 10, []⟩]) (RC.seq (RC.region 6 [
    ⟨(some 48), .move (.t 0), none, 0, []⟩,
    ⟨(some 49), .nilCheck (.t 48), none, 1, []⟩,
    ⟨(some 50), .fieldAddr 1 (.t 49), none, 2, []⟩,
    ⟨(some 51), .load none (.t 50), none, 3, []⟩,
    ⟨(some 6), .move (.t 51), none, 4, []⟩,
    ⟨(some 7), .move (.c (.s (.int .i64 0))), none, 5, []⟩]) (RC.ret)))))))
theorem heap_Timers_Insert_ok : chkFunc Go.Proofs.Tryz.prog [0] Go.Proofs.Tryz.f223 heap_Timers_Insert = true := by kernel_rfl
def slices_rotateLeft_int : RFunc := RFunc.mk 14 [] (
  RC.seq (RC.region 4 [
    ⟨(some 4), .move (.t 0), none, 0, []⟩,
    ⟨(some 5), .move (.t 1), none, 1, []⟩,
    ⟨(some 6), .slSl 1 (.t 4) none (some (.t 5)) none, none, 2, []⟩,
    ⟨(some 7), .call F.slices_Reverse__int_int [(.t 6)], none, 3, []⟩]) (RC.seq (RC.region 4 [
    ⟨(some 8), .move (.t 0), none, 0, []⟩,
    ⟨(some 9), .move (.t 1), none, 1, []⟩,
    ⟨(some 10), .slSl 1 (.t 8) (some (.t 9)) none none, none, 2, []⟩,
    ⟨(some 11), .call F.slices_Reverse__int_int [(.t 10)], none, 3, []⟩]) (RC.region 2 [
    ⟨(some 12), .move (.t 0), none, 0, []⟩,
    ⟨(some 13), .call F.slices_Reverse__int_int [(.t 12)], none, 1, []⟩])))
theorem slices_rotateLeft_int_ok : chkFunc Go.Proofs.Tryz.prog [0] Go.Proofs.Tryz.f224 slices_rotateLeft_int = true := by kernel_rfl
def heap_row_up_l0 : RC :=
  RC.seq (RC.seq (RC.region 10 [
    ⟨(some 4), .move (.t 1), none, 0, []⟩,
    ⟨(some 5), .bin .gtr (.t 4) (.c (.s (.int .i64 0))), none, 1, []⟩,
    ⟨(some 6), .move (.t 5), none, 2, []⟩,
    ⟨(some 7), .move (.t 0), (some (6, true)), 3, []⟩,
    ⟨(some 8), .move (.t 1), (some (6, true)), 4, []⟩,
    ⟨(some 9), .move (.t 1), (some (6, true)), 5, []⟩,
    ⟨(some 10), .bin .sub (.t 9) (.c (.s (.int .i64 1))), (some (6, true)), 6, []⟩,
    ⟨(some 11), .bin .quo (.t 10) (.c (.s (.int .i64 2))), (some (6, true)), 7, []⟩,
    ⟨(some 12), .call F.heap_row_ahead [(.t 7), (.t 8), (.t 11)], (some (6, true)), 8, []⟩,
    ⟨(some 13), .pick (.t 6) (.t 12) (.c (.s (.bool false))), none, 9, []⟩]) (RC.cond (.t 13) (RC.skip) (RC.exit 0))) (RC.block 1 (RC.seq (RC.region 20 [
    ⟨(some 14), .move (.t 0), none, 0, []⟩,
    ⟨(some 15), .move (.t 1), none, 1, []⟩,
    ⟨(some 16), .move (.t 0), none, 2, []⟩,
    ⟨(some 17), .move (.t 1), none, 3, []⟩,
    ⟨(some 18), .bin .sub (.t 17) (.c (.s (.int .i64 1))), none, 4, []⟩,
    ⟨(some 19), .bin .quo (.t 18) (.c (.s (.int .i64 2))), none, 5, []⟩,
    ⟨(some 20), .move (.t 0), none, 6, []⟩,
    ⟨(some 21), .move (.t 1), none, 7, []⟩,
    ⟨(some 22), .bin .sub (.t 21) (.c (.s (.int .i64 1))), none, 8, []⟩,
    ⟨(some 23), .bin .quo (.t 22) (.c (.s (.int .i64 2))), none, 9, []⟩,
    ⟨(some 24), .indexSl 3 (.t 20) (.t 23), none, 10, []⟩,
    ⟨(some 25), .load (some 3) (.t 24), none, 11, []⟩,
    ⟨(some 26), .move (.t 0), none, 12, []⟩,
    ⟨(some 27), .move (.t 1), none, 13, []⟩,
    ⟨(some 28), .indexSl 3 (.t 26) (.t 27), none, 14, []⟩,
    ⟨(some 29), .load (some 3) (.t 28), none, 15, []⟩,
    ⟨(some 30), .indexSl 3 (.t 14) (.t 15), none, 16, []⟩,
    ⟨none, .store 3 (.t 30) (.t 25), none, 17, []⟩,
    ⟨(some 31), .indexSl 3 (.t 16) (.t 19), none, 18, []⟩,
    ⟨none, .store 3 (.t 31) (.t 29), none, 19, []⟩]) (RC.region 4 [
    ⟨(some 32), .move (.t 1), none, 0, []⟩,
    ⟨(some 33), .bin .sub (.t 32) (.c (.s (.int .i64 1))), none, 1, []⟩,
    ⟨(some 34), .bin .quo (.t 33) (.c (.s (.int .i64 2))), none, 2, []⟩,
    ⟨(some 1), .move (.t 34), none, 3, []⟩])))
def heap_row_up : RFunc := RFunc.mk 35 [] (
  RC.block 0 (RC.loop R.heap_row_up_l0))
theorem heap_row_up_ok : chkFunc Go.Proofs.Tryz.prog [0] Go.Proofs.Tryz.f225 heap_row_up = true := by kernel_rfl
def heap_row_down_s0 : RC :=
  RC.seq (RC.seq (RC.region 11 [
    ⟨(some 22), .move (.t 4), none, 0, []⟩,
    ⟨(some 23), .move (.t 0), none, 1, []⟩,
    ⟨(some 24), .len (.t 23), none, 2, []⟩,
    ⟨(some 25), .bin .geq (.t 22) (.t 24), none, 3, []⟩,
    ⟨(some 26), .move (.t 25), none, 4, []⟩,
    ⟨(some 27), .move (.t 0), (some (26, false)), 5, []⟩,
    ⟨(some 28), .move (.t 4), (some (26, false)), 6, []⟩,
    ⟨(some 29), .move (.t 1), (some (26, false)), 7, []⟩,
    ⟨(some 30), .call F.heap_row_ahead [(.t 27), (.t 28), (.t 29)], (some (26, false)), 8, []⟩,
    ⟨(some 31), .un .not (.t 30), (some (26, false)), 9, []⟩,
    ⟨(some 32), .pick (.t 26) (.c (.s (.bool true))) (.t 31), none, 10, []⟩]) (RC.cond (.t 32) (RC.ret) (RC.skip))) (RC.seq (RC.region 16 [
    ⟨(some 33), .move (.t 0), none, 0, []⟩,
    ⟨(some 34), .move (.t 1), none, 1, []⟩,
    ⟨(some 35), .move (.t 0), none, 2, []⟩,
    ⟨(some 36), .move (.t 4), none, 3, []⟩,
    ⟨(some 37), .move (.t 0), none, 4, []⟩,
    ⟨(some 38), .move (.t 4), none, 5, []⟩,
    ⟨(some 39), .indexSl 3 (.t 37) (.t 38), none, 6, []⟩,
    ⟨(some 40), .load (some 3) (.t 39), none, 7, []⟩,
    ⟨(some 41), .move (.t 0), none, 8, []⟩,
    ⟨(some 42), .move (.t 1), none, 9, []⟩,
    ⟨(some 43), .indexSl 3 (.t 41) (.t 42), none, 10, []⟩,
    ⟨(some 44), .load (some 3) (.t 43), none, 11, []⟩,
    ⟨(some 45), .indexSl 3 (.t 33) (.t 34), none, 12, []⟩,
    ⟨none, .store 3 (.t 45) (.t 40), none, 13, []⟩,
    ⟨(some 46), .indexSl 3 (.t 35) (.t 36), none, 14, []⟩,
    ⟨none, .store 3 (.t 46) (.t 44), none, 15, []⟩]) (RC.region 2 [
    ⟨(some 47), .move (.t 4), none, 0, []⟩,
    ⟨(some 1), .move (.t 47), none, 1, []⟩]))
def heap_row_down_l1 : RC :=
  RC.block 1 (RC.seq (RC.region 4 [
    ⟨(some 5), .move (.t 1), none, 0, []⟩,
    ⟨(some 6), .bin .mul (.c (.s (.int .i64 2))) (.t 5), none, 1, []⟩,
    ⟨(some 7), .bin .add (.t 6) (.c (.s (.int .i64 1))), none, 2, []⟩,
    ⟨(some 4), .move (.t 7), none, 3, []⟩]) (RC.seq (RC.seq (RC.region 12 [
    ⟨(some 8), .move (.t 4), none, 0, []⟩,
    ⟨(some 9), .bin .add (.t 8) (.c (.s (.int .i64 1))), none, 1, []⟩,
    ⟨(some 10), .move (.t 0), none, 2, []⟩,
    ⟨(some 11), .len (.t 10), none, 3, []⟩,
    ⟨(some 12), .bin .lss (.t 9) (.t 11), none, 4, []⟩,
    ⟨(some 13), .move (.t 12), none, 5, []⟩,
    ⟨(some 14), .move (.t 0), (some (13, true)), 6, []⟩,
    ⟨(some 15), .move (.t 4), (some (13, true)), 7, []⟩,
    ⟨(some 16), .bin .add (.t 15) (.c (.s (.int .i64 1))), (some (13, true)), 8, []⟩,
    ⟨(some 17), .move (.t 4), (some (13, true)), 9, []⟩,
    ⟨(some 18), .call F.heap_row_ahead [(.t 14), (.t 16), (.t 17)], (some (13, true)), 10, []⟩,
    ⟨(some 19), .pick (.t 13) (.t 18) (.c (.s (.bool false))), none, 11, []⟩]) (RC.cond (.t 19) (RC.region 3 [
    ⟨(some 20), .move (.t 4), none, 0, []⟩,
    ⟨(some 21), .bin .add (.t 20) (.c (.s (.int .i64 1))), none, 1, []⟩,
    ⟨(some 4), .move (.t 21), none, 2, []⟩]) (RC.skip))) R.heap_row_down_s0))
def heap_row_down : RFunc := RFunc.mk 48 [] (
  RC.block 0 (RC.loop R.heap_row_down_l1))
theorem heap_row_down_ok : chkFunc Go.Proofs.Tryz.prog [0] Go.Proofs.Tryz.f226 heap_row_down = true := by kernel_rfl
def slices_rotateCmpFunc_cyc_Fired_l0 : RC :=
  RC.seq (RC.seq (RC.region 3 [
    ⟨(some 18), .move (.t 10), none, 0, []⟩,
    ⟨(some 19), .move (.t 11), none, 1, []⟩,
    ⟨(some 20), .bin .neq (.t 18) (.t 19), none, 2, []⟩]) (RC.cond (.t 20) (RC.skip) (RC.exit 0))) (RC.block 1 (RC.seq (RC.region 3 [
    ⟨(some 21), .move (.t 10), none, 0, []⟩,
    ⟨(some 22), .move (.t 11), none, 1, []⟩,
    ⟨(some 23), .bin .gtr (.t 21) (.t 22), none, 2, []⟩]) (RC.cond (.t 23) (RC.seq (RC.region 8 [
    ⟨(some 24), .move (.t 0), none, 0, []⟩,
    ⟨(some 25), .move (.t 2), none, 1, []⟩,
    ⟨(some 26), .move (.t 10), none, 2, []⟩,
    ⟨(some 27), .bin .sub (.t 25) (.t 26), none, 3, []⟩,
    ⟨(some 28), .move (.t 2), none, 4, []⟩,
    ⟨(some 29), .move (.t 11), none, 5, []⟩,
    ⟨(some 30), .move (.t 4), none, 6, []⟩,
    ⟨(some 31), .call F.slices_swapRangeCmpFunc_cyc_Fired [(.t 24), (.t 27), (.t 28), (.t 29), (.t 30)], none, 7, []⟩]) (RC.region 4 [
    ⟨(some 32), .move (.t 10), none, 0, []⟩,
    ⟨(some 33), .move (.t 11), none, 1, []⟩,
    ⟨(some 34), .bin .sub (.t 32) (.t 33), none, 2, []⟩,
    ⟨(some 10), .move (.t 34), none, 3, []⟩])) (RC.seq (RC.region 12 [
    ⟨(some 35), .move (.t 0), none, 0, []⟩,
    ⟨(some 36), .move (.t 2), none, 1, []⟩,
    ⟨(some 37), .move (.t 10), none, 2, []⟩,
    ⟨(some 38), .bin .sub (.t 36) (.t 37), none, 3, []⟩,
    ⟨(some 39), .move (.t 2), none, 4, []⟩,
    ⟨(some 40), .move (.t 11), none, 5, []⟩,
    ⟨(some 41), .bin .add (.t 39) (.t 40), none, 6, []⟩,
    ⟨(some 42), .move (.t 10), none, 7, []⟩,
    ⟨(some 43), .bin .sub (.t 41) (.t 42), none, 8, []⟩,
    ⟨(some 44), .move (.t 10), none, 9, []⟩,
    ⟨(some 45), .move (.t 4), none, 10, []⟩,
    ⟨(some 46), .call F.slices_swapRangeCmpFunc_cyc_Fired [(.t 35), (.t 38), (.t 43), (.t 44), (.t 45)], none, 11, []⟩]) (RC.region 4 [
    ⟨(some 47), .move (.t 11), none, 0, []⟩,
    ⟨(some 48), .move (.t 10), none, 1, []⟩,
    ⟨(some 49), .bin .sub (.t 47) (.t 48), none, 2, []⟩,
    ⟨(some 11), .move (.t 49), none, 3, []⟩])))))
def slices_rotateCmpFunc_cyc_Fired_s1 : RC :=
  RC.region 8 [
    ⟨(some 50), .move (.t 0), none, 0, []⟩,
    ⟨(some 51), .move (.t 2), none, 1, []⟩,
    ⟨(some 52), .move (.t 10), none, 2, []⟩,
    ⟨(some 53), .bin .sub (.t 51) (.t 52), none, 3, []⟩,
    ⟨(some 54), .move (.t 2), none, 4, []⟩,
    ⟨(some 55), .move (.t 10), none, 5, []⟩,
    ⟨(some 56), .move (.t 4), none, 6, []⟩,
    ⟨(some 57), .call F.slices_swapRangeCmpFunc_cyc_Fired [(.t 50), (.t 53), (.t 54), (.t 55), (.t 56)], none, 7, []⟩]
def slices_rotateCmpFunc_cyc_Fired : RFunc := RFunc.mk 58 [] (
  RC.seq (RC.region 4 [
    ⟨(some 12), .move (.t 2), none, 0, []⟩,
    ⟨(some 13), .move (.t 1), none, 1, []⟩,
    ⟨(some 14), .bin .sub (.t 12) (.t 13), none, 2, []⟩,
    ⟨(some 10), .move (.t 14), none, 3, []⟩]) (RC.seq (RC.region 4 [
    ⟨(some 15), .move (.t 3), none, 0, []⟩,
    ⟨(some 16), .move (.t 2), none, 1, []⟩,
    ⟨(some 17), .bin .sub (.t 15) (.t 16), none, 2, []⟩,
    ⟨(some 11), .move (.t 17), none, 3, []⟩]) (RC.seq (RC.block 0 (RC.loop R.slices_rotateCmpFunc_cyc_Fired_l0)) R.slices_rotateCmpFunc_cyc_Fired_s1)))
theorem slices_rotateCmpFunc_cyc_Fired_ok : chkFunc Go.Proofs.Tryz.prog [0] Go.Proofs.Tryz.f227 slices_rotateCmpFunc_cyc_Fired = true := by kernel_rfl
def slices_rotateRight_order_Item : RFunc := RFunc.mk 10 [] (
  RC.region 6 [
    ⟨(some 4), .move (.t 0), none, 0, []⟩,
    ⟨(some 5), .move (.t 0), none, 1, []⟩,
    ⟨(some 6), .len (.t 5), none, 2, []⟩,
    ⟨(some 7), .move (.t 1), none, 3, []⟩,
    ⟨(some 8), .bin .sub (.t 6) (.t 7), none, 4, []⟩,
    ⟨(some 9), .call F.slices_rotateLeft_order_Item [(.t 4), (.t 8)], none, 5, []⟩])
theorem slices_rotateRight_order_Item_ok : chkFunc Go.Proofs.Tryz.prog [0] Go.Proofs.Tryz.f229 slices_rotateRight_order_Item = true := by kernel_rfl
def slices_IndexFunc_heap_row_heap_entry_l0 : RC :=
  RC.seq (RC.region 1 [
    ⟨(some 9), .bin .lss (.t 8) (.t 7), none, 0, []⟩]) (RC.seq (RC.cond (.t 9) (RC.skip) (RC.exit 0)) (RC.seq (RC.block 1 (RC.seq (RC.region 2 [
    ⟨(some 10), .move (.t 8), none, 0, []⟩,
    ⟨(some 5), .move (.t 10), none, 1, []⟩]) (RC.seq (RC.region 6 [
    ⟨(some 11), .move (.t 1), none, 0, []⟩,
    ⟨(some 12), .move (.t 0), none, 1, []⟩,
    ⟨(some 13), .move (.t 5), none, 2, []⟩,
    ⟨(some 14), .indexSl 3 (.t 12) (.t 13), none, 3, []⟩,
    ⟨(some 15), .load (some 3) (.t 14), none, 4, []⟩,
    ⟨(some 16), .callv (.t 11) [(.t 15)], none, 5, []⟩]) (RC.cond (.t 16) (RC.seq (RC.region 2 [
    ⟨(some 17), .move (.t 5), none, 0, []⟩,
    ⟨(some 4), .move (.t 17), none, 1, []⟩]) (RC.ret)) (RC.skip))))) (RC.region 2 [
    ⟨(some 18), .bin .add (.t 8) (.c (.s (.int .i64 1))), none, 0, []⟩,
    ⟨(some 8), .move (.t 18), none, 1, []⟩])))
def slices_IndexFunc_heap_row_heap_entry_s1 : RC :=
  RC.seq (RC.region 1 [
    ⟨(some 4), .move (.c (.s (.int .i64 (-1)))), none, 0, []⟩]) (RC.ret)
def slices_IndexFunc_heap_row_heap_entry : RFunc := RFunc.mk 19 [.tmp 4] (
  RC.seq (RC.region 1 [
    ⟨(some 4), .move (.c (.s (.int .i64 0))), none, 0, []⟩]) (RC.seq (RC.seq (RC.region 3 [
    ⟨(some 6), .move (.t 0), none, 0, []⟩,
    ⟨(some 7), .len (.t 6), none, 1, []⟩,
    ⟨(some 8), .move (.c (.s (.int .i64 0))), none, 2, []⟩]) (RC.block 0 (RC.loop R.slices_IndexFunc_heap_row_heap_entry_l0))) R.slices_IndexFunc_heap_row_heap_entry_s1))
theorem slices_IndexFunc_heap_row_heap_entry_ok : chkFunc Go.Proofs.Tryz.prog [0] Go.Proofs.Tryz.f230 slices_IndexFunc_heap_row_heap_entry = true := by kernel_rfl
def heap_Timers_find_1 : RFunc := RFunc.mk 8 [.tmp 3] (
  RC.seq (RC.region 2 [
    ⟨(some 2), .box (.t 0), none, 0, []⟩,
    ⟨(some 3), .move (.c (.s (.bool false))), none, 1, []⟩]) (RC.seq (RC.region 5 [
    ⟨(some 4), .fieldAddr 1 (.t 2), none, 0, []⟩,
    ⟨(some 5), .load none (.t 4), none, 1, []⟩,
    ⟨(some 6), .load none (.t 1), none, 2, []⟩,
    ⟨(some 7), .bin .eql (.t 5) (.t 6), none, 3, []⟩,
    ⟨(some 3), .move (.t 7), none, 4, []⟩]) (RC.ret)))
theorem heap_Timers_find_1_ok : chkFunc Go.Proofs.Tryz.prog [0] Go.Proofs.Tryz.f231 heap_Timers_find_1 = true := by kernel_rfl
def slices_Reverse__int_int_l0 : RC :=
  RC.seq (RC.seq (RC.region 3 [
    ⟨(some 7), .move (.t 2), none, 0, []⟩,
    ⟨(some 8), .move (.t 3), none, 1, []⟩,
    ⟨(some 9), .bin .lss (.t 7) (.t 8), none, 2, []⟩]) (RC.cond (.t 9) (RC.skip) (RC.exit 0))) (RC.seq (RC.block 1 (RC.region 16 [
    ⟨(some 14), .move (.t 0), none, 0, []⟩,
    ⟨(some 15), .move (.t 2), none, 1, []⟩,
    ⟨(some 16), .move (.t 0), none, 2, []⟩,
    ⟨(some 17), .move (.t 3), none, 3, []⟩,
    ⟨(some 18), .move (.t 0), none, 4, []⟩,
    ⟨(some 19), .move (.t 3), none, 5, []⟩,
    ⟨(some 20), .indexSl 1 (.t 18) (.t 19), none, 6, []⟩,
    ⟨(some 21), .load none (.t 20), none, 7, []⟩,
    ⟨(some 22), .move (.t 0), none, 8, []⟩,
    ⟨(some 23), .move (.t 2), none, 9, []⟩,
    ⟨(some 24), .indexSl 1 (.t 22) (.t 23), none, 10, []⟩,
    ⟨(some 25), .load none (.t 24), none, 11, []⟩,
    ⟨(some 26), .indexSl 1 (.t 14) (.t 15), none, 12, []⟩,
    ⟨none, .store 1 (.t 26) (.t 21), none, 13, []⟩,
    ⟨(some 27), .indexSl 1 (.t 16) (.t 17), none, 14, []⟩,
    ⟨none, .store 1 (.t 27) (.t 25), none, 15, []⟩])) (RC.region 6 [
    ⟨(some 10), .move (.t 2), none, 0, []⟩,
    ⟨(some 11), .bin .add (.t 10) (.c (.s (.int .i64 1))), none, 1, []⟩,
    ⟨(some 12), .move (.t 3), none, 2, []⟩,
    ⟨(some 13), .bin .sub (.t 12) (.c (.s (.int .i64 1))), none, 3, []⟩,
    ⟨(some 2), .move (.t 11), none, 4, []⟩,
    ⟨(some 3), .move (.t 13), none, 5, []⟩]))
def slices_Reverse__int_int : RFunc := RFunc.mk 28 [] (
  RC.seq (RC.region 5 [
    ⟨(some 4), .move (.t 0), none, 0, []⟩,
    ⟨(some 5), .len (.t 4), none, 1, []⟩,
    ⟨(some 6), .bin .sub (.t 5) (.c (.s (.int .i64 1))), none, 2, []⟩,
    ⟨(some 2), .move (.c (.s (.int .i64 0))), none, 3, []⟩,
    ⟨(some 3), .move (.t 6), none, 4, []⟩]) (RC.block 0 (RC.loop R.slices_Reverse__int_int_l0)))
theorem slices_Reverse__int_int_ok : chkFunc Go.Proofs.Tryz.prog [0] Go.Proofs.Tryz.f232 slices_Reverse__int_int = true := by kernel_rfl
def heap_row_ahead : RFunc := RFunc.mk 36 [.tmp 6] (
  RC.seq (RC.region 1 [
    ⟨(some 6), .move (.c (.s (.bool false))), none, 0, []⟩]) (RC.seq (RC.region 12 [
    ⟨(some 9), .move (.t 0), none, 0, []⟩,
    ⟨(some 10), .move (.t 1), none, 1, []⟩,
    ⟨(some 11), .indexSl 3 (.t 9) (.t 10), none, 2, []⟩,
    ⟨(some 12), .load (some 3) (.t 11), none, 3, []⟩,
    ⟨(some 13), .move (.t 0), none, 4, []⟩,
    ⟨(some 14), .move (.t 2), none, 5, []⟩,
    ⟨(some 15), .indexSl 3 (.t 13) (.t 14), none, 6, []⟩,
    ⟨(some 16), .load (some 3) (.t 15), none, 7, []⟩,
    ⟨(some 7), .newc [.int .u64 0, .int .i64 0, .int .i64 0], none, 8, []⟩,
    ⟨(some 8), .newc [.int .u64 0, .int .i64 0, .int .i64 0], none, 9, []⟩,
    ⟨none, .store 3 (.t 7) (.t 12), none, 10, [⟨16, (some 3), (.t 15), none⟩]⟩,
    ⟨none, .store 3 (.t 8) (.t 16), none, 11, []⟩]) (RC.seq (RC.region 20 [
    ⟨(some 17), .fieldAddr 0 (.t 7), none, 0, []⟩,
    ⟨(some 18), .load none (.t 17), none, 1, []⟩,
    ⟨(some 19), .fieldAddr 0 (.t 8), none, 2, []⟩,
    ⟨(some 20), .load none (.t 19), none, 3, []⟩,
    ⟨(some 21), .bin .lss (.t 18) (.t 20), none, 4, []⟩,
    ⟨(some 22), .move (.t 21), none, 5, []⟩,
    ⟨(some 23), .fieldAddr 0 (.t 7), (some (22, false)), 6, []⟩,
    ⟨(some 24), .load none (.t 23), (some (22, false)), 7, []⟩,
    ⟨(some 25), .fieldAddr 0 (.t 8), (some (22, false)), 8, []⟩,
    ⟨(some 26), .load none (.t 25), (some (22, false)), 9, []⟩,
    ⟨(some 27), .bin .eql (.t 24) (.t 26), (some (22, false)), 10, []⟩,
    ⟨(some 28), .move (.t 27), (some (22, false)), 11, []⟩,
    ⟨(some 29), .fieldAddr 1 (.t 7), (some (28, true)), 12, []⟩,
    ⟨(some 30), .load none (.t 29), (some (28, true)), 13, []⟩,
    ⟨(some 31), .fieldAddr 1 (.t 8), (some (28, true)), 14, []⟩,
    ⟨(some 32), .load none (.t 31), (some (28, true)), 15, []⟩,
    ⟨(some 33), .bin .lss (.t 30) (.t 32), (some (28, true)), 16, []⟩,
    ⟨(some 34), .pick (.t 28) (.t 33) (.c (.s (.bool false))), (some (22, false)), 17, []⟩,
    ⟨(some 35), .pick (.t 22) (.c (.s (.bool true))) (.t 34), none, 18, []⟩,
    ⟨(some 6), .move (.t 35), none, 19, []⟩]) (RC.ret))))
theorem heap_row_ahead_ok : chkFunc Go.Proofs.Tryz.prog [0] Go.Proofs.Tryz.f233 heap_row_ahead = true := by kernel_rfl
def slices_swapRangeCmpFunc_cyc_Fired_l0 : RC :=
  RC.seq (RC.seq (RC.region 3 [
    ⟨(some 11), .move (.t 10), none, 0, []⟩,
    ⟨(some 12), .move (.t 3), none, 1, []⟩,
    ⟨(some 13), .bin .lss (.t 11) (.t 12), none, 2, []⟩]) (RC.cond (.t 13) (RC.skip) (RC.exit 0))) (RC.seq (RC.block 1 (RC.region 24 [
    ⟨(some 16), .move (.t 0), none, 0, []⟩,
    ⟨(some 17), .move (.t 1), none, 1, []⟩,
    ⟨(some 18), .move (.t 10), none, 2, []⟩,
    ⟨(some 19), .bin .add (.t 17) (.t 18), none, 3, []⟩,
    ⟨(some 20), .move (.t 0), none, 4, []⟩,
    ⟨(some 21), .move (.t 2), none, 5, []⟩,
    ⟨(some 22), .move (.t 10), none, 6, []⟩,
    ⟨(some 23), .bin .add (.t 21) (.t 22), none, 7, []⟩,
    ⟨(some 24), .move (.t 0), none, 8, []⟩,
    ⟨(some 25), .move (.t 2), none, 9, []⟩,
    ⟨(some 26), .move (.t 10), none, 10, []⟩,
    ⟨(some 27), .bin .add (.t 25) (.t 26), none, 11, []⟩,
    ⟨(some 28), .indexSl 3 (.t 24) (.t 27), none, 12, []⟩,
    ⟨(some 29), .load (some 3) (.t 28), none, 13, []⟩,
    ⟨(some 30), .move (.t 0), none, 14, []⟩,
    ⟨(some 31), .move (.t 1), none, 15, []⟩,
    ⟨(some 32), .move (.t 10), none, 16, []⟩,
    ⟨(some 33), .bin .add (.t 31) (.t 32), none, 17, []⟩,
    ⟨(some 34), .indexSl 3 (.t 30) (.t 33), none, 18, []⟩,
    ⟨(some 35), .load (some 3) (.t 34), none, 19, []⟩,
    ⟨(some 36), .indexSl 3 (.t 16) (.t 19), none, 20, []⟩,
    ⟨none, .store 3 (.t 36) (.t 29), none, 21, []⟩,
    ⟨(some 37), .indexSl 3 (.t 20) (.t 23), none, 22, []⟩,
    ⟨none, .store 3 (.t 37) (.t 35), none, 23, []⟩])) (RC.region 3 [
    ⟨(some 14), .move (.t 10), none, 0, []⟩,
    ⟨(some 15), .bin .add (.t 14) (.c (.s (.int .i64 1))), none, 1, []⟩,
    ⟨(some 10), .move (.t 15), none, 2, []⟩]))
def slices_swapRangeCmpFunc_cyc_Fired : RFunc := RFunc.mk 38 [] (
  RC.seq (RC.region 1 [
    ⟨(some 10), .move (.c (.s (.int .i64 0))), none, 0, []⟩]) (RC.block 0 (RC.loop R.slices_swapRangeCmpFunc_cyc_Fired_l0)))
theorem slices_swapRangeCmpFunc_cyc_Fired_ok : chkFunc Go.Proofs.Tryz.prog [0] Go.Proofs.Tryz.f234 slices_swapRangeCmpFunc_cyc_Fired = true := by kernel_rfl
def slices_rotateLeft_order_Item : RFunc := RFunc.mk 14 [] (
  RC.seq (RC.region 4 [
    ⟨(some 4), .move (.t 0), none, 0, []⟩,
    ⟨(some 5), .move (.t 1), none, 1, []⟩,
    ⟨(some 6), .slSl 2 (.t 4) none (some (.t 5)) none, none, 2, []⟩,
    ⟨(some 7), .call F.slices_Reverse__order_Item_order_Item [(.t 6)], none, 3, []⟩]) (RC.seq (RC.region 4 [
    ⟨(some 8), .move (.t 0), none, 0, []⟩,
    ⟨(some 9), .move (.t 1), none, 1, []⟩,
    ⟨(some 10), .slSl 2 (.t 8) (some (.t 9)) none none, none, 2, []⟩,
    ⟨(some 11), .call F.slices_Reverse__order_Item_order_Item [(.t 10)], none, 3, []⟩]) (RC.region 2 [
    ⟨(some 12), .move (.t 0), none, 0, []⟩,
    ⟨(some 13), .call F.slices_Reverse__order_Item_order_Item [(.t 12)], none, 1, []⟩])))
theorem slices_rotateLeft_order_Item_ok : chkFunc Go.Proofs.Tryz.prog [0] Go.Proofs.Tryz.f235 slices_rotateLeft_order_Item = true := by kernel_rfl
def slices_Reverse__order_Item_order_Item_l0 : RC :=
  RC.seq (RC.seq (RC.region 3 [
    ⟨(some 7), .move (.t 2), none, 0, []⟩,
    ⟨(some 8), .move (.t 3), none, 1, []⟩,
    ⟨(some 9), .bin .lss (.t 7) (.t 8), none, 2, []⟩]) (RC.cond (.t 9) (RC.skip) (RC.exit 0))) (RC.seq (RC.block 1 (RC.region 16 [
    ⟨(some 14), .move (.t 0), none, 0, []⟩,
    ⟨(some 15), .move (.t 2), none, 1, []⟩,
    ⟨(some 16), .move (.t 0), none, 2, []⟩,
    ⟨(some 17), .move (.t 3), none, 3, []⟩,
    ⟨(some 18), .move (.t 0), none, 4, []⟩,
    ⟨(some 19), .move (.t 3), none, 5, []⟩,
    ⟨(some 20), .indexSl 2 (.t 18) (.t 19), none, 6, []⟩,
    ⟨(some 21), .load (some 2) (.t 20), none, 7, []⟩,
    ⟨(some 22), .move (.t 0), none, 8, []⟩,
    ⟨(some 23), .move (.t 2), none, 9, []⟩,
    ⟨(some 24), .indexSl 2 (.t 22) (.t 23), none, 10, []⟩,
    ⟨(some 25), .load (some 2) (.t 24), none, 11, []⟩,
    ⟨(some 26), .indexSl 2 (.t 14) (.t 15), none, 12, []⟩,
    ⟨none, .store 2 (.t 26) (.t 21), none, 13, []⟩,
    ⟨(some 27), .indexSl 2 (.t 16) (.t 17), none, 14, []⟩,
    ⟨none, .store 2 (.t 27) (.t 25), none, 15, []⟩])) (RC.region 6 [
    ⟨(some 10), .move (.t 2), none, 0, []⟩,
    ⟨(some 11), .bin .add (.t 10) (.c (.s (.int .i64 1))), none, 1, []⟩,
    ⟨(some 12), .move (.t 3), none, 2, []⟩,
    ⟨(some 13), .bin .sub (.t 12) (.c (.s (.int .i64 1))), none, 3, []⟩,
    ⟨(some 2), .move (.t 11), none, 4, []⟩,
    ⟨(some 3), .move (.t 13), none, 5, []⟩]))
def slices_Reverse__order_Item_order_Item : RFunc := RFunc.mk 28 [] (
  RC.seq (RC.region 5 [
    ⟨(some 4), .move (.t 0), none, 0, []⟩,
    ⟨(some 5), .len (.t 4), none, 1, []⟩,
    ⟨(some 6), .bin .sub (.t 5) (.c (.s (.int .i64 1))), none, 2, []⟩,
    ⟨(some 2), .move (.c (.s (.int .i64 0))), none, 3, []⟩,
    ⟨(some 3), .move (.t 6), none, 4, []⟩]) (RC.block 0 (RC.loop R.slices_Reverse__order_Item_order_Item_l0)))
theorem slices_Reverse__order_Item_order_Item_ok : chkFunc Go.Proofs.Tryz.prog [0] Go.Proofs.Tryz.f236 slices_Reverse__order_Item_order_Item = true := by kernel_rfl
end Go.AM.R
