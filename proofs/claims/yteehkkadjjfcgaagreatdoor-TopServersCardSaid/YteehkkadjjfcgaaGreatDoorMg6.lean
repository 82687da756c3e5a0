/-
  The code of the functions,as the abstract machine has it; it is the program's.
-/
import Derived.Test.YteehkkadjjfcgaaGreatDoorMg1
import Derived.Test.YteehkkadjjfcgaaGreatDoorMg2
import Derived.Test.YteehkkadjjfcgaaGreatDoorProg
import Derived.KernelRfl
import Derived.Test.YteehkkadjjfcgaaGreatDoorMg3
import Derived.Test.YteehkkadjjfcgaaGreatDoorMg4
import Derived.Test.YteehkkadjjfcgaaGreatDoorMg5
set_option maxRecDepth 100000
namespace Go.AM.R
open Go.AM
def mtx_Kind_right_s0 : RC :=
  RC.cond (.t 5) (RC.seq (RC.region 4 [
  ⟨some 9,.fieldAddr 1 (.t 1),none,0,[]⟩,
  ⟨some 10,.load none (.t 9),none,1,[]⟩,
  ⟨some 11,.bin .eql (.t 10) (.c (.s (.int .i64 0))),none,2,[]⟩,
  ⟨some 2,.move (.t 11),none,3,[]⟩]) (RC.ret)) (RC.seq (RC.region 2 [
  ⟨some 13,.bin .eql (.t 4) (.c (.s (.int .i64 3))),none,0,[]⟩,
  ⟨some 12,.move (.t 13),none,1,[]⟩]) (RC.cond (.t 12) (RC.seq (RC.region 4 [
  ⟨some 14,.fieldAddr 1 (.t 1),none,0,[]⟩,
  ⟨some 15,.load none (.t 14),none,1,[]⟩,
  ⟨some 16,.call F.mtx_may [(.t 15)],none,2,[]⟩,
  ⟨some 2,.move (.t 16),none,3,[]⟩]) (RC.ret)) (RC.skip)))
def mtx_Kind_right_s1 : RC :=
  RC.seq (RC.region 1 [
  ⟨some 2,.move (.c (.s (.bool false))),none,0,[]⟩]) (RC.ret)
def mtx_Kind_right : RFunc := RFunc.mk 17 [.tmp 2] (
  RC.seq (RC.region 2 [
  ⟨some 1,.box (.t 0),none,0,[]⟩,
  ⟨some 2,.move (.c (.s (.bool false))),none,1,[]⟩]) (RC.seq (RC.seq (RC.region 2 [
  ⟨some 3,.fieldAddr 0 (.t 1),none,0,[]⟩,
  ⟨some 4,.load none (.t 3),none,1,[]⟩]) (RC.block 0 (RC.seq (RC.seq (RC.region 2 [
  ⟨some 6,.bin .eql (.t 4) (.c (.s (.int .i64 0))),none,0,[]⟩,
  ⟨some 5,.move (.t 6),none,1,[]⟩]) (RC.cond (.t 5) (RC.skip) (RC.seq (RC.region 2 [
  ⟨some 7,.bin .eql (.t 4) (.c (.s (.int .i64 1))),none,0,[]⟩,
  ⟨some 5,.move (.t 7),none,1,[]⟩]) (RC.cond (.t 5) (RC.skip) (RC.region 2 [
  ⟨some 8,.bin .eql (.t 4) (.c (.s (.int .i64 2))),none,0,[]⟩,
  ⟨some 5,.move (.t 8),none,1,[]⟩]))))) R.mtx_Kind_right_s0))) R.mtx_Kind_right_s1))
theorem mtx_Kind_right_ok : chkFunc Go.Proofs.Tryz.prog [0] Go.Proofs.Tryz.f263 mtx_Kind_right = true := by kernel_rfl
def nums_Align : RFunc := RFunc.mk 28 [.tmp 4] (
  RC.seq (RC.region 1 [
  ⟨some 4,.move (.c (.s (.int .i64 0))),none,0,[]⟩]) (RC.seq (RC.seq (RC.region 14 [
  ⟨some 5,.move (.t 0),none,0,[]⟩,
  ⟨some 6,.bin .lss (.t 5) (.c (.s (.int .i64 0))),none,1,[]⟩,
  ⟨some 7,.move (.t 6),none,2,[]⟩,
  ⟨some 8,.move (.t 0),(some (7,false)),3,[]⟩,
  ⟨some 9,.bin .gtr (.t 8) (.c (.s (.int .i64 1073741824))),(some (7,false)),4,[]⟩,
  ⟨some 10,.pick (.t 7) (.c (.s (.bool true))) (.t 9),none,5,[]⟩,
  ⟨some 11,.move (.t 10),none,6,[]⟩,
  ⟨some 12,.move (.t 1),(some (11,false)),7,[]⟩,
  ⟨some 13,.bin .lss (.t 12) (.c (.s (.int .i64 1))),(some (11,false)),8,[]⟩,
  ⟨some 14,.pick (.t 11) (.c (.s (.bool true))) (.t 13),none,9,[]⟩,
  ⟨some 15,.move (.t 14),none,10,[]⟩,
  ⟨some 16,.move (.t 1),(some (15,false)),11,[]⟩,
  ⟨some 17,.bin .gtr (.t 16) (.c (.s (.int .i64 4096))),(some (15,false)),12,[]⟩,
  ⟨some 18,.pick (.t 15) (.c (.s (.bool true))) (.t 17),none,13,[]⟩]) (RC.cond (.t 18) (RC.seq (RC.region 2 [
  ⟨some 19,.move (.t 0),none,0,[]⟩,
  ⟨some 4,.move (.t 19),none,1,[]⟩]) (RC.ret)) (RC.skip))) (RC.seq (RC.region 9 [
  ⟨some 20,.move (.t 0),none,0,[]⟩,
  ⟨some 21,.move (.t 1),none,1,[]⟩,
  ⟨some 22,.bin .add (.t 20) (.t 21),none,2,[]⟩,
  ⟨some 23,.bin .sub (.t 22) (.c (.s (.int .i64 1))),none,3,[]⟩,
  ⟨some 24,.move (.t 1),none,4,[]⟩,
  ⟨some 25,.bin .quo (.t 23) (.t 24),none,5,[]⟩,
  ⟨some 26,.move (.t 1),none,6,[]⟩,
  ⟨some 27,.bin .mul (.t 25) (.t 26),none,7,[]⟩,
  ⟨some 4,.move (.t 27),none,8,[]⟩]) (RC.ret))))
theorem nums_Align_ok : chkFunc Go.Proofs.Tryz.prog [0] Go.Proofs.Tryz.f107 nums_Align = true := by kernel_rfl
def heap_New : RFunc := RFunc.mk 3 [.tmp 0] (
  RC.seq (RC.region 1 [
  ⟨some 0,.move (.c (.s (.ptr none))),none,0,[]⟩]) (RC.seq (RC.region 3 [
  ⟨some 1,.build [.slice none 0 0 1,.int .i64 0] [],none,0,[]⟩,
  ⟨some 2,.box (.t 1),none,1,[]⟩,
  ⟨some 0,.move (.t 2),none,2,[]⟩]) (RC.ret)))
theorem heap_New_ok : chkFunc Go.Proofs.Tryz.prog [0] Go.Proofs.Tryz.f264 heap_New = true := by kernel_rfl
def slices_Clone__int_int : RFunc := RFunc.mk 8 [.tmp 2] (
  RC.seq (RC.region 1 [
  ⟨some 2,.move (.c (.s (.slice none 0 0 1))),none,0,[]⟩]) (RC.seq (RC.seq (RC.region 2 [
  ⟨some 3,.move (.t 0),none,0,[]⟩,
  ⟨some 4,.eqs .slice false (.t 3) (.c (.s (.slice none 0 0 1))),none,1,[]⟩]) (RC.cond (.t 4) (RC.seq (RC.region 1 [
  ⟨some 2,.move (.c (.s (.slice none 0 0 1))),none,0,[]⟩]) (RC.ret)) (RC.skip))) (RC.seq (RC.region 4 [
  ⟨some 5,.buildSlice 1 0 [] [],none,0,[]⟩,
  ⟨some 6,.move (.t 0),none,1,[]⟩,
  ⟨some 7,.append 1 8 (.t 5) (.t 6),none,2,[]⟩,
  ⟨some 2,.move (.t 7),none,3,[]⟩]) (RC.ret))))
theorem slices_Clone__int_int_ok : chkFunc Go.Proofs.Tryz.prog [0] Go.Proofs.Tryz.f174 slices_Clone__int_int = true := by kernel_rfl
def mtx_All_reckon_l0 : RC :=
  RC.seq (RC.region 1 [
  ⟨some 57,.bin .lss (.t 56) (.t 55),none,0,[]⟩]) (RC.seq (RC.cond (.t 57) (RC.skip) (RC.exit 3)) (RC.seq (RC.block 4 (RC.seq (RC.region 3 [
  ⟨some 58,.indexSl 1 (.t 54) (.t 56),none,0,[]⟩,
  ⟨some 59,.load none (.t 58),none,1,[]⟩,
  ⟨some 11,.move (.t 59),none,2,[]⟩]) (RC.region 8 [
  ⟨some 60,.move (.t 7),none,0,[]⟩,
  ⟨some 61,.move (.t 0),none,1,[]⟩,
  ⟨some 62,.move (.t 11),none,2,[]⟩,
  ⟨some 63,.move (.t 2),none,3,[]⟩,
  ⟨some 64,.bin .add (.t 63) (.c (.s (.int .i64 1))),none,4,[]⟩,
  ⟨some 65,.call F.mtx_All_reckon [(.t 61),(.t 62),(.t 64)],none,5,[]⟩,
  ⟨some 66,.minmax false (.t 60) (.t 65),none,6,[]⟩,
  ⟨some 7,.move (.t 66),none,7,[]⟩]))) (RC.region 2 [
  ⟨some 67,.bin .add (.t 56) (.c (.s (.int .i64 1))),none,0,[]⟩,
  ⟨some 56,.move (.t 67),none,1,[]⟩])))
def mtx_All_reckon_s1 : RC :=
  RC.region 2 [
  ⟨some 68,.bin .add (.t 25) (.c (.s (.int .i64 1))),none,0,[]⟩,
  ⟨some 25,.move (.t 68),none,1,[]⟩]
def mtx_All_reckon_l2 : RC :=
  RC.seq (RC.region 1 [
  ⟨some 26,.bin .lss (.t 25) (.t 24),none,0,[]⟩]) (RC.seq (RC.cond (.t 26) (RC.skip) (RC.exit 0)) (RC.seq (RC.block 1 (RC.seq (RC.region 4 [
  ⟨some 27,.indexSl 4 (.t 23) (.t 25),none,0,[]⟩,
  ⟨some 28,.load (some 4) (.t 27),none,1,[]⟩,
  ⟨some 9,.newc [.int .i64 0,.int .i64 0,.int .i64 0,.slice none 0 0 1],none,2,[]⟩,
  ⟨none,.store 4 (.t 9) (.t 28),none,3,[]⟩]) (RC.block 2 (RC.seq (RC.region 9 [
  ⟨some 30,.fieldAddr 2 (.t 9),none,0,[]⟩,
  ⟨some 31,.load none (.t 30),none,1,[]⟩,
  ⟨some 32,.move (.t 1),none,2,[]⟩,
  ⟨some 33,.bin .neq (.t 31) (.t 32),none,3,[]⟩,
  ⟨some 34,.move (.t 33),none,4,[]⟩,
  ⟨some 35,.move (.t 2),(some (34,false)),5,[]⟩,
  ⟨some 36,.bin .gtr (.t 35) (.c (.s (.int .i64 16))),(some (34,false)),6,[]⟩,
  ⟨some 37,.pick (.t 34) (.c (.s (.bool true))) (.t 36),none,7,[]⟩,
  ⟨some 29,.move (.t 37),none,8,[]⟩]) (RC.cond (.t 29) (RC.skip) (RC.seq (RC.region 5 [
  ⟨some 39,.fieldAddr 0 (.t 9),none,0,[]⟩,
  ⟨some 40,.fieldAddr 0 (.t 39),none,1,[]⟩,
  ⟨some 41,.load none (.t 40),none,2,[]⟩,
  ⟨some 42,.bin .eql (.t 41) (.c (.s (.int .i64 3))),none,3,[]⟩,
  ⟨some 38,.move (.t 42),none,4,[]⟩]) (RC.cond (.t 38) (RC.region 6 [
  ⟨some 43,.move (.t 7),none,0,[]⟩,
  ⟨some 44,.fieldAddr 0 (.t 9),none,1,[]⟩,
  ⟨some 45,.fieldAddr 1 (.t 44),none,2,[]⟩,
  ⟨some 46,.load none (.t 45),none,3,[]⟩,
  ⟨some 47,.minmax false (.t 43) (.t 46),none,4,[]⟩,
  ⟨some 7,.move (.t 47),none,5,[]⟩]) (RC.seq (RC.region 5 [
  ⟨some 49,.fieldAddr 0 (.t 9),none,0,[]⟩,
  ⟨some 50,.fieldAddr 0 (.t 49),none,1,[]⟩,
  ⟨some 51,.load none (.t 50),none,2,[]⟩,
  ⟨some 52,.bin .eql (.t 51) (.c (.s (.int .i64 2))),none,3,[]⟩,
  ⟨some 48,.move (.t 52),none,4,[]⟩]) (RC.cond (.t 48) (RC.seq (RC.region 4 [
  ⟨some 53,.fieldAddr 3 (.t 9),none,0,[]⟩,
  ⟨some 54,.load none (.t 53),none,1,[]⟩,
  ⟨some 55,.len (.t 54),none,2,[]⟩,
  ⟨some 56,.move (.c (.s (.int .i64 0))),none,3,[]⟩]) (RC.block 3 (RC.loop R.mtx_All_reckon_l0))) (RC.skip)))))))))) R.mtx_All_reckon_s1))
def mtx_All_reckon_s3 : RC :=
  RC.seq (RC.region 2 [
  ⟨some 69,.move (.t 7),none,0,[]⟩,
  ⟨some 6,.move (.t 69),none,1,[]⟩]) (RC.ret)
def mtx_All_reckon : RFunc := RFunc.mk 70 [.tmp 6] (
  RC.seq (RC.region 1 [
  ⟨some 6,.move (.c (.s (.int .i64 0))),none,0,[]⟩]) (RC.seq (RC.region 8 [
  ⟨some 12,.move (.t 0),none,0,[]⟩,
  ⟨some 13,.move (.t 1),none,1,[]⟩,
  ⟨some 14,.nilCheck (.t 12),none,2,[]⟩,
  ⟨some 15,.fieldAddr 1 (.t 14),none,3,[]⟩,
  ⟨some 16,.indexArr 17 3 (.t 15) (.t 13),none,4,[]⟩,
  ⟨some 17,.fieldAddr 0 (.t 16),none,5,[]⟩,
  ⟨some 18,.load none (.t 17),none,6,[]⟩,
  ⟨some 7,.move (.t 18),none,7,[]⟩]) (RC.seq (RC.seq (RC.region 7 [
  ⟨some 19,.move (.t 0),none,0,[]⟩,
  ⟨some 20,.nilCheck (.t 19),none,1,[]⟩,
  ⟨some 21,.fieldAddr 0 (.t 20),none,2,[]⟩,
  ⟨some 22,.load none (.t 21),none,3,[]⟩,
  ⟨some 23,.slSl 4 (.t 22) (some (.c (.s (.int .i64 1)))) none none,none,4,[]⟩,
  ⟨some 24,.len (.t 23),none,5,[]⟩,
  ⟨some 25,.move (.c (.s (.int .i64 0))),none,6,[]⟩]) (RC.block 0 (RC.loop R.mtx_All_reckon_l2))) R.mtx_All_reckon_s3)))
theorem mtx_All_reckon_ok : chkFunc Go.Proofs.Tryz.prog [0] Go.Proofs.Tryz.f265 mtx_All_reckon = true := by kernel_rfl
def mtx_All_leave : RFunc := RFunc.mk 28 [] (
  RC.seq (RC.region 1 [
  ⟨some 5,.box (.t 2),none,0,[]⟩]) (RC.seq (RC.region 7 [
  ⟨some 7,.move (.t 0),none,0,[]⟩,
  ⟨some 8,.nilCheck (.t 7),none,1,[]⟩,
  ⟨some 9,.fieldAddr 0 (.t 8),none,2,[]⟩,
  ⟨some 10,.load none (.t 9),none,3,[]⟩,
  ⟨some 11,.move (.t 1),none,4,[]⟩,
  ⟨some 12,.indexSl 4 (.t 10) (.t 11),none,5,[]⟩,
  ⟨some 6,.move (.t 12),none,6,[]⟩]) (RC.seq (RC.region 6 [
  ⟨some 13,.move (.t 6),none,0,[]⟩,
  ⟨some 14,.nilCheck (.t 13),none,1,[]⟩,
  ⟨some 15,.fieldAddr 0 (.t 14),none,2,[]⟩,
  ⟨some 16,.fieldAddr 0 (.t 15),none,3,[]⟩,
  ⟨some 17,.load none (.t 16),none,4,[]⟩,
  ⟨some 18,.bin .neq (.t 17) (.c (.s (.int .i64 0))),none,5,[]⟩]) (RC.cond (.t 18) (RC.region 10 [
  ⟨some 19,.move (.t 6),none,0,[]⟩,
  ⟨some 20,.move (.t 6),none,1,[]⟩,
  ⟨some 21,.nilCheck (.t 20),none,2,[]⟩,
  ⟨some 22,.fieldAddr 3 (.t 21),none,3,[]⟩,
  ⟨some 23,.load none (.t 22),none,4,[]⟩,
  ⟨some 24,.makeFunc F.mtx_All_leave_1 [(.t 5)],none,5,[]⟩,
  ⟨some 25,.call F.slices_DeleteFunc__int_int [(.t 23),(.t 24)],none,6,[]⟩,
  ⟨some 26,.nilCheck (.t 19),none,7,[]⟩,
  ⟨some 27,.fieldAddr 3 (.t 26),none,8,[]⟩,
  ⟨none,.store 1 (.t 27) (.t 25),none,9,[]⟩]) (RC.skip)))))
theorem mtx_All_leave_ok : chkFunc Go.Proofs.Tryz.prog [0] Go.Proofs.Tryz.f266 mtx_All_leave = true := by kernel_rfl
def mtx_All_rejoin : RFunc := RFunc.mk 20 [] (
  RC.seq (RC.region 10 [
  ⟨some 6,.move (.t 0),none,0,[]⟩,
  ⟨some 7,.nilCheck (.t 6),none,1,[]⟩,
  ⟨some 8,.fieldAddr 0 (.t 7),none,2,[]⟩,
  ⟨some 9,.load none (.t 8),none,3,[]⟩,
  ⟨some 10,.move (.t 1),none,4,[]⟩,
  ⟨some 11,.indexSl 4 (.t 9) (.t 10),none,5,[]⟩,
  ⟨some 12,.fieldAddr 0 (.t 11),none,6,[]⟩,
  ⟨some 13,.fieldAddr 0 (.t 12),none,7,[]⟩,
  ⟨some 14,.load none (.t 13),none,8,[]⟩,
  ⟨some 15,.bin .neq (.t 14) (.c (.s (.int .i64 0))),none,9,[]⟩]) (RC.cond (.t 15) (RC.region 4 [
  ⟨some 16,.move (.t 0),none,0,[]⟩,
  ⟨some 17,.move (.t 1),none,1,[]⟩,
  ⟨some 18,.move (.t 2),none,2,[]⟩,
  ⟨some 19,.call F.mtx_All_stand [(.t 16),(.t 17),(.t 18)],none,3,[]⟩]) (RC.skip)))
theorem mtx_All_rejoin_ok : chkFunc Go.Proofs.Tryz.prog [0] Go.Proofs.Tryz.f267 mtx_All_rejoin = true := by kernel_rfl
def tcb_Task_Is : RFunc := RFunc.mk 11 [.tmp 4] (
  RC.seq (RC.region 1 [
  ⟨some 4,.move (.c (.s (.bool false))),none,0,[]⟩]) (RC.seq (RC.region 7 [
  ⟨some 5,.move (.t 1),none,0,[]⟩,
  ⟨some 6,.move (.t 0),none,1,[]⟩,
  ⟨some 7,.nilCheck (.t 6),none,2,[]⟩,
  ⟨some 8,.fieldAddr 3 (.t 7),none,3,[]⟩,
  ⟨some 9,.load none (.t 8),none,4,[]⟩,
  ⟨some 10,.call F.slices_Contains__int_int [(.t 5),(.t 9)],none,5,[]⟩,
  ⟨some 4,.move (.t 10),none,6,[]⟩]) (RC.ret)))
theorem tcb_Task_Is_ok : chkFunc Go.Proofs.Tryz.prog [0] Go.Proofs.Tryz.f226 tcb_Task_Is = true := by kernel_rfl
def ready_Queue_Add : RFunc := RFunc.mk 28 [.tmp 6] (
  RC.seq (RC.region 1 [
  ⟨some 6,.move (.c (.s (.int .i64 0))),none,0,[]⟩]) (RC.seq (RC.block 0 (RC.seq (RC.region 9 [
  ⟨some 8,.move (.t 1),none,0,[]⟩,
  ⟨some 9,.call F.ready_task [(.t 8)],none,1,[]⟩,
  ⟨some 10,.un .not (.t 9),none,2,[]⟩,
  ⟨some 11,.move (.t 10),none,3,[]⟩,
  ⟨some 12,.move (.t 2),(some (11,false)),4,[]⟩,
  ⟨some 13,.call F.ready_may [(.t 12)],(some (11,false)),5,[]⟩,
  ⟨some 14,.un .not (.t 13),(some (11,false)),6,[]⟩,
  ⟨some 15,.pick (.t 11) (.c (.s (.bool true))) (.t 14),none,7,[]⟩,
  ⟨some 7,.move (.t 15),none,8,[]⟩]) (RC.cond (.t 7) (RC.seq (RC.region 1 [
  ⟨some 6,.move (.c (.s (.int .i64 (-17)))),none,0,[]⟩]) (RC.ret)) (RC.seq (RC.region 8 [
  ⟨some 17,.move (.t 0),none,0,[]⟩,
  ⟨some 18,.move (.t 1),none,1,[]⟩,
  ⟨some 19,.nilCheck (.t 17),none,2,[]⟩,
  ⟨some 20,.fieldAddr 21 (.t 19),none,3,[]⟩,
  ⟨some 21,.indexArr 17 1 (.t 20) (.t 18),none,4,[]⟩,
  ⟨some 22,.load none (.t 21),none,5,[]⟩,
  ⟨some 23,.bin .gtr (.t 22) (.c (.s (.int .i64 0))),none,6,[]⟩,
  ⟨some 16,.move (.t 23),none,7,[]⟩]) (RC.cond (.t 16) (RC.seq (RC.region 1 [
  ⟨some 6,.move (.c (.s (.int .i64 (-41)))),none,0,[]⟩]) (RC.ret)) (RC.skip)))))) (RC.seq (RC.region 4 [
  ⟨some 24,.move (.t 0),none,0,[]⟩,
  ⟨some 25,.move (.t 1),none,1,[]⟩,
  ⟨some 26,.move (.t 2),none,2,[]⟩,
  ⟨some 27,.call F.ready_Queue_put [(.t 24),(.t 25),(.t 26)],none,3,[]⟩]) (RC.seq (RC.region 1 [
  ⟨some 6,.move (.c (.s (.int .i64 0))),none,0,[]⟩]) (RC.ret)))))
theorem ready_Queue_Add_ok : chkFunc Go.Proofs.Tryz.prog [0] Go.Proofs.Tryz.f268 ready_Queue_Add = true := by kernel_rfl
def calls_table : RFunc := RFunc.mk 67 [.tmp 0] (
  RC.seq (RC.region 1 [
  ⟨some 0,.move (.c (.s (.slice none 0 0 1))),none,0,[]⟩]) (RC.seq (RC.region 67 [
  ⟨some 1,.build [.str ⟨#[]⟩,.int .i64 0,.int .i64 0] [],none,0,[]⟩,
  ⟨some 2,.build [.str ⟨#[]⟩,.int .i64 0,.int .i64 0] [(0,1,(.c (.s (.str ⟨#[97,99,116,95,116,115,107]⟩)))),(1,1,(.c (.s (.int .i64 1)))),(2,1,(.c (.s (.int .i64 1))))],none,1,[]⟩,
  ⟨some 3,.build [.str ⟨#[]⟩,.int .i64 0,.int .i64 0] [(0,1,(.c (.s (.str ⟨#[105,97,99,116,95,116,115,107]⟩)))),(1,1,(.c (.s (.int .i64 1)))),(2,1,(.c (.s (.int .i64 3))))],none,2,[]⟩,
  ⟨some 4,.build [.str ⟨#[]⟩,.int .i64 0,.int .i64 0] [(0,1,(.c (.s (.str ⟨#[99,97,110,95,97,99,116]⟩)))),(1,1,(.c (.s (.int .i64 1)))),(2,1,(.c (.s (.int .i64 1))))],none,3,[]⟩,
  ⟨some 5,.build [.str ⟨#[]⟩,.int .i64 0,.int .i64 0] [(0,1,(.c (.s (.str ⟨#[101,120,116,95,116,115,107]⟩)))),(1,1,(.c (.s (.int .i64 0)))),(2,1,(.c (.s (.int .i64 4))))],none,4,[]⟩,
  ⟨some 6,.build [.str ⟨#[]⟩,.int .i64 0,.int .i64 0] [(0,1,(.c (.s (.str ⟨#[116,101,114,95,116,115,107]⟩)))),(1,1,(.c (.s (.int .i64 1)))),(2,1,(.c (.s (.int .i64 1))))],none,5,[]⟩,
  ⟨some 7,.build [.str ⟨#[]⟩,.int .i64 0,.int .i64 0] [(0,1,(.c (.s (.str ⟨#[99,104,103,95,112,114,105]⟩)))),(1,1,(.c (.s (.int .i64 2)))),(2,1,(.c (.s (.int .i64 1))))],none,6,[]⟩,
  ⟨some 8,.build [.str ⟨#[]⟩,.int .i64 0,.int .i64 0] [(0,1,(.c (.s (.str ⟨#[103,101,116,95,112,114,105]⟩)))),(1,1,(.c (.s (.int .i64 1)))),(2,1,(.c (.s (.int .i64 1))))],none,7,[]⟩,
  ⟨some 9,.build [.str ⟨#[]⟩,.int .i64 0,.int .i64 0] [(0,1,(.c (.s (.str ⟨#[114,111,116,95,114,100,113]⟩)))),(1,1,(.c (.s (.int .i64 1)))),(2,1,(.c (.s (.int .i64 1))))],none,8,[]⟩,
  ⟨some 10,.build [.str ⟨#[]⟩,.int .i64 0,.int .i64 0] [(0,1,(.c (.s (.str ⟨#[105,114,111,116,95,114,100,113]⟩)))),(1,1,(.c (.s (.int .i64 1)))),(2,1,(.c (.s (.int .i64 3))))],none,9,[]⟩,
  ⟨some 11,.build [.str ⟨#[]⟩,.int .i64 0,.int .i64 0] [(0,1,(.c (.s (.str ⟨#[103,101,116,95,116,105,100]⟩)))),(1,1,(.c (.s (.int .i64 0)))),(2,1,(.c (.s (.int .i64 1))))],none,10,[]⟩,
  ⟨some 12,.build [.str ⟨#[]⟩,.int .i64 0,.int .i64 0] [(0,1,(.c (.s (.str ⟨#[105,103,101,116,95,116,105,100]⟩)))),(1,1,(.c (.s (.int .i64 0)))),(2,1,(.c (.s (.int .i64 3))))],none,11,[]⟩,
  ⟨some 13,.build [.str ⟨#[]⟩,.int .i64 0,.int .i64 0] [(0,1,(.c (.s (.str ⟨#[115,108,112,95,116,115,107]⟩)))),(1,1,(.c (.s (.int .i64 0)))),(2,1,(.c (.s (.int .i64 2))))],none,12,[]⟩,
  ⟨some 14,.build [.str ⟨#[]⟩,.int .i64 0,.int .i64 0] [(0,1,(.c (.s (.str ⟨#[116,115,108,112,95,116,115,107]⟩)))),(1,1,(.c (.s (.int .i64 1)))),(2,1,(.c (.s (.int .i64 2))))],none,13,[]⟩,
  ⟨some 15,.build [.str ⟨#[]⟩,.int .i64 0,.int .i64 0] [(0,1,(.c (.s (.str ⟨#[119,117,112,95,116,115,107]⟩)))),(1,1,(.c (.s (.int .i64 1)))),(2,1,(.c (.s (.int .i64 1))))],none,14,[]⟩,
  ⟨some 16,.build [.str ⟨#[]⟩,.int .i64 0,.int .i64 0] [(0,1,(.c (.s (.str ⟨#[105,119,117,112,95,116,115,107]⟩)))),(1,1,(.c (.s (.int .i64 1)))),(2,1,(.c (.s (.int .i64 3))))],none,15,[]⟩,
  ⟨some 17,.build [.str ⟨#[]⟩,.int .i64 0,.int .i64 0] [(0,1,(.c (.s (.str ⟨#[99,97,110,95,119,117,112]⟩)))),(1,1,(.c (.s (.int .i64 1)))),(2,1,(.c (.s (.int .i64 1))))],none,16,[]⟩,
  ⟨some 18,.build [.str ⟨#[]⟩,.int .i64 0,.int .i64 0] [(0,1,(.c (.s (.str ⟨#[114,101,108,95,119,97,105]⟩)))),(1,1,(.c (.s (.int .i64 1)))),(2,1,(.c (.s (.int .i64 1))))],none,17,[]⟩,
  ⟨some 19,.build [.str ⟨#[]⟩,.int .i64 0,.int .i64 0] [(0,1,(.c (.s (.str ⟨#[105,114,101,108,95,119,97,105]⟩)))),(1,1,(.c (.s (.int .i64 1)))),(2,1,(.c (.s (.int .i64 3))))],none,18,[]⟩,
  ⟨some 20,.build [.str ⟨#[]⟩,.int .i64 0,.int .i64 0] [(0,1,(.c (.s (.str ⟨#[115,117,115,95,116,115,107]⟩)))),(1,1,(.c (.s (.int .i64 1)))),(2,1,(.c (.s (.int .i64 1))))],none,19,[]⟩,
  ⟨some 21,.build [.str ⟨#[]⟩,.int .i64 0,.int .i64 0] [(0,1,(.c (.s (.str ⟨#[114,115,109,95,116,115,107]⟩)))),(1,1,(.c (.s (.int .i64 1)))),(2,1,(.c (.s (.int .i64 1))))],none,20,[]⟩,
  ⟨some 22,.build [.str ⟨#[]⟩,.int .i64 0,.int .i64 0] [(0,1,(.c (.s (.str ⟨#[102,114,115,109,95,116,115,107]⟩)))),(1,1,(.c (.s (.int .i64 1)))),(2,1,(.c (.s (.int .i64 1))))],none,21,[]⟩,
  ⟨some 23,.build [.str ⟨#[]⟩,.int .i64 0,.int .i64 0] [(0,1,(.c (.s (.str ⟨#[100,108,121,95,116,115,107]⟩)))),(1,1,(.c (.s (.int .i64 1)))),(2,1,(.c (.s (.int .i64 2))))],none,22,[]⟩,
  ⟨some 24,.build [.str ⟨#[]⟩,.int .i64 0,.int .i64 0] [(0,1,(.c (.s (.str ⟨#[115,105,103,95,115,101,109]⟩)))),(1,1,(.c (.s (.int .i64 1)))),(2,1,(.c (.s (.int .i64 1))))],none,23,[]⟩,
  ⟨some 25,.build [.str ⟨#[]⟩,.int .i64 0,.int .i64 0] [(0,1,(.c (.s (.str ⟨#[105,115,105,103,95,115,101,109]⟩)))),(1,1,(.c (.s (.int .i64 1)))),(2,1,(.c (.s (.int .i64 3))))],none,24,[]⟩,
  ⟨some 26,.build [.str ⟨#[]⟩,.int .i64 0,.int .i64 0] [(0,1,(.c (.s (.str ⟨#[119,97,105,95,115,101,109]⟩)))),(1,1,(.c (.s (.int .i64 1)))),(2,1,(.c (.s (.int .i64 2))))],none,25,[]⟩,
  ⟨some 27,.build [.str ⟨#[]⟩,.int .i64 0,.int .i64 0] [(0,1,(.c (.s (.str ⟨#[112,111,108,95,115,101,109]⟩)))),(1,1,(.c (.s (.int .i64 1)))),(2,1,(.c (.s (.int .i64 1))))],none,26,[]⟩,
  ⟨some 28,.build [.str ⟨#[]⟩,.int .i64 0,.int .i64 0] [(0,1,(.c (.s (.str ⟨#[116,119,97,105,95,115,101,109]⟩)))),(1,1,(.c (.s (.int .i64 2)))),(2,1,(.c (.s (.int .i64 2))))],none,27,[]⟩,
  ⟨some 29,.build [.str ⟨#[]⟩,.int .i64 0,.int .i64 0] [(0,1,(.c (.s (.str ⟨#[115,101,116,95,102,108,103]⟩)))),(1,1,(.c (.s (.int .i64 2)))),(2,1,(.c (.s (.int .i64 1))))],none,28,[]⟩,
  ⟨some 30,.build [.str ⟨#[]⟩,.int .i64 0,.int .i64 0] [(0,1,(.c (.s (.str ⟨#[105,115,101,116,95,102,108,103]⟩)))),(1,1,(.c (.s (.int .i64 2)))),(2,1,(.c (.s (.int .i64 3))))],none,29,[]⟩,
  ⟨some 31,.build [.str ⟨#[]⟩,.int .i64 0,.int .i64 0] [(0,1,(.c (.s (.str ⟨#[99,108,114,95,102,108,103]⟩)))),(1,1,(.c (.s (.int .i64 2)))),(2,1,(.c (.s (.int .i64 1))))],none,30,[]⟩,
  ⟨some 32,.build [.str ⟨#[]⟩,.int .i64 0,.int .i64 0] [(0,1,(.c (.s (.str ⟨#[119,97,105,95,102,108,103]⟩)))),(1,1,(.c (.s (.int .i64 3)))),(2,1,(.c (.s (.int .i64 2))))],none,31,[]⟩,
  ⟨some 33,.build [.str ⟨#[]⟩,.int .i64 0,.int .i64 0] [(0,1,(.c (.s (.str ⟨#[112,111,108,95,102,108,103]⟩)))),(1,1,(.c (.s (.int .i64 3)))),(2,1,(.c (.s (.int .i64 1))))],none,32,[]⟩,
  ⟨some 34,.build [.str ⟨#[]⟩,.int .i64 0,.int .i64 0] [(0,1,(.c (.s (.str ⟨#[116,119,97,105,95,102,108,103]⟩)))),(1,1,(.c (.s (.int .i64 4)))),(2,1,(.c (.s (.int .i64 2))))],none,33,[]⟩,
  ⟨some 35,.build [.str ⟨#[]⟩,.int .i64 0,.int .i64 0] [(0,1,(.c (.s (.str ⟨#[115,110,100,95,100,116,113]⟩)))),(1,1,(.c (.s (.int .i64 2)))),(2,1,(.c (.s (.int .i64 2))))],none,34,[]⟩,
  ⟨some 36,.build [.str ⟨#[]⟩,.int .i64 0,.int .i64 0] [(0,1,(.c (.s (.str ⟨#[112,115,110,100,95,100,116,113]⟩)))),(1,1,(.c (.s (.int .i64 2)))),(2,1,(.c (.s (.int .i64 1))))],none,35,[]⟩,
  ⟨some 37,.build [.str ⟨#[]⟩,.int .i64 0,.int .i64 0] [(0,1,(.c (.s (.str ⟨#[105,112,115,110,100,95,100,116,113]⟩)))),(1,1,(.c (.s (.int .i64 2)))),(2,1,(.c (.s (.int .i64 3))))],none,36,[]⟩,
  ⟨some 38,.build [.str ⟨#[]⟩,.int .i64 0,.int .i64 0] [(0,1,(.c (.s (.str ⟨#[116,115,110,100,95,100,116,113]⟩)))),(1,1,(.c (.s (.int .i64 3)))),(2,1,(.c (.s (.int .i64 2))))],none,37,[]⟩,
  ⟨some 39,.build [.str ⟨#[]⟩,.int .i64 0,.int .i64 0] [(0,1,(.c (.s (.str ⟨#[102,115,110,100,95,100,116,113]⟩)))),(1,1,(.c (.s (.int .i64 2)))),(2,1,(.c (.s (.int .i64 1))))],none,38,[]⟩,
  ⟨some 40,.build [.str ⟨#[]⟩,.int .i64 0,.int .i64 0] [(0,1,(.c (.s (.str ⟨#[105,102,115,110,100,95,100,116,113]⟩)))),(1,1,(.c (.s (.int .i64 2)))),(2,1,(.c (.s (.int .i64 3))))],none,39,[]⟩,
  ⟨some 41,.build [.str ⟨#[]⟩,.int .i64 0,.int .i64 0] [(0,1,(.c (.s (.str ⟨#[114,99,118,95,100,116,113]⟩)))),(1,1,(.c (.s (.int .i64 1)))),(2,1,(.c (.s (.int .i64 2))))],none,40,[]⟩,
  ⟨some 42,.build [.str ⟨#[]⟩,.int .i64 0,.int .i64 0] [(0,1,(.c (.s (.str ⟨#[112,114,99,118,95,100,116,113]⟩)))),(1,1,(.c (.s (.int .i64 1)))),(2,1,(.c (.s (.int .i64 1))))],none,41,[]⟩,
  ⟨some 43,.build [.str ⟨#[]⟩,.int .i64 0,.int .i64 0] [(0,1,(.c (.s (.str ⟨#[116,114,99,118,95,100,116,113]⟩)))),(1,1,(.c (.s (.int .i64 2)))),(2,1,(.c (.s (.int .i64 2))))],none,42,[]⟩,
  ⟨some 44,.build [.str ⟨#[]⟩,.int .i64 0,.int .i64 0] [(0,1,(.c (.s (.str ⟨#[108,111,99,95,109,116,120]⟩)))),(1,1,(.c (.s (.int .i64 1)))),(2,1,(.c (.s (.int .i64 2))))],none,43,[]⟩,
  ⟨some 45,.build [.str ⟨#[]⟩,.int .i64 0,.int .i64 0] [(0,1,(.c (.s (.str ⟨#[112,108,111,99,95,109,116,120]⟩)))),(1,1,(.c (.s (.int .i64 1)))),(2,1,(.c (.s (.int .i64 1))))],none,44,[]⟩,
  ⟨some 46,.build [.str ⟨#[]⟩,.int .i64 0,.int .i64 0] [(0,1,(.c (.s (.str ⟨#[116,108,111,99,95,109,116,120]⟩)))),(1,1,(.c (.s (.int .i64 2)))),(2,1,(.c (.s (.int .i64 2))))],none,45,[]⟩,
  ⟨some 47,.build [.str ⟨#[]⟩,.int .i64 0,.int .i64 0] [(0,1,(.c (.s (.str ⟨#[117,110,108,95,109,116,120]⟩)))),(1,1,(.c (.s (.int .i64 1)))),(2,1,(.c (.s (.int .i64 1))))],none,46,[]⟩,
  ⟨some 48,.build [.str ⟨#[]⟩,.int .i64 0,.int .i64 0] [(0,1,(.c (.s (.str ⟨#[103,101,116,95,109,112,102]⟩)))),(1,1,(.c (.s (.int .i64 1)))),(2,1,(.c (.s (.int .i64 2))))],none,47,[]⟩,
  ⟨some 49,.build [.str ⟨#[]⟩,.int .i64 0,.int .i64 0] [(0,1,(.c (.s (.str ⟨#[112,103,101,116,95,109,112,102]⟩)))),(1,1,(.c (.s (.int .i64 1)))),(2,1,(.c (.s (.int .i64 1))))],none,48,[]⟩,
  ⟨some 50,.build [.str ⟨#[]⟩,.int .i64 0,.int .i64 0] [(0,1,(.c (.s (.str ⟨#[116,103,101,116,95,109,112,102]⟩)))),(1,1,(.c (.s (.int .i64 2)))),(2,1,(.c (.s (.int .i64 2))))],none,49,[]⟩,
  ⟨some 51,.build [.str ⟨#[]⟩,.int .i64 0,.int .i64 0] [(0,1,(.c (.s (.str ⟨#[114,101,108,95,109,112,102]⟩)))),(1,1,(.c (.s (.int .i64 2)))),(2,1,(.c (.s (.int .i64 1))))],none,50,[]⟩,
  ⟨some 52,.build [.str ⟨#[]⟩,.int .i64 0,.int .i64 0] [(0,1,(.c (.s (.str ⟨#[115,101,116,95,116,105,109]⟩)))),(1,1,(.c (.s (.int .i64 1)))),(2,1,(.c (.s (.int .i64 1))))],none,51,[]⟩,
  ⟨some 53,.build [.str ⟨#[]⟩,.int .i64 0,.int .i64 0] [(0,1,(.c (.s (.str ⟨#[103,101,116,95,116,105,109]⟩)))),(1,1,(.c (.s (.int .i64 0)))),(2,1,(.c (.s (.int .i64 1))))],none,52,[]⟩,
  ⟨some 54,.build [.str ⟨#[]⟩,.int .i64 0,.int .i64 0] [(0,1,(.c (.s (.str ⟨#[115,116,97,95,99,121,99]⟩)))),(1,1,(.c (.s (.int .i64 1)))),(2,1,(.c (.s (.int .i64 1))))],none,53,[]⟩,
  ⟨some 55,.build [.str ⟨#[]⟩,.int .i64 0,.int .i64 0] [(0,1,(.c (.s (.str ⟨#[115,116,112,95,99,121,99]⟩)))),(1,1,(.c (.s (.int .i64 1)))),(2,1,(.c (.s (.int .i64 1))))],none,54,[]⟩,
  ⟨some 56,.build [.str ⟨#[]⟩,.int .i64 0,.int .i64 0] [(0,1,(.c (.s (.str ⟨#[115,116,97,95,97,108,109]⟩)))),(1,1,(.c (.s (.int .i64 2)))),(2,1,(.c (.s (.int .i64 1))))],none,55,[]⟩,
  ⟨some 57,.build [.str ⟨#[]⟩,.int .i64 0,.int .i64 0] [(0,1,(.c (.s (.str ⟨#[115,116,112,95,97,108,109]⟩)))),(1,1,(.c (.s (.int .i64 1)))),(2,1,(.c (.s (.int .i64 1))))],none,56,[]⟩,
  ⟨some 58,.build [.str ⟨#[]⟩,.int .i64 0,.int .i64 0] [(0,1,(.c (.s (.str ⟨#[108,111,99,95,99,112,117]⟩)))),(1,1,(.c (.s (.int .i64 0)))),(2,1,(.c (.s (.int .i64 4))))],none,57,[]⟩,
  ⟨some 59,.build [.str ⟨#[]⟩,.int .i64 0,.int .i64 0] [(0,1,(.c (.s (.str ⟨#[117,110,108,95,99,112,117]⟩)))),(1,1,(.c (.s (.int .i64 0)))),(2,1,(.c (.s (.int .i64 4))))],none,58,[]⟩,
  ⟨some 60,.build [.str ⟨#[]⟩,.int .i64 0,.int .i64 0] [(0,1,(.c (.s (.str ⟨#[100,105,115,95,100,115,112]⟩)))),(1,1,(.c (.s (.int .i64 0)))),(2,1,(.c (.s (.int .i64 1))))],none,59,[]⟩,
  ⟨some 61,.build [.str ⟨#[]⟩,.int .i64 0,.int .i64 0] [(0,1,(.c (.s (.str ⟨#[101,110,97,95,100,115,112]⟩)))),(1,1,(.c (.s (.int .i64 0)))),(2,1,(.c (.s (.int .i64 1))))],none,60,[]⟩,
  ⟨some 62,.build [.str ⟨#[]⟩,.int .i64 0,.int .i64 0] [(0,1,(.c (.s (.str ⟨#[115,110,115,95,99,116,120]⟩)))),(1,1,(.c (.s (.int .i64 0)))),(2,1,(.c (.s (.int .i64 0))))],none,61,[]⟩,
  ⟨some 63,.build [.str ⟨#[]⟩,.int .i64 0,.int .i64 0] [(0,1,(.c (.s (.str ⟨#[115,110,115,95,108,111,99]⟩)))),(1,1,(.c (.s (.int .i64 0)))),(2,1,(.c (.s (.int .i64 0))))],none,62,[]⟩,
  ⟨some 64,.build [.str ⟨#[]⟩,.int .i64 0,.int .i64 0] [(0,1,(.c (.s (.str ⟨#[115,110,115,95,100,115,112]⟩)))),(1,1,(.c (.s (.int .i64 0)))),(2,1,(.c (.s (.int .i64 0))))],none,63,[]⟩,
  ⟨some 65,.build [.str ⟨#[]⟩,.int .i64 0,.int .i64 0] [(0,1,(.c (.s (.str ⟨#[115,110,115,95,100,112,110]⟩)))),(1,1,(.c (.s (.int .i64 0)))),(2,1,(.c (.s (.int .i64 0))))],none,64,[]⟩,
  ⟨some 66,.buildSlice 3 65 [.str ⟨#[]⟩,.int .i64 0,.int .i64 0,.str ⟨#[]⟩,.int .i64 0,.int .i64 0,.str ⟨#[]⟩,.int .i64 0,.int .i64 0,.str ⟨#[]⟩,.int .i64 0,.int .i64 0,.str ⟨#[]⟩,.int .i64 0,.int .i64 0,.str ⟨#[]⟩,.int .i64 0,.int .i64 0,.str ⟨#[]⟩,.int .i64 0,.int .i64 0,.str ⟨#[]⟩,.int .i64 0,.int .i64 0,.str ⟨#[]⟩,.int .i64 0,.int .i64 0,.str ⟨#[]⟩,.int .i64 0,.int .i64 0,.str ⟨#[]⟩,.int .i64 0,.int .i64 0,.str ⟨#[]⟩,.int .i64 0,.int .i64 0,.str ⟨#[]⟩,.int .i64 0,.int .i64 0,.str ⟨#[]⟩,.int .i64 0,.int .i64 0,.str ⟨#[]⟩,.int .i64 0,.int .i64 0,.str ⟨#[]⟩,.int .i64 0,.int .i64 0,.str ⟨#[]⟩,.int .i64 0,.int .i64 0,.str ⟨#[]⟩,.int .i64 0,.int .i64 0,.str ⟨#[]⟩,.int .i64 0,.int .i64 0,.str ⟨#[]⟩,.int .i64 0,.int .i64 0,.str ⟨#[]⟩,.int .i64 0,.int .i64 0,.str ⟨#[]⟩,.int .i64 0,.int .i64 0,.str ⟨#[]⟩,.int .i64 0,.int .i64 0,.str ⟨#[]⟩,.int .i64 0,.int .i64 0,.str ⟨#[]⟩,.int .i64 0,.int .i64 0,.str ⟨#[]⟩,.int .i64 0,.int .i64 0,.str ⟨#[]⟩,.int .i64 0,.int .i64 0,.str ⟨#[]⟩,.int .i64 0,.int .i64 0,.str ⟨#[]⟩,.int .i64 0,.int .i64 0,.str ⟨#[]⟩,.int .i64 0,.int .i64 0,.str ⟨#[]⟩,.int .i64 0,.int .i64 0,.str ⟨#[]⟩,.int .i64 0,.int .i64 0,.str ⟨#[]⟩,.int .i64 0,.int .i64 0,.str ⟨#[]⟩,.int .i64 0,.int .i64 0,.str ⟨#[]⟩,.int .i64 0,.int .i64 0,.str ⟨#[]⟩,.int .i64 0,.int .i64 0,.str ⟨#[]⟩,.int .i64 0,.int .i64 0,.str ⟨#[]⟩,.int .i64 0,.int .i64 0,.str ⟨#[]⟩,.int .i64 0,.int .i64 0,.str ⟨#[]⟩,.int .i64 0,.int .i64 0,.str ⟨#[]⟩,.int .i64 0,.int .i64 0,.str ⟨#[]⟩,.int .i64 0,.int .i64 0,.str ⟨#[]⟩,.int .i64 0,.int .i64 0,.str ⟨#[]⟩,.int .i64 0,.int .i64 0,.str ⟨#[]⟩,.int .i64 0,.int .i64 0,.str ⟨#[]⟩,.int .i64 0,.int .i64 0,.str ⟨#[]⟩,.int .i64 0,.int .i64 0,.str ⟨#[]⟩,.int .i64 0,.int .i64 0,.str ⟨#[]⟩,.int .i64 0,.int .i64 0,.str ⟨#[]⟩,.int .i64 0,.int .i64 0,.str ⟨#[]⟩,.int .i64 0,.int .i64 0,.str ⟨#[]⟩,.int .i64 0,.int .i64 0,.str ⟨#[]⟩,.int .i64 0,.int .i64 0,.str ⟨#[]⟩,.int .i64 0,.int .i64 0,.str ⟨#[]⟩,.int .i64 0,.int .i64 0,.str ⟨#[]⟩,.int .i64 0,.int .i64 0,.str ⟨#[]⟩,.int .i64 0,.int .i64 0,.str ⟨#[]⟩,.int .i64 0,.int .i64 0,.str ⟨#[]⟩,.int .i64 0,.int .i64 0,.str ⟨#[]⟩,.int .i64 0,.int .i64 0,.str ⟨#[]⟩,.int .i64 0,.int .i64 0,.str ⟨#[]⟩,.int .i64 0,.int .i64 0,.str ⟨#[]⟩,.int .i64 0,.int .i64 0,.str ⟨#[]⟩,.int .i64 0,.int .i64 0,.str ⟨#[]⟩,.int .i64 0,.int .i64 0] [(0,3,(.t 1)),(3,3,(.t 2)),(6,3,(.t 3)),(9,3,(.t 4)),(12,3,(.t 5)),(15,3,(.t 6)),(18,3,(.t 7)),(21,3,(.t 8)),(24,3,(.t 9)),(27,3,(.t 10)),(30,3,(.t 11)),(33,3,(.t 12)),(36,3,(.t 13)),(39,3,(.t 14)),(42,3,(.t 15)),(45,3,(.t 16)),(48,3,(.t 17)),(51,3,(.t 18)),(54,3,(.t 19)),(57,3,(.t 20)),(60,3,(.t 21)),(63,3,(.t 22)),(66,3,(.t 23)),(69,3,(.t 24)),(72,3,(.t 25)),(75,3,(.t 26)),(78,3,(.t 27)),(81,3,(.t 28)),(84,3,(.t 29)),(87,3,(.t 30)),(90,3,(.t 31)),(93,3,(.t 32)),(96,3,(.t 33)),(99,3,(.t 34)),(102,3,(.t 35)),(105,3,(.t 36)),(108,3,(.t 37)),(111,3,(.t 38)),(114,3,(.t 39)),(117,3,(.t 40)),(120,3,(.t 41)),(123,3,(.t 42)),(126,3,(.t 43)),(129,3,(.t 44)),(132,3,(.t 45)),(135,3,(.t 46)),(138,3,(.t 47)),(141,3,(.t 48)),(144,3,(.t 49)),(147,3,(.t 50)),(150,3,(.t 51)),(153,3,(.t 52)),(156,3,(.t 53)),(159,3,(.t 54)),(162,3,(.t 55)),(165,3,(.t 56)),(168,3,(.t 57)),(171,3,(.t 58)),(174,3,(.t 59)),(177,3,(.t 60)),(180,3,(.t 61)),(183,3,(.t 62)),(186,3,(.t 63)),(189,3,(.t 64)),(192,3,(.t 65))],none,65,[]⟩,
  ⟨some 0,.move (.t 66),none,66,[]⟩]) (RC.ret)))
theorem calls_table_ok : chkFunc Go.Proofs.Tryz.prog [0] Go.Proofs.Tryz.f217 calls_table = true := by kernel_rfl
def mtx_All_Free_l0 : RC :=
  RC.seq (RC.region 1 [
  ⟨some 15,.bin .lss (.t 14) (.t 13),none,0,[]⟩]) (RC.seq (RC.cond (.t 15) (RC.skip) (RC.exit 0)) (RC.seq (RC.block 1 (RC.seq (RC.region 3 [
  ⟨some 16,.indexSl 1 (.t 12) (.t 14),none,0,[]⟩,
  ⟨some 17,.load none (.t 16),none,1,[]⟩,
  ⟨some 7,.move (.t 17),none,2,[]⟩]) (RC.seq (RC.region 9 [
  ⟨some 19,.move (.t 0),none,0,[]⟩,
  ⟨some 20,.move (.t 7),none,1,[]⟩,
  ⟨some 21,.move (.t 1),none,2,[]⟩,
  ⟨some 22,.call F.mtx_All_Unlock [(.t 19),(.t 20),(.t 21)],none,3,[]⟩,
  ⟨some 18,.move (.t 22),none,4,[]⟩,
  ⟨some 23,.extract 0 (.t 18),none,5,[]⟩,
  ⟨some 24,.extract 1 (.t 18),none,6,[]⟩,
  ⟨some 8,.move (.t 23),none,7,[]⟩,
  ⟨some 9,.move (.t 24),none,8,[]⟩]) (RC.seq (RC.region 6 [
  ⟨some 25,.move (.t 9),none,0,[]⟩,
  ⟨some 26,.bin .eql (.t 25) (.c (.s (.int .i64 0))),none,1,[]⟩,
  ⟨some 27,.move (.t 26),none,2,[]⟩,
  ⟨some 28,.move (.t 8),(some (27,true)),3,[]⟩,
  ⟨some 29,.bin .gtr (.t 28) (.c (.s (.int .i64 0))),(some (27,true)),4,[]⟩,
  ⟨some 30,.pick (.t 27) (.t 29) (.c (.s (.bool false))),none,5,[]⟩]) (RC.cond (.t 30) (RC.region 5 [
  ⟨some 31,.move (.t 5),none,0,[]⟩,
  ⟨some 32,.move (.t 8),none,1,[]⟩,
  ⟨some 33,.buildSlice 1 1 [.int .i64 0] [(0,1,(.t 32))],none,2,[]⟩,
  ⟨some 34,.append 1 8 (.t 31) (.t 33),none,3,[]⟩,
  ⟨some 5,.move (.t 34),none,4,[]⟩]) (RC.skip)))))) (RC.region 2 [
  ⟨some 35,.bin .add (.t 14) (.c (.s (.int .i64 1))),none,0,[]⟩,
  ⟨some 14,.move (.t 35),none,1,[]⟩])))
def mtx_All_Free_s1 : RC :=
  RC.seq (RC.region 3 [
  ⟨some 36,.move (.t 5),none,0,[]⟩,
  ⟨some 37,.call F.slices_Clip__int_int [(.t 36)],none,1,[]⟩,
  ⟨some 4,.move (.t 37),none,2,[]⟩]) (RC.ret)
def mtx_All_Free : RFunc := RFunc.mk 38 [.tmp 4] (
  RC.seq (RC.region 1 [
  ⟨some 4,.move (.c (.s (.slice none 0 0 1))),none,0,[]⟩]) (RC.seq (RC.region 1 [
  ⟨some 5,.move (.c (.s (.slice none 0 0 1))),none,0,[]⟩]) (RC.seq (RC.seq (RC.region 5 [
  ⟨some 10,.move (.t 0),none,0,[]⟩,
  ⟨some 11,.move (.t 1),none,1,[]⟩,
  ⟨some 12,.call F.mtx_All_Held [(.t 10),(.t 11)],none,2,[]⟩,
  ⟨some 13,.len (.t 12),none,3,[]⟩,
  ⟨some 14,.move (.c (.s (.int .i64 0))),none,4,[]⟩]) (RC.block 0 (RC.loop R.mtx_All_Free_l0))) R.mtx_All_Free_s1)))
theorem mtx_All_Free_ok : chkFunc Go.Proofs.Tryz.prog [0] Go.Proofs.Tryz.f220 mtx_All_Free = true := by kernel_rfl
def tcb_Task_Kill : RFunc := RFunc.mk 9 [.tmp 2,.tmp 3] (
  RC.seq (RC.region 2 [
  ⟨some 2,.move (.c (.s (.bool false))),none,0,[]⟩,
  ⟨some 3,.move (.c (.s (.int .i64 0))),none,1,[]⟩]) (RC.seq (RC.seq (RC.region 3 [
  ⟨some 4,.move (.t 0),none,0,[]⟩,
  ⟨some 5,.buildSlice 1 1 [.int .i64 0] [(0,1,(.c (.s (.int .i64 16))))],none,1,[]⟩,
  ⟨some 6,.call F.tcb_Task_Is [(.t 4),(.t 5)],none,2,[]⟩]) (RC.cond (.t 6) (RC.seq (RC.region 2 [
  ⟨some 2,.move (.c (.s (.bool false))),none,0,[]⟩,
  ⟨some 3,.move (.c (.s (.int .i64 (-41)))),none,1,[]⟩]) (RC.ret)) (RC.skip))) (RC.seq (RC.region 4 [
  ⟨some 7,.move (.t 0),none,0,[]⟩,
  ⟨some 8,.call F.tcb_Task_end [(.t 7)],none,1,[]⟩,
  ⟨some 2,.move (.t 8),none,2,[]⟩,
  ⟨some 3,.move (.c (.s (.int .i64 0))),none,3,[]⟩]) (RC.ret))))
theorem tcb_Task_Kill_ok : chkFunc Go.Proofs.Tryz.prog [0] Go.Proofs.Tryz.f221 tcb_Task_Kill = true := by kernel_rfl
def ready_Queue_Rotate : RFunc := RFunc.mk 31 [.tmp 4] (
  RC.seq (RC.region 1 [
  ⟨some 4,.move (.c (.s (.int .i64 0))),none,0,[]⟩]) (RC.seq (RC.seq (RC.region 3 [
  ⟨some 6,.move (.t 1),none,0,[]⟩,
  ⟨some 7,.call F.ready_may [(.t 6)],none,1,[]⟩,
  ⟨some 8,.un .not (.t 7),none,2,[]⟩]) (RC.cond (.t 8) (RC.seq (RC.region 1 [
  ⟨some 4,.move (.c (.s (.int .i64 (-17)))),none,0,[]⟩]) (RC.ret)) (RC.skip))) (RC.seq (RC.seq (RC.region 7 [
  ⟨some 9,.move (.t 0),none,0,[]⟩,
  ⟨some 10,.move (.t 1),none,1,[]⟩,
  ⟨some 11,.nilCheck (.t 9),none,2,[]⟩,
  ⟨some 12,.fieldAddr 4 (.t 11),none,3,[]⟩,
  ⟨some 13,.indexArr 17 1 (.t 12) (.t 10),none,4,[]⟩,
  ⟨some 14,.load none (.t 13),none,5,[]⟩,
  ⟨some 5,.move (.t 14),none,6,[]⟩]) (RC.seq (RC.region 3 [
  ⟨some 15,.move (.t 5),none,0,[]⟩,
  ⟨some 16,.len (.t 15),none,1,[]⟩,
  ⟨some 17,.bin .gtr (.t 16) (.c (.s (.int .i64 1))),none,2,[]⟩]) (RC.cond (.t 17) (RC.region 14 [
  ⟨some 18,.move (.t 0),none,0,[]⟩,
  ⟨some 19,.move (.t 1),none,1,[]⟩,
  ⟨some 20,.move (.t 5),none,2,[]⟩,
  ⟨some 21,.slSl 1 (.t 20) (some (.c (.s (.int .i64 1)))) none none,none,3,[]⟩,
  ⟨some 23,.move (.t 5),none,5,[]⟩,
  ⟨some 24,.indexSl 1 (.t 23) (.c (.s (.int .i64 0))),none,6,[]⟩,
  ⟨some 25,.load none (.t 24),none,7,[]⟩,
  ⟨some 28,.nilCheck (.t 18),none,10,[]⟩,
  ⟨some 29,.fieldAddr 4 (.t 28),none,11,[]⟩,
  ⟨some 22,.call F.slices_Clone__int_int [(.t 21)],none,4,[⟨25,none,(.t 24),none⟩]⟩,
  ⟨some 26,.buildSlice 1 1 [.int .i64 0] [(0,1,(.t 25))],none,8,[]⟩,
  ⟨some 27,.append 1 8 (.t 22) (.t 26),none,9,[]⟩,
  ⟨some 30,.indexArr 17 1 (.t 29) (.t 19),none,12,[]⟩,
  ⟨none,.store 1 (.t 30) (.t 27),none,13,[]⟩]) (RC.skip)))) (RC.seq (RC.region 1 [
  ⟨some 4,.move (.c (.s (.int .i64 0))),none,0,[]⟩]) (RC.ret)))))
theorem ready_Queue_Rotate_ok : chkFunc Go.Proofs.Tryz.prog [0] Go.Proofs.Tryz.f222 ready_Queue_Rotate = true := by kernel_rfl
def tcb_Task_Sleep : RFunc := RFunc.mk 31 [.tmp 2,.tmp 3] (
  RC.seq (RC.region 2 [
  ⟨some 2,.move (.c (.s (.bool false))),none,0,[]⟩,
  ⟨some 3,.move (.c (.s (.int .i64 0))),none,1,[]⟩]) (RC.seq (RC.block 0 (RC.seq (RC.region 5 [
  ⟨some 5,.move (.t 0),none,0,[]⟩,
  ⟨some 6,.buildSlice 1 1 [.int .i64 0] [(0,1,(.c (.s (.int .i64 2))))],none,1,[]⟩,
  ⟨some 7,.call F.tcb_Task_Is [(.t 5),(.t 6)],none,2,[]⟩,
  ⟨some 8,.un .not (.t 7),none,3,[]⟩,
  ⟨some 4,.move (.t 8),none,4,[]⟩]) (RC.cond (.t 4) (RC.seq (RC.region 2 [
  ⟨some 2,.move (.c (.s (.bool false))),none,0,[]⟩,
  ⟨some 3,.move (.c (.s (.int .i64 (-41)))),none,1,[]⟩]) (RC.ret)) (RC.seq (RC.region 7 [
  ⟨some 10,.move (.t 0),none,0,[]⟩,
  ⟨some 11,.nilCheck (.t 10),none,1,[]⟩,
  ⟨some 12,.fieldAddr 0 (.t 11),none,2,[]⟩,
  ⟨some 13,.fieldAddr 1 (.t 12),none,3,[]⟩,
  ⟨some 14,.load none (.t 13),none,4,[]⟩,
  ⟨some 15,.bin .gtr (.t 14) (.c (.s (.int .i64 0))),none,5,[]⟩,
  ⟨some 9,.move (.t 15),none,6,[]⟩]) (RC.cond (.t 9) (RC.seq (RC.region 10 [
  ⟨some 16,.move (.t 0),none,0,[]⟩,
  ⟨some 17,.nilCheck (.t 16),none,1,[]⟩,
  ⟨some 18,.fieldAddr 0 (.t 17),none,2,[]⟩,
  ⟨some 19,.fieldAddr 1 (.t 18),none,3,[]⟩,
  ⟨some 20,.load none (.t 19),none,4,[]⟩,
  ⟨some 21,.bin .sub (.t 20) (.c (.s (.int .i64 1))),none,5,[]⟩,
  ⟨some 22,.nilCheck (.t 16),none,6,[]⟩,
  ⟨some 23,.fieldAddr 0 (.t 22),none,7,[]⟩,
  ⟨some 24,.fieldAddr 1 (.t 23),none,8,[]⟩,
  ⟨none,.store 1 (.t 24) (.t 21),none,9,[]⟩]) (RC.seq (RC.region 2 [
  ⟨some 2,.move (.c (.s (.bool false))),none,0,[]⟩,
  ⟨some 3,.move (.c (.s (.int .i64 0))),none,1,[]⟩]) (RC.ret))) (RC.skip)))))) (RC.seq (RC.region 8 [
  ⟨some 25,.move (.t 0),none,0,[]⟩,
  ⟨some 26,.move (.t 0),none,1,[]⟩,
  ⟨some 27,.nilCheck (.t 25),none,2,[]⟩,
  ⟨some 28,.fieldAddr 3 (.t 27),none,3,[]⟩,
  ⟨none,.store 1 (.t 28) (.c (.s (.int .i64 4))),none,4,[]⟩,
  ⟨some 29,.nilCheck (.t 26),none,5,[]⟩,
  ⟨some 30,.fieldAddr 4 (.t 29),none,6,[]⟩,
  ⟨none,.store 1 (.t 30) (.c (.s (.bool true))),none,7,[]⟩]) (RC.seq (RC.region 2 [
  ⟨some 2,.move (.c (.s (.bool true))),none,0,[]⟩,
  ⟨some 3,.move (.c (.s (.int .i64 0))),none,1,[]⟩]) (RC.ret)))))
theorem tcb_Task_Sleep_ok : chkFunc Go.Proofs.Tryz.prog [0] Go.Proofs.Tryz.f223 tcb_Task_Sleep = true := by kernel_rfl
def tcb_Task_Stay : RFunc := RFunc.mk 13 [.tmp 2] (
  RC.seq (RC.region 1 [
  ⟨some 2,.move (.c (.s (.int .i64 0))),none,0,[]⟩]) (RC.seq (RC.seq (RC.region 4 [
  ⟨some 3,.move (.t 0),none,0,[]⟩,
  ⟨some 4,.buildSlice 1 1 [.int .i64 0] [(0,1,(.c (.s (.int .i64 2))))],none,1,[]⟩,
  ⟨some 5,.call F.tcb_Task_Is [(.t 3),(.t 4)],none,2,[]⟩,
  ⟨some 6,.un .not (.t 5),none,3,[]⟩]) (RC.cond (.t 6) (RC.seq (RC.region 1 [
  ⟨some 2,.move (.c (.s (.int .i64 (-41)))),none,0,[]⟩]) (RC.ret)) (RC.skip))) (RC.seq (RC.region 8 [
  ⟨some 7,.move (.t 0),none,0,[]⟩,
  ⟨some 8,.move (.t 0),none,1,[]⟩,
  ⟨some 9,.nilCheck (.t 7),none,2,[]⟩,
  ⟨some 10,.fieldAddr 3 (.t 9),none,3,[]⟩,
  ⟨none,.store 1 (.t 10) (.c (.s (.int .i64 4))),none,4,[]⟩,
  ⟨some 11,.nilCheck (.t 8),none,5,[]⟩,
  ⟨some 12,.fieldAddr 4 (.t 11),none,6,[]⟩,
  ⟨none,.store 1 (.t 12) (.c (.s (.bool false))),none,7,[]⟩]) (RC.seq (RC.region 1 [
  ⟨some 2,.move (.c (.s (.int .i64 0))),none,0,[]⟩]) (RC.ret)))))
theorem tcb_Task_Stay_ok : chkFunc Go.Proofs.Tryz.prog [0] Go.Proofs.Tryz.f224 tcb_Task_Stay = true := by kernel_rfl
def cyc_Hands_Wait : RFunc := RFunc.mk 23 [.tmp 6,.tmp 7] (
  RC.seq (RC.region 2 [
  ⟨some 6,.move (.c (.s (.int .i64 0))),none,0,[]⟩,
  ⟨some 7,.move (.c (.s (.int .i64 0))),none,1,[]⟩]) (RC.seq (RC.seq (RC.region 6 [
  ⟨some 8,.move (.t 2),none,0,[]⟩,
  ⟨some 9,.bin .lss (.t 8) (.c (.s (.int .i64 0))),none,1,[]⟩,
  ⟨some 10,.move (.t 9),none,2,[]⟩,
  ⟨some 11,.move (.t 2),(some (10,false)),3,[]⟩,
  ⟨some 12,.bin .gtr (.t 11) (.c (.s (.int .i64 1000))),(some (10,false)),4,[]⟩,
  ⟨some 13,.pick (.t 10) (.c (.s (.bool true))) (.t 12),none,5,[]⟩]) (RC.cond (.t 13) (RC.seq (RC.region 2 [
  ⟨some 6,.move (.c (.s (.int .i64 0))),none,0,[]⟩,
  ⟨some 7,.move (.c (.s (.int .i64 (-17)))),none,1,[]⟩]) (RC.ret)) (RC.skip))) (RC.seq (RC.region 11 [
  ⟨some 14,.move (.t 0),none,0,[]⟩,
  ⟨some 15,.nilCheck (.t 14),none,1,[]⟩,
  ⟨some 16,.fieldAddr 0 (.t 15),none,2,[]⟩,
  ⟨some 17,.load none (.t 16),none,3,[]⟩,
  ⟨some 18,.move (.t 1),none,4,[]⟩,
  ⟨some 19,.move (.t 2),none,5,[]⟩,
  ⟨some 20,.call F.clock_Clock_After [(.t 17),(.t 18),(.t 19)],none,6,[]⟩,
  ⟨some 21,.extract 0 (.t 20),none,7,[]⟩,
  ⟨some 22,.extract 1 (.t 20),none,8,[]⟩,
  ⟨some 6,.move (.t 21),none,9,[]⟩,
  ⟨some 7,.move (.t 22),none,10,[]⟩]) (RC.ret))))
theorem cyc_Hands_Wait_ok : chkFunc Go.Proofs.Tryz.prog [0] Go.Proofs.Tryz.f225 cyc_Hands_Wait = true := by kernel_rfl
def tcb_Task_CanAct : RFunc := RFunc.mk 14 [.tmp 2] (
  RC.seq (RC.region 1 [
  ⟨some 2,.move (.c (.s (.int .i64 0))),none,0,[]⟩]) (RC.seq (RC.region 6 [
  ⟨some 4,.move (.t 0),none,0,[]⟩,
  ⟨some 5,.nilCheck (.t 4),none,1,[]⟩,
  ⟨some 6,.fieldAddr 0 (.t 5),none,2,[]⟩,
  ⟨some 7,.fieldAddr 0 (.t 6),none,3,[]⟩,
  ⟨some 8,.load none (.t 7),none,4,[]⟩,
  ⟨some 3,.move (.t 8),none,5,[]⟩]) (RC.seq (RC.region 5 [
  ⟨some 9,.move (.t 0),none,0,[]⟩,
  ⟨some 10,.nilCheck (.t 9),none,1,[]⟩,
  ⟨some 11,.fieldAddr 0 (.t 10),none,2,[]⟩,
  ⟨some 12,.fieldAddr 0 (.t 11),none,3,[]⟩,
  ⟨none,.store 1 (.t 12) (.c (.s (.int .i64 0))),none,4,[]⟩]) (RC.seq (RC.region 2 [
  ⟨some 13,.move (.t 3),none,0,[]⟩,
  ⟨some 2,.move (.t 13),none,1,[]⟩]) (RC.ret)))))
theorem tcb_Task_CanAct_ok : chkFunc Go.Proofs.Tryz.prog [0] Go.Proofs.Tryz.f227 tcb_Task_CanAct = true := by kernel_rfl
def tcb_Task_Wake : RFunc := RFunc.mk 31 [.tmp 2,.tmp 3] (
  RC.seq (RC.region 2 [
  ⟨some 2,.move (.c (.s (.bool false))),none,0,[]⟩,
  ⟨some 3,.move (.c (.s (.int .i64 0))),none,1,[]⟩]) (RC.seq (RC.block 0 (RC.seq (RC.region 4 [
  ⟨some 5,.move (.t 0),none,0,[]⟩,
  ⟨some 6,.buildSlice 1 1 [.int .i64 0] [(0,1,(.c (.s (.int .i64 16))))],none,1,[]⟩,
  ⟨some 7,.call F.tcb_Task_Is [(.t 5),(.t 6)],none,2,[]⟩,
  ⟨some 4,.move (.t 7),none,3,[]⟩]) (RC.cond (.t 4) (RC.seq (RC.region 2 [
  ⟨some 2,.move (.c (.s (.bool false))),none,0,[]⟩,
  ⟨some 3,.move (.c (.s (.int .i64 (-41)))),none,1,[]⟩]) (RC.ret)) (RC.seq (RC.region 5 [
  ⟨some 9,.move (.t 0),none,0,[]⟩,
  ⟨some 10,.nilCheck (.t 9),none,1,[]⟩,
  ⟨some 11,.fieldAddr 4 (.t 10),none,2,[]⟩,
  ⟨some 12,.load none (.t 11),none,3,[]⟩,
  ⟨some 8,.move (.t 12),none,4,[]⟩]) (RC.cond (.t 8) (RC.seq (RC.region 2 [
  ⟨some 13,.move (.t 0),none,0,[]⟩,
  ⟨some 14,.call F.tcb_Task_Release [(.t 13)],none,1,[]⟩]) (RC.seq (RC.region 2 [
  ⟨some 2,.move (.c (.s (.bool true))),none,0,[]⟩,
  ⟨some 3,.move (.c (.s (.int .i64 0))),none,1,[]⟩]) (RC.ret))) (RC.seq (RC.region 7 [
  ⟨some 16,.move (.t 0),none,0,[]⟩,
  ⟨some 17,.nilCheck (.t 16),none,1,[]⟩,
  ⟨some 18,.fieldAddr 0 (.t 17),none,2,[]⟩,
  ⟨some 19,.fieldAddr 1 (.t 18),none,3,[]⟩,
  ⟨some 20,.load none (.t 19),none,4,[]⟩,
  ⟨some 21,.bin .geq (.t 20) (.c (.s (.int .i64 7))),none,5,[]⟩,
  ⟨some 15,.move (.t 21),none,6,[]⟩]) (RC.cond (.t 15) (RC.seq (RC.region 2 [
  ⟨some 2,.move (.c (.s (.bool false))),none,0,[]⟩,
  ⟨some 3,.move (.c (.s (.int .i64 (-43)))),none,1,[]⟩]) (RC.ret)) (RC.skip)))))))) (RC.seq (RC.region 10 [
  ⟨some 22,.move (.t 0),none,0,[]⟩,
  ⟨some 23,.nilCheck (.t 22),none,1,[]⟩,
  ⟨some 24,.fieldAddr 0 (.t 23),none,2,[]⟩,
  ⟨some 25,.fieldAddr 1 (.t 24),none,3,[]⟩,
  ⟨some 26,.load none (.t 25),none,4,[]⟩,
  ⟨some 27,.bin .add (.t 26) (.c (.s (.int .i64 1))),none,5,[]⟩,
  ⟨some 28,.nilCheck (.t 22),none,6,[]⟩,
  ⟨some 29,.fieldAddr 0 (.t 28),none,7,[]⟩,
  ⟨some 30,.fieldAddr 1 (.t 29),none,8,[]⟩,
  ⟨none,.store 1 (.t 30) (.t 27),none,9,[]⟩]) (RC.seq (RC.region 2 [
  ⟨some 2,.move (.c (.s (.bool false))),none,0,[]⟩,
  ⟨some 3,.move (.c (.s (.int .i64 0))),none,1,[]⟩]) (RC.ret)))))
theorem tcb_Task_Wake_ok : chkFunc Go.Proofs.Tryz.prog [0] Go.Proofs.Tryz.f228 tcb_Task_Wake = true := by kernel_rfl
def tcb_Task_CanWake : RFunc := RFunc.mk 18 [.tmp 2,.tmp 3] (
  RC.seq (RC.region 2 [
  ⟨some 2,.move (.c (.s (.int .i64 0))),none,0,[]⟩,
  ⟨some 3,.move (.c (.s (.int .i64 0))),none,1,[]⟩]) (RC.seq (RC.seq (RC.region 3 [
  ⟨some 5,.move (.t 0),none,0,[]⟩,
  ⟨some 6,.buildSlice 1 1 [.int .i64 0] [(0,1,(.c (.s (.int .i64 16))))],none,1,[]⟩,
  ⟨some 7,.call F.tcb_Task_Is [(.t 5),(.t 6)],none,2,[]⟩]) (RC.cond (.t 7) (RC.seq (RC.region 2 [
  ⟨some 2,.move (.c (.s (.int .i64 0))),none,0,[]⟩,
  ⟨some 3,.move (.c (.s (.int .i64 (-41)))),none,1,[]⟩]) (RC.ret)) (RC.skip))) (RC.seq (RC.region 6 [
  ⟨some 8,.move (.t 0),none,0,[]⟩,
  ⟨some 9,.nilCheck (.t 8),none,1,[]⟩,
  ⟨some 10,.fieldAddr 0 (.t 9),none,2,[]⟩,
  ⟨some 11,.fieldAddr 1 (.t 10),none,3,[]⟩,
  ⟨some 12,.load none (.t 11),none,4,[]⟩,
  ⟨some 4,.move (.t 12),none,5,[]⟩]) (RC.seq (RC.region 5 [
  ⟨some 13,.move (.t 0),none,0,[]⟩,
  ⟨some 14,.nilCheck (.t 13),none,1,[]⟩,
  ⟨some 15,.fieldAddr 0 (.t 14),none,2,[]⟩,
  ⟨some 16,.fieldAddr 1 (.t 15),none,3,[]⟩,
  ⟨none,.store 1 (.t 16) (.c (.s (.int .i64 0))),none,4,[]⟩]) (RC.seq (RC.region 3 [
  ⟨some 17,.move (.t 4),none,0,[]⟩,
  ⟨some 2,.move (.t 17),none,1,[]⟩,
  ⟨some 3,.move (.c (.s (.int .i64 0))),none,2,[]⟩]) (RC.ret))))))
theorem tcb_Task_CanWake_ok : chkFunc Go.Proofs.Tryz.prog [0] Go.Proofs.Tryz.f229 tcb_Task_CanWake = true := by kernel_rfl
def tcb_Task_Suspend : RFunc := RFunc.mk 37 [.tmp 2] (
  RC.seq (RC.region 1 [
  ⟨some 2,.move (.c (.s (.int .i64 0))),none,0,[]⟩]) (RC.seq (RC.block 0 (RC.seq (RC.region 4 [
  ⟨some 4,.move (.t 0),none,0,[]⟩,
  ⟨some 5,.buildSlice 1 1 [.int .i64 0] [(0,1,(.c (.s (.int .i64 16))))],none,1,[]⟩,
  ⟨some 6,.call F.tcb_Task_Is [(.t 4),(.t 5)],none,2,[]⟩,
  ⟨some 3,.move (.t 6),none,3,[]⟩]) (RC.cond (.t 3) (RC.seq (RC.region 1 [
  ⟨some 2,.move (.c (.s (.int .i64 (-41)))),none,0,[]⟩]) (RC.ret)) (RC.seq (RC.region 7 [
  ⟨some 8,.move (.t 0),none,0,[]⟩,
  ⟨some 9,.nilCheck (.t 8),none,1,[]⟩,
  ⟨some 10,.fieldAddr 0 (.t 9),none,2,[]⟩,
  ⟨some 11,.fieldAddr 2 (.t 10),none,3,[]⟩,
  ⟨some 12,.load none (.t 11),none,4,[]⟩,
  ⟨some 13,.bin .geq (.t 12) (.c (.s (.int .i64 7))),none,5,[]⟩,
  ⟨some 7,.move (.t 13),none,6,[]⟩]) (RC.cond (.t 7) (RC.seq (RC.region 1 [
  ⟨some 2,.move (.c (.s (.int .i64 (-43)))),none,0,[]⟩]) (RC.ret)) (RC.skip)))))) (RC.seq (RC.region 10 [
  ⟨some 14,.move (.t 0),none,0,[]⟩,
  ⟨some 15,.nilCheck (.t 14),none,1,[]⟩,
  ⟨some 16,.fieldAddr 0 (.t 15),none,2,[]⟩,
  ⟨some 17,.fieldAddr 2 (.t 16),none,3,[]⟩,
  ⟨some 18,.load none (.t 17),none,4,[]⟩,
  ⟨some 19,.bin .add (.t 18) (.c (.s (.int .i64 1))),none,5,[]⟩,
  ⟨some 20,.nilCheck (.t 14),none,6,[]⟩,
  ⟨some 21,.fieldAddr 0 (.t 20),none,7,[]⟩,
  ⟨some 22,.fieldAddr 2 (.t 21),none,8,[]⟩,
  ⟨none,.store 1 (.t 22) (.t 19),none,9,[]⟩]) (RC.seq (RC.seq (RC.region 4 [
  ⟨some 23,.move (.t 0),none,0,[]⟩,
  ⟨some 24,.nilCheck (.t 23),none,1,[]⟩,
  ⟨some 25,.fieldAddr 3 (.t 24),none,2,[]⟩,
  ⟨some 26,.load none (.t 25),none,3,[]⟩]) (RC.block 1 (RC.seq (RC.region 2 [
  ⟨some 28,.bin .eql (.t 26) (.c (.s (.int .i64 2))),none,0,[]⟩,
  ⟨some 27,.move (.t 28),none,1,[]⟩]) (RC.cond (.t 27) (RC.region 4 [
  ⟨some 29,.move (.t 0),none,0,[]⟩,
  ⟨some 30,.nilCheck (.t 29),none,1,[]⟩,
  ⟨some 31,.fieldAddr 3 (.t 30),none,2,[]⟩,
  ⟨none,.store 1 (.t 31) (.c (.s (.int .i64 8))),none,3,[]⟩]) (RC.seq (RC.region 2 [
  ⟨some 33,.bin .eql (.t 26) (.c (.s (.int .i64 4))),none,0,[]⟩,
  ⟨some 32,.move (.t 33),none,1,[]⟩]) (RC.cond (.t 32) (RC.region 4 [
  ⟨some 34,.move (.t 0),none,0,[]⟩,
  ⟨some 35,.nilCheck (.t 34),none,1,[]⟩,
  ⟨some 36,.fieldAddr 3 (.t 35),none,2,[]⟩,
  ⟨none,.store 1 (.t 36) (.c (.s (.int .i64 12))),none,3,[]⟩]) (RC.skip))))))) (RC.seq (RC.region 1 [
  ⟨some 2,.move (.c (.s (.int .i64 0))),none,0,[]⟩]) (RC.ret))))))
theorem tcb_Task_Suspend_ok : chkFunc Go.Proofs.Tryz.prog [0] Go.Proofs.Tryz.f230 tcb_Task_Suspend = true := by kernel_rfl
def tcb_Task_Resume_s0 : RC :=
  RC.seq (RC.seq (RC.region 6 [
  ⟨some 24,.move (.t 0),none,0,[]⟩,
  ⟨some 25,.nilCheck (.t 24),none,1,[]⟩,
  ⟨some 26,.fieldAddr 0 (.t 25),none,2,[]⟩,
  ⟨some 27,.fieldAddr 2 (.t 26),none,3,[]⟩,
  ⟨some 28,.load none (.t 27),none,4,[]⟩,
  ⟨some 29,.bin .gtr (.t 28) (.c (.s (.int .i64 0))),none,5,[]⟩]) (RC.cond (.t 29) (RC.seq (RC.region 2 [
  ⟨some 4,.move (.c (.s (.bool false))),none,0,[]⟩,
  ⟨some 5,.move (.c (.s (.int .i64 0))),none,1,[]⟩]) (RC.ret)) (RC.skip))) (RC.seq (RC.seq (RC.region 3 [
  ⟨some 30,.move (.t 0),none,0,[]⟩,
  ⟨some 31,.buildSlice 1 1 [.int .i64 0] [(0,1,(.c (.s (.int .i64 8))))],none,1,[]⟩,
  ⟨some 32,.call F.tcb_Task_Is [(.t 30),(.t 31)],none,2,[]⟩]) (RC.cond (.t 32) (RC.seq (RC.region 4 [
  ⟨some 33,.move (.t 0),none,0,[]⟩,
  ⟨some 34,.nilCheck (.t 33),none,1,[]⟩,
  ⟨some 35,.fieldAddr 3 (.t 34),none,2,[]⟩,
  ⟨none,.store 1 (.t 35) (.c (.s (.int .i64 2))),none,3,[]⟩]) (RC.seq (RC.region 2 [
  ⟨some 4,.move (.c (.s (.bool true))),none,0,[]⟩,
  ⟨some 5,.move (.c (.s (.int .i64 0))),none,1,[]⟩]) (RC.ret))) (RC.skip))) (RC.seq (RC.region 4 [
  ⟨some 36,.move (.t 0),none,0,[]⟩,
  ⟨some 37,.nilCheck (.t 36),none,1,[]⟩,
  ⟨some 38,.fieldAddr 3 (.t 37),none,2,[]⟩,
  ⟨none,.store 1 (.t 38) (.c (.s (.int .i64 4))),none,3,[]⟩]) (RC.seq (RC.region 2 [
  ⟨some 4,.move (.c (.s (.bool false))),none,0,[]⟩,
  ⟨some 5,.move (.c (.s (.int .i64 0))),none,1,[]⟩]) (RC.ret))))
def tcb_Task_Resume : RFunc := RFunc.mk 39 [.tmp 4,.tmp 5] (
  RC.seq (RC.region 2 [
  ⟨some 4,.move (.c (.s (.bool false))),none,0,[]⟩,
  ⟨some 5,.move (.c (.s (.int .i64 0))),none,1,[]⟩]) (RC.seq (RC.seq (RC.region 4 [
  ⟨some 6,.move (.t 0),none,0,[]⟩,
  ⟨some 7,.buildSlice 1 2 [.int .i64 0,.int .i64 0] [(0,1,(.c (.s (.int .i64 8)))),(1,1,(.c (.s (.int .i64 12))))],none,1,[]⟩,
  ⟨some 8,.call F.tcb_Task_Is [(.t 6),(.t 7)],none,2,[]⟩,
  ⟨some 9,.un .not (.t 8),none,3,[]⟩]) (RC.cond (.t 9) (RC.seq (RC.region 2 [
  ⟨some 4,.move (.c (.s (.bool false))),none,0,[]⟩,
  ⟨some 5,.move (.c (.s (.int .i64 (-41)))),none,1,[]⟩]) (RC.ret)) (RC.skip))) (RC.seq (RC.region 10 [
  ⟨some 10,.move (.t 0),none,0,[]⟩,
  ⟨some 11,.nilCheck (.t 10),none,1,[]⟩,
  ⟨some 12,.fieldAddr 0 (.t 11),none,2,[]⟩,
  ⟨some 13,.fieldAddr 2 (.t 12),none,3,[]⟩,
  ⟨some 14,.load none (.t 13),none,4,[]⟩,
  ⟨some 15,.bin .sub (.t 14) (.c (.s (.int .i64 1))),none,5,[]⟩,
  ⟨some 16,.nilCheck (.t 10),none,6,[]⟩,
  ⟨some 17,.fieldAddr 0 (.t 16),none,7,[]⟩,
  ⟨some 18,.fieldAddr 2 (.t 17),none,8,[]⟩,
  ⟨none,.store 1 (.t 18) (.t 15),none,9,[]⟩]) (RC.seq (RC.seq (RC.region 1 [
  ⟨some 19,.move (.t 1),none,0,[]⟩]) (RC.cond (.t 19) (RC.region 5 [
  ⟨some 20,.move (.t 0),none,0,[]⟩,
  ⟨some 21,.nilCheck (.t 20),none,1,[]⟩,
  ⟨some 22,.fieldAddr 0 (.t 21),none,2,[]⟩,
  ⟨some 23,.fieldAddr 2 (.t 22),none,3,[]⟩,
  ⟨none,.store 1 (.t 23) (.c (.s (.int .i64 0))),none,4,[]⟩]) (RC.skip))) R.tcb_Task_Resume_s0))))
theorem tcb_Task_Resume_ok : chkFunc Go.Proofs.Tryz.prog [0] Go.Proofs.Tryz.f231 tcb_Task_Resume = true := by kernel_rfl
def calls_Arity : RFunc := RFunc.mk 6 [.tmp 2] (
  RC.seq (RC.region 1 [
  ⟨some 2,.move (.c (.s (.int .i64 0))),none,0,[]⟩]) (RC.seq (RC.region 4 [
  ⟨some 3,.move (.t 0),none,0,[]⟩,
  ⟨some 4,.call F.calls_of [(.t 3)],none,1,[]⟩,
  ⟨some 5,.field none 1 (.t 4),none,2,[]⟩,
  ⟨some 2,.move (.t 5),none,3,[]⟩]) (RC.ret)))
theorem calls_Arity_ok : chkFunc Go.Proofs.Tryz.prog [0] Go.Proofs.Tryz.f232 calls_Arity = true := by kernel_rfl
def order_Queue_Take_s0 : RC :=
  RC.seq (RC.region 4 [
  ⟨some 20,.load (some 2) (.t 4),none,0,[]⟩,
  ⟨some 21,.move (.t 5),none,1,[]⟩,
  ⟨none,.store 2 (.t 2) (.t 20),none,2,[]⟩,
  ⟨some 3,.move (.t 21),none,3,[]⟩]) (RC.ret)
def order_Queue_Take : RFunc := RFunc.mk 22 [.cell 2 (some 2),.tmp 3] (
  RC.seq (RC.region 2 [
  ⟨some 2,.newc [.int .i64 0,.int .i64 0],none,0,[]⟩,
  ⟨some 3,.move (.c (.s (.bool false))),none,1,[]⟩]) (RC.seq (RC.region 10 [
  ⟨some 7,.move (.t 0),none,0,[]⟩,
  ⟨some 8,.nilCheck (.t 7),none,1,[]⟩,
  ⟨some 9,.fieldAddr 0 (.t 8),none,2,[]⟩,
  ⟨some 10,.call F.order_Line_First [(.t 9)],none,3,[]⟩,
  ⟨some 6,.move (.t 10),none,4,[]⟩,
  ⟨some 11,.extract 0 (.t 6),none,5,[]⟩,
  ⟨some 12,.extract 1 (.t 6),none,6,[]⟩,
  ⟨some 4,.newc [.int .i64 0,.int .i64 0],none,7,[]⟩,
  ⟨none,.store 2 (.t 4) (.t 11),none,8,[]⟩,
  ⟨some 5,.move (.t 12),none,9,[]⟩]) (RC.seq (RC.seq (RC.region 1 [
  ⟨some 13,.move (.t 5),none,0,[]⟩]) (RC.cond (.t 13) (RC.region 6 [
  ⟨some 14,.move (.t 0),none,0,[]⟩,
  ⟨some 15,.nilCheck (.t 14),none,1,[]⟩,
  ⟨some 16,.fieldAddr 0 (.t 15),none,2,[]⟩,
  ⟨some 17,.fieldAddr 0 (.t 4),none,3,[]⟩,
  ⟨some 18,.load none (.t 17),none,4,[]⟩,
  ⟨some 19,.call F.order_Line_Remove [(.t 16),(.t 18)],none,5,[]⟩]) (RC.skip))) R.order_Queue_Take_s0)))
theorem order_Queue_Take_ok : chkFunc Go.Proofs.Tryz.prog [0] Go.Proofs.Tryz.f90 order_Queue_Take = true := by kernel_rfl
def flag_wish_met : RFunc := RFunc.mk 25 [.tmp 4] (
  RC.seq (RC.region 2 [
  ⟨some 2,.box (.t 0),none,0,[]⟩,
  ⟨some 4,.move (.c (.s (.bool false))),none,1,[]⟩]) (RC.seq (RC.seq (RC.region 3 [
  ⟨some 5,.fieldAddr 1 (.t 2),none,0,[]⟩,
  ⟨some 6,.load none (.t 5),none,1,[]⟩,
  ⟨some 7,.bin .eql (.t 6) (.c (.s (.int .i64 0))),none,2,[]⟩]) (RC.cond (.t 7) (RC.seq (RC.region 13 [
  ⟨some 8,.fieldAddr 0 (.t 2),none,0,[]⟩,
  ⟨some 9,.load none (.t 8),none,1,[]⟩,
  ⟨some 10,.bin .neq (.t 9) (.c (.s (.int .u32 0))),none,2,[]⟩,
  ⟨some 11,.move (.t 10),none,3,[]⟩,
  ⟨some 12,.move (.t 1),(some (11,true)),4,[]⟩,
  ⟨some 13,.fieldAddr 0 (.t 2),(some (11,true)),5,[]⟩,
  ⟨some 14,.load none (.t 13),(some (11,true)),6,[]⟩,
  ⟨some 15,.bin .and (.t 12) (.t 14),(some (11,true)),7,[]⟩,
  ⟨some 16,.fieldAddr 0 (.t 2),(some (11,true)),8,[]⟩,
  ⟨some 17,.load none (.t 16),(some (11,true)),9,[]⟩,
  ⟨some 18,.bin .eql (.t 15) (.t 17),(some (11,true)),10,[]⟩,
  ⟨some 19,.pick (.t 11) (.t 18) (.c (.s (.bool false))),none,11,[]⟩,
  ⟨some 4,.move (.t 19),none,12,[]⟩]) (RC.ret)) (RC.skip))) (RC.seq (RC.region 6 [
  ⟨some 20,.move (.t 1),none,0,[]⟩,
  ⟨some 21,.fieldAddr 0 (.t 2),none,1,[]⟩,
  ⟨some 22,.load none (.t 21),none,2,[]⟩,
  ⟨some 23,.bin .and (.t 20) (.t 22),none,3,[]⟩,
  ⟨some 24,.bin .neq (.t 23) (.c (.s (.int .u32 0))),none,4,[]⟩,
  ⟨some 4,.move (.t 24),none,5,[]⟩]) (RC.ret))))
theorem flag_wish_met_ok : chkFunc Go.Proofs.Tryz.prog [0] Go.Proofs.Tryz.f233 flag_wish_met = true := by kernel_rfl
def slices_Clip__flag_Woken_flag_Woken : RFunc := RFunc.mk 9 [.tmp 2] (
  RC.seq (RC.region 1 [
  ⟨some 2,.move (.c (.s (.slice none 0 0 1))),none,0,[]⟩]) (RC.seq (RC.region 7 [
  ⟨some 3,.move (.t 0),none,0,[]⟩,
  ⟨some 4,.move (.t 0),none,1,[]⟩,
  ⟨some 5,.len (.t 4),none,2,[]⟩,
  ⟨some 6,.move (.t 0),none,3,[]⟩,
  ⟨some 7,.len (.t 6),none,4,[]⟩,
  ⟨some 8,.slSl 2 (.t 3) none (some (.t 5)) (some (.t 7)),none,5,[]⟩,
  ⟨some 2,.move (.t 8),none,6,[]⟩]) (RC.ret)))
theorem slices_Clip__flag_Woken_flag_Woken_ok : chkFunc Go.Proofs.Tryz.prog [0] Go.Proofs.Tryz.f234 slices_Clip__flag_Woken_flag_Woken = true := by kernel_rfl
def order_Line_Len : RFunc := RFunc.mk 8 [.tmp 2] (
  RC.seq (RC.region 1 [
  ⟨some 2,.move (.c (.s (.int .i64 0))),none,0,[]⟩]) (RC.seq (RC.region 6 [
  ⟨some 3,.move (.t 0),none,0,[]⟩,
  ⟨some 4,.nilCheck (.t 3),none,1,[]⟩,
  ⟨some 5,.fieldAddr 0 (.t 4),none,2,[]⟩,
  ⟨some 6,.load none (.t 5),none,3,[]⟩,
  ⟨some 7,.len (.t 6),none,4,[]⟩,
  ⟨some 2,.move (.t 7),none,5,[]⟩]) (RC.ret)))
theorem order_Line_Len_ok : chkFunc Go.Proofs.Tryz.prog [0] Go.Proofs.Tryz.f92 order_Line_Len = true := by kernel_rfl
def dtq_Queue_next : RFunc := RFunc.mk 35 [.tmp 2,.tmp 3,.tmp 4] (
  RC.seq (RC.region 3 [
  ⟨some 2,.move (.c (.s (.int .i64 0))),none,0,[]⟩,
  ⟨some 3,.move (.c (.s (.int .i64 0))),none,1,[]⟩,
  ⟨some 4,.move (.c (.s (.bool false))),none,2,[]⟩]) (RC.seq (RC.region 12 [
  ⟨some 9,.move (.t 0),none,0,[]⟩,
  ⟨some 10,.nilCheck (.t 9),none,1,[]⟩,
  ⟨some 11,.fieldAddr 0 (.t 10),none,2,[]⟩,
  ⟨some 12,.fieldAddr 0 (.t 11),none,3,[]⟩,
  ⟨some 13,.load none (.t 12),none,4,[]⟩,
  ⟨some 14,.call F.order_Queue_Take [(.t 13)],none,5,[]⟩,
  ⟨some 8,.move (.t 14),none,6,[]⟩,
  ⟨some 15,.extract 0 (.t 8),none,7,[]⟩,
  ⟨some 16,.extract 1 (.t 8),none,8,[]⟩,
  ⟨some 5,.newc [.int .i64 0,.int .i64 0],none,9,[]⟩,
  ⟨none,.store 2 (.t 5) (.t 15),none,10,[]⟩,
  ⟨some 6,.move (.t 16),none,11,[]⟩]) (RC.seq (RC.seq (RC.region 2 [
  ⟨some 17,.move (.t 6),none,0,[]⟩,
  ⟨some 18,.un .not (.t 17),none,1,[]⟩]) (RC.cond (.t 18) (RC.seq (RC.region 3 [
  ⟨some 2,.move (.c (.s (.int .i64 0))),none,0,[]⟩,
  ⟨some 3,.move (.c (.s (.int .i64 0))),none,1,[]⟩,
  ⟨some 4,.move (.c (.s (.bool false))),none,2,[]⟩]) (RC.ret)) (RC.skip))) (RC.seq (RC.region 8 [
  ⟨some 19,.move (.t 0),none,0,[]⟩,
  ⟨some 20,.nilCheck (.t 19),none,1,[]⟩,
  ⟨some 21,.fieldAddr 4 (.t 20),none,2,[]⟩,
  ⟨some 22,.load none (.t 21),none,3,[]⟩,
  ⟨some 23,.fieldAddr 0 (.t 5),none,4,[]⟩,
  ⟨some 24,.load none (.t 23),none,5,[]⟩,
  ⟨some 25,.hop (.lookup false) [(.t 22),(.t 24)],none,6,[]⟩,
  ⟨some 7,.move (.t 25),none,7,[]⟩]) (RC.seq (RC.region 7 [
  ⟨some 26,.move (.t 0),none,0,[]⟩,
  ⟨some 27,.nilCheck (.t 26),none,1,[]⟩,
  ⟨some 28,.fieldAddr 4 (.t 27),none,2,[]⟩,
  ⟨some 29,.load none (.t 28),none,3,[]⟩,
  ⟨some 30,.fieldAddr 0 (.t 5),none,4,[]⟩,
  ⟨some 31,.load none (.t 30),none,5,[]⟩,
  ⟨none,.hop .delete [(.t 29),(.t 31)],none,6,[]⟩]) (RC.seq (RC.region 6 [
  ⟨some 32,.move (.t 7),none,0,[]⟩,
  ⟨some 33,.fieldAddr 0 (.t 5),none,1,[]⟩,
  ⟨some 34,.load none (.t 33),none,2,[]⟩,
  ⟨some 2,.move (.t 32),none,3,[]⟩,
  ⟨some 3,.move (.t 34),none,4,[]⟩,
  ⟨some 4,.move (.c (.s (.bool true))),none,5,[]⟩]) (RC.ret)))))))
theorem dtq_Queue_next_ok : chkFunc Go.Proofs.Tryz.prog [0] Go.Proofs.Tryz.f235 dtq_Queue_next = true := by kernel_rfl
def mtx_All_in : RFunc := RFunc.mk 16 [.tmp 4] (
  RC.seq (RC.region 1 [
  ⟨some 4,.move (.c (.s (.bool false))),none,0,[]⟩]) (RC.seq (RC.region 12 [
  ⟨some 5,.move (.t 1),none,0,[]⟩,
  ⟨some 6,.bin .geq (.t 5) (.c (.s (.int .i64 1))),none,1,[]⟩,
  ⟨some 7,.move (.t 6),none,2,[]⟩,
  ⟨some 8,.move (.t 1),(some (7,true)),3,[]⟩,
  ⟨some 9,.move (.t 0),(some (7,true)),4,[]⟩,
  ⟨some 10,.nilCheck (.t 9),(some (7,true)),5,[]⟩,
  ⟨some 11,.fieldAddr 0 (.t 10),(some (7,true)),6,[]⟩,
  ⟨some 12,.load none (.t 11),(some (7,true)),7,[]⟩,
  ⟨some 13,.len (.t 12),(some (7,true)),8,[]⟩,
  ⟨some 14,.bin .lss (.t 8) (.t 13),(some (7,true)),9,[]⟩,
  ⟨some 15,.pick (.t 7) (.t 14) (.c (.s (.bool false))),none,10,[]⟩,
  ⟨some 4,.move (.t 15),none,11,[]⟩]) (RC.ret)))
theorem mtx_All_in_ok : chkFunc Go.Proofs.Tryz.prog [0] Go.Proofs.Tryz.f173 mtx_All_in = true := by kernel_rfl
def slices_Delete__int_int : RFunc := RFunc.mk 33 [.tmp 6] (
  RC.seq (RC.region 1 [
  ⟨some 6,.move (.c (.s (.slice none 0 0 1))),none,0,[]⟩]) (RC.seq (RC.region 6 [
  ⟨some 8,.move (.t 0),none,0,[]⟩,
  ⟨some 9,.move (.t 1),none,1,[]⟩,
  ⟨some 10,.move (.t 2),none,2,[]⟩,
  ⟨some 11,.move (.t 0),none,3,[]⟩,
  ⟨some 12,.len (.t 11),none,4,[]⟩,
  ⟨some 13,.slSl 1 (.t 8) (some (.t 9)) (some (.t 10)) (some (.t 12)),none,5,[]⟩]) (RC.seq (RC.seq (RC.region 3 [
  ⟨some 14,.move (.t 1),none,0,[]⟩,
  ⟨some 15,.move (.t 2),none,1,[]⟩,
  ⟨some 16,.bin .eql (.t 14) (.t 15),none,2,[]⟩]) (RC.cond (.t 16) (RC.seq (RC.region 2 [
  ⟨some 17,.move (.t 0),none,0,[]⟩,
  ⟨some 6,.move (.t 17),none,1,[]⟩]) (RC.ret)) (RC.skip))) (RC.seq (RC.region 3 [
  ⟨some 18,.move (.t 0),none,0,[]⟩,
  ⟨some 19,.len (.t 18),none,1,[]⟩,
  ⟨some 7,.move (.t 19),none,2,[]⟩]) (RC.seq (RC.region 8 [
  ⟨some 20,.move (.t 0),none,0,[]⟩,
  ⟨some 21,.move (.t 1),none,1,[]⟩,
  ⟨some 22,.slSl 1 (.t 20) none (some (.t 21)) none,none,2,[]⟩,
  ⟨some 23,.move (.t 0),none,3,[]⟩,
  ⟨some 24,.move (.t 2),none,4,[]⟩,
  ⟨some 25,.slSl 1 (.t 23) (some (.t 24)) none none,none,5,[]⟩,
  ⟨some 26,.append 1 8 (.t 22) (.t 25),none,6,[]⟩,
  ⟨some 0,.move (.t 26),none,7,[]⟩]) (RC.seq (RC.region 6 [
  ⟨some 27,.move (.t 0),none,0,[]⟩,
  ⟨some 28,.move (.t 0),none,1,[]⟩,
  ⟨some 29,.len (.t 28),none,2,[]⟩,
  ⟨some 30,.move (.t 7),none,3,[]⟩,
  ⟨some 31,.slSl 1 (.t 27) (some (.t 29)) (some (.t 30)) none,none,4,[]⟩,
  ⟨none,.clear 1 [.int .i64 0] (.t 31),none,5,[]⟩]) (RC.seq (RC.region 2 [
  ⟨some 32,.move (.t 0),none,0,[]⟩,
  ⟨some 6,.move (.t 32),none,1,[]⟩]) (RC.ret))))))))
theorem slices_Delete__int_int_ok : chkFunc Go.Proofs.Tryz.prog [0] Go.Proofs.Tryz.f236 slices_Delete__int_int = true := by kernel_rfl
def mtx_All_over_l0 : RC :=
  RC.seq (RC.region 1 [
  ⟨some 9,.bin .lss (.t 8) (.c (.s (.int .i64 17))),none,0,[]⟩]) (RC.seq (RC.cond (.t 9) (RC.skip) (RC.exit 0)) (RC.seq (RC.block 1 (RC.seq (RC.region 8 [
  ⟨some 10,.move (.t 0),none,0,[]⟩,
  ⟨some 11,.move (.t 1),none,1,[]⟩,
  ⟨some 12,.nilCheck (.t 10),none,2,[]⟩,
  ⟨some 13,.fieldAddr 1 (.t 12),none,3,[]⟩,
  ⟨some 14,.indexArr 17 3 (.t 13) (.t 11),none,4,[]⟩,
  ⟨some 15,.fieldAddr 2 (.t 14),none,5,[]⟩,
  ⟨some 16,.load none (.t 15),none,6,[]⟩,
  ⟨some 7,.move (.t 16),none,7,[]⟩]) (RC.seq (RC.seq (RC.region 2 [
  ⟨some 17,.move (.t 7),none,0,[]⟩,
  ⟨some 18,.bin .eql (.t 17) (.c (.s (.int .i64 0))),none,1,[]⟩]) (RC.cond (.t 18) (RC.seq (RC.region 1 [
  ⟨some 6,.move (.c (.s (.bool false))),none,0,[]⟩]) (RC.ret)) (RC.skip))) (RC.seq (RC.seq (RC.region 9 [
  ⟨some 19,.move (.t 0),none,0,[]⟩,
  ⟨some 20,.nilCheck (.t 19),none,1,[]⟩,
  ⟨some 21,.fieldAddr 0 (.t 20),none,2,[]⟩,
  ⟨some 22,.load none (.t 21),none,3,[]⟩,
  ⟨some 23,.move (.t 7),none,4,[]⟩,
  ⟨some 24,.indexSl 4 (.t 22) (.t 23),none,5,[]⟩,
  ⟨some 25,.fieldAddr 2 (.t 24),none,6,[]⟩,
  ⟨some 26,.load none (.t 25),none,7,[]⟩,
  ⟨some 1,.move (.t 26),none,8,[]⟩]) (RC.seq (RC.region 3 [
  ⟨some 27,.move (.t 1),none,0,[]⟩,
  ⟨some 28,.move (.t 2),none,1,[]⟩,
  ⟨some 29,.bin .eql (.t 27) (.t 28),none,2,[]⟩]) (RC.cond (.t 29) (RC.seq (RC.region 1 [
  ⟨some 6,.move (.c (.s (.bool true))),none,0,[]⟩]) (RC.ret)) (RC.skip)))) (RC.seq (RC.region 2 [
  ⟨some 30,.move (.t 1),none,0,[]⟩,
  ⟨some 31,.bin .eql (.t 30) (.c (.s (.int .i64 0))),none,1,[]⟩]) (RC.cond (.t 31) (RC.seq (RC.region 1 [
  ⟨some 6,.move (.c (.s (.bool false))),none,0,[]⟩]) (RC.ret)) (RC.skip))))))) (RC.region 2 [
  ⟨some 32,.bin .add (.t 8) (.c (.s (.int .i64 1))),none,0,[]⟩,
  ⟨some 8,.move (.t 32),none,1,[]⟩])))
def mtx_All_over_s1 : RC :=
  RC.seq (RC.region 1 [
  ⟨some 6,.move (.c (.s (.bool false))),none,0,[]⟩]) (RC.ret)
def mtx_All_over : RFunc := RFunc.mk 33 [.tmp 6] (
  RC.seq (RC.region 1 [
  ⟨some 6,.move (.c (.s (.bool false))),none,0,[]⟩]) (RC.seq (RC.seq (RC.region 1 [
  ⟨some 8,.move (.c (.s (.int .i64 0))),none,0,[]⟩]) (RC.block 0 (RC.loop R.mtx_All_over_l0))) R.mtx_All_over_s1))
theorem mtx_All_over_ok : chkFunc Go.Proofs.Tryz.prog [0] Go.Proofs.Tryz.f237 mtx_All_over = true := by kernel_rfl
def mtx_All_stand_l0 : RC :=
  RC.seq (RC.seq (RC.region 34 [
  ⟨some 19,.move (.t 6),none,0,[]⟩,
  ⟨some 20,.nilCheck (.t 19),none,1,[]⟩,
  ⟨some 21,.fieldAddr 0 (.t 20),none,2,[]⟩,
  ⟨some 22,.fieldAddr 0 (.t 21),none,3,[]⟩,
  ⟨some 23,.load none (.t 22),none,4,[]⟩,
  ⟨some 24,.bin .neq (.t 23) (.c (.s (.int .i64 0))),none,5,[]⟩,
  ⟨some 25,.move (.t 24),none,6,[]⟩,
  ⟨some 26,.move (.t 7),(some (25,true)),7,[]⟩,
  ⟨some 27,.bin .gtr (.t 26) (.c (.s (.int .i64 0))),(some (25,true)),8,[]⟩,
  ⟨some 28,.pick (.t 25) (.t 27) (.c (.s (.bool false))),none,9,[]⟩,
  ⟨some 29,.move (.t 28),none,10,[]⟩,
  ⟨some 30,.move (.t 0),(some (29,true)),11,[]⟩,
  ⟨some 31,.move (.t 6),(some (29,true)),12,[]⟩,
  ⟨some 32,.nilCheck (.t 31),(some (29,true)),13,[]⟩,
  ⟨some 33,.fieldAddr 3 (.t 32),(some (29,true)),14,[]⟩,
  ⟨some 34,.load none (.t 33),(some (29,true)),15,[]⟩,
  ⟨some 35,.move (.t 7),(some (29,true)),16,[]⟩,
  ⟨some 36,.bin .sub (.t 35) (.c (.s (.int .i64 1))),(some (29,true)),17,[]⟩,
  ⟨some 37,.indexSl 1 (.t 34) (.t 36),(some (29,true)),18,[]⟩,
  ⟨some 38,.load none (.t 37),(some (29,true)),19,[]⟩,
  ⟨some 39,.nilCheck (.t 30),(some (29,true)),20,[]⟩,
  ⟨some 40,.fieldAddr 1 (.t 39),(some (29,true)),21,[]⟩,
  ⟨some 41,.indexArr 17 3 (.t 40) (.t 38),(some (29,true)),22,[]⟩,
  ⟨some 42,.fieldAddr 1 (.t 41),(some (29,true)),23,[]⟩,
  ⟨some 43,.load none (.t 42),(some (29,true)),24,[]⟩,
  ⟨some 44,.move (.t 0),(some (29,true)),25,[]⟩,
  ⟨some 45,.move (.t 2),(some (29,true)),26,[]⟩,
  ⟨some 46,.nilCheck (.t 44),(some (29,true)),27,[]⟩,
  ⟨some 47,.fieldAddr 1 (.t 46),(some (29,true)),28,[]⟩,
  ⟨some 48,.indexArr 17 3 (.t 47) (.t 45),(some (29,true)),29,[]⟩,
  ⟨some 49,.fieldAddr 1 (.t 48),(some (29,true)),30,[]⟩,
  ⟨some 50,.load none (.t 49),(some (29,true)),31,[]⟩,
  ⟨some 51,.bin .gtr (.t 43) (.t 50),(some (29,true)),32,[]⟩,
  ⟨some 52,.pick (.t 29) (.t 51) (.c (.s (.bool false))),none,33,[]⟩]) (RC.cond (.t 52) (RC.skip) (RC.exit 0))) (RC.block 1 (RC.region 3 [
  ⟨some 53,.move (.t 7),none,0,[]⟩,
  ⟨some 54,.bin .sub (.t 53) (.c (.s (.int .i64 1))),none,1,[]⟩,
  ⟨some 7,.move (.t 54),none,2,[]⟩]))
def mtx_All_stand_s1 : RC :=
  RC.region 12 [
  ⟨some 55,.move (.t 6),none,0,[]⟩,
  ⟨some 56,.move (.t 6),none,1,[]⟩,
  ⟨some 57,.nilCheck (.t 56),none,2,[]⟩,
  ⟨some 58,.fieldAddr 3 (.t 57),none,3,[]⟩,
  ⟨some 59,.load none (.t 58),none,4,[]⟩,
  ⟨some 60,.move (.t 7),none,5,[]⟩,
  ⟨some 61,.move (.t 2),none,6,[]⟩,
  ⟨some 62,.buildSlice 1 1 [.int .i64 0] [(0,1,(.t 61))],none,7,[]⟩,
  ⟨some 63,.call F.slices_Insert__int_int [(.t 59),(.t 60),(.t 62)],none,8,[]⟩,
  ⟨some 64,.nilCheck (.t 55),none,9,[]⟩,
  ⟨some 65,.fieldAddr 3 (.t 64),none,10,[]⟩,
  ⟨none,.store 1 (.t 65) (.t 63),none,11,[]⟩]
def mtx_All_stand : RFunc := RFunc.mk 66 [] (
  RC.seq (RC.region 7 [
  ⟨some 8,.move (.t 0),none,0,[]⟩,
  ⟨some 9,.nilCheck (.t 8),none,1,[]⟩,
  ⟨some 10,.fieldAddr 0 (.t 9),none,2,[]⟩,
  ⟨some 11,.load none (.t 10),none,3,[]⟩,
  ⟨some 12,.move (.t 1),none,4,[]⟩,
  ⟨some 13,.indexSl 4 (.t 11) (.t 12),none,5,[]⟩,
  ⟨some 6,.move (.t 13),none,6,[]⟩]) (RC.seq (RC.region 6 [
  ⟨some 14,.move (.t 6),none,0,[]⟩,
  ⟨some 15,.nilCheck (.t 14),none,1,[]⟩,
  ⟨some 16,.fieldAddr 3 (.t 15),none,2,[]⟩,
  ⟨some 17,.load none (.t 16),none,3,[]⟩,
  ⟨some 18,.len (.t 17),none,4,[]⟩,
  ⟨some 7,.move (.t 18),none,5,[]⟩]) (RC.seq (RC.block 0 (RC.loop R.mtx_All_stand_l0)) R.mtx_All_stand_s1)))
theorem mtx_All_stand_ok : chkFunc Go.Proofs.Tryz.prog [0] Go.Proofs.Tryz.f238 mtx_All_stand = true := by kernel_rfl
def slices_BinarySearch__int_int_l0 : RC :=
  RC.seq (RC.seq (RC.region 3 [
  ⟨some 13,.move (.t 7),none,0,[]⟩,
  ⟨some 14,.move (.t 8),none,1,[]⟩,
  ⟨some 15,.bin .lss (.t 13) (.t 14),none,2,[]⟩]) (RC.cond (.t 15) (RC.skip) (RC.exit 0))) (RC.block 1 (RC.seq (RC.region 7 [
  ⟨some 16,.move (.t 7),none,0,[]⟩,
  ⟨some 17,.move (.t 8),none,1,[]⟩,
  ⟨some 18,.bin .add (.t 16) (.t 17),none,2,[]⟩,
  ⟨some 19,.conv .u64 (.t 18),none,3,[]⟩,
  ⟨some 20,.bin .shr (.t 19) (.c (.s (.int .u64 1))),none,4,[]⟩,
  ⟨some 21,.conv .i64 (.t 20),none,5,[]⟩,
  ⟨some 9,.move (.t 21),none,6,[]⟩]) (RC.seq (RC.region 6 [
  ⟨some 22,.move (.t 0),none,0,[]⟩,
  ⟨some 23,.move (.t 9),none,1,[]⟩,
  ⟨some 24,.indexSl 1 (.t 22) (.t 23),none,2,[]⟩,
  ⟨some 25,.load none (.t 24),none,3,[]⟩,
  ⟨some 26,.move (.t 1),none,4,[]⟩,
  ⟨some 27,.call F.cmp_Less_int [(.t 25),(.t 26)],none,5,[]⟩]) (RC.cond (.t 27) (RC.region 3 [
  ⟨some 28,.move (.t 9),none,0,[]⟩,
  ⟨some 29,.bin .add (.t 28) (.c (.s (.int .i64 1))),none,1,[]⟩,
  ⟨some 7,.move (.t 29),none,2,[]⟩]) (RC.region 2 [
  ⟨some 30,.move (.t 9),none,0,[]⟩,
  ⟨some 8,.move (.t 30),none,1,[]⟩])))))
def slices_BinarySearch__int_int_s1 : RC :=
  RC.seq (RC.region 25 [
  ⟨some 31,.move (.t 7),none,0,[]⟩,
  ⟨some 32,.move (.t 7),none,1,[]⟩,
  ⟨some 33,.move (.t 6),none,2,[]⟩,
  ⟨some 34,.bin .lss (.t 32) (.t 33),none,3,[]⟩,
  ⟨some 35,.move (.t 34),none,4,[]⟩,
  ⟨some 36,.move (.t 0),(some (35,true)),5,[]⟩,
  ⟨some 37,.move (.t 7),(some (35,true)),6,[]⟩,
  ⟨some 38,.indexSl 1 (.t 36) (.t 37),(some (35,true)),7,[]⟩,
  ⟨some 39,.load none (.t 38),(some (35,true)),8,[]⟩,
  ⟨some 40,.move (.t 1),(some (35,true)),9,[]⟩,
  ⟨some 41,.bin .eql (.t 39) (.t 40),(some (35,true)),10,[]⟩,
  ⟨some 42,.move (.t 41),(some (35,true)),11,[]⟩,
  ⟨some 43,.move (.t 0),(some (42,false)),12,[]⟩,
  ⟨some 44,.move (.t 7),(some (42,false)),13,[]⟩,
  ⟨some 45,.indexSl 1 (.t 43) (.t 44),(some (42,false)),14,[]⟩,
  ⟨some 46,.load none (.t 45),(some (42,false)),15,[]⟩,
  ⟨some 47,.call F.slices_isNaN_int [(.t 46)],(some (42,false)),16,[]⟩,
  ⟨some 48,.move (.t 47),(some (42,false)),17,[]⟩,
  ⟨some 49,.move (.t 1),(some (48,true)),18,[]⟩,
  ⟨some 50,.call F.slices_isNaN_int [(.t 49)],(some (48,true)),19,[]⟩,
  ⟨some 51,.pick (.t 48) (.t 50) (.c (.s (.bool false))),(some (42,false)),20,[]⟩,
  ⟨some 52,.pick (.t 42) (.c (.s (.bool true))) (.t 51),(some (35,true)),21,[]⟩,
  ⟨some 53,.pick (.t 35) (.t 52) (.c (.s (.bool false))),none,22,[]⟩,
  ⟨some 4,.move (.t 31),none,23,[]⟩,
  ⟨some 5,.move (.t 53),none,24,[]⟩]) (RC.ret)
def slices_BinarySearch__int_int : RFunc := RFunc.mk 54 [.tmp 4,.tmp 5] (
  RC.seq (RC.region 2 [
  ⟨some 4,.move (.c (.s (.int .i64 0))),none,0,[]⟩,
  ⟨some 5,.move (.c (.s (.bool false))),none,1,[]⟩]) (RC.seq (RC.region 3 [
  ⟨some 10,.move (.t 0),none,0,[]⟩,
  ⟨some 11,.len (.t 10),none,1,[]⟩,
  ⟨some 6,.move (.t 11),none,2,[]⟩]) (RC.seq (RC.region 3 [
  ⟨some 12,.move (.t 6),none,0,[]⟩,
  ⟨some 7,.move (.c (.s (.int .i64 0))),none,1,[]⟩,
  ⟨some 8,.move (.t 12),none,2,[]⟩]) (RC.seq (RC.block 0 (RC.loop R.slices_BinarySearch__int_int_l0)) R.slices_BinarySearch__int_int_s1))))
theorem slices_BinarySearch__int_int_ok : chkFunc Go.Proofs.Tryz.prog [0] Go.Proofs.Tryz.f239 slices_BinarySearch__int_int = true := by kernel_rfl
def nums_Add : RFunc := RFunc.mk 9 [.tmp 4] (
  RC.seq (RC.region 1 [
  ⟨some 4,.move (.c (.s (.int .u64 0))),none,0,[]⟩]) (RC.seq (RC.region 5 [
  ⟨some 5,.move (.t 0),none,0,[]⟩,
  ⟨some 6,.move (.t 1),none,1,[]⟩,
  ⟨some 7,.bin .add (.t 5) (.t 6),none,2,[]⟩,
  ⟨some 8,.bin .rem (.t 7) (.c (.s (.int .u64 281474976710656))),none,3,[]⟩,
  ⟨some 4,.move (.t 8),none,4,[]⟩]) (RC.ret)))
theorem nums_Add_ok : chkFunc Go.Proofs.Tryz.prog [0] Go.Proofs.Tryz.f175 nums_Add = true := by kernel_rfl
def cyc_Hands_cyc : RFunc := RFunc.mk 23 [.tmp 4] (
  RC.seq (RC.region 1 [
  ⟨some 4,.move (.c (.s (.ptr none))),none,0,[]⟩]) (RC.seq (RC.seq (RC.region 11 [
  ⟨some 5,.move (.t 1),none,0,[]⟩,
  ⟨some 6,.bin .lss (.t 5) (.c (.s (.int .i64 1))),none,1,[]⟩,
  ⟨some 7,.move (.t 6),none,2,[]⟩,
  ⟨some 8,.move (.t 1),(some (7,false)),3,[]⟩,
  ⟨some 9,.move (.t 0),(some (7,false)),4,[]⟩,
  ⟨some 10,.nilCheck (.t 9),(some (7,false)),5,[]⟩,
  ⟨some 11,.fieldAddr 2 (.t 10),(some (7,false)),6,[]⟩,
  ⟨some 12,.load none (.t 11),(some (7,false)),7,[]⟩,
  ⟨some 13,.len (.t 12),(some (7,false)),8,[]⟩,
  ⟨some 14,.bin .gtr (.t 8) (.t 13),(some (7,false)),9,[]⟩,
  ⟨some 15,.pick (.t 7) (.c (.s (.bool true))) (.t 14),none,10,[]⟩]) (RC.cond (.t 15) (RC.seq (RC.region 1 [
  ⟨some 4,.move (.c (.s (.ptr none))),none,0,[]⟩]) (RC.ret)) (RC.skip))) (RC.seq (RC.region 8 [
  ⟨some 16,.move (.t 0),none,0,[]⟩,
  ⟨some 17,.nilCheck (.t 16),none,1,[]⟩,
  ⟨some 18,.fieldAddr 2 (.t 17),none,2,[]⟩,
  ⟨some 19,.load none (.t 18),none,3,[]⟩,
  ⟨some 20,.move (.t 1),none,4,[]⟩,
  ⟨some 21,.bin .sub (.t 20) (.c (.s (.int .i64 1))),none,5,[]⟩,
  ⟨some 22,.indexSl 5 (.t 19) (.t 21),none,6,[]⟩,
  ⟨some 4,.move (.t 22),none,7,[]⟩]) (RC.ret))))
theorem cyc_Hands_cyc_ok : chkFunc Go.Proofs.Tryz.prog [0] Go.Proofs.Tryz.f241 cyc_Hands_cyc = true := by kernel_rfl
def cyc_Hands_alarm : RFunc := RFunc.mk 23 [.tmp 4] (
  RC.seq (RC.region 1 [
  ⟨some 4,.move (.c (.s (.ptr none))),none,0,[]⟩]) (RC.seq (RC.seq (RC.region 11 [
  ⟨some 5,.move (.t 1),none,0,[]⟩,
  ⟨some 6,.bin .lss (.t 5) (.c (.s (.int .i64 1))),none,1,[]⟩,
  ⟨some 7,.move (.t 6),none,2,[]⟩,
  ⟨some 8,.move (.t 1),(some (7,false)),3,[]⟩,
  ⟨some 9,.move (.t 0),(some (7,false)),4,[]⟩,
  ⟨some 10,.nilCheck (.t 9),(some (7,false)),5,[]⟩,
  ⟨some 11,.fieldAddr 3 (.t 10),(some (7,false)),6,[]⟩,
  ⟨some 12,.load none (.t 11),(some (7,false)),7,[]⟩,
  ⟨some 13,.len (.t 12),(some (7,false)),8,[]⟩,
  ⟨some 14,.bin .gtr (.t 8) (.t 13),(some (7,false)),9,[]⟩,
  ⟨some 15,.pick (.t 7) (.c (.s (.bool true))) (.t 14),none,10,[]⟩]) (RC.cond (.t 15) (RC.seq (RC.region 1 [
  ⟨some 4,.move (.c (.s (.ptr none))),none,0,[]⟩]) (RC.ret)) (RC.skip))) (RC.seq (RC.region 8 [
  ⟨some 16,.move (.t 0),none,0,[]⟩,
  ⟨some 17,.nilCheck (.t 16),none,1,[]⟩,
  ⟨some 18,.fieldAddr 3 (.t 17),none,2,[]⟩,
  ⟨some 19,.load none (.t 18),none,3,[]⟩,
  ⟨some 20,.move (.t 1),none,4,[]⟩,
  ⟨some 21,.bin .sub (.t 20) (.c (.s (.int .i64 1))),none,5,[]⟩,
  ⟨some 22,.indexSl 2 (.t 19) (.t 21),none,6,[]⟩,
  ⟨some 4,.move (.t 22),none,7,[]⟩]) (RC.ret))))
theorem cyc_Hands_alarm_ok : chkFunc Go.Proofs.Tryz.prog [0] Go.Proofs.Tryz.f242 cyc_Hands_alarm = true := by kernel_rfl
def bits_Map_After_s0 : RC :=
  RC.seq (RC.region 2 [
  ⟨some 35,.move (.t 7),none,0,[]⟩,
  ⟨some 36,.bin .neq (.t 35) (.c (.s (.int .u64 0))),none,1,[]⟩]) (RC.cond (.t 36) (RC.seq (RC.region 8 [
  ⟨some 37,.move (.t 6),none,0,[]⟩,
  ⟨some 38,.bin .mul (.t 37) (.c (.s (.int .i64 64))),none,1,[]⟩,
  ⟨some 39,.move (.t 7),none,2,[]⟩,
  ⟨some 40,.call F.math_bits_TrailingZeros64 [(.t 39)],none,3,[]⟩,
  ⟨some 41,.bin .add (.t 38) (.t 40),none,4,[]⟩,
  ⟨some 42,.bin .add (.t 41) (.c (.s (.int .i64 1))),none,5,[]⟩,
  ⟨some 4,.move (.t 42),none,6,[]⟩,
  ⟨some 5,.move (.c (.s (.bool true))),none,7,[]⟩]) (RC.ret)) (RC.skip))
def bits_Map_After_s1 : RC :=
  RC.region 3 [
  ⟨some 16,.move (.t 6),none,0,[]⟩,
  ⟨some 17,.bin .add (.t 16) (.c (.s (.int .i64 1))),none,1,[]⟩,
  ⟨some 6,.move (.t 17),none,2,[]⟩]
def bits_Map_After_l2 : RC :=
  RC.seq (RC.seq (RC.region 2 [
  ⟨some 14,.move (.t 6),none,0,[]⟩,
  ⟨some 15,.bin .lss (.t 14) (.c (.s (.int .i64 4))),none,1,[]⟩]) (RC.cond (.t 15) (RC.skip) (RC.exit 0))) (RC.seq (RC.block 1 (RC.seq (RC.region 7 [
  ⟨some 18,.move (.t 0),none,0,[]⟩,
  ⟨some 19,.move (.t 6),none,1,[]⟩,
  ⟨some 20,.nilCheck (.t 18),none,2,[]⟩,
  ⟨some 21,.fieldAddr 0 (.t 20),none,3,[]⟩,
  ⟨some 22,.indexArr 4 1 (.t 21) (.t 19),none,4,[]⟩,
  ⟨some 23,.load none (.t 22),none,5,[]⟩,
  ⟨some 7,.move (.t 23),none,6,[]⟩]) (RC.seq (RC.seq (RC.region 4 [
  ⟨some 24,.move (.t 6),none,0,[]⟩,
  ⟨some 25,.move (.t 1),none,1,[]⟩,
  ⟨some 26,.bin .quo (.t 25) (.c (.s (.int .i64 64))),none,2,[]⟩,
  ⟨some 27,.bin .eql (.t 24) (.t 26),none,3,[]⟩]) (RC.cond (.t 27) (RC.region 8 [
  ⟨some 28,.move (.t 7),none,0,[]⟩,
  ⟨some 29,.move (.t 1),none,1,[]⟩,
  ⟨some 30,.bin .rem (.t 29) (.c (.s (.int .i64 64))),none,2,[]⟩,
  ⟨some 31,.bin .shr (.t 28) (.t 30),none,3,[]⟩,
  ⟨some 32,.move (.t 1),none,4,[]⟩,
  ⟨some 33,.bin .rem (.t 32) (.c (.s (.int .i64 64))),none,5,[]⟩,
  ⟨some 34,.bin .shl (.t 31) (.t 33),none,6,[]⟩,
  ⟨some 7,.move (.t 34),none,7,[]⟩]) (RC.skip))) R.bits_Map_After_s0))) R.bits_Map_After_s1)
def bits_Map_After_s3 : RC :=
  RC.seq (RC.region 2 [
  ⟨some 4,.move (.c (.s (.int .i64 0))),none,0,[]⟩,
  ⟨some 5,.move (.c (.s (.bool false))),none,1,[]⟩]) (RC.ret)
def bits_Map_After : RFunc := RFunc.mk 43 [.tmp 4,.tmp 5] (
  RC.seq (RC.region 2 [
  ⟨some 4,.move (.c (.s (.int .i64 0))),none,0,[]⟩,
  ⟨some 5,.move (.c (.s (.bool false))),none,1,[]⟩]) (RC.seq (RC.region 3 [
  ⟨some 8,.move (.t 1),none,0,[]⟩,
  ⟨some 9,.minmax true (.t 8) (.c (.s (.int .i64 0))),none,1,[]⟩,
  ⟨some 1,.move (.t 9),none,2,[]⟩]) (RC.seq (RC.seq (RC.region 2 [
  ⟨some 10,.move (.t 1),none,0,[]⟩,
  ⟨some 11,.bin .geq (.t 10) (.c (.s (.int .i64 256))),none,1,[]⟩]) (RC.cond (.t 11) (RC.seq (RC.region 2 [
  ⟨some 4,.move (.c (.s (.int .i64 0))),none,0,[]⟩,
  ⟨some 5,.move (.c (.s (.bool false))),none,1,[]⟩]) (RC.ret)) (RC.skip))) (RC.seq (RC.seq (RC.region 3 [
  ⟨some 12,.move (.t 1),none,0,[]⟩,
  ⟨some 13,.bin .quo (.t 12) (.c (.s (.int .i64 64))),none,1,[]⟩,
  ⟨some 6,.move (.t 13),none,2,[]⟩]) (RC.block 0 (RC.loop R.bits_Map_After_l2))) R.bits_Map_After_s3))))
theorem bits_Map_After_ok : chkFunc Go.Proofs.Tryz.prog [0] Go.Proofs.Tryz.f282 bits_Map_After = true := by kernel_rfl
def heap_Timers_remove : RFunc := RFunc.mk 48 [] (
  RC.seq (RC.region 7 [
  ⟨some 5,.move (.t 0),none,0,[]⟩,
  ⟨some 6,.nilCheck (.t 5),none,1,[]⟩,
  ⟨some 7,.fieldAddr 0 (.t 6),none,2,[]⟩,
  ⟨some 8,.load none (.t 7),none,3,[]⟩,
  ⟨some 9,.len (.t 8),none,4,[]⟩,
  ⟨some 10,.bin .sub (.t 9) (.c (.s (.int .i64 1))),none,5,[]⟩,
  ⟨some 4,.move (.t 10),none,6,[]⟩]) (RC.seq (RC.region 14 [
  ⟨some 11,.move (.t 0),none,0,[]⟩,
  ⟨some 12,.nilCheck (.t 11),none,1,[]⟩,
  ⟨some 13,.fieldAddr 0 (.t 12),none,2,[]⟩,
  ⟨some 14,.load none (.t 13),none,3,[]⟩,
  ⟨some 15,.move (.t 1),none,4,[]⟩,
  ⟨some 16,.move (.t 0),none,5,[]⟩,
  ⟨some 17,.nilCheck (.t 16),none,6,[]⟩,
  ⟨some 18,.fieldAddr 0 (.t 17),none,7,[]⟩,
  ⟨some 19,.load none (.t 18),none,8,[]⟩,
  ⟨some 20,.move (.t 4),none,9,[]⟩,
  ⟨some 21,.indexSl 3 (.t 19) (.t 20),none,10,[]⟩,
  ⟨some 22,.load (some 3) (.t 21),none,11,[]⟩,
  ⟨some 23,.indexSl 3 (.t 14) (.t 15),none,12,[]⟩,
  ⟨none,.store 3 (.t 23) (.t 22),none,13,[]⟩]) (RC.seq (RC.region 10 [
  ⟨some 24,.move (.t 0),none,0,[]⟩,
  ⟨some 25,.move (.t 0),none,1,[]⟩,
  ⟨some 26,.nilCheck (.t 25),none,2,[]⟩,
  ⟨some 27,.fieldAddr 0 (.t 26),none,3,[]⟩,
  ⟨some 28,.load none (.t 27),none,4,[]⟩,
  ⟨some 29,.move (.t 4),none,5,[]⟩,
  ⟨some 30,.slSl 3 (.t 28) none (some (.t 29)) none,none,6,[]⟩,
  ⟨some 31,.nilCheck (.t 24),none,7,[]⟩,
  ⟨some 32,.fieldAddr 0 (.t 31),none,8,[]⟩,
  ⟨none,.store 1 (.t 32) (.t 30),none,9,[]⟩]) (RC.seq (RC.region 3 [
  ⟨some 33,.move (.t 1),none,0,[]⟩,
  ⟨some 34,.move (.t 4),none,1,[]⟩,
  ⟨some 35,.bin .lss (.t 33) (.t 34),none,2,[]⟩]) (RC.cond (.t 35) (RC.seq (RC.region 6 [
  ⟨some 36,.move (.t 0),none,0,[]⟩,
  ⟨some 37,.nilCheck (.t 36),none,1,[]⟩,
  ⟨some 38,.fieldAddr 0 (.t 37),none,2,[]⟩,
  ⟨some 39,.load none (.t 38),none,3,[]⟩,
  ⟨some 40,.move (.t 1),none,4,[]⟩,
  ⟨some 41,.call F.heap_row_up [(.t 39),(.t 40)],none,5,[]⟩]) (RC.region 6 [
  ⟨some 42,.move (.t 0),none,0,[]⟩,
  ⟨some 43,.nilCheck (.t 42),none,1,[]⟩,
  ⟨some 44,.fieldAddr 0 (.t 43),none,2,[]⟩,
  ⟨some 45,.load none (.t 44),none,3,[]⟩,
  ⟨some 46,.move (.t 1),none,4,[]⟩,
  ⟨some 47,.call F.heap_row_down [(.t 45),(.t 46)],none,5,[]⟩])) (RC.skip))))))
theorem heap_Timers_remove_ok : chkFunc Go.Proofs.Tryz.prog [0] Go.Proofs.Tryz.f283 heap_Timers_remove = true := by kernel_rfl
def slices_insertionSortCmpFunc_cyc_Fired_l0 : RC :=
  RC.seq (RC.seq (RC.region 17 [
  ⟨some 18,.move (.t 9),none,0,[]⟩,
  ⟨some 19,.move (.t 1),none,1,[]⟩,
  ⟨some 20,.bin .gtr (.t 18) (.t 19),none,2,[]⟩,
  ⟨some 21,.move (.t 20),none,3,[]⟩,
  ⟨some 22,.move (.t 3),(some (21,true)),4,[]⟩,
  ⟨some 23,.move (.t 0),(some (21,true)),5,[]⟩,
  ⟨some 24,.move (.t 9),(some (21,true)),6,[]⟩,
  ⟨some 25,.indexSl 3 (.t 23) (.t 24),(some (21,true)),7,[]⟩,
  ⟨some 26,.load (some 3) (.t 25),(some (21,true)),8,[]⟩,
  ⟨some 27,.move (.t 0),(some (21,true)),9,[]⟩,
  ⟨some 28,.move (.t 9),(some (21,true)),10,[]⟩,
  ⟨some 29,.bin .sub (.t 28) (.c (.s (.int .i64 1))),(some (21,true)),11,[]⟩,
  ⟨some 30,.indexSl 3 (.t 27) (.t 29),(some (21,true)),12,[]⟩,
  ⟨some 31,.load (some 3) (.t 30),(some (21,true)),13,[]⟩,
  ⟨some 32,.callv (.t 22) [(.t 26),(.t 31)],(some (21,true)),14,[]⟩,
  ⟨some 33,.bin .lss (.t 32) (.c (.s (.int .i64 0))),(some (21,true)),15,[]⟩,
  ⟨some 34,.pick (.t 21) (.t 33) (.c (.s (.bool false))),none,16,[]⟩]) (RC.cond (.t 34) (RC.skip) (RC.exit 2))) (RC.seq (RC.block 3 (RC.region 18 [
  ⟨some 37,.move (.t 0),none,0,[]⟩,
  ⟨some 38,.move (.t 9),none,1,[]⟩,
  ⟨some 39,.move (.t 0),none,2,[]⟩,
  ⟨some 40,.move (.t 9),none,3,[]⟩,
  ⟨some 41,.bin .sub (.t 40) (.c (.s (.int .i64 1))),none,4,[]⟩,
  ⟨some 42,.move (.t 0),none,5,[]⟩,
  ⟨some 43,.move (.t 9),none,6,[]⟩,
  ⟨some 44,.bin .sub (.t 43) (.c (.s (.int .i64 1))),none,7,[]⟩,
  ⟨some 45,.indexSl 3 (.t 42) (.t 44),none,8,[]⟩,
  ⟨some 46,.load (some 3) (.t 45),none,9,[]⟩,
  ⟨some 47,.move (.t 0),none,10,[]⟩,
  ⟨some 48,.move (.t 9),none,11,[]⟩,
  ⟨some 49,.indexSl 3 (.t 47) (.t 48),none,12,[]⟩,
  ⟨some 50,.load (some 3) (.t 49),none,13,[]⟩,
  ⟨some 51,.indexSl 3 (.t 37) (.t 38),none,14,[]⟩,
  ⟨none,.store 3 (.t 51) (.t 46),none,15,[]⟩,
  ⟨some 52,.indexSl 3 (.t 39) (.t 41),none,16,[]⟩,
  ⟨none,.store 3 (.t 52) (.t 50),none,17,[]⟩])) (RC.region 3 [
  ⟨some 35,.move (.t 9),none,0,[]⟩,
  ⟨some 36,.bin .sub (.t 35) (.c (.s (.int .i64 1))),none,1,[]⟩,
  ⟨some 9,.move (.t 36),none,2,[]⟩]))
def slices_insertionSortCmpFunc_cyc_Fired_s1 : RC :=
  RC.region 3 [
  ⟨some 15,.move (.t 8),none,0,[]⟩,
  ⟨some 16,.bin .add (.t 15) (.c (.s (.int .i64 1))),none,1,[]⟩,
  ⟨some 8,.move (.t 16),none,2,[]⟩]
def slices_insertionSortCmpFunc_cyc_Fired_l2 : RC :=
  RC.seq (RC.seq (RC.region 3 [
  ⟨some 12,.move (.t 8),none,0,[]⟩,
  ⟨some 13,.move (.t 2),none,1,[]⟩,
  ⟨some 14,.bin .lss (.t 12) (.t 13),none,2,[]⟩]) (RC.cond (.t 14) (RC.skip) (RC.exit 0))) (RC.seq (RC.block 1 (RC.seq (RC.region 2 [
  ⟨some 17,.move (.t 8),none,0,[]⟩,
  ⟨some 9,.move (.t 17),none,1,[]⟩]) (RC.block 2 (RC.loop R.slices_insertionSortCmpFunc_cyc_Fired_l0)))) R.slices_insertionSortCmpFunc_cyc_Fired_s1)
def slices_insertionSortCmpFunc_cyc_Fired : RFunc := RFunc.mk 53 [] (
  RC.seq (RC.region 3 [
  ⟨some 10,.move (.t 1),none,0,[]⟩,
  ⟨some 11,.bin .add (.t 10) (.c (.s (.int .i64 1))),none,1,[]⟩,
  ⟨some 8,.move (.t 11),none,2,[]⟩]) (RC.block 0 (RC.loop R.slices_insertionSortCmpFunc_cyc_Fired_l2)))
theorem slices_insertionSortCmpFunc_cyc_Fired_ok : chkFunc Go.Proofs.Tryz.prog [0] Go.Proofs.Tryz.f284 slices_insertionSortCmpFunc_cyc_Fired = true := by kernel_rfl
def slices_symMergeCmpFunc_cyc_Fired_l0 : RC :=
  RC.seq (RC.seq (RC.region 3 [
  ⟨some 31,.move (.t 10),none,0,[]⟩,
  ⟨some 32,.move (.t 11),none,1,[]⟩,
  ⟨some 33,.bin .lss (.t 31) (.t 32),none,2,[]⟩]) (RC.cond (.t 33) (RC.skip) (RC.exit 0))) (RC.block 1 (RC.seq (RC.region 7 [
  ⟨some 34,.move (.t 10),none,0,[]⟩,
  ⟨some 35,.move (.t 11),none,1,[]⟩,
  ⟨some 36,.bin .add (.t 34) (.t 35),none,2,[]⟩,
  ⟨some 37,.conv .u64 (.t 36),none,3,[]⟩,
  ⟨some 38,.bin .shr (.t 37) (.c (.s (.int .u64 1))),none,4,[]⟩,
  ⟨some 39,.conv .i64 (.t 38),none,5,[]⟩,
  ⟨some 12,.move (.t 39),none,6,[]⟩]) (RC.seq (RC.region 11 [
  ⟨some 40,.move (.t 4),none,0,[]⟩,
  ⟨some 41,.move (.t 0),none,1,[]⟩,
  ⟨some 42,.move (.t 12),none,2,[]⟩,
  ⟨some 43,.indexSl 3 (.t 41) (.t 42),none,3,[]⟩,
  ⟨some 44,.load (some 3) (.t 43),none,4,[]⟩,
  ⟨some 45,.move (.t 0),none,5,[]⟩,
  ⟨some 46,.move (.t 1),none,6,[]⟩,
  ⟨some 47,.indexSl 3 (.t 45) (.t 46),none,7,[]⟩,
  ⟨some 48,.load (some 3) (.t 47),none,8,[]⟩,
  ⟨some 49,.callv (.t 40) [(.t 44),(.t 48)],none,9,[]⟩,
  ⟨some 50,.bin .lss (.t 49) (.c (.s (.int .i64 0))),none,10,[]⟩]) (RC.cond (.t 50) (RC.region 3 [
  ⟨some 51,.move (.t 12),none,0,[]⟩,
  ⟨some 52,.bin .add (.t 51) (.c (.s (.int .i64 1))),none,1,[]⟩,
  ⟨some 10,.move (.t 52),none,2,[]⟩]) (RC.region 2 [
  ⟨some 53,.move (.t 12),none,0,[]⟩,
  ⟨some 11,.move (.t 53),none,1,[]⟩])))))
def slices_symMergeCmpFunc_cyc_Fired_l1 : RC :=
  RC.seq (RC.seq (RC.region 4 [
  ⟨some 55,.move (.t 13),none,0,[]⟩,
  ⟨some 56,.move (.t 10),none,1,[]⟩,
  ⟨some 57,.bin .sub (.t 56) (.c (.s (.int .i64 1))),none,2,[]⟩,
  ⟨some 58,.bin .lss (.t 55) (.t 57),none,3,[]⟩]) (RC.cond (.t 58) (RC.skip) (RC.exit 2))) (RC.seq (RC.block 3 (RC.region 18 [
  ⟨some 61,.move (.t 0),none,0,[]⟩,
  ⟨some 62,.move (.t 13),none,1,[]⟩,
  ⟨some 63,.move (.t 0),none,2,[]⟩,
  ⟨some 64,.move (.t 13),none,3,[]⟩,
  ⟨some 65,.bin .add (.t 64) (.c (.s (.int .i64 1))),none,4,[]⟩,
  ⟨some 66,.move (.t 0),none,5,[]⟩,
  ⟨some 67,.move (.t 13),none,6,[]⟩,
  ⟨some 68,.bin .add (.t 67) (.c (.s (.int .i64 1))),none,7,[]⟩,
  ⟨some 69,.indexSl 3 (.t 66) (.t 68),none,8,[]⟩,
  ⟨some 70,.load (some 3) (.t 69),none,9,[]⟩,
  ⟨some 71,.move (.t 0),none,10,[]⟩,
  ⟨some 72,.move (.t 13),none,11,[]⟩,
  ⟨some 73,.indexSl 3 (.t 71) (.t 72),none,12,[]⟩,
  ⟨some 74,.load (some 3) (.t 73),none,13,[]⟩,
  ⟨some 75,.indexSl 3 (.t 61) (.t 62),none,14,[]⟩,
  ⟨none,.store 3 (.t 75) (.t 70),none,15,[]⟩,
  ⟨some 76,.indexSl 3 (.t 63) (.t 65),none,16,[]⟩,
  ⟨none,.store 3 (.t 76) (.t 74),none,17,[]⟩])) (RC.region 3 [
  ⟨some 59,.move (.t 13),none,0,[]⟩,
  ⟨some 60,.bin .add (.t 59) (.c (.s (.int .i64 1))),none,1,[]⟩,
  ⟨some 13,.move (.t 60),none,2,[]⟩]))
def slices_symMergeCmpFunc_cyc_Fired_s2 : RC :=
  RC.ret
def slices_symMergeCmpFunc_cyc_Fired_s3 : RC :=
  RC.seq (RC.seq (RC.region 2 [
  ⟨some 54,.move (.t 1),none,0,[]⟩,
  ⟨some 13,.move (.t 54),none,1,[]⟩]) (RC.block 2 (RC.loop R.slices_symMergeCmpFunc_cyc_Fired_l1))) R.slices_symMergeCmpFunc_cyc_Fired_s2
def slices_symMergeCmpFunc_cyc_Fired_l4 : RC :=
  RC.seq (RC.seq (RC.region 3 [
  ⟨some 83,.move (.t 14),none,0,[]⟩,
  ⟨some 84,.move (.t 15),none,1,[]⟩,
  ⟨some 85,.bin .lss (.t 83) (.t 84),none,2,[]⟩]) (RC.cond (.t 85) (RC.skip) (RC.exit 4))) (RC.block 5 (RC.seq (RC.region 7 [
  ⟨some 86,.move (.t 14),none,0,[]⟩,
  ⟨some 87,.move (.t 15),none,1,[]⟩,
  ⟨some 88,.bin .add (.t 86) (.t 87),none,2,[]⟩,
  ⟨some 89,.conv .u64 (.t 88),none,3,[]⟩,
  ⟨some 90,.bin .shr (.t 89) (.c (.s (.int .u64 1))),none,4,[]⟩,
  ⟨some 91,.conv .i64 (.t 90),none,5,[]⟩,
  ⟨some 16,.move (.t 91),none,6,[]⟩]) (RC.seq (RC.region 12 [
  ⟨some 92,.move (.t 4),none,0,[]⟩,
  ⟨some 93,.move (.t 0),none,1,[]⟩,
  ⟨some 94,.move (.t 2),none,2,[]⟩,
  ⟨some 95,.indexSl 3 (.t 93) (.t 94),none,3,[]⟩,
  ⟨some 96,.load (some 3) (.t 95),none,4,[]⟩,
  ⟨some 97,.move (.t 0),none,5,[]⟩,
  ⟨some 98,.move (.t 16),none,6,[]⟩,
  ⟨some 99,.indexSl 3 (.t 97) (.t 98),none,7,[]⟩,
  ⟨some 100,.load (some 3) (.t 99),none,8,[]⟩,
  ⟨some 101,.callv (.t 92) [(.t 96),(.t 100)],none,9,[]⟩,
  ⟨some 102,.bin .lss (.t 101) (.c (.s (.int .i64 0))),none,10,[]⟩,
  ⟨some 103,.un .not (.t 102),none,11,[]⟩]) (RC.cond (.t 103) (RC.region 3 [
  ⟨some 104,.move (.t 16),none,0,[]⟩,
  ⟨some 105,.bin .add (.t 104) (.c (.s (.int .i64 1))),none,1,[]⟩,
  ⟨some 14,.move (.t 105),none,2,[]⟩]) (RC.region 2 [
  ⟨some 106,.move (.t 16),none,0,[]⟩,
  ⟨some 15,.move (.t 106),none,1,[]⟩])))))
def slices_symMergeCmpFunc_cyc_Fired_l5 : RC :=
  RC.seq (RC.seq (RC.region 3 [
  ⟨some 108,.move (.t 17),none,0,[]⟩,
  ⟨some 109,.move (.t 14),none,1,[]⟩,
  ⟨some 110,.bin .gtr (.t 108) (.t 109),none,2,[]⟩]) (RC.cond (.t 110) (RC.skip) (RC.exit 6))) (RC.seq (RC.block 7 (RC.region 18 [
  ⟨some 113,.move (.t 0),none,0,[]⟩,
  ⟨some 114,.move (.t 17),none,1,[]⟩,
  ⟨some 115,.move (.t 0),none,2,[]⟩,
  ⟨some 116,.move (.t 17),none,3,[]⟩,
  ⟨some 117,.bin .sub (.t 116) (.c (.s (.int .i64 1))),none,4,[]⟩,
  ⟨some 118,.move (.t 0),none,5,[]⟩,
  ⟨some 119,.move (.t 17),none,6,[]⟩,
  ⟨some 120,.bin .sub (.t 119) (.c (.s (.int .i64 1))),none,7,[]⟩,
  ⟨some 121,.indexSl 3 (.t 118) (.t 120),none,8,[]⟩,
  ⟨some 122,.load (some 3) (.t 121),none,9,[]⟩,
  ⟨some 123,.move (.t 0),none,10,[]⟩,
  ⟨some 124,.move (.t 17),none,11,[]⟩,
  ⟨some 125,.indexSl 3 (.t 123) (.t 124),none,12,[]⟩,
  ⟨some 126,.load (some 3) (.t 125),none,13,[]⟩,
  ⟨some 127,.indexSl 3 (.t 113) (.t 114),none,14,[]⟩,
  ⟨none,.store 3 (.t 127) (.t 122),none,15,[]⟩,
  ⟨some 128,.indexSl 3 (.t 115) (.t 117),none,16,[]⟩,
  ⟨none,.store 3 (.t 128) (.t 126),none,17,[]⟩])) (RC.region 3 [
  ⟨some 111,.move (.t 17),none,0,[]⟩,
  ⟨some 112,.bin .sub (.t 111) (.c (.s (.int .i64 1))),none,1,[]⟩,
  ⟨some 17,.move (.t 112),none,2,[]⟩]))
def slices_symMergeCmpFunc_cyc_Fired_s6 : RC :=
  RC.ret
def slices_symMergeCmpFunc_cyc_Fired_s7 : RC :=
  RC.seq (RC.seq (RC.region 2 [
  ⟨some 107,.move (.t 2),none,0,[]⟩,
  ⟨some 17,.move (.t 107),none,1,[]⟩]) (RC.block 6 (RC.loop R.slices_symMergeCmpFunc_cyc_Fired_l5))) R.slices_symMergeCmpFunc_cyc_Fired_s6
def slices_symMergeCmpFunc_cyc_Fired_l8 : RC :=
  RC.seq (RC.seq (RC.region 3 [
  ⟨some 149,.move (.t 20),none,0,[]⟩,
  ⟨some 150,.move (.t 21),none,1,[]⟩,
  ⟨some 151,.bin .lss (.t 149) (.t 150),none,2,[]⟩]) (RC.cond (.t 151) (RC.skip) (RC.exit 8))) (RC.block 9 (RC.seq (RC.region 7 [
  ⟨some 152,.move (.t 20),none,0,[]⟩,
  ⟨some 153,.move (.t 21),none,1,[]⟩,
  ⟨some 154,.bin .add (.t 152) (.t 153),none,2,[]⟩,
  ⟨some 155,.conv .u64 (.t 154),none,3,[]⟩,
  ⟨some 156,.bin .shr (.t 155) (.c (.s (.int .u64 1))),none,4,[]⟩,
  ⟨some 157,.conv .i64 (.t 156),none,5,[]⟩,
  ⟨some 23,.move (.t 157),none,6,[]⟩]) (RC.seq (RC.region 14 [
  ⟨some 158,.move (.t 4),none,0,[]⟩,
  ⟨some 159,.move (.t 0),none,1,[]⟩,
  ⟨some 160,.move (.t 22),none,2,[]⟩,
  ⟨some 161,.move (.t 23),none,3,[]⟩,
  ⟨some 162,.bin .sub (.t 160) (.t 161),none,4,[]⟩,
  ⟨some 163,.indexSl 3 (.t 159) (.t 162),none,5,[]⟩,
  ⟨some 164,.load (some 3) (.t 163),none,6,[]⟩,
  ⟨some 165,.move (.t 0),none,7,[]⟩,
  ⟨some 166,.move (.t 23),none,8,[]⟩,
  ⟨some 167,.indexSl 3 (.t 165) (.t 166),none,9,[]⟩,
  ⟨some 168,.load (some 3) (.t 167),none,10,[]⟩,
  ⟨some 169,.callv (.t 158) [(.t 164),(.t 168)],none,11,[]⟩,
  ⟨some 170,.bin .lss (.t 169) (.c (.s (.int .i64 0))),none,12,[]⟩,
  ⟨some 171,.un .not (.t 170),none,13,[]⟩]) (RC.cond (.t 171) (RC.region 3 [
  ⟨some 172,.move (.t 23),none,0,[]⟩,
  ⟨some 173,.bin .add (.t 172) (.c (.s (.int .i64 1))),none,1,[]⟩,
  ⟨some 20,.move (.t 173),none,2,[]⟩]) (RC.region 2 [
  ⟨some 174,.move (.t 23),none,0,[]⟩,
  ⟨some 21,.move (.t 174),none,1,[]⟩])))))
def slices_symMergeCmpFunc_cyc_Fired_s9 : RC :=
  RC.seq (RC.region 8 [
  ⟨some 206,.move (.t 18),none,0,[]⟩,
  ⟨some 207,.move (.t 24),none,1,[]⟩,
  ⟨some 208,.bin .lss (.t 206) (.t 207),none,2,[]⟩,
  ⟨some 209,.move (.t 208),none,3,[]⟩,
  ⟨some 210,.move (.t 24),(some (209,true)),4,[]⟩,
  ⟨some 211,.move (.t 3),(some (209,true)),5,[]⟩,
  ⟨some 212,.bin .lss (.t 210) (.t 211),(some (209,true)),6,[]⟩,
  ⟨some 213,.pick (.t 209) (.t 212) (.c (.s (.bool false))),none,7,[]⟩]) (RC.cond (.t 213) (RC.region 6 [
  ⟨some 214,.move (.t 0),none,0,[]⟩,
  ⟨some 215,.move (.t 18),none,1,[]⟩,
  ⟨some 216,.move (.t 24),none,2,[]⟩,
  ⟨some 217,.move (.t 3),none,3,[]⟩,
  ⟨some 218,.move (.t 4),none,4,[]⟩,
  ⟨some 219,.call F.slices_symMergeCmpFunc_cyc_Fired [(.t 214),(.t 215),(.t 216),(.t 217),(.t 218)],none,5,[]⟩]) (RC.skip))
def slices_symMergeCmpFunc_cyc_Fired_s10 : RC :=
  RC.seq (RC.seq (RC.region 8 [
  ⟨some 192,.move (.t 1),none,0,[]⟩,
  ⟨some 193,.move (.t 20),none,1,[]⟩,
  ⟨some 194,.bin .lss (.t 192) (.t 193),none,2,[]⟩,
  ⟨some 195,.move (.t 194),none,3,[]⟩,
  ⟨some 196,.move (.t 20),(some (195,true)),4,[]⟩,
  ⟨some 197,.move (.t 18),(some (195,true)),5,[]⟩,
  ⟨some 198,.bin .lss (.t 196) (.t 197),(some (195,true)),6,[]⟩,
  ⟨some 199,.pick (.t 195) (.t 198) (.c (.s (.bool false))),none,7,[]⟩]) (RC.cond (.t 199) (RC.region 6 [
  ⟨some 200,.move (.t 0),none,0,[]⟩,
  ⟨some 201,.move (.t 1),none,1,[]⟩,
  ⟨some 202,.move (.t 20),none,2,[]⟩,
  ⟨some 203,.move (.t 18),none,3,[]⟩,
  ⟨some 204,.move (.t 4),none,4,[]⟩,
  ⟨some 205,.call F.slices_symMergeCmpFunc_cyc_Fired [(.t 200),(.t 201),(.t 202),(.t 203),(.t 204)],none,5,[]⟩]) (RC.skip))) R.slices_symMergeCmpFunc_cyc_Fired_s9
def slices_symMergeCmpFunc_cyc_Fired_s11 : RC :=
  RC.seq (RC.region 4 [
  ⟨some 175,.move (.t 19),none,0,[]⟩,
  ⟨some 176,.move (.t 20),none,1,[]⟩,
  ⟨some 177,.bin .sub (.t 175) (.t 176),none,2,[]⟩,
  ⟨some 24,.move (.t 177),none,3,[]⟩]) (RC.seq (RC.seq (RC.region 8 [
  ⟨some 178,.move (.t 20),none,0,[]⟩,
  ⟨some 179,.move (.t 2),none,1,[]⟩,
  ⟨some 180,.bin .lss (.t 178) (.t 179),none,2,[]⟩,
  ⟨some 181,.move (.t 180),none,3,[]⟩,
  ⟨some 182,.move (.t 2),(some (181,true)),4,[]⟩,
  ⟨some 183,.move (.t 24),(some (181,true)),5,[]⟩,
  ⟨some 184,.bin .lss (.t 182) (.t 183),(some (181,true)),6,[]⟩,
  ⟨some 185,.pick (.t 181) (.t 184) (.c (.s (.bool false))),none,7,[]⟩]) (RC.cond (.t 185) (RC.region 6 [
  ⟨some 186,.move (.t 0),none,0,[]⟩,
  ⟨some 187,.move (.t 20),none,1,[]⟩,
  ⟨some 188,.move (.t 2),none,2,[]⟩,
  ⟨some 189,.move (.t 24),none,3,[]⟩,
  ⟨some 190,.move (.t 4),none,4,[]⟩,
  ⟨some 191,.call F.slices_rotateCmpFunc_cyc_Fired [(.t 186),(.t 187),(.t 188),(.t 189),(.t 190)],none,5,[]⟩]) (RC.skip))) R.slices_symMergeCmpFunc_cyc_Fired_s10)
def slices_symMergeCmpFunc_cyc_Fired_s12 : RC :=
  RC.seq (RC.region 3 [
  ⟨some 147,.move (.t 19),none,0,[]⟩,
  ⟨some 148,.bin .sub (.t 147) (.c (.s (.int .i64 1))),none,1,[]⟩,
  ⟨some 22,.move (.t 148),none,2,[]⟩]) (RC.seq (RC.block 8 (RC.loop R.slices_symMergeCmpFunc_cyc_Fired_l8)) R.slices_symMergeCmpFunc_cyc_Fired_s11)
def slices_symMergeCmpFunc_cyc_Fired_s13 : RC :=
  RC.seq (RC.region 7 [
  ⟨some 129,.move (.t 1),none,0,[]⟩,
  ⟨some 130,.move (.t 3),none,1,[]⟩,
  ⟨some 131,.bin .add (.t 129) (.t 130),none,2,[]⟩,
  ⟨some 132,.conv .u64 (.t 131),none,3,[]⟩,
  ⟨some 133,.bin .shr (.t 132) (.c (.s (.int .u64 1))),none,4,[]⟩,
  ⟨some 134,.conv .i64 (.t 133),none,5,[]⟩,
  ⟨some 18,.move (.t 134),none,6,[]⟩]) (RC.seq (RC.region 4 [
  ⟨some 135,.move (.t 18),none,0,[]⟩,
  ⟨some 136,.move (.t 2),none,1,[]⟩,
  ⟨some 137,.bin .add (.t 135) (.t 136),none,2,[]⟩,
  ⟨some 19,.move (.t 137),none,3,[]⟩]) (RC.seq (RC.region 2 [
  ⟨some 20,.move (.c (.s (.int .i64 0))),none,0,[]⟩,
  ⟨some 21,.move (.c (.s (.int .i64 0))),none,1,[]⟩]) (RC.seq (RC.seq (RC.region 3 [
  ⟨some 138,.move (.t 2),none,0,[]⟩,
  ⟨some 139,.move (.t 18),none,1,[]⟩,
  ⟨some 140,.bin .gtr (.t 138) (.t 139),none,2,[]⟩]) (RC.cond (.t 140) (RC.seq (RC.region 4 [
  ⟨some 141,.move (.t 19),none,0,[]⟩,
  ⟨some 142,.move (.t 3),none,1,[]⟩,
  ⟨some 143,.bin .sub (.t 141) (.t 142),none,2,[]⟩,
  ⟨some 20,.move (.t 143),none,3,[]⟩]) (RC.region 2 [
  ⟨some 144,.move (.t 18),none,0,[]⟩,
  ⟨some 21,.move (.t 144),none,1,[]⟩])) (RC.seq (RC.region 2 [
  ⟨some 145,.move (.t 1),none,0,[]⟩,
  ⟨some 20,.move (.t 145),none,1,[]⟩]) (RC.region 2 [
  ⟨some 146,.move (.t 2),none,0,[]⟩,
  ⟨some 21,.move (.t 146),none,1,[]⟩])))) R.slices_symMergeCmpFunc_cyc_Fired_s12)))
def slices_symMergeCmpFunc_cyc_Fired_s14 : RC :=
  RC.seq (RC.seq (RC.region 4 [
  ⟨some 77,.move (.t 3),none,0,[]⟩,
  ⟨some 78,.move (.t 2),none,1,[]⟩,
  ⟨some 79,.bin .sub (.t 77) (.t 78),none,2,[]⟩,
  ⟨some 80,.bin .eql (.t 79) (.c (.s (.int .i64 1))),none,3,[]⟩]) (RC.cond (.t 80) (RC.seq (RC.region 2 [
  ⟨some 81,.move (.t 1),none,0,[]⟩,
  ⟨some 14,.move (.t 81),none,1,[]⟩]) (RC.seq (RC.region 2 [
  ⟨some 82,.move (.t 2),none,0,[]⟩,
  ⟨some 15,.move (.t 82),none,1,[]⟩]) (RC.seq (RC.block 4 (RC.loop R.slices_symMergeCmpFunc_cyc_Fired_l4)) R.slices_symMergeCmpFunc_cyc_Fired_s7))) (RC.skip))) R.slices_symMergeCmpFunc_cyc_Fired_s13
def slices_symMergeCmpFunc_cyc_Fired : RFunc := RFunc.mk 220 [] (
  RC.seq (RC.seq (RC.region 4 [
  ⟨some 25,.move (.t 2),none,0,[]⟩,
  ⟨some 26,.move (.t 1),none,1,[]⟩,
  ⟨some 27,.bin .sub (.t 25) (.t 26),none,2,[]⟩,
  ⟨some 28,.bin .eql (.t 27) (.c (.s (.int .i64 1))),none,3,[]⟩]) (RC.cond (.t 28) (RC.seq (RC.region 2 [
  ⟨some 29,.move (.t 2),none,0,[]⟩,
  ⟨some 10,.move (.t 29),none,1,[]⟩]) (RC.seq (RC.region 2 [
  ⟨some 30,.move (.t 3),none,0,[]⟩,
  ⟨some 11,.move (.t 30),none,1,[]⟩]) (RC.seq (RC.block 0 (RC.loop R.slices_symMergeCmpFunc_cyc_Fired_l0)) R.slices_symMergeCmpFunc_cyc_Fired_s3))) (RC.skip))) R.slices_symMergeCmpFunc_cyc_Fired_s14)
theorem slices_symMergeCmpFunc_cyc_Fired_ok : chkFunc Go.Proofs.Tryz.prog [0] Go.Proofs.Tryz.f285 slices_symMergeCmpFunc_cyc_Fired = true := by kernel_rfl
def cmp_isNaN_uint64 : RFunc := RFunc.mk 6 [.tmp 2] (
  RC.seq (RC.region 1 [
  ⟨some 2,.move (.c (.s (.bool false))),none,0,[]⟩]) (RC.seq (RC.region 4 [
  ⟨some 3,.move (.t 0),none,0,[]⟩,
  ⟨some 4,.move (.t 0),none,1,[]⟩,
  ⟨some 5,.bin .neq (.t 3) (.t 4),none,2,[]⟩,
  ⟨some 2,.move (.t 5),none,3,[]⟩]) (RC.ret)))
theorem cmp_isNaN_uint64_ok : chkFunc Go.Proofs.Tryz.prog [0] Go.Proofs.Tryz.f286 cmp_isNaN_uint64 = true := by kernel_rfl
def cmp_isNaN_int : RFunc := RFunc.mk 6 [.tmp 2] (
  RC.seq (RC.region 1 [
  ⟨some 2,.move (.c (.s (.bool false))),none,0,[]⟩]) (RC.seq (RC.region 4 [
  ⟨some 3,.move (.t 0),none,0,[]⟩,
  ⟨some 4,.move (.t 0),none,1,[]⟩,
  ⟨some 5,.bin .neq (.t 3) (.t 4),none,2,[]⟩,
  ⟨some 2,.move (.t 5),none,3,[]⟩]) (RC.ret)))
theorem cmp_isNaN_int_ok : chkFunc Go.Proofs.Tryz.prog [0] Go.Proofs.Tryz.f287 cmp_isNaN_int = true := by kernel_rfl
def slices_IndexFunc__int_int_l0 : RC :=
  RC.seq (RC.region 1 [
  ⟨some 9,.bin .lss (.t 8) (.t 7),none,0,[]⟩]) (RC.seq (RC.cond (.t 9) (RC.skip) (RC.exit 0)) (RC.seq (RC.block 1 (RC.seq (RC.region 2 [
  ⟨some 10,.move (.t 8),none,0,[]⟩,
  ⟨some 5,.move (.t 10),none,1,[]⟩]) (RC.seq (RC.region 6 [
  ⟨some 11,.move (.t 1),none,0,[]⟩,
  ⟨some 12,.move (.t 0),none,1,[]⟩,
  ⟨some 13,.move (.t 5),none,2,[]⟩,
  ⟨some 14,.indexSl 1 (.t 12) (.t 13),none,3,[]⟩,
  ⟨some 15,.load none (.t 14),none,4,[]⟩,
  ⟨some 16,.callv (.t 11) [(.t 15)],none,5,[]⟩]) (RC.cond (.t 16) (RC.seq (RC.region 2 [
  ⟨some 17,.move (.t 5),none,0,[]⟩,
  ⟨some 4,.move (.t 17),none,1,[]⟩]) (RC.ret)) (RC.skip))))) (RC.region 2 [
  ⟨some 18,.bin .add (.t 8) (.c (.s (.int .i64 1))),none,0,[]⟩,
  ⟨some 8,.move (.t 18),none,1,[]⟩])))
def slices_IndexFunc__int_int_s1 : RC :=
  RC.seq (RC.region 1 [
  ⟨some 4,.move (.c (.s (.int .i64 (-1)))),none,0,[]⟩]) (RC.ret)
def slices_IndexFunc__int_int : RFunc := RFunc.mk 19 [.tmp 4] (
  RC.seq (RC.region 1 [
  ⟨some 4,.move (.c (.s (.int .i64 0))),none,0,[]⟩]) (RC.seq (RC.seq (RC.region 3 [
  ⟨some 6,.move (.t 0),none,0,[]⟩,
  ⟨some 7,.len (.t 6),none,1,[]⟩,
  ⟨some 8,.move (.c (.s (.int .i64 0))),none,2,[]⟩]) (RC.block 0 (RC.loop R.slices_IndexFunc__int_int_l0))) R.slices_IndexFunc__int_int_s1))
theorem slices_IndexFunc__int_int_ok : chkFunc Go.Proofs.Tryz.prog [0] Go.Proofs.Tryz.f290 slices_IndexFunc__int_int = true := by kernel_rfl
def heap_Timers_Cancel : RFunc := RFunc.mk 16 [.tmp 4] (
  RC.seq (RC.region 1 [
  ⟨some 4,.move (.c (.s (.bool false))),none,0,[]⟩]) (RC.seq (RC.region 4 [
  ⟨some 6,.move (.t 0),none,0,[]⟩,
  ⟨some 7,.move (.t 1),none,1,[]⟩,
  ⟨some 8,.call F.heap_Timers_find [(.t 6),(.t 7)],none,2,[]⟩,
  ⟨some 5,.move (.t 8),none,3,[]⟩]) (RC.seq (RC.seq (RC.region 2 [
  ⟨some 9,.move (.t 5),none,0,[]⟩,
  ⟨some 10,.bin .geq (.t 9) (.c (.s (.int .i64 0))),none,1,[]⟩]) (RC.cond (.t 10) (RC.region 3 [
  ⟨some 11,.move (.t 0),none,0,[]⟩,
  ⟨some 12,.move (.t 5),none,1,[]⟩,
  ⟨some 13,.call F.heap_Timers_remove [(.t 11),(.t 12)],none,2,[]⟩]) (RC.skip))) (RC.seq (RC.region 3 [
  ⟨some 14,.move (.t 5),none,0,[]⟩,
  ⟨some 15,.bin .geq (.t 14) (.c (.s (.int .i64 0))),none,1,[]⟩,
  ⟨some 4,.move (.t 15),none,2,[]⟩]) (RC.ret)))))
theorem heap_Timers_Cancel_ok : chkFunc Go.Proofs.Tryz.prog [0] Go.Proofs.Tryz.f270 heap_Timers_Cancel = true := by kernel_rfl
def ready_task : RFunc := RFunc.mk 9 [.tmp 2] (
  RC.seq (RC.region 1 [
  ⟨some 2,.move (.c (.s (.bool false))),none,0,[]⟩]) (RC.seq (RC.region 7 [
  ⟨some 3,.move (.t 0),none,0,[]⟩,
  ⟨some 4,.bin .geq (.t 3) (.c (.s (.int .i64 1))),none,1,[]⟩,
  ⟨some 5,.move (.t 4),none,2,[]⟩,
  ⟨some 6,.move (.t 0),(some (5,true)),3,[]⟩,
  ⟨some 7,.bin .leq (.t 6) (.c (.s (.int .i64 16))),(some (5,true)),4,[]⟩,
  ⟨some 8,.pick (.t 5) (.t 7) (.c (.s (.bool false))),none,5,[]⟩,
  ⟨some 2,.move (.t 8),none,6,[]⟩]) (RC.ret)))
theorem ready_task_ok : chkFunc Go.Proofs.Tryz.prog [0] Go.Proofs.Tryz.f271 ready_task = true := by kernel_rfl
def slices_Index__int_int_l0 : RC :=
  RC.seq (RC.region 1 [
  ⟨some 9,.bin .lss (.t 8) (.t 7),none,0,[]⟩]) (RC.seq (RC.cond (.t 9) (RC.skip) (RC.exit 0)) (RC.seq (RC.block 1 (RC.seq (RC.region 2 [
  ⟨some 10,.move (.t 8),none,0,[]⟩,
  ⟨some 5,.move (.t 10),none,1,[]⟩]) (RC.seq (RC.region 6 [
  ⟨some 11,.move (.t 1),none,0,[]⟩,
  ⟨some 12,.move (.t 0),none,1,[]⟩,
  ⟨some 13,.move (.t 5),none,2,[]⟩,
  ⟨some 14,.indexSl 1 (.t 12) (.t 13),none,3,[]⟩,
  ⟨some 15,.load none (.t 14),none,4,[]⟩,
  ⟨some 16,.bin .eql (.t 11) (.t 15),none,5,[]⟩]) (RC.cond (.t 16) (RC.seq (RC.region 2 [
  ⟨some 17,.move (.t 5),none,0,[]⟩,
  ⟨some 4,.move (.t 17),none,1,[]⟩]) (RC.ret)) (RC.skip))))) (RC.region 2 [
  ⟨some 18,.bin .add (.t 8) (.c (.s (.int .i64 1))),none,0,[]⟩,
  ⟨some 8,.move (.t 18),none,1,[]⟩])))
def slices_Index__int_int_s1 : RC :=
  RC.seq (RC.region 1 [
  ⟨some 4,.move (.c (.s (.int .i64 (-1)))),none,0,[]⟩]) (RC.ret)
def slices_Index__int_int : RFunc := RFunc.mk 19 [.tmp 4] (
  RC.seq (RC.region 1 [
  ⟨some 4,.move (.c (.s (.int .i64 0))),none,0,[]⟩]) (RC.seq (RC.seq (RC.region 3 [
  ⟨some 6,.move (.t 0),none,0,[]⟩,
  ⟨some 7,.len (.t 6),none,1,[]⟩,
  ⟨some 8,.move (.c (.s (.int .i64 0))),none,2,[]⟩]) (RC.block 0 (RC.loop R.slices_Index__int_int_l0))) R.slices_Index__int_int_s1))
theorem slices_Index__int_int_ok : chkFunc Go.Proofs.Tryz.prog [0] Go.Proofs.Tryz.f272 slices_Index__int_int = true := by kernel_rfl
def bits_Map_Clear_l0 : RC :=
  RC.seq (RC.region 1 [
  ⟨some 12,.bin .lss (.t 11) (.t 10),none,0,[]⟩]) (RC.seq (RC.cond (.t 12) (RC.skip) (RC.exit 0)) (RC.seq (RC.block 1 (RC.seq (RC.region 3 [
  ⟨some 13,.indexSl 1 (.t 9) (.t 11),none,0,[]⟩,
  ⟨some 14,.load none (.t 13),none,1,[]⟩,
  ⟨some 5,.move (.t 14),none,2,[]⟩]) (RC.seq (RC.region 9 [
  ⟨some 16,.move (.t 5),none,0,[]⟩,
  ⟨some 17,.call F.bits_place [(.t 16)],none,1,[]⟩,
  ⟨some 15,.move (.t 17),none,2,[]⟩,
  ⟨some 18,.extract 0 (.t 15),none,3,[]⟩,
  ⟨some 19,.extract 1 (.t 15),none,4,[]⟩,
  ⟨some 20,.extract 2 (.t 15),none,5,[]⟩,
  ⟨some 6,.move (.t 18),none,6,[]⟩,
  ⟨some 7,.move (.t 19),none,7,[]⟩,
  ⟨some 8,.move (.t 20),none,8,[]⟩]) (RC.seq (RC.region 1 [
  ⟨some 21,.move (.t 8),none,0,[]⟩]) (RC.cond (.t 21) (RC.region 12 [
  ⟨some 22,.move (.t 0),none,0,[]⟩,
  ⟨some 23,.move (.t 6),none,1,[]⟩,
  ⟨some 24,.nilCheck (.t 22),none,2,[]⟩,
  ⟨some 25,.fieldAddr 0 (.t 24),none,3,[]⟩,
  ⟨some 26,.indexArr 4 1 (.t 25) (.t 23),none,4,[]⟩,
  ⟨some 27,.load none (.t 26),none,5,[]⟩,
  ⟨some 28,.move (.t 7),none,6,[]⟩,
  ⟨some 29,.bin .andNot (.t 27) (.t 28),none,7,[]⟩,
  ⟨some 30,.nilCheck (.t 22),none,8,[]⟩,
  ⟨some 31,.fieldAddr 0 (.t 30),none,9,[]⟩,
  ⟨some 32,.indexArr 4 1 (.t 31) (.t 23),none,10,[]⟩,
  ⟨none,.store 1 (.t 32) (.t 29),none,11,[]⟩]) (RC.skip)))))) (RC.region 2 [
  ⟨some 33,.bin .add (.t 11) (.c (.s (.int .i64 1))),none,0,[]⟩,
  ⟨some 11,.move (.t 33),none,1,[]⟩])))
def bits_Map_Clear : RFunc := RFunc.mk 34 [] (
  RC.seq (RC.region 3 [
  ⟨some 9,.move (.t 1),none,0,[]⟩,
  ⟨some 10,.len (.t 9),none,1,[]⟩,
  ⟨some 11,.move (.c (.s (.int .i64 0))),none,2,[]⟩]) (RC.block 0 (RC.loop R.bits_Map_Clear_l0)))
theorem bits_Map_Clear_ok : chkFunc Go.Proofs.Tryz.prog [0] Go.Proofs.Tryz.f273 bits_Map_Clear = true := by kernel_rfl
def bits_Map_Set_l0 : RC :=
  RC.seq (RC.region 1 [
  ⟨some 12,.bin .lss (.t 11) (.t 10),none,0,[]⟩]) (RC.seq (RC.cond (.t 12) (RC.skip) (RC.exit 0)) (RC.seq (RC.block 1 (RC.seq (RC.region 3 [
  ⟨some 13,.indexSl 1 (.t 9) (.t 11),none,0,[]⟩,
  ⟨some 14,.load none (.t 13),none,1,[]⟩,
  ⟨some 5,.move (.t 14),none,2,[]⟩]) (RC.seq (RC.region 9 [
  ⟨some 16,.move (.t 5),none,0,[]⟩,
  ⟨some 17,.call F.bits_place [(.t 16)],none,1,[]⟩,
  ⟨some 15,.move (.t 17),none,2,[]⟩,
  ⟨some 18,.extract 0 (.t 15),none,3,[]⟩,
  ⟨some 19,.extract 1 (.t 15),none,4,[]⟩,
  ⟨some 20,.extract 2 (.t 15),none,5,[]⟩,
  ⟨some 6,.move (.t 18),none,6,[]⟩,
  ⟨some 7,.move (.t 19),none,7,[]⟩,
  ⟨some 8,.move (.t 20),none,8,[]⟩]) (RC.seq (RC.region 1 [
  ⟨some 21,.move (.t 8),none,0,[]⟩]) (RC.cond (.t 21) (RC.region 12 [
  ⟨some 22,.move (.t 0),none,0,[]⟩,
  ⟨some 23,.move (.t 6),none,1,[]⟩,
  ⟨some 24,.nilCheck (.t 22),none,2,[]⟩,
  ⟨some 25,.fieldAddr 0 (.t 24),none,3,[]⟩,
  ⟨some 26,.indexArr 4 1 (.t 25) (.t 23),none,4,[]⟩,
  ⟨some 27,.load none (.t 26),none,5,[]⟩,
  ⟨some 28,.move (.t 7),none,6,[]⟩,
  ⟨some 29,.bin .or (.t 27) (.t 28),none,7,[]⟩,
  ⟨some 30,.nilCheck (.t 22),none,8,[]⟩,
  ⟨some 31,.fieldAddr 0 (.t 30),none,9,[]⟩,
  ⟨some 32,.indexArr 4 1 (.t 31) (.t 23),none,10,[]⟩,
  ⟨none,.store 1 (.t 32) (.t 29),none,11,[]⟩]) (RC.skip)))))) (RC.region 2 [
  ⟨some 33,.bin .add (.t 11) (.c (.s (.int .i64 1))),none,0,[]⟩,
  ⟨some 11,.move (.t 33),none,1,[]⟩])))
def bits_Map_Set : RFunc := RFunc.mk 34 [] (
  RC.seq (RC.region 3 [
  ⟨some 9,.move (.t 1),none,0,[]⟩,
  ⟨some 10,.len (.t 9),none,1,[]⟩,
  ⟨some 11,.move (.c (.s (.int .i64 0))),none,2,[]⟩]) (RC.block 0 (RC.loop R.bits_Map_Set_l0)))
theorem bits_Map_Set_ok : chkFunc Go.Proofs.Tryz.prog [0] Go.Proofs.Tryz.f291 bits_Map_Set = true := by kernel_rfl
def mtx_All_leave_1 : RFunc := RFunc.mk 7 [.tmp 3] (
  RC.seq (RC.region 1 [
  ⟨some 3,.move (.c (.s (.bool false))),none,0,[]⟩]) (RC.seq (RC.region 4 [
  ⟨some 4,.move (.t 0),none,0,[]⟩,
  ⟨some 5,.load none (.t 1),none,1,[]⟩,
  ⟨some 6,.bin .eql (.t 4) (.t 5),none,2,[]⟩,
  ⟨some 3,.move (.t 6),none,3,[]⟩]) (RC.ret)))
theorem mtx_All_leave_1_ok : chkFunc Go.Proofs.Tryz.prog [0] Go.Proofs.Tryz.f296 mtx_All_leave_1 = true := by kernel_rfl
def slices_Contains__int_int : RFunc := RFunc.mk 9 [.tmp 4] (
  RC.seq (RC.region 1 [
  ⟨some 4,.move (.c (.s (.bool false))),none,0,[]⟩]) (RC.seq (RC.region 5 [
  ⟨some 5,.move (.t 0),none,0,[]⟩,
  ⟨some 6,.move (.t 1),none,1,[]⟩,
  ⟨some 7,.call F.slices_Index__int_int [(.t 5),(.t 6)],none,2,[]⟩,
  ⟨some 8,.bin .geq (.t 7) (.c (.s (.int .i64 0))),none,3,[]⟩,
  ⟨some 4,.move (.t 8),none,4,[]⟩]) (RC.ret)))
theorem slices_Contains__int_int_ok : chkFunc Go.Proofs.Tryz.prog [0] Go.Proofs.Tryz.f277 slices_Contains__int_int = true := by kernel_rfl
def mtx_All_Held_l0 : RC :=
  RC.seq (RC.seq (RC.region 11 [
  ⟨some 7,.move (.t 1),none,0,[]⟩,
  ⟨some 8,.call F.mtx_is [(.t 7)],none,1,[]⟩,
  ⟨some 9,.move (.t 8),none,2,[]⟩,
  ⟨some 10,.move (.t 6),(some (9,true)),3,[]⟩,
  ⟨some 11,.move (.t 0),(some (9,true)),4,[]⟩,
  ⟨some 12,.nilCheck (.t 11),(some (9,true)),5,[]⟩,
  ⟨some 13,.fieldAddr 0 (.t 12),(some (9,true)),6,[]⟩,
  ⟨some 14,.load none (.t 13),(some (9,true)),7,[]⟩,
  ⟨some 15,.len (.t 14),(some (9,true)),8,[]⟩,
  ⟨some 16,.bin .lss (.t 10) (.t 15),(some (9,true)),9,[]⟩,
  ⟨some 17,.pick (.t 9) (.t 16) (.c (.s (.bool false))),none,10,[]⟩]) (RC.cond (.t 17) (RC.skip) (RC.exit 0))) (RC.seq (RC.block 1 (RC.seq (RC.region 10 [
  ⟨some 20,.move (.t 0),none,0,[]⟩,
  ⟨some 21,.nilCheck (.t 20),none,1,[]⟩,
  ⟨some 22,.fieldAddr 0 (.t 21),none,2,[]⟩,
  ⟨some 23,.load none (.t 22),none,3,[]⟩,
  ⟨some 24,.move (.t 6),none,4,[]⟩,
  ⟨some 25,.indexSl 4 (.t 23) (.t 24),none,5,[]⟩,
  ⟨some 26,.fieldAddr 2 (.t 25),none,6,[]⟩,
  ⟨some 27,.load none (.t 26),none,7,[]⟩,
  ⟨some 28,.move (.t 1),none,8,[]⟩,
  ⟨some 29,.bin .eql (.t 27) (.t 28),none,9,[]⟩]) (RC.cond (.t 29) (RC.region 5 [
  ⟨some 30,.move (.t 5),none,0,[]⟩,
  ⟨some 31,.move (.t 6),none,1,[]⟩,
  ⟨some 32,.buildSlice 1 1 [.int .i64 0] [(0,1,(.t 31))],none,2,[]⟩,
  ⟨some 33,.append 1 8 (.t 30) (.t 32),none,3,[]⟩,
  ⟨some 5,.move (.t 33),none,4,[]⟩]) (RC.skip)))) (RC.region 3 [
  ⟨some 18,.move (.t 6),none,0,[]⟩,
  ⟨some 19,.bin .add (.t 18) (.c (.s (.int .i64 1))),none,1,[]⟩,
  ⟨some 6,.move (.t 19),none,2,[]⟩]))
def mtx_All_Held_s1 : RC :=
  RC.seq (RC.region 3 [
  ⟨some 34,.move (.t 5),none,0,[]⟩,
  ⟨some 35,.call F.slices_Clip__int_int [(.t 34)],none,1,[]⟩,
  ⟨some 4,.move (.t 35),none,2,[]⟩]) (RC.ret)
def mtx_All_Held : RFunc := RFunc.mk 36 [.tmp 4] (
  RC.seq (RC.region 1 [
  ⟨some 4,.move (.c (.s (.slice none 0 0 1))),none,0,[]⟩]) (RC.seq (RC.region 1 [
  ⟨some 5,.move (.c (.s (.slice none 0 0 1))),none,0,[]⟩]) (RC.seq (RC.seq (RC.region 1 [
  ⟨some 6,.move (.c (.s (.int .i64 1))),none,0,[]⟩]) (RC.block 0 (RC.loop R.mtx_All_Held_l0))) R.mtx_All_Held_s1)))
theorem mtx_All_Held_ok : chkFunc Go.Proofs.Tryz.prog [0] Go.Proofs.Tryz.f274 mtx_All_Held = true := by kernel_rfl
def tcb_Task_end : RFunc := RFunc.mk 35 [.tmp 2] (
  RC.seq (RC.region 1 [
  ⟨some 2,.move (.c (.s (.bool false))),none,0,[]⟩]) (RC.seq (RC.region 18 [
  ⟨some 3,.move (.t 0),none,0,[]⟩,
  ⟨some 4,.move (.t 0),none,1,[]⟩,
  ⟨some 5,.move (.t 0),none,2,[]⟩,
  ⟨some 6,.move (.t 0),none,3,[]⟩,
  ⟨some 7,.nilCheck (.t 3),none,4,[]⟩,
  ⟨some 8,.fieldAddr 3 (.t 7),none,5,[]⟩,
  ⟨none,.store 1 (.t 8) (.c (.s (.int .i64 16))),none,6,[]⟩,
  ⟨some 9,.nilCheck (.t 4),none,7,[]⟩,
  ⟨some 10,.fieldAddr 4 (.t 9),none,8,[]⟩,
  ⟨none,.store 1 (.t 10) (.c (.s (.bool false))),none,9,[]⟩,
  ⟨some 11,.nilCheck (.t 5),none,10,[]⟩,
  ⟨some 12,.fieldAddr 0 (.t 11),none,11,[]⟩,
  ⟨some 13,.fieldAddr 1 (.t 12),none,12,[]⟩,
  ⟨none,.store 1 (.t 13) (.c (.s (.int .i64 0))),none,13,[]⟩,
  ⟨some 14,.nilCheck (.t 6),none,14,[]⟩,
  ⟨some 15,.fieldAddr 0 (.t 14),none,15,[]⟩,
  ⟨some 16,.fieldAddr 2 (.t 15),none,16,[]⟩,
  ⟨none,.store 1 (.t 16) (.c (.s (.int .i64 0))),none,17,[]⟩]) (RC.seq (RC.seq (RC.region 6 [
  ⟨some 17,.move (.t 0),none,0,[]⟩,
  ⟨some 18,.nilCheck (.t 17),none,1,[]⟩,
  ⟨some 19,.fieldAddr 0 (.t 18),none,2,[]⟩,
  ⟨some 20,.fieldAddr 0 (.t 19),none,3,[]⟩,
  ⟨some 21,.load none (.t 20),none,4,[]⟩,
  ⟨some 22,.bin .eql (.t 21) (.c (.s (.int .i64 0))),none,5,[]⟩]) (RC.cond (.t 22) (RC.seq (RC.region 1 [
  ⟨some 2,.move (.c (.s (.bool false))),none,0,[]⟩]) (RC.ret)) (RC.skip))) (RC.seq (RC.region 10 [
  ⟨some 23,.move (.t 0),none,0,[]⟩,
  ⟨some 24,.nilCheck (.t 23),none,1,[]⟩,
  ⟨some 25,.fieldAddr 0 (.t 24),none,2,[]⟩,
  ⟨some 26,.fieldAddr 0 (.t 25),none,3,[]⟩,
  ⟨some 27,.load none (.t 26),none,4,[]⟩,
  ⟨some 28,.bin .sub (.t 27) (.c (.s (.int .i64 1))),none,5,[]⟩,
  ⟨some 29,.nilCheck (.t 23),none,6,[]⟩,
  ⟨some 30,.fieldAddr 0 (.t 29),none,7,[]⟩,
  ⟨some 31,.fieldAddr 0 (.t 30),none,8,[]⟩,
  ⟨none,.store 1 (.t 31) (.t 28),none,9,[]⟩]) (RC.seq (RC.region 4 [
  ⟨some 32,.move (.t 0),none,0,[]⟩,
  ⟨some 33,.nilCheck (.t 32),none,1,[]⟩,
  ⟨some 34,.fieldAddr 3 (.t 33),none,2,[]⟩,
  ⟨none,.store 1 (.t 34) (.c (.s (.int .i64 2))),none,3,[]⟩]) (RC.seq (RC.region 1 [
  ⟨some 2,.move (.c (.s (.bool true))),none,0,[]⟩]) (RC.ret)))))))
theorem tcb_Task_end_ok : chkFunc Go.Proofs.Tryz.prog [0] Go.Proofs.Tryz.f275 tcb_Task_end = true := by kernel_rfl
def clock_Clock_After : RFunc := RFunc.mk 37 [.tmp 6,.tmp 7] (
  RC.seq (RC.region 2 [
  ⟨some 6,.move (.c (.s (.int .i64 0))),none,0,[]⟩,
  ⟨some 7,.move (.c (.s (.int .i64 0))),none,1,[]⟩]) (RC.seq (RC.region 7 [
  ⟨some 11,.move (.t 1),none,0,[]⟩,
  ⟨some 12,.call F.nums_Rel [(.t 11)],none,1,[]⟩,
  ⟨some 10,.move (.t 12),none,2,[]⟩,
  ⟨some 13,.extract 0 (.t 10),none,3,[]⟩,
  ⟨some 14,.extract 1 (.t 10),none,4,[]⟩,
  ⟨some 8,.move (.t 13),none,5,[]⟩,
  ⟨some 9,.move (.t 14),none,6,[]⟩]) (RC.seq (RC.seq (RC.region 2 [
  ⟨some 15,.move (.t 9),none,0,[]⟩,
  ⟨some 16,.bin .neq (.t 15) (.c (.s (.int .i64 0))),none,1,[]⟩]) (RC.cond (.t 16) (RC.seq (RC.region 3 [
  ⟨some 17,.move (.t 9),none,0,[]⟩,
  ⟨some 6,.move (.c (.s (.int .i64 0))),none,1,[]⟩,
  ⟨some 7,.move (.t 17),none,2,[]⟩]) (RC.ret)) (RC.skip))) (RC.seq (RC.region 21 [
  ⟨some 18,.move (.t 0),none,0,[]⟩,
  ⟨some 19,.nilCheck (.t 18),none,1,[]⟩,
  ⟨some 20,.fieldAddr 0 (.t 19),none,2,[]⟩,
  ⟨some 21,.load none (.t 20),none,3,[]⟩,
  ⟨some 22,.move (.t 0),none,4,[]⟩,
  ⟨some 23,.nilCheck (.t 22),none,5,[]⟩,
  ⟨some 24,.fieldAddr 2 (.t 23),none,6,[]⟩,
  ⟨some 25,.load none (.t 24),none,7,[]⟩,
  ⟨some 26,.move (.t 8),none,8,[]⟩,
  ⟨some 27,.bin .add (.t 25) (.t 26),none,9,[]⟩,
  ⟨some 28,.move (.t 0),none,10,[]⟩,
  ⟨some 29,.nilCheck (.t 28),none,11,[]⟩,
  ⟨some 30,.fieldAddr 1 (.t 29),none,12,[]⟩,
  ⟨some 31,.load none (.t 30),none,13,[]⟩,
  ⟨some 32,.bin .add (.t 27) (.t 31),none,14,[]⟩,
  ⟨some 33,.move (.t 2),none,15,[]⟩,
  ⟨some 34,.call F.heap_Timers_Insert [(.t 21),(.t 32),(.t 33)],none,16,[]⟩,
  ⟨some 35,.extract 0 (.t 34),none,17,[]⟩,
  ⟨some 36,.extract 1 (.t 34),none,18,[]⟩,
  ⟨some 6,.move (.t 35),none,19,[]⟩,
  ⟨some 7,.move (.t 36),none,20,[]⟩]) (RC.ret)))))
theorem clock_Clock_After_ok : chkFunc Go.Proofs.Tryz.prog [0] Go.Proofs.Tryz.f276 clock_Clock_After = true := by kernel_rfl
def order_Line_First : RFunc := RFunc.mk 17 [.cell 2 (some 2),.tmp 3] (
  RC.seq (RC.region 2 [
  ⟨some 2,.newc [.int .i64 0,.int .i64 0],none,0,[]⟩,
  ⟨some 3,.move (.c (.s (.bool false))),none,1,[]⟩]) (RC.seq (RC.seq (RC.region 6 [
  ⟨some 4,.move (.t 0),none,0,[]⟩,
  ⟨some 5,.nilCheck (.t 4),none,1,[]⟩,
  ⟨some 6,.fieldAddr 0 (.t 5),none,2,[]⟩,
  ⟨some 7,.load none (.t 6),none,3,[]⟩,
  ⟨some 8,.len (.t 7),none,4,[]⟩,
  ⟨some 9,.bin .eql (.t 8) (.c (.s (.int .i64 0))),none,5,[]⟩]) (RC.cond (.t 9) (RC.seq (RC.region 3 [
  ⟨some 10,.build [.int .i64 0,.int .i64 0] [],none,0,[]⟩,
  ⟨none,.store 2 (.t 2) (.t 10),none,1,[]⟩,
  ⟨some 3,.move (.c (.s (.bool false))),none,2,[]⟩]) (RC.ret)) (RC.skip))) (RC.seq (RC.region 8 [
  ⟨some 11,.move (.t 0),none,0,[]⟩,
  ⟨some 12,.nilCheck (.t 11),none,1,[]⟩,
  ⟨some 13,.fieldAddr 0 (.t 12),none,2,[]⟩,
  ⟨some 14,.load none (.t 13),none,3,[]⟩,
  ⟨some 15,.indexSl 2 (.t 14) (.c (.s (.int .i64 0))),none,4,[]⟩,
  ⟨some 16,.load (some 2) (.t 15),none,5,[]⟩,
  ⟨none,.store 2 (.t 2) (.t 16),none,6,[]⟩,
  ⟨some 3,.move (.c (.s (.bool true))),none,7,[]⟩]) (RC.ret))))
theorem order_Line_First_ok : chkFunc Go.Proofs.Tryz.prog [0] Go.Proofs.Tryz.f186 order_Line_First = true := by kernel_rfl
def cmp_Less_int : RFunc := RFunc.mk 17 [.tmp 4] (
  RC.seq (RC.region 1 [
  ⟨some 4,.move (.c (.s (.bool false))),none,0,[]⟩]) (RC.seq (RC.region 13 [
  ⟨some 5,.move (.t 0),none,0,[]⟩,
  ⟨some 6,.call F.cmp_isNaN_int [(.t 5)],none,1,[]⟩,
  ⟨some 7,.move (.t 6),none,2,[]⟩,
  ⟨some 8,.move (.t 1),(some (7,true)),3,[]⟩,
  ⟨some 9,.call F.cmp_isNaN_int [(.t 8)],(some (7,true)),4,[]⟩,
  ⟨some 10,.un .not (.t 9),(some (7,true)),5,[]⟩,
  ⟨some 11,.pick (.t 7) (.t 10) (.c (.s (.bool false))),none,6,[]⟩,
  ⟨some 12,.move (.t 11),none,7,[]⟩,
  ⟨some 13,.move (.t 0),(some (12,false)),8,[]⟩,
  ⟨some 14,.move (.t 1),(some (12,false)),9,[]⟩,
  ⟨some 15,.bin .lss (.t 13) (.t 14),(some (12,false)),10,[]⟩,
  ⟨some 16,.pick (.t 12) (.c (.s (.bool true))) (.t 15),none,11,[]⟩,
  ⟨some 4,.move (.t 16),none,12,[]⟩]) (RC.ret)))
theorem cmp_Less_int_ok : chkFunc Go.Proofs.Tryz.prog [0] Go.Proofs.Tryz.f278 cmp_Less_int = true := by kernel_rfl
def slices_isNaN_int : RFunc := RFunc.mk 6 [.tmp 2] (
  RC.seq (RC.region 1 [
  ⟨some 2,.move (.c (.s (.bool false))),none,0,[]⟩]) (RC.seq (RC.region 4 [
  ⟨some 3,.move (.t 0),none,0,[]⟩,
  ⟨some 4,.move (.t 0),none,1,[]⟩,
  ⟨some 5,.bin .neq (.t 3) (.t 4),none,2,[]⟩,
  ⟨some 2,.move (.t 5),none,3,[]⟩]) (RC.ret)))
theorem slices_isNaN_int_ok : chkFunc Go.Proofs.Tryz.prog [0] Go.Proofs.Tryz.f279 slices_isNaN_int = true := by kernel_rfl
def math_bits_TrailingZeros64 : RFunc := RFunc.mk 14 [.tmp 2] (
  RC.seq (RC.region 1 [
  ⟨some 2,.move (.c (.s (.int .i64 0))),none,0,[]⟩]) (RC.seq (RC.seq (RC.region 2 [
  ⟨some 3,.move (.t 0),none,0,[]⟩,
  ⟨some 4,.bin .eql (.t 3) (.c (.s (.int .u64 0))),none,1,[]⟩]) (RC.cond (.t 4) (RC.seq (RC.region 1 [
  ⟨some 2,.move (.c (.s (.int .i64 64))),none,0,[]⟩]) (RC.ret)) (RC.skip))) (RC.seq (RC.region 10 [
  ⟨some 5,.move (.t 0),none,0,[]⟩,
  ⟨some 6,.move (.t 0),none,1,[]⟩,
  ⟨some 7,.un .neg (.t 6),none,2,[]⟩,
  ⟨some 8,.bin .and (.t 5) (.t 7),none,3,[]⟩,
  ⟨some 9,.bin .mul (.t 8) (.c (.s (.int .u64 285870213051353865))),none,4,[]⟩,
  ⟨some 10,.bin .shr (.t 9) (.c (.s (.int .u64 58))),none,5,[]⟩,
  ⟨some 11,.indexArr 64 1 (.g 0) (.t 10),none,6,[]⟩,
  ⟨some 12,.load none (.t 11),none,7,[]⟩,
  ⟨some 13,.conv .i64 (.t 12),none,8,[]⟩,
  ⟨some 2,.move (.t 13),none,9,[]⟩]) (RC.ret))))
theorem math_bits_TrailingZeros64_ok : chkFunc Go.Proofs.Tryz.prog [0] Go.Proofs.Tryz.f302 math_bits_TrailingZeros64 = true := by kernel_rfl
def heap_row_up_l0 : RC :=
  RC.seq (RC.seq (RC.region 10 [
  ⟨some 4,.move (.t 1),none,0,[]⟩,
  ⟨some 5,.bin .gtr (.t 4) (.c (.s (.int .i64 0))),none,1,[]⟩,
  ⟨some 6,.move (.t 5),none,2,[]⟩,
  ⟨some 7,.move (.t 0),(some (6,true)),3,[]⟩,
  ⟨some 8,.move (.t 1),(some (6,true)),4,[]⟩,
  ⟨some 9,.move (.t 1),(some (6,true)),5,[]⟩,
  ⟨some 10,.bin .sub (.t 9) (.c (.s (.int .i64 1))),(some (6,true)),6,[]⟩,
  ⟨some 11,.bin .quo (.t 10) (.c (.s (.int .i64 2))),(some (6,true)),7,[]⟩,
  ⟨some 12,.call F.heap_row_ahead [(.t 7),(.t 8),(.t 11)],(some (6,true)),8,[]⟩,
  ⟨some 13,.pick (.t 6) (.t 12) (.c (.s (.bool false))),none,9,[]⟩]) (RC.cond (.t 13) (RC.skip) (RC.exit 0))) (RC.block 1 (RC.seq (RC.region 20 [
  ⟨some 14,.move (.t 0),none,0,[]⟩,
  ⟨some 15,.move (.t 1),none,1,[]⟩,
  ⟨some 16,.move (.t 0),none,2,[]⟩,
  ⟨some 17,.move (.t 1),none,3,[]⟩,
  ⟨some 18,.bin .sub (.t 17) (.c (.s (.int .i64 1))),none,4,[]⟩,
  ⟨some 19,.bin .quo (.t 18) (.c (.s (.int .i64 2))),none,5,[]⟩,
  ⟨some 20,.move (.t 0),none,6,[]⟩,
  ⟨some 21,.move (.t 1),none,7,[]⟩,
  ⟨some 22,.bin .sub (.t 21) (.c (.s (.int .i64 1))),none,8,[]⟩,
  ⟨some 23,.bin .quo (.t 22) (.c (.s (.int .i64 2))),none,9,[]⟩,
  ⟨some 24,.indexSl 3 (.t 20) (.t 23),none,10,[]⟩,
  ⟨some 25,.load (some 3) (.t 24),none,11,[]⟩,
  ⟨some 26,.move (.t 0),none,12,[]⟩,
  ⟨some 27,.move (.t 1),none,13,[]⟩,
  ⟨some 28,.indexSl 3 (.t 26) (.t 27),none,14,[]⟩,
  ⟨some 29,.load (some 3) (.t 28),none,15,[]⟩,
  ⟨some 30,.indexSl 3 (.t 14) (.t 15),none,16,[]⟩,
  ⟨none,.store 3 (.t 30) (.t 25),none,17,[]⟩,
  ⟨some 31,.indexSl 3 (.t 16) (.t 19),none,18,[]⟩,
  ⟨none,.store 3 (.t 31) (.t 29),none,19,[]⟩]) (RC.region 4 [
  ⟨some 32,.move (.t 1),none,0,[]⟩,
  ⟨some 33,.bin .sub (.t 32) (.c (.s (.int .i64 1))),none,1,[]⟩,
  ⟨some 34,.bin .quo (.t 33) (.c (.s (.int .i64 2))),none,2,[]⟩,
  ⟨some 1,.move (.t 34),none,3,[]⟩])))
def heap_row_up : RFunc := RFunc.mk 35 [] (
  RC.block 0 (RC.loop R.heap_row_up_l0))
theorem heap_row_up_ok : chkFunc Go.Proofs.Tryz.prog [0] Go.Proofs.Tryz.f303 heap_row_up = true := by kernel_rfl
def heap_row_down_s0 : RC :=
  RC.seq (RC.seq (RC.region 11 [
  ⟨some 22,.move (.t 4),none,0,[]⟩,
  ⟨some 23,.move (.t 0),none,1,[]⟩,
  ⟨some 24,.len (.t 23),none,2,[]⟩,
  ⟨some 25,.bin .geq (.t 22) (.t 24),none,3,[]⟩,
  ⟨some 26,.move (.t 25),none,4,[]⟩,
  ⟨some 27,.move (.t 0),(some (26,false)),5,[]⟩,
  ⟨some 28,.move (.t 4),(some (26,false)),6,[]⟩,
  ⟨some 29,.move (.t 1),(some (26,false)),7,[]⟩,
  ⟨some 30,.call F.heap_row_ahead [(.t 27),(.t 28),(.t 29)],(some (26,false)),8,[]⟩,
  ⟨some 31,.un .not (.t 30),(some (26,false)),9,[]⟩,
  ⟨some 32,.pick (.t 26) (.c (.s (.bool true))) (.t 31),none,10,[]⟩]) (RC.cond (.t 32) (RC.ret) (RC.skip))) (RC.seq (RC.region 16 [
  ⟨some 33,.move (.t 0),none,0,[]⟩,
  ⟨some 34,.move (.t 1),none,1,[]⟩,
  ⟨some 35,.move (.t 0),none,2,[]⟩,
  ⟨some 36,.move (.t 4),none,3,[]⟩,
  ⟨some 37,.move (.t 0),none,4,[]⟩,
  ⟨some 38,.move (.t 4),none,5,[]⟩,
  ⟨some 39,.indexSl 3 (.t 37) (.t 38),none,6,[]⟩,
  ⟨some 40,.load (some 3) (.t 39),none,7,[]⟩,
  ⟨some 41,.move (.t 0),none,8,[]⟩,
  ⟨some 42,.move (.t 1),none,9,[]⟩,
  ⟨some 43,.indexSl 3 (.t 41) (.t 42),none,10,[]⟩,
  ⟨some 44,.load (some 3) (.t 43),none,11,[]⟩,
  ⟨some 45,.indexSl 3 (.t 33) (.t 34),none,12,[]⟩,
  ⟨none,.store 3 (.t 45) (.t 40),none,13,[]⟩,
  ⟨some 46,.indexSl 3 (.t 35) (.t 36),none,14,[]⟩,
  ⟨none,.store 3 (.t 46) (.t 44),none,15,[]⟩]) (RC.region 2 [
  ⟨some 47,.move (.t 4),none,0,[]⟩,
  ⟨some 1,.move (.t 47),none,1,[]⟩]))
def heap_row_down_l1 : RC :=
  RC.block 1 (RC.seq (RC.region 4 [
  ⟨some 5,.move (.t 1),none,0,[]⟩,
  ⟨some 6,.bin .mul (.c (.s (.int .i64 2))) (.t 5),none,1,[]⟩,
  ⟨some 7,.bin .add (.t 6) (.c (.s (.int .i64 1))),none,2,[]⟩,
  ⟨some 4,.move (.t 7),none,3,[]⟩]) (RC.seq (RC.seq (RC.region 12 [
  ⟨some 8,.move (.t 4),none,0,[]⟩,
  ⟨some 9,.bin .add (.t 8) (.c (.s (.int .i64 1))),none,1,[]⟩,
  ⟨some 10,.move (.t 0),none,2,[]⟩,
  ⟨some 11,.len (.t 10),none,3,[]⟩,
  ⟨some 12,.bin .lss (.t 9) (.t 11),none,4,[]⟩,
  ⟨some 13,.move (.t 12),none,5,[]⟩,
  ⟨some 14,.move (.t 0),(some (13,true)),6,[]⟩,
  ⟨some 15,.move (.t 4),(some (13,true)),7,[]⟩,
  ⟨some 16,.bin .add (.t 15) (.c (.s (.int .i64 1))),(some (13,true)),8,[]⟩,
  ⟨some 17,.move (.t 4),(some (13,true)),9,[]⟩,
  ⟨some 18,.call F.heap_row_ahead [(.t 14),(.t 16),(.t 17)],(some (13,true)),10,[]⟩,
  ⟨some 19,.pick (.t 13) (.t 18) (.c (.s (.bool false))),none,11,[]⟩]) (RC.cond (.t 19) (RC.region 3 [
  ⟨some 20,.move (.t 4),none,0,[]⟩,
  ⟨some 21,.bin .add (.t 20) (.c (.s (.int .i64 1))),none,1,[]⟩,
  ⟨some 4,.move (.t 21),none,2,[]⟩]) (RC.skip))) R.heap_row_down_s0))
def heap_row_down : RFunc := RFunc.mk 48 [] (
  RC.block 0 (RC.loop R.heap_row_down_l1))
theorem heap_row_down_ok : chkFunc Go.Proofs.Tryz.prog [0] Go.Proofs.Tryz.f304 heap_row_down = true := by kernel_rfl
def heap_Timers_find : RFunc := RFunc.mk 11 [.tmp 4] (
  RC.seq (RC.region 2 [
  ⟨some 3,.box (.t 1),none,0,[]⟩,
  ⟨some 4,.move (.c (.s (.int .i64 0))),none,1,[]⟩]) (RC.seq (RC.region 7 [
  ⟨some 5,.move (.t 0),none,0,[]⟩,
  ⟨some 6,.nilCheck (.t 5),none,1,[]⟩,
  ⟨some 7,.fieldAddr 0 (.t 6),none,2,[]⟩,
  ⟨some 8,.load none (.t 7),none,3,[]⟩,
  ⟨some 9,.makeFunc F.heap_Timers_find_1 [(.t 3)],none,4,[]⟩,
  ⟨some 10,.call F.slices_IndexFunc_heap_row_heap_entry [(.t 8),(.t 9)],none,5,[]⟩,
  ⟨some 4,.move (.t 10),none,6,[]⟩]) (RC.ret)))
theorem heap_Timers_find_ok : chkFunc Go.Proofs.Tryz.prog [0] Go.Proofs.Tryz.f298 heap_Timers_find = true := by kernel_rfl
def bits_place : RFunc := RFunc.mk 18 [.tmp 2,.tmp 3,.tmp 4] (
  RC.seq (RC.region 3 [
  ⟨some 2,.move (.c (.s (.int .i64 0))),none,0,[]⟩,
  ⟨some 3,.move (.c (.s (.int .u64 0))),none,1,[]⟩,
  ⟨some 4,.move (.c (.s (.bool false))),none,2,[]⟩]) (RC.seq (RC.seq (RC.region 6 [
  ⟨some 5,.move (.t 0),none,0,[]⟩,
  ⟨some 6,.bin .lss (.t 5) (.c (.s (.int .i64 1))),none,1,[]⟩,
  ⟨some 7,.move (.t 6),none,2,[]⟩,
  ⟨some 8,.move (.t 0),(some (7,false)),3,[]⟩,
  ⟨some 9,.bin .gtr (.t 8) (.c (.s (.int .i64 256))),(some (7,false)),4,[]⟩,
  ⟨some 10,.pick (.t 7) (.c (.s (.bool true))) (.t 9),none,5,[]⟩]) (RC.cond (.t 10) (RC.seq (RC.region 3 [
  ⟨some 2,.move (.c (.s (.int .i64 0))),none,0,[]⟩,
  ⟨some 3,.move (.c (.s (.int .u64 0))),none,1,[]⟩,
  ⟨some 4,.move (.c (.s (.bool false))),none,2,[]⟩]) (RC.ret)) (RC.skip))) (RC.seq (RC.region 10 [
  ⟨some 11,.move (.t 0),none,0,[]⟩,
  ⟨some 12,.bin .sub (.t 11) (.c (.s (.int .i64 1))),none,1,[]⟩,
  ⟨some 13,.bin .quo (.t 12) (.c (.s (.int .i64 64))),none,2,[]⟩,
  ⟨some 14,.move (.t 0),none,3,[]⟩,
  ⟨some 15,.bin .sub (.t 14) (.c (.s (.int .i64 1))),none,4,[]⟩,
  ⟨some 16,.bin .rem (.t 15) (.c (.s (.int .i64 64))),none,5,[]⟩,
  ⟨some 17,.bin .shl (.c (.s (.int .u64 1))) (.t 16),none,6,[]⟩,
  ⟨some 2,.move (.t 13),none,7,[]⟩,
  ⟨some 3,.move (.t 17),none,8,[]⟩,
  ⟨some 4,.move (.c (.s (.bool true))),none,9,[]⟩]) (RC.ret))))
theorem bits_place_ok : chkFunc Go.Proofs.Tryz.prog [0] Go.Proofs.Tryz.f299 bits_place = true := by kernel_rfl
def heap_Timers_Insert : RFunc := RFunc.mk 52 [.tmp 6,.tmp 7] (
  RC.seq (RC.region 2 [
  ⟨some 6,.move (.c (.s (.int .i64 0))),none,0,[]⟩,
  ⟨some 7,.move (.c (.s (.int .i64 0))),none,1,[]⟩]) (RC.seq (RC.seq (RC.region 6 [
  ⟨some 8,.move (.t 0),none,0,[]⟩,
  ⟨some 9,.nilCheck (.t 8),none,1,[]⟩,
  ⟨some 10,.fieldAddr 0 (.t 9),none,2,[]⟩,
  ⟨some 11,.load none (.t 10),none,3,[]⟩,
  ⟨some 12,.len (.t 11),none,4,[]⟩,
  ⟨some 13,.bin .geq (.t 12) (.c (.s (.int .i64 256))),none,5,[]⟩]) (RC.cond (.t 13) (RC.seq (RC.region 2 [
  ⟨some 6,.move (.c (.s (.int .i64 0))),none,0,[]⟩,
  ⟨some 7,.move (.c (.s (.int .i64 (-33)))),none,1,[]⟩]) (RC.ret)) (RC.skip))) (RC.seq (RC.region 8 [
  ⟨some 14,.move (.t 0),none,0,[]⟩,
  ⟨some 15,.nilCheck (.t 14),none,1,[]⟩,
  ⟨some 16,.fieldAddr 1 (.t 15),none,2,[]⟩,
  ⟨some 17,.load none (.t 16),none,3,[]⟩,
  ⟨some 18,.bin .add (.t 17) (.c (.s (.int .i64 1))),none,4,[]⟩,
  ⟨some 19,.nilCheck (.t 14),none,5,[]⟩,
  ⟨some 20,.fieldAddr 1 (.t 19),none,6,[]⟩,
  ⟨none,.store 1 (.t 20) (.t 18),none,7,[]⟩]) (RC.seq (RC.region 17 [
  ⟨some 21,.move (.t 0),none,0,[]⟩,
  ⟨some 22,.move (.t 0),none,1,[]⟩,
  ⟨some 23,.nilCheck (.t 22),none,2,[]⟩,
  ⟨some 24,.fieldAddr 0 (.t 23),none,3,[]⟩,
  ⟨some 25,.load none (.t 24),none,4,[]⟩,
  ⟨some 26,.move (.t 1),none,5,[]⟩,
  ⟨some 27,.move (.t 0),none,6,[]⟩,
  ⟨some 28,.nilCheck (.t 27),none,7,[]⟩,
  ⟨some 29,.fieldAddr 1 (.t 28),none,8,[]⟩,
  ⟨some 30,.load none (.t 29),none,9,[]⟩,
  ⟨some 31,.move (.t 2),none,10,[]⟩,
  ⟨some 32,.build [.int .u64 0,.int .i64 0,.int .i64 0] [(0,1,(.t 26)),(1,1,(.t 30)),(2,1,(.t 31))],none,11,[]⟩,
  ⟨some 33,.buildSlice 3 1 [.int .u64 0,.int .i64 0,.int .i64 0] [(0,3,(.t 32))],none,12,[]⟩,
  ⟨some 34,.append 3 24 (.t 25) (.t 33),none,13,[]⟩,
  ⟨some 35,.nilCheck (.t 21),none,14,[]⟩,
  ⟨some 36,.fieldAddr 0 (.t 35),none,15,[]⟩,
  ⟨none,.store 1 (.t 36) (.t 34),none,16,[]⟩]) (RC.seq (RC.region 11 [
  ⟨some 37,.move (.t 0),none,0,[]⟩,
  ⟨some 38,.nilCheck (.t 37),none,1,[]⟩,
  ⟨some 39,.fieldAddr 0 (.t 38),none,2,[]⟩,
  ⟨some 40,.load none (.t 39),none,3,[]⟩,
  ⟨some 41,.move (.t 0),none,4,[]⟩,
  ⟨some 42,.nilCheck (.t 41),none,5,[]⟩,
  ⟨some 43,.fieldAddr 0 (.t 42),none,6,[]⟩,
  ⟨some 44,.load none (.t 43),none,7,[]⟩,
  ⟨some 45,.len (.t 44),none,8,[]⟩,
  ⟨some 46,.bin .sub (.t 45) (.c (.s (.int .i64 1))),none,9,[]⟩,
  ⟨some 47,.call F.heap_row_up [(.t 40),(.t 46)],none,10,[]⟩]) (RC.seq (RC.region 6 [
  ⟨some 48,.move (.t 0),none,0,[]⟩,
  ⟨some 49,.nilCheck (.t 48),none,1,[]⟩,
  ⟨some 50,.fieldAddr 1 (.t 49),none,2,[]⟩,
  ⟨some 51,.load none (.t 50),none,3,[]⟩,
  ⟨some 6,.move (.t 51),none,4,[]⟩,
  ⟨some 7,.move (.c (.s (.int .i64 0))),none,5,[]⟩]) (RC.ret)))))))
theorem heap_Timers_Insert_ok : chkFunc Go.Proofs.Tryz.prog [0] Go.Proofs.Tryz.f300 heap_Timers_Insert = true := by kernel_rfl
def heap_row_ahead : RFunc := RFunc.mk 36 [.tmp 6] (
  RC.seq (RC.region 1 [
  ⟨some 6,.move (.c (.s (.bool false))),none,0,[]⟩]) (RC.seq (RC.region 12 [
  ⟨some 9,.move (.t 0),none,0,[]⟩,
  ⟨some 10,.move (.t 1),none,1,[]⟩,
  ⟨some 11,.indexSl 3 (.t 9) (.t 10),none,2,[]⟩,
  ⟨some 12,.load (some 3) (.t 11),none,3,[]⟩,
  ⟨some 13,.move (.t 0),none,4,[]⟩,
  ⟨some 14,.move (.t 2),none,5,[]⟩,
  ⟨some 15,.indexSl 3 (.t 13) (.t 14),none,6,[]⟩,
  ⟨some 16,.load (some 3) (.t 15),none,7,[]⟩,
  ⟨some 7,.newc [.int .u64 0,.int .i64 0,.int .i64 0],none,8,[]⟩,
  ⟨some 8,.newc [.int .u64 0,.int .i64 0,.int .i64 0],none,9,[]⟩,
  ⟨none,.store 3 (.t 7) (.t 12),none,10,[⟨16,(some 3),(.t 15),none⟩]⟩,
  ⟨none,.store 3 (.t 8) (.t 16),none,11,[]⟩]) (RC.seq (RC.region 20 [
  ⟨some 17,.fieldAddr 0 (.t 7),none,0,[]⟩,
  ⟨some 18,.load none (.t 17),none,1,[]⟩,
  ⟨some 19,.fieldAddr 0 (.t 8),none,2,[]⟩,
  ⟨some 20,.load none (.t 19),none,3,[]⟩,
  ⟨some 21,.bin .lss (.t 18) (.t 20),none,4,[]⟩,
  ⟨some 22,.move (.t 21),none,5,[]⟩,
  ⟨some 23,.fieldAddr 0 (.t 7),(some (22,false)),6,[]⟩,
  ⟨some 24,.load none (.t 23),(some (22,false)),7,[]⟩,
  ⟨some 25,.fieldAddr 0 (.t 8),(some (22,false)),8,[]⟩,
  ⟨some 26,.load none (.t 25),(some (22,false)),9,[]⟩,
  ⟨some 27,.bin .eql (.t 24) (.t 26),(some (22,false)),10,[]⟩,
  ⟨some 28,.move (.t 27),(some (22,false)),11,[]⟩,
  ⟨some 29,.fieldAddr 1 (.t 7),(some (28,true)),12,[]⟩,
  ⟨some 30,.load none (.t 29),(some (28,true)),13,[]⟩,
  ⟨some 31,.fieldAddr 1 (.t 8),(some (28,true)),14,[]⟩,
  ⟨some 32,.load none (.t 31),(some (28,true)),15,[]⟩,
  ⟨some 33,.bin .lss (.t 30) (.t 32),(some (28,true)),16,[]⟩,
  ⟨some 34,.pick (.t 28) (.t 33) (.c (.s (.bool false))),(some (22,false)),17,[]⟩,
  ⟨some 35,.pick (.t 22) (.c (.s (.bool true))) (.t 34),none,18,[]⟩,
  ⟨some 6,.move (.t 35),none,19,[]⟩]) (RC.ret))))
theorem heap_row_ahead_ok : chkFunc Go.Proofs.Tryz.prog [0] Go.Proofs.Tryz.f312 heap_row_ahead = true := by kernel_rfl
def slices_swapRangeCmpFunc_cyc_Fired_l0 : RC :=
  RC.seq (RC.seq (RC.region 3 [
  ⟨some 11,.move (.t 10),none,0,[]⟩,
  ⟨some 12,.move (.t 3),none,1,[]⟩,
  ⟨some 13,.bin .lss (.t 11) (.t 12),none,2,[]⟩]) (RC.cond (.t 13) (RC.skip) (RC.exit 0))) (RC.seq (RC.block 1 (RC.region 24 [
  ⟨some 16,.move (.t 0),none,0,[]⟩,
  ⟨some 17,.move (.t 1),none,1,[]⟩,
  ⟨some 18,.move (.t 10),none,2,[]⟩,
  ⟨some 19,.bin .add (.t 17) (.t 18),none,3,[]⟩,
  ⟨some 20,.move (.t 0),none,4,[]⟩,
  ⟨some 21,.move (.t 2),none,5,[]⟩,
  ⟨some 22,.move (.t 10),none,6,[]⟩,
  ⟨some 23,.bin .add (.t 21) (.t 22),none,7,[]⟩,
  ⟨some 24,.move (.t 0),none,8,[]⟩,
  ⟨some 25,.move (.t 2),none,9,[]⟩,
  ⟨some 26,.move (.t 10),none,10,[]⟩,
  ⟨some 27,.bin .add (.t 25) (.t 26),none,11,[]⟩,
  ⟨some 28,.indexSl 3 (.t 24) (.t 27),none,12,[]⟩,
  ⟨some 29,.load (some 3) (.t 28),none,13,[]⟩,
  ⟨some 30,.move (.t 0),none,14,[]⟩,
  ⟨some 31,.move (.t 1),none,15,[]⟩,
  ⟨some 32,.move (.t 10),none,16,[]⟩,
  ⟨some 33,.bin .add (.t 31) (.t 32),none,17,[]⟩,
  ⟨some 34,.indexSl 3 (.t 30) (.t 33),none,18,[]⟩,
  ⟨some 35,.load (some 3) (.t 34),none,19,[]⟩,
  ⟨some 36,.indexSl 3 (.t 16) (.t 19),none,20,[]⟩,
  ⟨none,.store 3 (.t 36) (.t 29),none,21,[]⟩,
  ⟨some 37,.indexSl 3 (.t 20) (.t 23),none,22,[]⟩,
  ⟨none,.store 3 (.t 37) (.t 35),none,23,[]⟩])) (RC.region 3 [
  ⟨some 14,.move (.t 10),none,0,[]⟩,
  ⟨some 15,.bin .add (.t 14) (.c (.s (.int .i64 1))),none,1,[]⟩,
  ⟨some 10,.move (.t 15),none,2,[]⟩]))
def slices_swapRangeCmpFunc_cyc_Fired : RFunc := RFunc.mk 38 [] (
  RC.seq (RC.region 1 [
  ⟨some 10,.move (.c (.s (.int .i64 0))),none,0,[]⟩]) (RC.block 0 (RC.loop R.slices_swapRangeCmpFunc_cyc_Fired_l0)))
theorem slices_swapRangeCmpFunc_cyc_Fired_ok : chkFunc Go.Proofs.Tryz.prog [0] Go.Proofs.Tryz.f313 slices_swapRangeCmpFunc_cyc_Fired = true := by kernel_rfl
def slices_IndexFunc_heap_row_heap_entry_l0 : RC :=
  RC.seq (RC.region 1 [
  ⟨some 9,.bin .lss (.t 8) (.t 7),none,0,[]⟩]) (RC.seq (RC.cond (.t 9) (RC.skip) (RC.exit 0)) (RC.seq (RC.block 1 (RC.seq (RC.region 2 [
  ⟨some 10,.move (.t 8),none,0,[]⟩,
  ⟨some 5,.move (.t 10),none,1,[]⟩]) (RC.seq (RC.region 6 [
  ⟨some 11,.move (.t 1),none,0,[]⟩,
  ⟨some 12,.move (.t 0),none,1,[]⟩,
  ⟨some 13,.move (.t 5),none,2,[]⟩,
  ⟨some 14,.indexSl 3 (.t 12) (.t 13),none,3,[]⟩,
  ⟨some 15,.load (some 3) (.t 14),none,4,[]⟩,
  ⟨some 16,.callv (.t 11) [(.t 15)],none,5,[]⟩]) (RC.cond (.t 16) (RC.seq (RC.region 2 [
  ⟨some 17,.move (.t 5),none,0,[]⟩,
  ⟨some 4,.move (.t 17),none,1,[]⟩]) (RC.ret)) (RC.skip))))) (RC.region 2 [
  ⟨some 18,.bin .add (.t 8) (.c (.s (.int .i64 1))),none,0,[]⟩,
  ⟨some 8,.move (.t 18),none,1,[]⟩])))
def slices_IndexFunc_heap_row_heap_entry_s1 : RC :=
  RC.seq (RC.region 1 [
  ⟨some 4,.move (.c (.s (.int .i64 (-1)))),none,0,[]⟩]) (RC.ret)
def slices_IndexFunc_heap_row_heap_entry : RFunc := RFunc.mk 19 [.tmp 4] (
  RC.seq (RC.region 1 [
  ⟨some 4,.move (.c (.s (.int .i64 0))),none,0,[]⟩]) (RC.seq (RC.seq (RC.region 3 [
  ⟨some 6,.move (.t 0),none,0,[]⟩,
  ⟨some 7,.len (.t 6),none,1,[]⟩,
  ⟨some 8,.move (.c (.s (.int .i64 0))),none,2,[]⟩]) (RC.block 0 (RC.loop R.slices_IndexFunc_heap_row_heap_entry_l0))) R.slices_IndexFunc_heap_row_heap_entry_s1))
theorem slices_IndexFunc_heap_row_heap_entry_ok : chkFunc Go.Proofs.Tryz.prog [0] Go.Proofs.Tryz.f309 slices_IndexFunc_heap_row_heap_entry = true := by kernel_rfl
def heap_Timers_find_1 : RFunc := RFunc.mk 8 [.tmp 3] (
  RC.seq (RC.region 2 [
  ⟨some 2,.box (.t 0),none,0,[]⟩,
  ⟨some 3,.move (.c (.s (.bool false))),none,1,[]⟩]) (RC.seq (RC.region 5 [
  ⟨some 4,.fieldAddr 1 (.t 2),none,0,[]⟩,
  ⟨some 5,.load none (.t 4),none,1,[]⟩,
  ⟨some 6,.load none (.t 1),none,2,[]⟩,
  ⟨some 7,.bin .eql (.t 5) (.t 6),none,3,[]⟩,
  ⟨some 3,.move (.t 7),none,4,[]⟩]) (RC.ret)))
theorem heap_Timers_find_1_ok : chkFunc Go.Proofs.Tryz.prog [0] Go.Proofs.Tryz.f310 heap_Timers_find_1 = true := by kernel_rfl
end Go.AM.R

/-
  The table of the functions' codes.
-/
set_option maxRecDepth 100000
namespace Go.AM
def tabL : List (Option RFunc) := [none, none, none, none, none, none, some R.detenttop_TopServers, none, some R.detenttop_known, some R.detenttop_tasks, some R.detenttop_open, none, none, some R.detenttop_do, none, some R.kern_Kernel_Task, some R.kern_Kernel_Do, some R.calls_Make, some R.kern_Kernel_Tick, none, none, none, none, some R.kern_Kernel_Running, some R.detenttop_state, none, none, none, none, none, none, none, some R.por_New, some R.por_Port_Call, some R.por_Port_Accept, some R.por_Port_Reply, some R.por_Port_Callers, some R.por_Port_Open, none, none, none, none, none, none, some R.kern_New, some R.conf_next, some R.order_New, none, none, some R.mtx_All_Pri, some R.mtx_All_Base, some R.calls_Known, some R.kern_say, some R.ctx_Place_May, some R.calls_Kind, some R.kern_Kernel_tasks, some R.kern_Kernel_sem, some R.kern_Kernel_flag, some R.kern_Kernel_data, some R.kern_Kernel_mutex, some R.kern_Kernel_block, some R.kern_Kernel_time, some R.kern_Kernel_state, some R.kern_Kernel_choose, some R.cyc_Hands_Pass, some R.kern_Kernel_leave, some R.kern_Kernel_wake, some R.kern_Kernel_settle, some R.kern_at__sem_Sem, none, some R.kern_at__mpf_Pool, none, none, none, some R.clock_Clock_Now, none, some R.por_right, some R.por_Port_in, some R.slices_Clip__byte_byte, some R.slices_Clone__byte_byte, some R.por_line_meet, some R.por_Port_begin, some R.por_line_wait, some R.por_Port_find, some R.por_Port_end, some R.por_line_ids, some R.slices_Clip__int_int, none, none, none, some R.order_Queue_Take, none, some R.order_Line_Len, none, none, none, none, some R.conf_Check, some R.ctx_New, some R.ready_New, some R.kern_objects_build, some R.cyc_NewHands, some R.cyc_Hands_Cyclic, some R.cyc_Hands_Alarm, some R.mtx_All_SetBase, some R.tcb_New, some R.kern_Kernel_act, some R.nums_Align, none, none, none, some R.mtx_is, some R.calls_of, some R.ctx_state_may, some R.kern_Kernel_named, some R.ctx_Place_Lock, some R.ctx_Place_Disable, some R.kern_Kernel_over, some R.kern_Kernel_rotate, some R.kern_Kernel_sleep, some R.kern_late, some R.nums_Rel, some R.kern_Kernel_stay, some R.kern_Kernel_change, some R.kern_Kernel_one, some R.kern_timeout, some R.sem_Sem_Signal, some R.kern_Kernel_woken, some R.sem_Sem_Poll, some R.sem_Sem_Wait, some R.kern_at__flag_Flag, some R.flag_Flag_Raise, some R.flag_Flag_Lower, some R.flag_Flag_Poll, some R.flag_Flag_Wait, some R.kern_at__dtq_Queue, some R.dtq_Queue_Force, some R.dtq_Queue_TrySend, some R.dtq_Queue_Send, some R.dtq_Queue_TryRecv, some R.dtq_Queue_Recv, some R.mtx_All_Unlock, some R.mtx_All_Lock, some R.mtx_All_TryLock, some R.mpf_Pool_Put, some R.mpf_Pool_Poll, some R.mpf_Pool_Get, some R.clock_Clock_Set, some R.cyc_Hands_Start, some R.cyc_Hands_Stop, some R.cyc_Hands_Set, some R.cyc_Hands_Clear, some R.kern_truth, some R.ctx_state_In, some R.ctx_state_Locked, some R.ctx_state_Disabled, some R.ctx_state_Dispatch, some R.ready_Queue_First, some R.clock_Clock_Tick, some R.clock_Clock_Up, some R.slices_SortStableFunc__cyc_Fired_cyc_Fired, some R.cyc_order, some R.slices_Clip__cyc_Fired_cyc_Fired, some R.order_Line_Remove, some R.flag_Flag_Drop, some R.dtq_Queue_Drop, some R.mtx_All_Drop, some R.tcb_Task_Release, some R.kern_Kernel_told, some R.ready_Queue_Change, some R.order_Queue_Change, some R.dtq_Queue_Change, some R.order_Line_Row, some R.mtx_All_in, some R.slices_Clone__int_int, some R.nums_Add, some R.order_Line_Has, some R.slices_ContainsFunc__por_open_por_open, some R.por_Port_in_1, some R.por_line_drop, some R.order_Queue_Add, some R.slices_IndexFunc__por_open_por_open, some R.por_Port_find_1, some R.slices_Delete__por_open_por_open, none, none, some R.order_Line_First, none, none, none, none, none, none, none, none, some R.conf_first, some R.conf_Check_1, some R.conf_objects, some R.conf_Check_2, some R.sem_NewSem, some R.conf_fine, some R.conf_Check_3, some R.dtq_New, some R.conf_Check_4, some R.mtx_New, some R.conf_Check_5, some R.mpf_NewPool, some R.conf_Check_6, some R.flag_NewFlag, some R.conf_Layout, some R.clock_NewClock, some R.mtx_may, some R.mtx_All_settle, some R.tcb_Task_Act, some R.kern_Kernel_enter, none, none, some R.calls_table, some R.kern_Kernel_forget, some R.ready_Queue_Remove, some R.mtx_All_Free, some R.tcb_Task_Kill, some R.ready_Queue_Rotate, some R.tcb_Task_Sleep, some R.tcb_Task_Stay, some R.cyc_Hands_Wait, some R.tcb_Task_Is, some R.tcb_Task_CanAct, some R.tcb_Task_Wake, some R.tcb_Task_CanWake, some R.tcb_Task_Suspend, some R.tcb_Task_Resume, some R.calls_Arity, some R.flag_wish_met, some R.slices_Clip__flag_Woken_flag_Woken, some R.dtq_Queue_next, some R.slices_Delete__int_int, some R.mtx_All_over, some R.mtx_All_stand, some R.slices_BinarySearch__int_int, none, some R.cyc_Hands_cyc, some R.cyc_Hands_alarm, some R.bits_Map_First, some R.heap_Timers_Due, some R.slices_stableCmpFunc_cyc_Fired, some R.cmp_Compare_uint64, some R.cmp_Compare_int, some R.order_Line_at, some R.slices_Delete__order_Item_order_Item, some R.slices_DeleteFunc__int_int, some R.mtx_All_Drop_1, some R.ready_may, some R.ready_Queue_put, some R.order_may, some R.order_Queue_put, some R.slices_Clip__order_Item_order_Item, some R.slices_Clone__order_Item_order_Item, none, none, none, none, none, some R.mtx_Kind_right, some R.heap_New, some R.mtx_All_reckon, some R.mtx_All_leave, some R.mtx_All_rejoin, some R.ready_Queue_Add, none, some R.heap_Timers_Cancel, some R.ready_task, some R.slices_Index__int_int, some R.bits_Map_Clear, some R.mtx_All_Held, some R.tcb_Task_end, some R.clock_Clock_After, some R.slices_Contains__int_int, some R.cmp_Less_int, some R.slices_isNaN_int, none, none, some R.bits_Map_After, some R.heap_Timers_remove, some R.slices_insertionSortCmpFunc_cyc_Fired, some R.slices_symMergeCmpFunc_cyc_Fired, some R.cmp_isNaN_uint64, some R.cmp_isNaN_int, some R.slices_IndexFunc__order_Item_order_Item, some R.order_Line_at_1, some R.slices_IndexFunc__int_int, some R.bits_Map_Set, none, none, none, none, some R.mtx_All_leave_1, none, some R.heap_Timers_find, some R.bits_place, some R.heap_Timers_Insert, none, some R.math_bits_TrailingZeros64, some R.heap_row_up, some R.heap_row_down, none, none, none, none, some R.slices_IndexFunc_heap_row_heap_entry, some R.heap_Timers_find_1, none, some R.heap_row_ahead, some R.slices_swapRangeCmpFunc_cyc_Fired, none, none]
def tab (f : Nat) : Option RFunc := (tabL[f]?).join
theorem tab_ok : TabOk Go.Proofs.Tryz.prog [0] tab := tabOk_of (l := tabL) (⟨⟨_, Go.Proofs.Tryz.func6, R.detenttop_TopServers_ok⟩, ⟨⟨_, Go.Proofs.Tryz.func8, R.detenttop_known_ok⟩, ⟨⟨_, Go.Proofs.Tryz.func9, R.detenttop_tasks_ok⟩, ⟨⟨_, Go.Proofs.Tryz.func10, R.detenttop_open_ok⟩, ⟨⟨_, Go.Proofs.Tryz.func13, R.detenttop_do_ok⟩, ⟨⟨_, Go.Proofs.Tryz.func15, R.kern_Kernel_Task_ok⟩, ⟨⟨_, Go.Proofs.Tryz.func16, R.kern_Kernel_Do_ok⟩, ⟨⟨_, Go.Proofs.Tryz.func17, R.calls_Make_ok⟩, ⟨⟨_, Go.Proofs.Tryz.func18, R.kern_Kernel_Tick_ok⟩, ⟨⟨_, Go.Proofs.Tryz.func23, R.kern_Kernel_Running_ok⟩, ⟨⟨_, Go.Proofs.Tryz.func24, R.detenttop_state_ok⟩, ⟨⟨_, Go.Proofs.Tryz.func32, R.por_New_ok⟩, ⟨⟨_, Go.Proofs.Tryz.func33, R.por_Port_Call_ok⟩, ⟨⟨_, Go.Proofs.Tryz.func34, R.por_Port_Accept_ok⟩, ⟨⟨_, Go.Proofs.Tryz.func35, R.por_Port_Reply_ok⟩, ⟨⟨_, Go.Proofs.Tryz.func36, R.por_Port_Callers_ok⟩, ⟨⟨_, Go.Proofs.Tryz.func37, R.por_Port_Open_ok⟩, ⟨⟨_, Go.Proofs.Tryz.func44, R.kern_New_ok⟩, ⟨⟨_, Go.Proofs.Tryz.func45, R.conf_next_ok⟩, ⟨⟨_, Go.Proofs.Tryz.func46, R.order_New_ok⟩, ⟨⟨_, Go.Proofs.Tryz.func49, R.mtx_All_Pri_ok⟩, ⟨⟨_, Go.Proofs.Tryz.func50, R.mtx_All_Base_ok⟩, ⟨⟨_, Go.Proofs.Tryz.func51, R.calls_Known_ok⟩, ⟨⟨_, Go.Proofs.Tryz.func52, R.kern_say_ok⟩, ⟨⟨_, Go.Proofs.Tryz.func53, R.ctx_Place_May_ok⟩, ⟨⟨_, Go.Proofs.Tryz.func54, R.calls_Kind_ok⟩, ⟨⟨_, Go.Proofs.Tryz.func55, R.kern_Kernel_tasks_ok⟩, ⟨⟨_, Go.Proofs.Tryz.func56, R.kern_Kernel_sem_ok⟩, ⟨⟨_, Go.Proofs.Tryz.func57, R.kern_Kernel_flag_ok⟩, ⟨⟨_, Go.Proofs.Tryz.func58, R.kern_Kernel_data_ok⟩, ⟨⟨_, Go.Proofs.Tryz.func59, R.kern_Kernel_mutex_ok⟩, ⟨⟨_, Go.Proofs.Tryz.func60, R.kern_Kernel_block_ok⟩, ⟨⟨_, Go.Proofs.Tryz.func61, R.kern_Kernel_time_ok⟩, ⟨⟨_, Go.Proofs.Tryz.func62, R.kern_Kernel_state_ok⟩, ⟨⟨_, Go.Proofs.Tryz.func63, R.kern_Kernel_choose_ok⟩, ⟨⟨_, Go.Proofs.Tryz.func64, R.cyc_Hands_Pass_ok⟩, ⟨⟨_, Go.Proofs.Tryz.func65, R.kern_Kernel_leave_ok⟩, ⟨⟨_, Go.Proofs.Tryz.func66, R.kern_Kernel_wake_ok⟩, ⟨⟨_, Go.Proofs.Tryz.func67, R.kern_Kernel_settle_ok⟩, ⟨⟨_, Go.Proofs.Tryz.func68, R.kern_at__sem_Sem_ok⟩, ⟨⟨_, Go.Proofs.Tryz.func70, R.kern_at__mpf_Pool_ok⟩, ⟨⟨_, Go.Proofs.Tryz.func74, R.clock_Clock_Now_ok⟩, ⟨⟨_, Go.Proofs.Tryz.func76, R.por_right_ok⟩, ⟨⟨_, Go.Proofs.Tryz.func77, R.por_Port_in_ok⟩, ⟨⟨_, Go.Proofs.Tryz.func78, R.slices_Clip__byte_byte_ok⟩, ⟨⟨_, Go.Proofs.Tryz.func79, R.slices_Clone__byte_byte_ok⟩, ⟨⟨_, Go.Proofs.Tryz.func80, R.por_line_meet_ok⟩, ⟨⟨_, Go.Proofs.Tryz.func81, R.por_Port_begin_ok⟩, ⟨⟨_, Go.Proofs.Tryz.func82, R.por_line_wait_ok⟩, ⟨⟨_, Go.Proofs.Tryz.func83, R.por_Port_find_ok⟩, ⟨⟨_, Go.Proofs.Tryz.func84, R.por_Port_end_ok⟩, ⟨⟨_, Go.Proofs.Tryz.func85, R.por_line_ids_ok⟩, ⟨⟨_, Go.Proofs.Tryz.func86, R.slices_Clip__int_int_ok⟩, ⟨⟨_, Go.Proofs.Tryz.func90, R.order_Queue_Take_ok⟩, ⟨⟨_, Go.Proofs.Tryz.func92, R.order_Line_Len_ok⟩, ⟨⟨_, Go.Proofs.Tryz.func97, R.conf_Check_ok⟩, ⟨⟨_, Go.Proofs.Tryz.func98, R.ctx_New_ok⟩, ⟨⟨_, Go.Proofs.Tryz.func99, R.ready_New_ok⟩, ⟨⟨_, Go.Proofs.Tryz.func100, R.kern_objects_build_ok⟩, ⟨⟨_, Go.Proofs.Tryz.func101, R.cyc_NewHands_ok⟩, ⟨⟨_, Go.Proofs.Tryz.func102, R.cyc_Hands_Cyclic_ok⟩, ⟨⟨_, Go.Proofs.Tryz.func103, R.cyc_Hands_Alarm_ok⟩, ⟨⟨_, Go.Proofs.Tryz.func104, R.mtx_All_SetBase_ok⟩, ⟨⟨_, Go.Proofs.Tryz.func105, R.tcb_New_ok⟩, ⟨⟨_, Go.Proofs.Tryz.func106, R.kern_Kernel_act_ok⟩, ⟨⟨_, Go.Proofs.Tryz.func107, R.nums_Align_ok⟩, ⟨⟨_, Go.Proofs.Tryz.func111, R.mtx_is_ok⟩, ⟨⟨_, Go.Proofs.Tryz.func112, R.calls_of_ok⟩, ⟨⟨_, Go.Proofs.Tryz.func113, R.ctx_state_may_ok⟩, ⟨⟨_, Go.Proofs.Tryz.func114, R.kern_Kernel_named_ok⟩, ⟨⟨_, Go.Proofs.Tryz.func115, R.ctx_Place_Lock_ok⟩, ⟨⟨_, Go.Proofs.Tryz.func116, R.ctx_Place_Disable_ok⟩, ⟨⟨_, Go.Proofs.Tryz.func117, R.kern_Kernel_over_ok⟩, ⟨⟨_, Go.Proofs.Tryz.func118, R.kern_Kernel_rotate_ok⟩, ⟨⟨_, Go.Proofs.Tryz.func119, R.kern_Kernel_sleep_ok⟩, ⟨⟨_, Go.Proofs.Tryz.func120, R.kern_late_ok⟩, ⟨⟨_, Go.Proofs.Tryz.func121, R.nums_Rel_ok⟩, ⟨⟨_, Go.Proofs.Tryz.func122, R.kern_Kernel_stay_ok⟩, ⟨⟨_, Go.Proofs.Tryz.func123, R.kern_Kernel_change_ok⟩, ⟨⟨_, Go.Proofs.Tryz.func124, R.kern_Kernel_one_ok⟩, ⟨⟨_, Go.Proofs.Tryz.func125, R.kern_timeout_ok⟩, ⟨⟨_, Go.Proofs.Tryz.func126, R.sem_Sem_Signal_ok⟩, ⟨⟨_, Go.Proofs.Tryz.func127, R.kern_Kernel_woken_ok⟩, ⟨⟨_, Go.Proofs.Tryz.func128, R.sem_Sem_Poll_ok⟩, ⟨⟨_, Go.Proofs.Tryz.func129, R.sem_Sem_Wait_ok⟩, ⟨⟨_, Go.Proofs.Tryz.func130, R.kern_at__flag_Flag_ok⟩, ⟨⟨_, Go.Proofs.Tryz.func131, R.flag_Flag_Raise_ok⟩, ⟨⟨_, Go.Proofs.Tryz.func132, R.flag_Flag_Lower_ok⟩, ⟨⟨_, Go.Proofs.Tryz.func133, R.flag_Flag_Poll_ok⟩, ⟨⟨_, Go.Proofs.Tryz.func134, R.flag_Flag_Wait_ok⟩, ⟨⟨_, Go.Proofs.Tryz.func135, R.kern_at__dtq_Queue_ok⟩, ⟨⟨_, Go.Proofs.Tryz.func136, R.dtq_Queue_Force_ok⟩, ⟨⟨_, Go.Proofs.Tryz.func137, R.dtq_Queue_TrySend_ok⟩, ⟨⟨_, Go.Proofs.Tryz.func138, R.dtq_Queue_Send_ok⟩, ⟨⟨_, Go.Proofs.Tryz.func139, R.dtq_Queue_TryRecv_ok⟩, ⟨⟨_, Go.Proofs.Tryz.func140, R.dtq_Queue_Recv_ok⟩, ⟨⟨_, Go.Proofs.Tryz.func141, R.mtx_All_Unlock_ok⟩, ⟨⟨_, Go.Proofs.Tryz.func142, R.mtx_All_Lock_ok⟩, ⟨⟨_, Go.Proofs.Tryz.func143, R.mtx_All_TryLock_ok⟩, ⟨⟨_, Go.Proofs.Tryz.func144, R.mpf_Pool_Put_ok⟩, ⟨⟨_, Go.Proofs.Tryz.func145, R.mpf_Pool_Poll_ok⟩, ⟨⟨_, Go.Proofs.Tryz.func146, R.mpf_Pool_Get_ok⟩, ⟨⟨_, Go.Proofs.Tryz.func147, R.clock_Clock_Set_ok⟩, ⟨⟨_, Go.Proofs.Tryz.func148, R.cyc_Hands_Start_ok⟩, ⟨⟨_, Go.Proofs.Tryz.func149, R.cyc_Hands_Stop_ok⟩, ⟨⟨_, Go.Proofs.Tryz.func150, R.cyc_Hands_Set_ok⟩, ⟨⟨_, Go.Proofs.Tryz.func151, R.cyc_Hands_Clear_ok⟩, ⟨⟨_, Go.Proofs.Tryz.func152, R.kern_truth_ok⟩, ⟨⟨_, Go.Proofs.Tryz.func153, R.ctx_state_In_ok⟩, ⟨⟨_, Go.Proofs.Tryz.func154, R.ctx_state_Locked_ok⟩, ⟨⟨_, Go.Proofs.Tryz.func155, R.ctx_state_Disabled_ok⟩, ⟨⟨_, Go.Proofs.Tryz.func156, R.ctx_state_Dispatch_ok⟩, ⟨⟨_, Go.Proofs.Tryz.func157, R.ready_Queue_First_ok⟩, ⟨⟨_, Go.Proofs.Tryz.func158, R.clock_Clock_Tick_ok⟩, ⟨⟨_, Go.Proofs.Tryz.func159, R.clock_Clock_Up_ok⟩, ⟨⟨_, Go.Proofs.Tryz.func160, R.slices_SortStableFunc__cyc_Fired_cyc_Fired_ok⟩, ⟨⟨_, Go.Proofs.Tryz.func161, R.cyc_order_ok⟩, ⟨⟨_, Go.Proofs.Tryz.func162, R.slices_Clip__cyc_Fired_cyc_Fired_ok⟩, ⟨⟨_, Go.Proofs.Tryz.func163, R.order_Line_Remove_ok⟩, ⟨⟨_, Go.Proofs.Tryz.func164, R.flag_Flag_Drop_ok⟩, ⟨⟨_, Go.Proofs.Tryz.func165, R.dtq_Queue_Drop_ok⟩, ⟨⟨_, Go.Proofs.Tryz.func166, R.mtx_All_Drop_ok⟩, ⟨⟨_, Go.Proofs.Tryz.func167, R.tcb_Task_Release_ok⟩, ⟨⟨_, Go.Proofs.Tryz.func168, R.kern_Kernel_told_ok⟩, ⟨⟨_, Go.Proofs.Tryz.func169, R.ready_Queue_Change_ok⟩, ⟨⟨_, Go.Proofs.Tryz.func170, R.order_Queue_Change_ok⟩, ⟨⟨_, Go.Proofs.Tryz.func171, R.dtq_Queue_Change_ok⟩, ⟨⟨_, Go.Proofs.Tryz.func172, R.order_Line_Row_ok⟩, ⟨⟨_, Go.Proofs.Tryz.func173, R.mtx_All_in_ok⟩, ⟨⟨_, Go.Proofs.Tryz.func174, R.slices_Clone__int_int_ok⟩, ⟨⟨_, Go.Proofs.Tryz.func175, R.nums_Add_ok⟩, ⟨⟨_, Go.Proofs.Tryz.func176, R.order_Line_Has_ok⟩, ⟨⟨_, Go.Proofs.Tryz.func177, R.slices_ContainsFunc__por_open_por_open_ok⟩, ⟨⟨_, Go.Proofs.Tryz.func178, R.por_Port_in_1_ok⟩, ⟨⟨_, Go.Proofs.Tryz.func179, R.por_line_drop_ok⟩, ⟨⟨_, Go.Proofs.Tryz.func180, R.order_Queue_Add_ok⟩, ⟨⟨_, Go.Proofs.Tryz.func181, R.slices_IndexFunc__por_open_por_open_ok⟩, ⟨⟨_, Go.Proofs.Tryz.func182, R.por_Port_find_1_ok⟩, ⟨⟨_, Go.Proofs.Tryz.func183, R.slices_Delete__por_open_por_open_ok⟩, ⟨⟨_, Go.Proofs.Tryz.func186, R.order_Line_First_ok⟩, ⟨⟨_, Go.Proofs.Tryz.func195, R.conf_first_ok⟩, ⟨⟨_, Go.Proofs.Tryz.func196, R.conf_Check_1_ok⟩, ⟨⟨_, Go.Proofs.Tryz.func197, R.conf_objects_ok⟩, ⟨⟨_, Go.Proofs.Tryz.func198, R.conf_Check_2_ok⟩, ⟨⟨_, Go.Proofs.Tryz.func199, R.sem_NewSem_ok⟩, ⟨⟨_, Go.Proofs.Tryz.func200, R.conf_fine_ok⟩, ⟨⟨_, Go.Proofs.Tryz.func201, R.conf_Check_3_ok⟩, ⟨⟨_, Go.Proofs.Tryz.func202, R.dtq_New_ok⟩, ⟨⟨_, Go.Proofs.Tryz.func203, R.conf_Check_4_ok⟩, ⟨⟨_, Go.Proofs.Tryz.func204, R.mtx_New_ok⟩, ⟨⟨_, Go.Proofs.Tryz.func205, R.conf_Check_5_ok⟩, ⟨⟨_, Go.Proofs.Tryz.func206, R.mpf_NewPool_ok⟩, ⟨⟨_, Go.Proofs.Tryz.func207, R.conf_Check_6_ok⟩, ⟨⟨_, Go.Proofs.Tryz.func208, R.flag_NewFlag_ok⟩, ⟨⟨_, Go.Proofs.Tryz.func209, R.conf_Layout_ok⟩, ⟨⟨_, Go.Proofs.Tryz.func210, R.clock_NewClock_ok⟩, ⟨⟨_, Go.Proofs.Tryz.func211, R.mtx_may_ok⟩, ⟨⟨_, Go.Proofs.Tryz.func212, R.mtx_All_settle_ok⟩, ⟨⟨_, Go.Proofs.Tryz.func213, R.tcb_Task_Act_ok⟩, ⟨⟨_, Go.Proofs.Tryz.func214, R.kern_Kernel_enter_ok⟩, ⟨⟨_, Go.Proofs.Tryz.func217, R.calls_table_ok⟩, ⟨⟨_, Go.Proofs.Tryz.func218, R.kern_Kernel_forget_ok⟩, ⟨⟨_, Go.Proofs.Tryz.func219, R.ready_Queue_Remove_ok⟩, ⟨⟨_, Go.Proofs.Tryz.func220, R.mtx_All_Free_ok⟩, ⟨⟨_, Go.Proofs.Tryz.func221, R.tcb_Task_Kill_ok⟩, ⟨⟨_, Go.Proofs.Tryz.func222, R.ready_Queue_Rotate_ok⟩, ⟨⟨_, Go.Proofs.Tryz.func223, R.tcb_Task_Sleep_ok⟩, ⟨⟨_, Go.Proofs.Tryz.func224, R.tcb_Task_Stay_ok⟩, ⟨⟨_, Go.Proofs.Tryz.func225, R.cyc_Hands_Wait_ok⟩, ⟨⟨_, Go.Proofs.Tryz.func226, R.tcb_Task_Is_ok⟩, ⟨⟨_, Go.Proofs.Tryz.func227, R.tcb_Task_CanAct_ok⟩, ⟨⟨_, Go.Proofs.Tryz.func228, R.tcb_Task_Wake_ok⟩, ⟨⟨_, Go.Proofs.Tryz.func229, R.tcb_Task_CanWake_ok⟩, ⟨⟨_, Go.Proofs.Tryz.func230, R.tcb_Task_Suspend_ok⟩, ⟨⟨_, Go.Proofs.Tryz.func231, R.tcb_Task_Resume_ok⟩, ⟨⟨_, Go.Proofs.Tryz.func232, R.calls_Arity_ok⟩, ⟨⟨_, Go.Proofs.Tryz.func233, R.flag_wish_met_ok⟩, ⟨⟨_, Go.Proofs.Tryz.func234, R.slices_Clip__flag_Woken_flag_Woken_ok⟩, ⟨⟨_, Go.Proofs.Tryz.func235, R.dtq_Queue_next_ok⟩, ⟨⟨_, Go.Proofs.Tryz.func236, R.slices_Delete__int_int_ok⟩, ⟨⟨_, Go.Proofs.Tryz.func237, R.mtx_All_over_ok⟩, ⟨⟨_, Go.Proofs.Tryz.func238, R.mtx_All_stand_ok⟩, ⟨⟨_, Go.Proofs.Tryz.func239, R.slices_BinarySearch__int_int_ok⟩, ⟨⟨_, Go.Proofs.Tryz.func241, R.cyc_Hands_cyc_ok⟩, ⟨⟨_, Go.Proofs.Tryz.func242, R.cyc_Hands_alarm_ok⟩, ⟨⟨_, Go.Proofs.Tryz.func243, R.bits_Map_First_ok⟩, ⟨⟨_, Go.Proofs.Tryz.func244, R.heap_Timers_Due_ok⟩, ⟨⟨_, Go.Proofs.Tryz.func245, R.slices_stableCmpFunc_cyc_Fired_ok⟩, ⟨⟨_, Go.Proofs.Tryz.func246, R.cmp_Compare_uint64_ok⟩, ⟨⟨_, Go.Proofs.Tryz.func247, R.cmp_Compare_int_ok⟩, ⟨⟨_, Go.Proofs.Tryz.func248, R.order_Line_at_ok⟩, ⟨⟨_, Go.Proofs.Tryz.func249, R.slices_Delete__order_Item_order_Item_ok⟩, ⟨⟨_, Go.Proofs.Tryz.func250, R.slices_DeleteFunc__int_int_ok⟩, ⟨⟨_, Go.Proofs.Tryz.func251, R.mtx_All_Drop_1_ok⟩, ⟨⟨_, Go.Proofs.Tryz.func252, R.ready_may_ok⟩, ⟨⟨_, Go.Proofs.Tryz.func253, R.ready_Queue_put_ok⟩, ⟨⟨_, Go.Proofs.Tryz.func254, R.order_may_ok⟩, ⟨⟨_, Go.Proofs.Tryz.func255, R.order_Queue_put_ok⟩, ⟨⟨_, Go.Proofs.Tryz.func256, R.slices_Clip__order_Item_order_Item_ok⟩, ⟨⟨_, Go.Proofs.Tryz.func257, R.slices_Clone__order_Item_order_Item_ok⟩, ⟨⟨_, Go.Proofs.Tryz.func263, R.mtx_Kind_right_ok⟩, ⟨⟨_, Go.Proofs.Tryz.func264, R.heap_New_ok⟩, ⟨⟨_, Go.Proofs.Tryz.func265, R.mtx_All_reckon_ok⟩, ⟨⟨_, Go.Proofs.Tryz.func266, R.mtx_All_leave_ok⟩, ⟨⟨_, Go.Proofs.Tryz.func267, R.mtx_All_rejoin_ok⟩, ⟨⟨_, Go.Proofs.Tryz.func268, R.ready_Queue_Add_ok⟩, ⟨⟨_, Go.Proofs.Tryz.func270, R.heap_Timers_Cancel_ok⟩, ⟨⟨_, Go.Proofs.Tryz.func271, R.ready_task_ok⟩, ⟨⟨_, Go.Proofs.Tryz.func272, R.slices_Index__int_int_ok⟩, ⟨⟨_, Go.Proofs.Tryz.func273, R.bits_Map_Clear_ok⟩, ⟨⟨_, Go.Proofs.Tryz.func274, R.mtx_All_Held_ok⟩, ⟨⟨_, Go.Proofs.Tryz.func275, R.tcb_Task_end_ok⟩, ⟨⟨_, Go.Proofs.Tryz.func276, R.clock_Clock_After_ok⟩, ⟨⟨_, Go.Proofs.Tryz.func277, R.slices_Contains__int_int_ok⟩, ⟨⟨_, Go.Proofs.Tryz.func278, R.cmp_Less_int_ok⟩, ⟨⟨_, Go.Proofs.Tryz.func279, R.slices_isNaN_int_ok⟩, ⟨⟨_, Go.Proofs.Tryz.func282, R.bits_Map_After_ok⟩, ⟨⟨_, Go.Proofs.Tryz.func283, R.heap_Timers_remove_ok⟩, ⟨⟨_, Go.Proofs.Tryz.func284, R.slices_insertionSortCmpFunc_cyc_Fired_ok⟩, ⟨⟨_, Go.Proofs.Tryz.func285, R.slices_symMergeCmpFunc_cyc_Fired_ok⟩, ⟨⟨_, Go.Proofs.Tryz.func286, R.cmp_isNaN_uint64_ok⟩, ⟨⟨_, Go.Proofs.Tryz.func287, R.cmp_isNaN_int_ok⟩, ⟨⟨_, Go.Proofs.Tryz.func288, R.slices_IndexFunc__order_Item_order_Item_ok⟩, ⟨⟨_, Go.Proofs.Tryz.func289, R.order_Line_at_1_ok⟩, ⟨⟨_, Go.Proofs.Tryz.func290, R.slices_IndexFunc__int_int_ok⟩, ⟨⟨_, Go.Proofs.Tryz.func291, R.bits_Map_Set_ok⟩, ⟨⟨_, Go.Proofs.Tryz.func296, R.mtx_All_leave_1_ok⟩, ⟨⟨_, Go.Proofs.Tryz.func298, R.heap_Timers_find_ok⟩, ⟨⟨_, Go.Proofs.Tryz.func299, R.bits_place_ok⟩, ⟨⟨_, Go.Proofs.Tryz.func300, R.heap_Timers_Insert_ok⟩, ⟨⟨_, Go.Proofs.Tryz.func302, R.math_bits_TrailingZeros64_ok⟩, ⟨⟨_, Go.Proofs.Tryz.func303, R.heap_row_up_ok⟩, ⟨⟨_, Go.Proofs.Tryz.func304, R.heap_row_down_ok⟩, ⟨⟨_, Go.Proofs.Tryz.func309, R.slices_IndexFunc_heap_row_heap_entry_ok⟩, ⟨⟨_, Go.Proofs.Tryz.func310, R.heap_Timers_find_1_ok⟩, ⟨⟨_, Go.Proofs.Tryz.func312, R.heap_row_ahead_ok⟩, ⟨⟨_, Go.Proofs.Tryz.func313, R.slices_swapRangeCmpFunc_cyc_Fired_ok⟩, trivial⟩⟩⟩⟩⟩⟩⟩⟩⟩⟩⟩⟩⟩⟩⟩⟩⟩⟩⟩⟩⟩⟩⟩⟩⟩⟩⟩⟩⟩⟩⟩⟩⟩⟩⟩⟩⟩⟩⟩⟩⟩⟩⟩⟩⟩⟩⟩⟩⟩⟩⟩⟩⟩⟩⟩⟩⟩⟩⟩⟩⟩⟩⟩⟩⟩⟩⟩⟩⟩⟩⟩⟩⟩⟩⟩⟩⟩⟩⟩⟩⟩⟩⟩⟩⟩⟩⟩⟩⟩⟩⟩⟩⟩⟩⟩⟩⟩⟩⟩⟩⟩⟩⟩⟩⟩⟩⟩⟩⟩⟩⟩⟩⟩⟩⟩⟩⟩⟩⟩⟩⟩⟩⟩⟩⟩⟩⟩⟩⟩⟩⟩⟩⟩⟩⟩⟩⟩⟩⟩⟩⟩⟩⟩⟩⟩⟩⟩⟩⟩⟩⟩⟩⟩⟩⟩⟩⟩⟩⟩⟩⟩⟩⟩⟩⟩⟩⟩⟩⟩⟩⟩⟩⟩⟩⟩⟩⟩⟩⟩⟩⟩⟩⟩⟩⟩⟩⟩⟩⟩⟩⟩⟩⟩⟩⟩⟩⟩⟩⟩⟩⟩⟩⟩⟩⟩⟩⟩⟩⟩⟩⟩⟩⟩⟩⟩⟩⟩⟩⟩⟩⟩⟩⟩⟩⟩⟩⟩⟩⟩⟩⟩⟩⟩⟩⟩⟩⟩)
theorem tab_wf : TabWf tab := tabWf_of (l := tabL) (by kernel_rfl)
theorem tab_detenttop_TopServers : tab F.detenttop_TopServers = some R.detenttop_TopServers := rfl
theorem tab_por_New : tab F.por_New = some R.por_New := rfl
theorem tab_por_Port_Call : tab F.por_Port_Call = some R.por_Port_Call := rfl
theorem tab_por_Port_Accept : tab F.por_Port_Accept = some R.por_Port_Accept := rfl
theorem tab_por_Port_Reply : tab F.por_Port_Reply = some R.por_Port_Reply := rfl
theorem tab_por_Port_Callers : tab F.por_Port_Callers = some R.por_Port_Callers := rfl
theorem tab_por_Port_Open : tab F.por_Port_Open = some R.por_Port_Open := rfl
theorem tab_order_New : tab F.order_New = some R.order_New := rfl
theorem tab_por_right : tab F.por_right = some R.por_right := rfl
theorem tab_por_Port_in : tab F.por_Port_in = some R.por_Port_in := rfl
theorem tab_slices_Clip__byte_byte : tab F.slices_Clip__byte_byte = some R.slices_Clip__byte_byte := rfl
theorem tab_slices_Clone__byte_byte : tab F.slices_Clone__byte_byte = some R.slices_Clone__byte_byte := rfl
theorem tab_por_line_meet : tab F.por_line_meet = some R.por_line_meet := rfl
theorem tab_por_Port_begin : tab F.por_Port_begin = some R.por_Port_begin := rfl
theorem tab_por_line_wait : tab F.por_line_wait = some R.por_line_wait := rfl
theorem tab_por_Port_find : tab F.por_Port_find = some R.por_Port_find := rfl
theorem tab_por_Port_end : tab F.por_Port_end = some R.por_Port_end := rfl
theorem tab_por_line_ids : tab F.por_line_ids = some R.por_line_ids := rfl
theorem tab_slices_Clip__int_int : tab F.slices_Clip__int_int = some R.slices_Clip__int_int := rfl
theorem tab_order_Line_Has : tab F.order_Line_Has = some R.order_Line_Has := rfl
theorem tab_slices_ContainsFunc__por_open_por_open : tab F.slices_ContainsFunc__por_open_por_open = some R.slices_ContainsFunc__por_open_por_open := rfl
theorem tab_por_Port_in_1 : tab F.por_Port_in_1 = some R.por_Port_in_1 := rfl
theorem tab_order_Line_Row : tab F.order_Line_Row = some R.order_Line_Row := rfl
theorem tab_por_line_drop : tab F.por_line_drop = some R.por_line_drop := rfl
theorem tab_order_Queue_Add : tab F.order_Queue_Add = some R.order_Queue_Add := rfl
theorem tab_slices_IndexFunc__por_open_por_open : tab F.slices_IndexFunc__por_open_por_open = some R.slices_IndexFunc__por_open_por_open := rfl
theorem tab_por_Port_find_1 : tab F.por_Port_find_1 = some R.por_Port_find_1 := rfl
theorem tab_slices_Delete__por_open_por_open : tab F.slices_Delete__por_open_por_open = some R.slices_Delete__por_open_por_open := rfl
theorem tab_order_Line_Remove : tab F.order_Line_Remove = some R.order_Line_Remove := rfl
theorem tab_order_Line_at : tab F.order_Line_at = some R.order_Line_at := rfl
theorem tab_slices_Clip__order_Item_order_Item : tab F.slices_Clip__order_Item_order_Item = some R.slices_Clip__order_Item_order_Item := rfl
theorem tab_slices_Clone__order_Item_order_Item : tab F.slices_Clone__order_Item_order_Item = some R.slices_Clone__order_Item_order_Item := rfl
theorem tab_order_may : tab F.order_may = some R.order_may := rfl
theorem tab_order_Queue_put : tab F.order_Queue_put = some R.order_Queue_put := rfl
theorem tab_slices_Delete__order_Item_order_Item : tab F.slices_Delete__order_Item_order_Item = some R.slices_Delete__order_Item_order_Item := rfl
theorem tab_slices_IndexFunc__order_Item_order_Item : tab F.slices_IndexFunc__order_Item_order_Item = some R.slices_IndexFunc__order_Item_order_Item := rfl
theorem tab_order_Line_at_1 : tab F.order_Line_at_1 = some R.order_Line_at_1 := rfl
end Go.AM

/-
  order: who waits, in which order.
-/
namespace Go.AM
def encO (x : Int × Int) : List SV := [.int .i64 x.1, .int .i64 x.2]
theorem encO_len (x : Int × Int) : (encO x).length = 2 := rfl
def Qu (p : Nat) (b : Bool) (q : List (Int × Int)) : Asr := Asr.ex fun s : SV => Asr.all [Cel p [s, .bool b], Row encO 2 s q]
theorem Qu.open' {p : Nat} {b : Bool} {q : List (Int × Int)} {L R : List Asr} (hin : In1 (Qu p b q) L R) (ρ : HF) (H : AH) (X : List Asr) (hs : Sat ρ H (L ++ X)) : ∃ s, Sat ρ H ((Cel p [s, .bool b] :: Row encO 2 s q :: R) ++ X) := by
  have h1 : Sat ρ H (Qu p b q :: (R ++ X)) := hs.perm (hin.perm.append_right X)
  obtain ⟨s, h2⟩ := Sat.ex h1
  exact ⟨s, Sat.all (l := [Cel p [s, .bool b], Row encO 2 s q]) h2⟩
theorem Qu.shut {p : Nat} {b : Bool} {q : List (Int × Int)} {s : SV} {L : List Asr} : LEnt (Cel p [s, .bool b] :: Row encO 2 s q :: L) (Qu p b q :: L) := fun ρ H R hs => Sat.mkEx s (Sat.mkAll (l := [Cel p [s, .bool b], Row encO 2 s q]) hs)
section
variable {tab : Nat → Option RFunc} {ext : Nat → List AV → AH → Option (AV × AH)} {n : Nat} {E : Env} {L R : List Asr} {p : Nat} {b : Bool} {q : List (Int × Int)}
theorem RP.qu {os : List ROper} {K : Env → List Asr → Prop} (hin : In1 (Qu p b q) L R) (k : ∀ s, RP tab ext n E (Cel p [s, .bool b] :: Row encO 2 s q :: R) os K) : RP tab ext n E L os K :=
  RP.imp (L' := fun s : SV => Cel p [s, .bool b] :: Row encO 2 s q :: R) (fun ρ H X hs => Qu.open' hin ρ H X hs) k
theorem TC.qu {c : RC} {K : Pst} (hin : In1 (Qu p b q) L R) (k : ∀ s, TC tab ext n E (Cel p [s, .bool b] :: Row encO 2 s q :: R) c K) : TC tab ext n E L c K :=
  TC.imp (L' := fun s : SV => Cel p [s, .bool b] :: Row encO 2 s q :: R) (fun ρ H X hs => Qu.open' hin ρ H X hs) k
end
def qidx (q : List (Int × Int)) (id : Int) : Option Nat := q.findIdx? fun x => decide (x.1 = id)
def qhas (q : List (Int × Int)) (id : Int) : Bool := (qidx q id).isSome
def qrem (q : List (Int × Int)) (id : Int) : List (Int × Int) := match qidx q id with | some i => q.take i ++ q.drop (i + 1) | none => q
def qback (q : List (Int × Int)) (pri : Int) : Nat := (q.reverse.takeWhile fun y => decide (pri < y.2)).length
def qpos (b : Bool) (q : List (Int × Int)) (pri : Int) : Nat := if b then q.length - qback q pri else q.length
def qput (b : Bool) (q : List (Int × Int)) (x : Int × Int) : List (Int × Int) := q.take (qpos b q x.2) ++ x :: q.drop (qpos b q x.2)
theorem plc_neg (o : Option Nat) : (plc o < 0) ↔ o = none := by
  cases o with
  | none => simp [plc]
  | some i => simp only [plc, reduceCtorEq, iff_false]; omega
theorem qidx_lt {q : List (Int × Int)} {id : Int} {i : Nat} (h : qidx q id = some i) : i < q.length := (List.findIdx?_eq_some_iff_getElem.1 h).1
set_option maxHeartbeats 8000000
attribute [local irreducible] sq bk lpK mdx rt TC RP WK Cel Ro Row Fre RowsA RowsBut
attribute [local irreducible] R.order_Queue_put_s1
section
variable {ext : Nat → List AV → AH → Option (AV × AH)} {p : Nat} {b : Bool} {q : List (Int × Int)}
theorem orClone (s : SV) (hq : q.length ≤ 1000000) : Tri tab ext F.slices_Clone__order_Item_order_Item [.s s] [Row encO 2 s q] fun v P' => ∃ s', v = .s s' ∧ P' = [Row encO 2 s' q, Row encO 2 s q] := gClone (k := 2) (bytes := 16) tab_slices_Clone__order_Item_order_Item encO_len s q (by omega)
theorem orClip (s : SV) : Tri tab ext F.slices_Clip__order_Item_order_Item [.s s] [Row encO 2 s q] fun v P' => ∃ s', v = .s s' ∧ P' = [Row encO 2 s' q] := gClip (k := 2) tab_slices_Clip__order_Item_order_Item encO_len s q
theorem orDelete (s : SV) (i : Nat) (hq : q.length ≤ 1000000) (hi : i < q.length) : Tri tab ext F.slices_Delete__order_Item_order_Item [.s s, i64 i, i64 ((i + 1 : Nat) : Int)] [Row encO 2 s q] fun v P' => ∃ s', v = .s s' ∧ P' = [Row encO 2 s' (q.take i ++ q.drop (i + 1))] := gDelete (k := 2) (bytes := 16) (z := [.int .i64 0, .int .i64 0]) tab_slices_Delete__order_Item_order_Item encO_len rfl s q i hq (by omega) hi
theorem orAt1 (w : Int × Int) (cb : Nat) (id : Int) : Tri tab ext F.order_Line_at_1 ([.agg (encO w)] ++ [(cb, 0)].map fun a => .s (.ptr (some a))) [Cel cb [.int .i64 id]] fun v P' => v = bl (decide (w.1 = id)) ∧ P' = [Cel cb [.int .i64 id]] := by
  refine Tri.go tab_order_Line_at_1 rfl ?_
  refine RUN ?_
  refine RP.bx rfl rfl rfl fun c => ?_
  refine RUN ?_
  exact rt_r rfl ⟨rfl, rfl⟩ (LEnt.of (.c (.n .h) .e))
theorem orAt (hq : q.length ≤ 1000000) (id : Int) : Tri tab ext F.order_Line_at [.s (.ptr (some (p, 0))), i64 id] [Qu p b q] fun v P' => v = i64 (plc (qidx q id)) ∧ P' = [Qu p b q] := by
  refine Tri.go tab_order_Line_at rfl ?_
  refine RUN ?_
  refine RP.bx rfl rfl rfl fun cb => ?_
  refine RUN ?_
  refine RP.qu (.n .h) fun s => ?_
  refine RUN ?_
  refine RP.c rfl (gIndex (k := 2) tab_slices_IndexFunc__order_Item_order_Item encO_len s q hq F.order_Line_at_1 [(cb, 0)] (fun x => decide (x.1 = id)) [Cel cb [.int .i64 id]] fun w => orAt1 w cb id) (.c (.n .h) (.c (.n .h) .e)) rfl ?_
  rintro v P' ⟨rfl, rfl⟩
  refine RUN ?_
  exact rt_r rfl ⟨rfl, rfl⟩ ((LEnt.of (.c (.n (.n .h)) (.c .h .e))).trans Qu.shut)
theorem orHas (hq : q.length ≤ 1000000) (id : Int) : Tri tab ext F.order_Line_Has [.s (.ptr (some (p, 0))), i64 id] [Qu p b q] fun v P' => v = bl (qhas q id) ∧ P' = [Qu p b q] := by
  refine Tri.go tab_order_Line_Has rfl ?_
  refine RUN ?_
  refine RP.c rfl (orAt hq id) (.c .h .e) rfl ?_
  rintro v P' ⟨rfl, rfl⟩
  refine RUN ?_
  refine rt_r rfl ⟨?_, rfl⟩ (LEnt.refl _)
  unfold qhas
  cases qidx q id with
  | none => rfl
  | some i => exact congrArg bl (by simp [plc])
theorem orRow (hq : q.length ≤ 1000000) : Tri tab ext F.order_Line_Row [.s (.ptr (some (p, 0)))] [Qu p b q] fun v P' => ∃ s', v = .s s' ∧ P' = [Row encO 2 s' q, Qu p b q] := by
  refine Tri.go tab_order_Line_Row rfl ?_
  refine RUN ?_
  refine RP.qu .h fun s => ?_
  refine RUN ?_
  refine RP.c rfl (orClone s hq) (.c (.n .h) .e) rfl ?_
  rintro v P' ⟨s', rfl, rfl⟩
  refine RUN ?_
  refine RP.c rfl (orClip s') (.c .h .e) rfl ?_
  rintro v P' ⟨s'', rfl, rfl⟩
  refine RUN ?_
  exact rt_r rfl ⟨_, rfl, rfl⟩ ((LEnt.of (.c (.n (.n .h)) (.c (.n .h) (.c .h .e)))).trans (Qu.shut.trans (LEnt.of (.c (.n .h) (.c .h .e)))))
theorem orRemove (hq : q.length ≤ 1000000) (id : Int) : Tri tab ext F.order_Line_Remove [.s (.ptr (some (p, 0))), i64 id] [Qu p b q] fun v P' => v = bl (qhas q id) ∧ P' = [Qu p b (qrem q id)] := by
  refine Tri.go tab_order_Line_Remove rfl ?_
  refine RUN ?_
  refine RP.c rfl (orAt hq id) (.c .h .e) rfl ?_
  rintro v P' ⟨rfl, rfl⟩
  refine RUN ?_
  refine TC.cP rfl (fun h => ?_) fun h => ?_
  · have h0 := (plc_neg _).1 h
    refine RUN ?_
    refine rt_r rfl ⟨by unfold qhas; rw [h0]; rfl, ?_⟩ (LEnt.refl _)
    unfold qrem; rw [h0]; rfl
  · cases h0 : qidx q id with
    | none => rw [h0] at h; exact absurd (by decide) h
    | some i =>
      have hi := qidx_lt h0
      refine RUN ?_
      refine RP.qu .h fun s => ?_
      refine RUN ?_
      have e : plc (some i) = (i : Int) := rfl
      rw [e]
      refine RUN ?_
      refine RP.c rfl (orDelete s i hq hi) (.c (.n .h) .e) rfl ?_
      rintro v P' ⟨s', rfl, rfl⟩
      refine RUN ?_
      refine rt_r rfl ⟨by unfold qhas; rw [h0]; rfl, ?_⟩ ((LEnt.of (.c (.n .h) (.c .h .e))).trans Qu.shut)
      unfold qrem; rw [h0]
theorem qback_eq {q : List (Int × Int)} {pri : Int} {i : Nat} (hi : i ≤ q.length) (h1 : ∀ y ∈ q.drop i, pri < y.2) (h2 : ∀ j y, i = j + 1 → q[j]? = some y → ¬ pri < y.2) : q.length - qback q pri = i := by
  unfold qback
  have e : q.reverse = (q.drop i).reverse ++ (q.take i).reverse := by rw [← List.reverse_append, List.take_append_drop]
  rw [e, List.takeWhile_append_of_pos (fun y hy => by simpa using h1 y (List.mem_reverse.1 hy))]
  have e2 : (q.take i).reverse.takeWhile (fun y => decide (pri < y.2)) = [] := by
    cases i with
    | zero => rfl
    | succ j =>
      have hj : j < q.length := by omega
      rw [List.take_add_one, List.getElem?_eq_getElem hj, Option.toList_some, List.reverse_append]
      simp only [List.reverse_singleton, List.singleton_append, List.takeWhile_cons]
      rw [if_neg]
      simpa using h2 j _ rfl (List.getElem?_eq_getElem hj)
  rw [e2, List.append_nil, List.length_reverse, List.length_drop]
  omega
theorem orMay (x : Int) : Tri tab ext F.order_may [i64 x] [] fun v P' => v = bl (decide (1 ≤ x ∧ x ≤ 16)) ∧ P' = [] := by
  refine Tri.go tab_order_may rfl ?_
  refine RUN ?_
  by_cases h : x ≥ 1
  · rw [decide_eq_true h]
    refine RUN ?_
    refine rt_r rfl ⟨?_, rfl⟩ (LEnt.refl _)
    exact congrArg bl (by rw [decide_eq_decide]; omega)
  · rw [decide_eq_false h]
    refine RUN ?_
    refine rt_r rfl ⟨?_, rfl⟩ (LEnt.refl _)
    exact congrArg bl (by rw [eq_comm, decide_eq_false_iff_not]; omega)
theorem orNew (b : Bool) : Tri tab ext F.order_New [bl b] [] fun v P' => ∃ p, v = .s (.ptr (some (p, 0))) ∧ P' = [Qu p b []] := by
  refine Tri.go tab_order_New rfl ?_
  refine RUN ?_
  refine RP.bx rfl rfl rfl fun p => ?_
  refine RUN ?_
  refine rt_r rfl ⟨p, rfl, rfl⟩ ?_
  exact fun ρ H R hs => Qu.shut ρ H R ((row_nil (enc := encO) (k := 2) 1 _ ρ H R hs).perm (List.Perm.swap _ _ _))
theorem orPut (hI : ∀ args H, ext F.slices_Insert__order_Item_order_Item args H = insA 2 16 args H) (hq : q.length ≤ 1000) (x : Int × Int) : Tri tab ext F.order_Queue_put [.s (.ptr (some (p, 0))), .agg (encO x)] [Qu p b q] fun _ P' => P' = [Qu p b (qput b q x)] := by
  refine Tri.go tab_order_Queue_put rfl ?_
  refine RUN ?_
  refine RP.bx rfl rfl rfl fun c => ?_
  refine RUN ?_
  refine RP.qu (.n .h) fun s => ?_
  refine RUN ?_
  have key : ∀ i : Nat, i ≤ q.length → i = qpos b q x.2 → TC tab ext R.order_Queue_put.ntmps [(0, .s (.ptr (some (p, 0)))), (3, .s (.ptr (some (c, 0)))), (4, i64 i)] [Cel p [s, .bool b], Row encO 2 s q, Cel c (encO x)] R.order_Queue_put_s1 (rt R.order_Queue_put.results fun _ P' => P' = [Qu p b (qput b q x)]) := by
    intro i hi he
    unfold R.order_Queue_put_s1
    refine RUN ?_
    refine RP.bs rfl rfl rfl fun xb => ?_
    refine RUN ?_
    refine RP.c rfl (ins_tri (enc := encO) (k := 2) (bytes := 16) rfl hI encO_len (by decide) s q i x xb 1 hi (by omega) (by omega)) (.c (by ((repeat (first | exact .h | apply In1.n)); fail_if_success refine ?_)) (.c .h .e)) rfl ?_
    rintro v P' ⟨s', rfl, rfl⟩
    refine RUN ?_
    refine rt_n ⟨[], rfl, trivial⟩ rfl ((LEnt.of (.c (.n .h) (.c .h .e))).trans ?_)
    unfold qput
    rw [← he]
    exact Qu.shut
  cases b with
  | false =>
    refine TC.loop (fun _ : Unit => 0) (fun _ => True) (fun _ => [(0, .s (.ptr (some (p, 0)))), (3, .s (.ptr (some (c, 0)))), (4, i64 q.length)]) (fun _ => [Cel p [s, .bool false], Row encO 2 s q, Cel c (encO x)]) () trivial ⟨rfl, rfl, rfl, trivial⟩ (LEnt.refl _) ?_
    rintro ⟨⟩ _
    refine RUN ?_
    refine TC.env ?_ (key q.length (Nat.le_refl _) rfl)
    exact ⟨rfl, rfl, rfl, trivial⟩
  | true =>
    refine TC.loop (fun i : Nat => i) (fun i => i ≤ q.length ∧ ∀ y ∈ q.drop i, x.2 < y.2) (fun i => [(0, .s (.ptr (some (p, 0)))), (3, .s (.ptr (some (c, 0)))), (4, i64 i)]) (fun _ => [Cel p [s, .bool true], Row encO 2 s q, Cel c (encO x)]) q.length ⟨Nat.le_refl _, fun y hy => by rw [List.drop_length] at hy; cases hy⟩ ⟨rfl, rfl, rfl, trivial⟩ (LEnt.refl _) ?_
    rintro i ⟨hi, hd⟩
    refine RUN ?_
    by_cases h0 : (i : Int) > 0
    · rw [decide_eq_true h0]
      obtain ⟨j, rfl⟩ : ∃ j, i = j + 1 := ⟨i - 1, by omega⟩
      have hj : j < q.length := by omega
      obtain ⟨y, hy⟩ : ∃ y, q[j]? = some y := ⟨_, List.getElem?_eq_getElem hj⟩
      refine RUN ?_
      refine TC.cP rfl (fun h1 => ?_) fun h1 => ?_
      · refine RUN ?_
        refine lp_n j ⟨by omega, fun z hz => ?_⟩ (by omega) ⟨rfl, rfl, rfl, trivial⟩ (LEnt.refl _)
        rw [List.drop_eq_getElem_cons hj] at hz
        rcases List.mem_cons.1 hz with rfl | hz
        · obtain ⟨_, rfl⟩ := List.getElem?_eq_some_iff.1 hy
          omega
        · exact hd z hz
      · refine RUN ?_
        refine TC.env ?_ (key (j + 1) hi ?_)
        · exact ⟨rfl, rfl, rfl, trivial⟩
        unfold qpos
        rw [if_pos rfl, qback_eq hi hd]
        intro j' z hz hq'
        cases hz
        rw [hy] at hq'
        cases hq'
        omega
    · obtain rfl : i = 0 := by omega
      refine RUN ?_
      refine TC.env ?_ (key 0 hi ?_)
      · exact ⟨rfl, rfl, rfl, trivial⟩
      unfold qpos
      rw [if_pos rfl, qback_eq hi hd]
      intro j' z hz
      cases hz
theorem orAdd (hI : ∀ args H, ext F.slices_Insert__order_Item_order_Item args H = insA 2 16 args H) (hq : q.length ≤ 1000) (id pri : Int) (h1 : 1 ≤ id ∧ id ≤ 16) (h2 : 1 ≤ pri ∧ pri ≤ 16) (h3 : qhas q id = false) : Tri tab ext F.order_Queue_Add [.s (.ptr (some (p, 0))), i64 id, i64 pri] [Qu p b q] fun v P' => v = i64 0 ∧ P' = [Qu p b (qput b q (id, pri))] := by
  refine Tri.go tab_order_Queue_Add rfl ?_
  refine RUN ?_
  rw [decide_eq_false (show ¬ id < 1 by omega)]
  refine RUN ?_
  rw [decide_eq_false (show ¬ id > 16 by omega)]
  refine RUN ?_
  refine RP.c rfl (orMay pri) .e rfl ?_
  rintro v P' ⟨rfl, rfl⟩
  rw [decide_eq_true h2]
  refine RUN ?_
  refine RP.c rfl (orHas (by omega) id) (.c .h .e) rfl ?_
  rintro v P' ⟨rfl, rfl⟩
  rw [h3]
  refine RUN ?_
  refine RP.c rfl (orPut hI hq (id, pri)) (.c .h .e) rfl ?_
  rintro v P' rfl
  refine RUN ?_
  exact rt_r rfl ⟨rfl, rfl⟩ (LEnt.refl _)
end
end Go.AM

/-
  WALKS: maps by numbers.
-/
namespace Go.AM
def mapE {β : Type} (enc : β → Part) (es : List (Int × β)) : List (SV × Part) := es.map fun e => (.int .i64 e.1, enc e.2)
def Mp {β : Type} (enc : β → Part) (b : Nat) (es : List (Int × β)) : Asr := ⟨fun _ f S => S = [b] ∧ f b = some (.map (mapE enc es)), fun hg ⟨h1, h2⟩ => ⟨h1, by rw [hg b (by simp [h1])]; exact h2⟩⟩
section
variable {β : Type} {enc : β → Part}
def kidx (es : List (Int × β)) (n : Int) : Option Nat := es.findIdx? fun e => decide (e.1 = n)
def klook (es : List (Int × β)) (n : Int) : Option β := (es.find? fun e => decide (e.1 = n)).map (·.2)
def kput (es : List (Int × β)) (n : Int) (v : β) : List (Int × β) := match kidx es n with | some i => es.set i (n, v) | none => es ++ [(n, v)]
def kdel (es : List (Int × β)) (n : Int) : List (Int × β) := match kidx es n with | some i => es.eraseIdx i | none => es
theorem findK_map (n : Int) : ∀ (es : List (Int × β)) (i : Nat), findK .i64 n (mapE enc es) i = some ((kidx es n).bind fun j => (es[j]?).map fun e => (i + j, enc e.2))
  | [], i => rfl
  | (m, v) :: es, i => by
    have ih := findK_map n es (i + 1)
    show (if IntKind.i64 = IntKind.i64 then (if n = m then some (some (i, enc v)) else findK .i64 n (mapE enc es) (i + 1)) else none) = _
    rw [if_pos rfl]
    by_cases h : n = m
    · subst h
      rw [if_pos rfl]
      simp [kidx, List.findIdx?_cons]
    · rw [if_neg h, ih]
      have hm : decide (m = n) = false := by simpa using fun hc => h hc.symm
      unfold kidx
      rw [List.findIdx?_cons]
      dsimp only
      rw [hm]
      simp only [Bool.false_eq_true, if_false]
      cases hq : List.findIdx? (fun e => decide (e.1 = n)) es with
      | none => rfl
      | some j =>
        simp only [Option.bind_some, Option.map_some, List.getElem?_cons_succ]
        congr 2
        funext e
        rw [show i + 1 + j = i + (j + 1) by omega]
theorem klook_idx {es : List (Int × β)} {n : Int} {v : β} (h : klook es n = some v) : ∃ j e, kidx es n = some j ∧ es[j]? = some e ∧ e.2 = v := by
  unfold klook at h
  simp only [Option.map_eq_some_iff] at h
  obtain ⟨e, h1, h2⟩ := h
  induction es with
  | nil => cases h1
  | cons a es ih =>
    rw [List.find?_cons] at h1
    unfold kidx
    rw [List.findIdx?_cons]
    cases hc : decide (a.1 = n) with
    | true => rw [hc] at h1; cases h1; exact ⟨0, _, rfl, rfl, h2⟩
    | false =>
      rw [hc] at h1
      obtain ⟨j, e', g1, g2, g3⟩ := ih h1
      refine ⟨j + 1, e', ?_, by simpa using g2, g3⟩
      unfold kidx at g1
      rw [g1]; rfl
section
variable {ρ : HF} {H : AH} {R : List Asr}
theorem Sat.mp {b : Nat} {es : List (Int × β)} (h : Sat ρ H (Mp enc b es :: R)) : H.blk b = some (.map (mapE enc es)) := by
  obtain ⟨_, S, h1, _⟩ := h
  obtain ⟨S1, S2, rfl, ⟨_, k⟩, _⟩ := SatL.cons_inv h1
  exact k
theorem Sat.setMp {b : Nat} {es : List (Int × β)} (h : Sat ρ H (Mp enc b es :: R)) (es' : List (Int × β)) : Sat ρ (H.set b (.map (mapE enc es'))) (Mp enc b es' :: R) := by
  obtain ⟨hw, S, h1, h2⟩ := h
  obtain ⟨S1, S2, rfl, ⟨rfl, k⟩, k2, k3⟩ := SatL.cons_inv h1
  refine ⟨⟨hw.1.set (h2 b (by simp)) _, hw.2.set (fun l hl => by rw [k] at hl; cases hl) _⟩, [b] ++ S2, .cons ⟨rfl, by simp⟩ (k2.loc fun c hc => ?_) k3, h2⟩
  rw [set_blk, if_neg]
  rintro rfl
  exact k3 c (by simp) hc
theorem Sat.newMp {b : Nat} (h : Sat ρ H (Fre b :: R)) : Sat ρ (H.set b (.map [])) (Mp enc b [] :: R) := by
  obtain ⟨hw, S, h1, h2⟩ := h
  obtain ⟨S1, S2, rfl, ⟨rfl, k⟩, k2, k3⟩ := SatL.cons_inv h1
  refine ⟨⟨hw.1.set (h2 b (by simp)) _, hw.2.set (fun l hl => by rw [k] at hl; cases hl) _⟩, [b] ++ S2, .cons ⟨rfl, by simp [mapE]⟩ (k2.loc fun c hc => ?_) k3, h2⟩
  rw [set_blk, if_neg]
  rintro rfl
  exact k3 c (by simp) hc
end
section
variable {tab : Nat → Option RFunc} {ext : Nat → List AV → AH → Option (AV × AH)} {n : Nat} {E : Env} {L R : List Asr} {os : List ROper} {Kr : Env → List Asr → Prop} {d i : Nat}
theorem new_ofM {H : AH} {b : Nat} {es : List (SV × Part)} (h : H.blk b = none) : H.new b (.map es) = some (H.set b (.map es)) := by simp [AH.new, h]
theorem RP.mkM (enc : β → Part) (hd : Nat.blt d n = true) (k : ∀ b, RP tab ext n ((d, .s (.map (some b))) :: E) (Mp enc b [] :: L) os Kr) : RP tab ext n E L (⟨some d, .hop .makeMap [], none, i, []⟩ :: os) Kr :=
  RP.gen rfl fun ρ Rs base T H hT hl hs => by
    have h1 := Sat.newMp (enc := enc) hs
    show andThen (hopA .makeMap (base + i) [] H) _
    refine ⟨(.s (.map (some (base + i))), H.set (base + i) (.map [])), ?_, _, _, k _, hl.put hT hd _, ?_⟩
    · show (H.new (base + i) (.map [])).map _ = _
      rw [new_ofM hs.fre]; rfl
    · exact h1.perm (List.perm_middle.symm)
theorem RP.lk {m q : Opd} {b : Nat} {key : Int} {es : List (Int × β)} {v : β} (hm : evo E m = some (.s (.map (some b)))) (hq : evo E q = some (i64 key)) (hin : In1 (Mp enc b es) L R) (hv : klook es key = some v) (hd : Nat.blt d n = true) (k : RP tab ext n ((d, (enc v).av) :: E) L os Kr) : RP tab ext n E L (⟨some d, .hop (.lookup false) [m, q], none, i, []⟩ :: os) Kr :=
  RP.gen rfl fun ρ Rs base T H hT hl hs => by
    have h0 : Sat ρ H (L ++ (fres base os ++ Rs)) := hs.drop.mid
    have h1 := (h0.perm (hin.perm.append_right _)).mp
    obtain ⟨j, e, g1, g2, rfl⟩ := klook_idx hv
    refine ⟨((enc e.2).av, H), ?_, _, L, k, hl.put hT hd _, hs.drop⟩
    show hopA (.lookup false) (base + i) [ev T m, ev T q] H = _
    rw [evo_ok hl hm, evo_ok hl hq]
    simp only [hopA, h1, findK_map, g1, g2, Option.bind_some, Option.map_some]
    rfl
theorem RP.up {m q x : Opd} {b : Nat} {key : Int} {es : List (Int × β)} {v : β} {u : AV} (hm : evo E m = some (.s (.map (some b)))) (hq : evo E q = some (i64 key)) (hx : evo E x = some u) (hin : In1 (Mp enc b es) L R) (hv : u.part? = some (enc v)) (k : RP tab ext n E (Mp enc b (kput es key v) :: R) os Kr) : RP tab ext n E L (⟨none, .hop .update [m, q, x], none, i, []⟩ :: os) Kr :=
  RP.gen rfl fun ρ Rs base T H hT hl hs => by
    have h0 : Sat ρ H (L ++ (fres base os ++ Rs)) := hs.drop.mid
    have h2 : Sat ρ H (Mp enc b es :: (R ++ (fres base os ++ Rs))) := h0.perm (hin.perm.append_right _)
    have h1 := h2.mp
    have h3 := h2.setMp (kput es key v)
    refine ⟨(undef, H.set b (.map (mapE enc (kput es key v)))), ?_, _, _, k, hl, ?_⟩
    · show hopA .update (base + i) [ev T m, ev T q, ev T x] H = _
      rw [evo_ok hl hm, evo_ok hl hq, evo_ok hl hx]
      simp only [hopA, h1, hv, findK_map]
      unfold kput
      cases hj : kidx es key with
      | none => simp [mapE]
      | some j =>
        have hlt : j < es.length := by
          unfold kidx at hj
          exact (List.findIdx?_eq_some_iff_getElem.1 hj).1
        simp only [Option.bind_some, List.getElem?_eq_getElem hlt, Option.map_some, Nat.zero_add]
        simp [mapE, List.map_set]
    · exact (show Sat ρ _ ((Mp enc b (kput es key v) :: R) ++ (fres base os ++ Rs)) from h3).mid
theorem RP.dl {m q : Opd} {b : Nat} {key : Int} {es : List (Int × β)} (hm : evo E m = some (.s (.map (some b)))) (hq : evo E q = some (i64 key)) (hin : In1 (Mp enc b es) L R) (k : RP tab ext n E (Mp enc b (kdel es key) :: R) os Kr) : RP tab ext n E L (⟨none, .hop .delete [m, q], none, i, []⟩ :: os) Kr :=
  RP.gen rfl fun ρ Rs base T H hT hl hs => by
    have h0 : Sat ρ H (L ++ (fres base os ++ Rs)) := hs.drop.mid
    have h2 : Sat ρ H (Mp enc b es :: (R ++ (fres base os ++ Rs))) := h0.perm (hin.perm.append_right _)
    have h1 := h2.mp
    have h3 := h2.setMp (kdel es key)
    refine ⟨(undef, H.set b (.map (mapE enc (kdel es key)))), ?_, _, _, k, hl, ?_⟩
    · show hopA .delete (base + i) [ev T m, ev T q] H = _
      rw [evo_ok hl hm, evo_ok hl hq]
      simp only [hopA, h1, findK_map]
      unfold kdel
      cases hj : kidx es key with
      | none => rfl
      | some j =>
        have hlt : j < es.length := by
          unfold kidx at hj
          exact (List.findIdx?_eq_some_iff_getElem.1 hj).1
        simp only [Option.bind_some, List.getElem?_eq_getElem hlt, Option.map_some, Nat.zero_add]
        simp only [mapE, List.eraseIdx_eq_take_drop_succ, List.map_append, List.map_take, List.map_drop]
    · exact (show Sat ρ _ ((Mp enc b (kdel es key) :: R) ++ (fres base os ++ Rs)) from h3).mid
end
end
theorem WK.wn {tab : Nat → Option RFunc} {ext : Nat → List AV → AH → Option (AV × AH)} {n : Nat} {w : Watch} {ws : List Watch} {E0 E : Env} {L : List Asr} {os : List ROper} {K : Env → List Asr → Prop} (h : wOk E0 L w) (hg : ∀ p, w.guard = some p → (look E0 p.1).isSome = true) (k : WK tab ext n ws E0 E L os K) : WK tab ext n (w :: ws) E0 E L os K := by
  unfold WK
  exact ⟨⟨h, hg⟩, k⟩
end Go.AM

/-
  por: a port where callers wait.
-/
namespace Go.AM
def encC (s : SV) : Part := .agg [.int .u32 1, s]
def encB (x : Int) : List SV := [.int .u8 x]
theorem encB_len (x : Int) : (encB x).length = 1 := rfl
def encR (x : Int × Int × Int) : List SV := [.int .i64 x.1, .int .i64 x.2.1, .int .i64 x.2.2]
theorem encR_len (x : Int × Int × Int) : (encR x).length = 3 := rfl
theorem qrem_head {id pri : Int} {q : List (Int × Int)} : qrem ((id, pri) :: q) id = q := by
  unfold qrem qidx
  rw [List.findIdx?_cons]
  simp
set_option maxHeartbeats 8000000
attribute [local irreducible] sq bk lpK mdx rt TC RP WK Cel Ro Row Fre RowsA RowsBut
section
variable {ext : Nat → List AV → AH → Option (AV × AH)} {p c m : Nat} {b : Bool} {q : List (Int × Int)} {es : List (Int × SV)}
theorem pRight (t pri : Int) (h1 : 1 ≤ t ∧ t ≤ 16) (h2 : 1 ≤ pri ∧ pri ≤ 16) : Tri tab ext F.por_right [i64 t, i64 pri] [] fun v P' => v = bl true ∧ P' = [] := by
  refine Tri.go tab_por_right rfl ?_
  refine RUN ?_
  rw [decide_eq_true (show t ≥ 1 by omega)]
  refine RUN ?_
  rw [decide_eq_true (show t ≤ 16 by omega)]
  refine RUN ?_
  rw [decide_eq_true (show pri ≥ 1 by omega)]
  refine RUN ?_
  rw [decide_eq_true (show pri ≤ 16 by omega)]
  refine RUN ?_
  exact rt_r rfl ⟨rfl, rfl⟩ (LEnt.refl _)
theorem pDrop (hq : q.length ≤ 1000) (id : Int) : Tri tab ext F.por_line_drop [.agg [.ptr (some (c, 0)), .map (some m)], i64 id] [Qu c b q, Mp encC m es] fun v P' => v = bl (qhas q id) ∧ P' = [Qu c b (qrem q id), Mp encC m (kdel es id)] := by
  refine Tri.go tab_por_line_drop rfl ?_
  refine RUN ?_
  refine RP.bx rfl rfl rfl fun lb => ?_
  refine RUN ?_
  refine RP.dl rfl rfl (.n (.n .h)) ?_
  refine RUN ?_
  refine RP.c rfl (orRemove (p := c) (b := b) (q := q) (by omega) id) (.c (by ((repeat (first | exact .h | apply In1.n)); fail_if_success refine ?_)) .e) rfl ?_
  rintro v P' ⟨rfl, rfl⟩
  refine RUN ?_
  exact rt_r rfl ⟨rfl, rfl⟩ (LEnt.of (.c .h (.c .h .e)))
theorem pMeet0 : Tri tab ext F.por_line_meet [.agg [.ptr (some (c, 0)), .map (some m)], .s (.int .u32 1)] [Qu c b []] fun v P' => v = .tup [.agg [.int .i64 0, .int .i64 0], .agg [.int .u32 0, .slice none 0 0 1], .s (.bool false)] ∧ P' = [Qu c b []] := by
  refine Tri.go tab_por_line_meet rfl ?_
  refine RUN ?_
  refine RP.bx rfl rfl rfl fun lb => ?_
  refine RP.nw rfl fun b4 => ?_
  refine RP.nw rfl fun b5 => ?_
  refine RUN ?_
  refine RP.c rfl (orRow (q := []) (by decide)) (.c (by ((repeat (first | exact .h | apply In1.n)); fail_if_success refine ?_)) .e) rfl ?_
  rintro v P' ⟨s', rfl, rfl⟩
  refine RUN ?_
  refine TC.loop (fun _ : Unit => 0) (fun _ => True) (fun _ => [(4, .s (.ptr (some (b4, 0)))), (5, .s (.ptr (some (b5, 0)))), (15, i64 0), (16, i64 0)]) (fun _ => [Qu c b [], Cel b5 [.int .u32 0, .slice none 0 0 1], Cel b4 [.int .i64 0, .int .i64 0]]) () trivial ⟨rfl, rfl, rfl, rfl, trivial⟩ (LEnt.of (.c (.n .h) (.c (.n .h) (.c (.n .h) .e)))) ?_
  rintro ⟨⟩ _
  refine RUN ?_
  refine rt_r ⟨[.agg [.int .i64 0, .int .i64 0], .agg [.int .u32 0, .slice none 0 0 1], .s (.bool false)], rfl, ⟨_, _, rfl, .inr ⟨_, _, rfl, rfl, by ((repeat (first | exact Ldn.cb (by rfl) rfl | exact Ldn.rb (by rfl) rfl | exact Ldn.w (fun _ => by rfl) (by assumption) | apply Ldn.n)); fail_if_success refine ?_)⟩⟩, ⟨_, _, rfl, .inr ⟨_, _, rfl, rfl, by ((repeat (first | exact Ldn.cb (by rfl) rfl | exact Ldn.rb (by rfl) rfl | exact Ldn.w (fun _ => by rfl) (by assumption) | apply Ldn.n)); fail_if_success refine ?_)⟩⟩, rfl, trivial⟩ ⟨rfl, rfl⟩ (LEnt.of (.c (by ((repeat (first | exact .h | apply In1.n)); fail_if_success refine ?_)) .e))
theorem pMeet1 {id pri : Int} {s : SV} (hq : q.length + 1 ≤ 1000) (hs : klook es id = some s) : Tri tab ext F.por_line_meet [.agg [.ptr (some (c, 0)), .map (some m)], .s (.int .u32 1)] [Qu c b ((id, pri) :: q), Mp encC m es] fun v P' => v = .tup [.agg [.int .i64 id, .int .i64 pri], .agg [.int .u32 1, s], .s (.bool true)] ∧ P' = [Qu c b q, Mp encC m (kdel es id)] := by
  refine Tri.go tab_por_line_meet rfl ?_
  refine RUN ?_
  refine RP.bx rfl rfl rfl fun lb => ?_
  refine RP.nw rfl fun b4 => ?_
  refine RP.nw rfl fun b5 => ?_
  refine RUN ?_
  refine RP.c rfl (orRow (q := (id, pri) :: q) (by simp; omega)) (.c (by ((repeat (first | exact .h | apply In1.n)); fail_if_success refine ?_)) .e) rfl ?_
  rintro v P' ⟨s', rfl, rfl⟩
  refine RUN ?_
  refine TC.loop (fun _ : Unit => 0) (fun _ => True) (fun _ => [(1, .s (.int .u32 1)), (2, .s (.ptr (some (lb, 0)))), (4, .s (.ptr (some (b4, 0)))), (5, .s (.ptr (some (b5, 0)))), (14, .s s'), (15, i64 ((q.length + 1 : Nat) : Int)), (16, i64 0)]) (fun _ => [Row encO 2 s' ((id, pri) :: q), Qu c b ((id, pri) :: q), Cel b5 [.int .u32 0, .slice none 0 0 1], Cel b4 [.int .i64 0, .int .i64 0], Cel lb [.ptr (some (c, 0)), .map (some m)], Mp encC m es]) () trivial ⟨rfl, rfl, rfl, rfl, rfl, rfl, rfl, trivial⟩ (LEnt.of (.c .h (.c .h (.c .h (.c .h (.c .h (.c .h .e))))))) ?_
  rintro ⟨⟩ _
  refine RUN ?_
  rw [decide_eq_true (show (0 : Int) < ((q.length + 1 : Nat) : Int) by omega)]
  have hy : ((id, pri) :: q)[0]? = some (id, pri) := rfl
  have hl : (0 : Int) < ((id, pri) :: q).length := by simp only [List.length_cons]; omega
  refine RUN ?_
  refine RP.nw rfl fun b8 => ?_
  refine RUN ?_
  refine RP.lk rfl rfl (by ((repeat (first | exact .h | apply In1.n)); fail_if_success refine ?_)) hs rfl ?_
  refine RP.nw rfl fun b9 => ?_
  refine RUN ?_
  have hD := pDrop (ext := ext) (q := (id, pri) :: q) (es := es) (m := m) (c := c) (b := b) (by simp only [List.length_cons]; omega) id
  rw [qrem_head] at hD
  refine RP.c rfl hD (.c (.n (.n (.n .h))) (.c (.n (.n (.n (.n (.n (.n .h)))))) .e)) rfl ?_
  rintro v P' ⟨rfl, rfl⟩
  refine RUN ?_
  refine WK.wn (fun g _ _ => ⟨_, _, _, rfl, rfl, .inr ⟨_, _, rfl, rfl, by ((repeat (first | exact Ldn.cb (by rfl) rfl | exact Ldn.rb (by rfl) rfl | exact Ldn.w (fun _ => by rfl) (by assumption) | apply Ldn.n)); fail_if_success refine ?_)⟩⟩) (fun p h => by cases h) (WK.z ?_)
  refine RUN ?_
  exact rt_r ⟨[.agg [.int .i64 id, .int .i64 pri], .agg [.int .u32 1, s], .s (.bool true)], rfl, ⟨_, _, rfl, .inr ⟨_, _, rfl, rfl, by ((repeat (first | exact Ldn.cb (by rfl) rfl | exact Ldn.rb (by rfl) rfl | exact Ldn.w (fun _ => by rfl) (by assumption) | apply Ldn.n)); fail_if_success refine ?_)⟩⟩, ⟨_, _, rfl, .inr ⟨_, _, rfl, rfl, by ((repeat (first | exact Ldn.cb (by rfl) rfl | exact Ldn.rb (by rfl) rfl | exact Ldn.w (fun _ => by rfl) (by assumption) | apply Ldn.n)); fail_if_success refine ?_)⟩⟩, rfl, trivial⟩ ⟨rfl, rfl⟩ (LEnt.of (.c (by ((repeat (first | exact .h | apply In1.n)); fail_if_success refine ?_)) (.c (by ((repeat (first | exact .h | apply In1.n)); fail_if_success refine ?_)) .e)))
theorem pWait (hI : ∀ args H, ext F.slices_Insert__order_Item_order_Item args H = insA 2 16 args H) (hq : q.length ≤ 1000) (id pri : Int) (s : SV) (h1 : 1 ≤ id ∧ id ≤ 16) (h2 : 1 ≤ pri ∧ pri ≤ 16) (h3 : qhas q id = false) :
    Tri tab ext F.por_line_wait [.agg [.ptr (some (c, 0)), .map (some m)], i64 id, i64 pri, .agg [.int .u32 1, s]] [Qu c b q, Mp encC m es] fun _ P' => P' = [Qu c b (qput b q (id, pri)), Mp encC m (kput es id s)] := by
  refine Tri.go tab_por_line_wait rfl ?_
  refine RUN ?_
  refine RP.bx rfl rfl rfl fun lb => ?_
  refine RP.bx rfl rfl rfl fun wb => ?_
  refine RUN ?_
  refine RP.c rfl (orAdd (p := c) (b := b) (q := q) hI hq id pri h1 h2 h3) (.c (by ((repeat (first | exact .h | apply In1.n)); fail_if_success refine ?_)) .e) rfl ?_
  rintro v P' ⟨rfl, rfl⟩
  refine RUN ?_
  refine RP.up rfl rfl rfl (enc := encC) (es := es) (b := m) (v := s) (by ((repeat (first | exact .h | apply In1.n)); fail_if_success refine ?_)) rfl ?_
  refine RUN ?_
  exact rt_n ⟨[], rfl, trivial⟩ rfl (LEnt.of (.c (by ((repeat (first | exact .h | apply In1.n)); fail_if_success refine ?_)) (.c (by ((repeat (first | exact .h | apply In1.n)); fail_if_success refine ?_)) .e)))
theorem pIds : Tri tab ext F.por_line_ids [.agg [.ptr (some (c, 0)), .map (some m)]] [Qu c b []] fun v P' => ∃ s, v = .s s ∧ P' = [Row encI 1 s [], Qu c b []] := by
  refine Tri.go tab_por_line_ids rfl ?_
  refine RUN ?_
  refine RP.bx rfl rfl rfl fun lb => ?_
  refine RUN ?_
  refine RP.c rfl (orRow (p := c) (b := b) (q := []) (by decide)) (.c (by ((repeat (first | exact .h | apply In1.n)); fail_if_success refine ?_)) .e) rfl ?_
  rintro v P' ⟨s', rfl, rfl⟩
  refine RUN ?_
  refine TC.loop (fun _ : Unit => 0) (fun _ => True) (fun _ => [(3, .s (.slice none 0 0 1)), (11, i64 0), (12, i64 0)]) (fun _ => [Qu c b []]) () trivial ⟨rfl, rfl, rfl, trivial⟩ (LEnt.of (.c (.n .h) .e)) ?_
  rintro ⟨⟩ _
  refine RUN ?_
  refine RP.ent (row_nil (enc := encI) (k := 1) 1 [Qu c b []]) ?_
  refine RP.c rfl (gClip (k := 1) tab_slices_Clip__int_int encI_len (.slice none 0 0 1) []) (.c .h .e) rfl ?_
  rintro v P' ⟨s'', rfl, rfl⟩
  refine RUN ?_
  exact rt_r rfl ⟨_, rfl, rfl⟩ (LEnt.refl _)
end
end Go.AM

/-
  por: a port's methods.
-/
namespace Go.AM
structure PoW where
  c : Nat
  m : Nat
  a : Nat
  am : Nat
  l : SV
def Por (p : Nat) (q : List (Int × Int)) (es : List (Int × SV)) (last : Int) (lo : List (Int × Int × Int)) : Asr :=
  Asr.ex fun w : PoW => Asr.all [Cel p [.ptr (some (w.c, 0)), .map (some w.m), .ptr (some (w.a, 0)), .map (some w.am), .int .i64 4, .int .i64 last, w.l], Qu w.c true q, Mp encC w.m es, Qu w.a false [], Row encR 3 w.l lo]
abbrev porL (p : Nat) (q : List (Int × Int)) (es : List (Int × SV)) (last : Int) (lo : List (Int × Int × Int)) (w : PoW) : List Asr := [Cel p [.ptr (some (w.c, 0)), .map (some w.m), .ptr (some (w.a, 0)), .map (some w.am), .int .i64 4, .int .i64 last, w.l], Qu w.c true q, Mp encC w.m es, Qu w.a false [], Row encR 3 w.l lo]
section
variable {tab : Nat → Option RFunc} {ext : Nat → List AV → AH → Option (AV × AH)} {n : Nat} {E : Env} {L R : List Asr} {p : Nat} {q : List (Int × Int)} {es : List (Int × SV)} {last : Int} {lo : List (Int × Int × Int)}
theorem Por.shut {w : PoW} : LEnt (porL p q es last lo w ++ R) (Por p q es last lo :: R) := fun ρ H X hs => Sat.mkEx w (Sat.mkAll (by rw [List.append_assoc] at hs; exact hs))
theorem RP.po {os : List ROper} {K : Env → List Asr → Prop} (hin : In1 (Por p q es last lo) L R) (k : ∀ w, RP tab ext n E (porL p q es last lo w ++ R) os K) : RP tab ext n E L os K :=
  RP.imp (L' := fun w => porL p q es last lo w ++ R) (fun ρ H X hs => by
    have h1 : Sat ρ H (Por p q es last lo :: (R ++ X)) := hs.perm (hin.perm.append_right X)
    obtain ⟨w, h2⟩ := Sat.ex h1
    exact ⟨w, by rw [List.append_assoc]; exact Sat.all h2⟩) k
end
set_option maxHeartbeats 8000000
attribute [local irreducible] sq bk lpK mdx rt TC RP WK Cel Ro Row Fre RowsA RowsBut
section
variable {ext : Nat → List AV → AH → Option (AV × AH)} {p : Nat} {q : List (Int × Int)} {es : List (Int × SV)} {last : Int} {lo : List (Int × Int × Int)}
theorem poNew : Tri tab ext F.por_New [bl true, i64 4] [] fun v P' => ∃ p, v = .tup [.s (.ptr (some (p, 0))), .s (.int .i64 0)] ∧ P' = [Por p [] [] 0 []] := by
  refine Tri.go tab_por_New rfl ?_
  refine RUN ?_
  refine RP.c rfl (orNew true) .e rfl ?_
  rintro v P' ⟨c, rfl, rfl⟩
  refine RUN ?_
  refine RP.mkM encC rfl fun m => ?_
  refine RUN ?_
  refine RP.c rfl (orNew false) .e rfl ?_
  rintro v P' ⟨a, rfl, rfl⟩
  refine RUN ?_
  refine RP.mkM encC rfl fun am => ?_
  refine RUN ?_
  refine RP.bx rfl rfl rfl fun p => ?_
  refine RUN ?_
  refine rt_r (resE2 rfl rfl) ⟨p, rfl, rfl⟩ ?_
  refine (LEnt.of (P := [Cel p [.ptr (some (c, 0)), .map (some m), .ptr (some (a, 0)), .map (some am), .int .i64 4, .int .i64 0, .slice none 0 0 1], Qu c true [], Mp encC m [], Qu a false []]) (.c .h (.c (.n (.n (.n .h))) (.c (.n (.n .h)) (.c (.n .h) .e))))).trans ?_
  refine LEnt.trans (row_nil (enc := encR) (k := 3) 1 _) ?_
  refine LEnt.trans (LEnt.of (.c (.n .h) (.c (.n .h) (.c (.n .h) (.c (.n .h) (.c .h .e)))))) ?_
  exact Por.shut (w := ⟨c, m, a, am, .slice none 0 0 1⟩) (R := [])
theorem poIn1 (w : Int × Int × Int) (cb : Nat) (t : Int) : Tri tab ext F.por_Port_in_1 ([.agg (encR w)] ++ [(cb, 0)].map fun a => .s (.ptr (some a))) [Cel cb [.int .i64 t]] fun v P' => v = bl (decide (w.2.1 = t)) ∧ P' = [Cel cb [.int .i64 t]] := by
  refine Tri.go tab_por_Port_in_1 rfl ?_
  refine RUN ?_
  refine RP.bx rfl rfl rfl fun c => ?_
  refine RUN ?_
  exact rt_r rfl ⟨rfl, rfl⟩ (LEnt.of (.c (.n .h) .e))
theorem poCont (s : SV) (cb : Nat) (t : Int) (hl : lo.length ≤ 1000) : Tri tab ext F.slices_ContainsFunc__por_open_por_open [.s s, .s (.fn F.por_Port_in_1 [(cb, 0)])] [Row encR 3 s lo, Cel cb [.int .i64 t]] fun v P' => v = bl (lo.any fun w => decide (w.2.1 = t)) ∧ P' = [Row encR 3 s lo, Cel cb [.int .i64 t]] := by
  refine Tri.go tab_slices_ContainsFunc__por_open_por_open rfl ?_
  refine RUN ?_
  refine RP.c rfl (gIndex (k := 3) tab_slices_IndexFunc__por_open_por_open encR_len s lo (by omega) F.por_Port_in_1 [(cb, 0)] (fun w => decide (w.2.1 = t)) [Cel cb [.int .i64 t]] fun w => poIn1 w cb t) (.c (by ((repeat (first | exact .h | apply In1.n)); fail_if_success refine ?_)) (.c (by ((repeat (first | exact .h | apply In1.n)); fail_if_success refine ?_)) .e)) rfl ?_
  rintro v P' ⟨rfl, rfl⟩
  refine RUN ?_
  refine rt_r rfl ⟨?_, rfl⟩ (LEnt.refl _)
  rw [← List.findIdx?_isSome]
  cases lo.findIdx? fun w => decide (w.2.1 = t) with
  | none => rfl
  | some i => exact congrArg bl (by simp [plc])
theorem poIn (hq : q.length ≤ 1000) (t : Int) (h : qhas q t = false) : Tri tab ext F.por_Port_in [.s (.ptr (some (p, 0))), i64 t] [Por p q es last []] fun v P' => v = bl false ∧ P' = [Por p q es last []] := by
  refine Tri.go tab_por_Port_in rfl ?_
  refine RUN ?_
  refine RP.bx rfl rfl rfl fun cb => ?_
  refine RUN ?_
  refine RP.po (by ((repeat (first | exact .h | apply In1.n)); fail_if_success refine ?_)) fun w => ?_
  refine RUN ?_
  refine RP.c rfl (orHas (p := w.c) (b := true) (q := q) (by omega) t) (.c (by ((repeat (first | exact .h | apply In1.n)); fail_if_success refine ?_)) .e) rfl ?_
  rintro v P' ⟨rfl, rfl⟩
  rw [h]
  refine RUN ?_
  refine RP.c rfl (orHas (p := w.a) (b := false) (q := []) (by decide) t) (.c (by ((repeat (first | exact .h | apply In1.n)); fail_if_success refine ?_)) .e) rfl ?_
  rintro v P' ⟨rfl, rfl⟩
  refine RUN ?_
  refine RP.c rfl (poCont (lo := []) w.l cb t (by decide)) (.c (by ((repeat (first | exact .h | apply In1.n)); fail_if_success refine ?_)) (.c (by ((repeat (first | exact .h | apply In1.n)); fail_if_success refine ?_)) .e)) rfl ?_
  rintro v P' ⟨rfl, rfl⟩
  refine RUN ?_
  refine rt_r rfl ⟨rfl, rfl⟩ ?_
  exact (LEnt.of (P := porL p q es last [] w) (.c (by ((repeat (first | exact .h | apply In1.n)); fail_if_success refine ?_)) (.c (by ((repeat (first | exact .h | apply In1.n)); fail_if_success refine ?_)) (.c (by ((repeat (first | exact .h | apply In1.n)); fail_if_success refine ?_)) (.c (by ((repeat (first | exact .h | apply In1.n)); fail_if_success refine ?_)) (.c (by ((repeat (first | exact .h | apply In1.n)); fail_if_success refine ?_)) .e)))))).trans (Por.shut (R := []))
theorem poCall (hI : ∀ args H, ext F.slices_Insert__order_Item_order_Item args H = insA 2 16 args H) (hq : q.length ≤ 1000) (id pri x : Int) (s0 : SV) (h1 : 1 ≤ id ∧ id ≤ 16) (h2 : 1 ≤ pri ∧ pri ≤ 16) (h3 : qhas q id = false) :
    Tri tab ext F.por_Port_Call [.s (.ptr (some (p, 0))), i64 id, i64 pri, .s (.int .u32 1), .s s0] [Por p q es last [], Row encB 1 s0 [x]] fun v P' => v = .tup [.agg [.int .i64 0, .int .i64 0, .slice none 0 0 1, .bool false], .s (.int .i64 0)] ∧ ∃ s', P' = [Por p (qput true q (id, pri)) (kput es id s') last [], Row encB 1 s' [x]] := by
  refine Tri.go tab_por_Port_Call rfl ?_
  refine RUN ?_
  refine RP.nw rfl fun b10 => ?_
  refine RUN ?_
  refine RP.po (by ((repeat (first | exact .h | apply In1.n)); fail_if_success refine ?_)) fun w => ?_
  refine RUN ?_
  refine RP.c rfl (pRight id pri h1 h2) .e rfl ?_
  rintro v P' ⟨rfl, rfl⟩
  refine RUN ?_
  refine RP.ent (L' := Por p q es last [] :: [Cel b10 [.int .i64 0, .int .i64 0, .slice none 0 0 1, .bool false], Row encB 1 s0 [x]]) ?_ ?_
  · exact Por.shut
  refine RP.c rfl (poIn hq id h3) (.c .h .e) rfl ?_
  rintro v P' ⟨rfl, rfl⟩
  refine RUN ?_
  refine RP.c rfl (gClone (k := 1) (bytes := 1) tab_slices_Clone__byte_byte encB_len s0 [x] (by simp only [List.length_singleton]; omega)) (.c (by ((repeat (first | exact .h | apply In1.n)); fail_if_success refine ?_)) .e) rfl ?_
  rintro v P' ⟨s1, rfl, rfl⟩
  refine RUN ?_
  refine RP.c rfl (gClip (k := 1) tab_slices_Clip__byte_byte encB_len s1 [x]) (.c .h .e) rfl ?_
  rintro v P' ⟨s2, rfl, rfl⟩
  refine RUN ?_
  refine RP.po (by ((repeat (first | exact .h | apply In1.n)); fail_if_success refine ?_)) fun w => ?_
  refine RUN ?_
  refine RP.c rfl (pMeet0 (c := w.a) (m := w.am) (b := false)) (.c (by ((repeat (first | exact .h | apply In1.n)); fail_if_success refine ?_)) .e) rfl ?_
  rintro v P' ⟨rfl, rfl⟩
  refine RUN ?_
  refine RP.nw rfl fun b12 => ?_
  refine RP.nw rfl fun b13 => ?_
  refine RUN ?_
  refine RP.c rfl (pWait (c := w.c) (m := w.m) (b := true) (q := q) (es := es) hI hq id pri s2 h1 h2 h3) (.c (by ((repeat (first | exact .h | apply In1.n)); fail_if_success refine ?_)) (.c (by ((repeat (first | exact .h | apply In1.n)); fail_if_success refine ?_)) .e)) rfl ?_
  rintro v P' rfl
  refine RUN ?_
  refine rt_r ⟨[.agg [.int .i64 0, .int .i64 0, .slice none 0 0 1, .bool false], .s (.int .i64 0)], rfl, ⟨_, _, rfl, .inr ⟨_, _, rfl, rfl, by ((repeat (first | exact Ldn.cb (by rfl) rfl | exact Ldn.rb (by rfl) rfl | exact Ldn.w (fun _ => by rfl) (by assumption) | apply Ldn.n)); fail_if_success refine ?_)⟩⟩, rfl, trivial⟩ ⟨rfl, s2, rfl⟩ ?_
  exact (LEnt.of (P := porL p (qput true q (id, pri)) (kput es id s2) last [] w ++ [Row encB 1 s2 [x]]) (.c (by ((repeat (first | exact .h | apply In1.n)); fail_if_success refine ?_)) (.c (by ((repeat (first | exact .h | apply In1.n)); fail_if_success refine ?_)) (.c (by ((repeat (first | exact .h | apply In1.n)); fail_if_success refine ?_)) (.c (by ((repeat (first | exact .h | apply In1.n)); fail_if_success refine ?_)) (.c (by ((repeat (first | exact .h | apply In1.n)); fail_if_success refine ?_)) (.c (by ((repeat (first | exact .h | apply In1.n)); fail_if_success refine ?_)) .e))))))).trans Por.shut
theorem poBegin (w : PoW) (hl : lo.length ≤ 1000) (hL : 0 ≤ last ∧ last ≤ 1000) (t pri : Int) : Tri tab ext F.por_Port_begin [.s (.ptr (some (p, 0))), i64 t, i64 pri] (porL p q es last lo w) fun v P' => v = i64 (last + 1) ∧ ∃ l', P' = porL p q es (last + 1) (lo ++ [(last + 1, t, pri)]) { w with l := l' } := by
  refine Tri.go tab_por_Port_begin rfl ?_
  refine RUN ?_
  refine RP.bs rfl rfl rfl fun nb => ?_
  refine RUN ?_
  refine RP.ap rfl rfl rfl (ap_one (enc := encR) (k := 3) (bytes := 24) (r := lo) (e := (last + 1, t, pri)) encR_len (.c (by ((repeat (first | exact .h | apply In1.n)); fail_if_success refine ?_)) (.c (by ((repeat (first | exact .h | apply In1.n)); fail_if_success refine ?_)) .e)) (by omega)) fun l' => ?_
  refine RUN ?_
  refine rt_r rfl ⟨rfl, l', rfl⟩ ?_
  exact LEnt.of (.c (by ((repeat (first | exact .h | apply In1.n)); fail_if_success refine ?_)) (.c (by ((repeat (first | exact .h | apply In1.n)); fail_if_success refine ?_)) (.c (by ((repeat (first | exact .h | apply In1.n)); fail_if_success refine ?_)) (.c (by ((repeat (first | exact .h | apply In1.n)); fail_if_success refine ?_)) (.c (by ((repeat (first | exact .h | apply In1.n)); fail_if_success refine ?_)) .e)))))
theorem poAccept (hq : q.length + 1 ≤ 1000) (hL : 0 ≤ last ∧ last ≤ 1000) {id pri : Int} {s : SV} (hs : klook es id = some s) (h3 : qhas ((id, pri) :: q) 16 = false) :
    Tri tab ext F.por_Port_Accept [.s (.ptr (some (p, 0))), i64 16, i64 1, .s (.int .u32 1)] [Por p ((id, pri) :: q) es last []] fun v P' => v = .tup [.agg [.int .i64 (last + 1), .int .i64 id, s, .bool true], .s (.int .i64 0)] ∧ P' = [Por p q (kdel es id) (last + 1) [(last + 1, id, pri)]] := by
  refine Tri.go tab_por_Port_Accept rfl ?_
  refine RUN ?_
  refine RP.nw rfl fun b8 => ?_
  refine RUN ?_
  refine RP.c rfl (pRight 16 1 (by omega) (by omega)) .e rfl ?_
  rintro v P' ⟨rfl, rfl⟩
  refine RUN ?_
  refine RP.c rfl (poIn (p := p) (q := (id, pri) :: q) (es := es) (last := last) (by simp only [List.length_cons]; omega) 16 h3) (.c (by ((repeat (first | exact .h | apply In1.n)); fail_if_success refine ?_)) .e) rfl ?_
  rintro v P' ⟨rfl, rfl⟩
  refine RUN ?_
  refine RP.po (by ((repeat (first | exact .h | apply In1.n)); fail_if_success refine ?_)) fun w => ?_
  refine RUN ?_
  refine RP.c rfl (pMeet1 (c := w.c) (m := w.m) (b := true) hq hs) (.c (by ((repeat (first | exact .h | apply In1.n)); fail_if_success refine ?_)) (.c (by ((repeat (first | exact .h | apply In1.n)); fail_if_success refine ?_)) .e)) rfl ?_
  rintro v P' ⟨rfl, rfl⟩
  refine RUN ?_
  refine RP.nw rfl fun b10 => ?_
  refine RP.nw rfl fun b11 => ?_
  refine RUN ?_
  refine RP.c rfl (poBegin (p := p) (q := q) (es := kdel es id) (lo := []) w (by decide) hL id pri) (.c (by ((repeat (first | exact .h | apply In1.n)); fail_if_success refine ?_)) (.c (by ((repeat (first | exact .h | apply In1.n)); fail_if_success refine ?_)) (.c (by ((repeat (first | exact .h | apply In1.n)); fail_if_success refine ?_)) (.c (by ((repeat (first | exact .h | apply In1.n)); fail_if_success refine ?_)) (.c (by ((repeat (first | exact .h | apply In1.n)); fail_if_success refine ?_)) .e))))) rfl ?_
  rintro v P' ⟨rfl, l', rfl⟩
  refine WK.wn (fun g _ _ => ⟨_, _, _, rfl, rfl, .inl ⟨rfl, _, rfl, by ((repeat (first | exact Ld.c rfl | exact Ld.r rfl | exact Ld.g (by assumption) | exact Ld.w (fun _ => by rfl) (by assumption) (by rfl) | exact Ld.a (by rfl) (fun _ => by rfl) (by assumption) (by rfl) | apply Ld.n)); fail_if_success refine ?_)⟩⟩) (fun p h => by cases h) ?_
  refine WK.wn (fun g _ _ => ⟨_, _, _, rfl, rfl, .inl ⟨rfl, _, rfl, by ((repeat (first | exact Ld.c rfl | exact Ld.r rfl | exact Ld.g (by assumption) | exact Ld.w (fun _ => by rfl) (by assumption) (by rfl) | exact Ld.a (by rfl) (fun _ => by rfl) (by assumption) (by rfl) | apply Ld.n)); fail_if_success refine ?_)⟩⟩) (fun p h => by cases h) (WK.z ?_)
  refine RUN ?_
  refine rt_r ⟨[.agg [.int .i64 (last + 1), .int .i64 id, s, .bool true], .s (.int .i64 0)], rfl, ⟨_, _, rfl, .inr ⟨_, _, rfl, rfl, by ((repeat (first | exact Ldn.cb (by rfl) rfl | exact Ldn.rb (by rfl) rfl | exact Ldn.w (fun _ => by rfl) (by assumption) | apply Ldn.n)); fail_if_success refine ?_)⟩⟩, rfl, trivial⟩ ⟨rfl, rfl⟩ ?_
  exact (LEnt.of (P := porL p q (kdel es id) (last + 1) [(last + 1, id, pri)] { w with l := l' }) (.c (by ((repeat (first | exact .h | apply In1.n)); fail_if_success refine ?_)) (.c (by ((repeat (first | exact .h | apply In1.n)); fail_if_success refine ?_)) (.c (by ((repeat (first | exact .h | apply In1.n)); fail_if_success refine ?_)) (.c (by ((repeat (first | exact .h | apply In1.n)); fail_if_success refine ?_)) (.c (by ((repeat (first | exact .h | apply In1.n)); fail_if_success refine ?_)) .e)))))).trans (Por.shut (R := []))
theorem poFind1 (w : Int × Int × Int) (cb : Nat) (t : Int) : Tri tab ext F.por_Port_find_1 ([.agg (encR w)] ++ [(cb, 0)].map fun a => .s (.ptr (some a))) [Cel cb [.int .i64 t]] fun v P' => v = bl (decide (w.1 = t)) ∧ P' = [Cel cb [.int .i64 t]] := by
  refine Tri.go tab_por_Port_find_1 rfl ?_
  refine RUN ?_
  refine RP.bx rfl rfl rfl fun c => ?_
  refine RUN ?_
  exact rt_r rfl ⟨rfl, rfl⟩ (LEnt.of (.c (.n .h) .e))
theorem poFind {no t pri : Int} : Tri tab ext F.por_Port_find [.s (.ptr (some (p, 0))), i64 no] [Por p q es last [(no, t, pri)]] fun v P' => v = i64 0 ∧ P' = [Por p q es last [(no, t, pri)]] := by
  refine Tri.go tab_por_Port_find rfl ?_
  refine RUN ?_
  refine RP.bx rfl rfl rfl fun cb => ?_
  refine RUN ?_
  refine RP.po (by ((repeat (first | exact .h | apply In1.n)); fail_if_success refine ?_)) fun w => ?_
  refine RUN ?_
  refine RP.c rfl (gIndex (k := 3) tab_slices_IndexFunc__por_open_por_open encR_len w.l [(no, t, pri)] (by simp only [List.length_singleton]; omega) F.por_Port_find_1 [(cb, 0)] (fun y => decide (y.1 = no)) [Cel cb [.int .i64 no]] fun y => poFind1 y cb no) (.c (by ((repeat (first | exact .h | apply In1.n)); fail_if_success refine ?_)) (.c (by ((repeat (first | exact .h | apply In1.n)); fail_if_success refine ?_)) .e)) rfl ?_
  rintro v P' ⟨rfl, rfl⟩
  refine RUN ?_
  refine rt_r rfl ⟨?_, rfl⟩ ((LEnt.of (P := porL p q es last [(no, t, pri)] w) (.c (by ((repeat (first | exact .h | apply In1.n)); fail_if_success refine ?_)) (.c (by ((repeat (first | exact .h | apply In1.n)); fail_if_success refine ?_)) (.c (by ((repeat (first | exact .h | apply In1.n)); fail_if_success refine ?_)) (.c (by ((repeat (first | exact .h | apply In1.n)); fail_if_success refine ?_)) (.c (by ((repeat (first | exact .h | apply In1.n)); fail_if_success refine ?_)) .e)))))).trans (Por.shut (R := [])))
  simp [List.findIdx?_cons, plc]
theorem poReply {no t pri : Int} : Tri tab ext F.por_Port_Reply [.s (.ptr (some (p, 0))), i64 no, .s (.slice none 0 0 1)] [Por p q es last [(no, t, pri)]] fun v P' => v = .tup [.s (.int .i64 t), .s (.int .i64 0)] ∧ P' = [Por p q es last []] := by
  refine Tri.go tab_por_Port_Reply rfl ?_
  refine RUN ?_
  refine RP.c rfl poFind (.c .h .e) rfl ?_
  rintro v P' ⟨rfl, rfl⟩
  refine RUN ?_
  refine RP.po (by ((repeat (first | exact .h | apply In1.n)); fail_if_success refine ?_)) fun w => ?_
  refine RUN ?_
  have hy : [(no, t, pri)][0]? = some (no, t, pri) := rfl
  have hl : (0 : Int) < [(no, t, pri)].length := by simp only [List.length_singleton]; omega
  refine RUN ?_
  have hE : Tri tab ext F.por_Port_end [.s (.ptr (some (p, 0))), i64 0] (porL p q es last [(no, t, pri)] w) fun _ P' => ∃ l', P' = porL p q es last [] { w with l := l' } := by
    refine Tri.go tab_por_Port_end rfl ?_
    refine RUN ?_
    have hd := gDelete (tab := tab) (ext := ext) (k := 3) (bytes := 24) (z := [.int .i64 0, .int .i64 0, .int .i64 0]) tab_slices_Delete__por_open_por_open encR_len rfl w.l [(no, t, pri)] 0 (by simp only [List.length_singleton]; omega) (by simp only [List.length_singleton]; omega) (by simp only [List.length_singleton]; omega)
    refine RP.c rfl hd (.c (by ((repeat (first | exact .h | apply In1.n)); fail_if_success refine ?_)) .e) rfl ?_
    rintro v P' ⟨l', rfl, rfl⟩
    refine RUN ?_
    refine rt_n ⟨[], rfl, trivial⟩ ⟨l', rfl⟩ ?_
    exact LEnt.of (.c (by ((repeat (first | exact .h | apply In1.n)); fail_if_success refine ?_)) (.c (by ((repeat (first | exact .h | apply In1.n)); fail_if_success refine ?_)) (.c (by ((repeat (first | exact .h | apply In1.n)); fail_if_success refine ?_)) (.c (by ((repeat (first | exact .h | apply In1.n)); fail_if_success refine ?_)) (.c (by ((repeat (first | exact .h | apply In1.n)); fail_if_success refine ?_)) .e)))))
  refine RP.c rfl hE (.c (by ((repeat (first | exact .h | apply In1.n)); fail_if_success refine ?_)) (.c (by ((repeat (first | exact .h | apply In1.n)); fail_if_success refine ?_)) (.c (by ((repeat (first | exact .h | apply In1.n)); fail_if_success refine ?_)) (.c (by ((repeat (first | exact .h | apply In1.n)); fail_if_success refine ?_)) (.c (by ((repeat (first | exact .h | apply In1.n)); fail_if_success refine ?_)) .e))))) rfl ?_
  rintro v P' ⟨l', rfl⟩
  refine RUN ?_
  refine rt_r (resE2 rfl rfl) ⟨rfl, rfl⟩ ?_
  exact (LEnt.of (P := porL p q es last [] { w with l := l' }) (.c (by ((repeat (first | exact .h | apply In1.n)); fail_if_success refine ?_)) (.c (by ((repeat (first | exact .h | apply In1.n)); fail_if_success refine ?_)) (.c (by ((repeat (first | exact .h | apply In1.n)); fail_if_success refine ?_)) (.c (by ((repeat (first | exact .h | apply In1.n)); fail_if_success refine ?_)) (.c (by ((repeat (first | exact .h | apply In1.n)); fail_if_success refine ?_)) .e)))))).trans (Por.shut (R := []))
theorem poCallers : Tri tab ext F.por_Port_Callers [.s (.ptr (some (p, 0)))] [Por p [] es last lo] fun v P' => ∃ s, v = .s s ∧ P' = [Row encI 1 s [], Por p [] es last lo] := by
  refine Tri.go tab_por_Port_Callers rfl ?_
  refine RUN ?_
  refine RP.po (by ((repeat (first | exact .h | apply In1.n)); fail_if_success refine ?_)) fun w => ?_
  refine RUN ?_
  refine RP.c rfl (pIds (c := w.c) (m := w.m) (b := true)) (.c (by ((repeat (first | exact .h | apply In1.n)); fail_if_success refine ?_)) .e) rfl ?_
  rintro v P' ⟨s, rfl, rfl⟩
  refine RUN ?_
  refine rt_r rfl ⟨_, rfl, rfl⟩ ?_
  exact (LEnt.of (P := porL p [] es last lo w ++ [Row encI 1 s []]) (.c (by ((repeat (first | exact .h | apply In1.n)); fail_if_success refine ?_)) (.c (by ((repeat (first | exact .h | apply In1.n)); fail_if_success refine ?_)) (.c (by ((repeat (first | exact .h | apply In1.n)); fail_if_success refine ?_)) (.c (by ((repeat (first | exact .h | apply In1.n)); fail_if_success refine ?_)) (.c (by ((repeat (first | exact .h | apply In1.n)); fail_if_success refine ?_)) (.c (by ((repeat (first | exact .h | apply In1.n)); fail_if_success refine ?_)) .e))))))).trans (Por.shut.trans (LEnt.of (.c (.n .h) (.c .h .e))))
theorem poOpen : Tri tab ext F.por_Port_Open [.s (.ptr (some (p, 0)))] [Por p q es last []] fun v P' => ∃ s, v = .s s ∧ P' = [Row encI 1 s [], Por p q es last []] := by
  refine Tri.go tab_por_Port_Open rfl ?_
  refine RUN ?_
  refine RP.po (by ((repeat (first | exact .h | apply In1.n)); fail_if_success refine ?_)) fun w => ?_
  refine RUN ?_
  refine TC.loop (fun _ : Unit => 0) (fun _ => True) (fun _ => [(3, .s (.slice none 0 0 1)), (10, i64 0), (11, i64 0)]) (fun _ => porL p q es last [] w) () trivial ⟨rfl, rfl, rfl, trivial⟩ (LEnt.refl _) ?_
  rintro ⟨⟩ _
  refine RUN ?_
  refine RP.ent (row_nil (enc := encI) (k := 1) 1 (porL p q es last [] w)) ?_
  refine RP.c rfl (gClip (k := 1) tab_slices_Clip__int_int encI_len (.slice none 0 0 1) []) (.c .h .e) rfl ?_
  rintro v P' ⟨s'', rfl, rfl⟩
  refine RUN ?_
  refine rt_r rfl ⟨_, rfl, rfl⟩ ?_
  exact (LEnt.of (P := porL p q es last [] w ++ [Row encI 1 s'' []]) (.c (by ((repeat (first | exact .h | apply In1.n)); fail_if_success refine ?_)) (.c (by ((repeat (first | exact .h | apply In1.n)); fail_if_success refine ?_)) (.c (by ((repeat (first | exact .h | apply In1.n)); fail_if_success refine ?_)) (.c (by ((repeat (first | exact .h | apply In1.n)); fail_if_success refine ?_)) (.c (by ((repeat (first | exact .h | apply In1.n)); fail_if_success refine ?_)) (.c (by ((repeat (first | exact .h | apply In1.n)); fail_if_success refine ?_)) .e))))))).trans (Por.shut.trans (LEnt.of (.c (.n .h) (.c .h .e))))
end
end Go.AM

/-
  TopServers: the plain law.
-/
namespace Go.AM
def qlt (a b : Int × Int) : Prop := a.2 < b.2 ∨ a.2 = b.2 ∧ a.1 < b.1
theorem q_cut (pri : Int) : ∀ {q : List (Int × Int)}, q.Pairwise qlt → ∃ i, i ≤ q.length ∧ (∀ y ∈ q.drop i, pri < y.2) ∧ ∀ y ∈ q.take i, y.2 ≤ pri
  | [], _ => ⟨0, Nat.le_refl _, by simp, by simp⟩
  | a :: q, h => by
    obtain ⟨h1, h2⟩ := List.pairwise_cons.1 h
    by_cases hc : a.2 ≤ pri
    · obtain ⟨i, g1, g2, g3⟩ := q_cut pri h2
      refine ⟨i + 1, by simp only [List.length_cons]; omega, by simpa using g2, fun y hy => ?_⟩
      rw [List.take_succ_cons] at hy
      rcases List.mem_cons.1 hy with rfl | hy
      · exact hc
      · exact g3 y hy
    · refine ⟨0, Nat.zero_le _, fun y hy => ?_, fun y hy => by cases hy⟩
      rw [List.drop_zero] at hy
      rcases List.mem_cons.1 hy with rfl | hy
      · omega
      · have := h1 y hy
        unfold qlt at this
        omega
theorem qput_cut {q : List (Int × Int)} {x : Int × Int} (h : q.Pairwise qlt) : ∃ i, i ≤ q.length ∧ (∀ y ∈ q.drop i, x.2 < y.2) ∧ (∀ y ∈ q.take i, y.2 ≤ x.2) ∧ qput true q x = q.take i ++ x :: q.drop i := by
  obtain ⟨i, g1, g2, g3⟩ := q_cut x.2 h
  refine ⟨i, g1, g2, g3, ?_⟩
  have : qpos true q x.2 = i := by
    unfold qpos
    rw [if_pos rfl]
    refine qback_eq g1 g2 fun j y hj hy => ?_
    have := g3 y (by
      rw [hj, List.take_add_one, hy]
      simp)
    omega
  unfold qput
  rw [this]
theorem qput_mem {q : List (Int × Int)} {x y : Int × Int} (h : q.Pairwise qlt) : y ∈ qput true q x ↔ y = x ∨ y ∈ q := by
  obtain ⟨i, _, _, _, e⟩ := qput_cut (x := x) h
  rw [e]
  have : y ∈ q ↔ y ∈ q.take i ∨ y ∈ q.drop i := by rw [← List.mem_append, List.take_append_drop]
  simp only [List.mem_append, List.mem_cons, this]
  constructor
  · rintro (h | h | h)
    · exact .inr (.inl h)
    · exact .inl h
    · exact .inr (.inr h)
  · rintro (h | h | h)
    · exact .inr (.inl h)
    · exact .inl h
    · exact .inr (.inr h)
theorem qput_len {q : List (Int × Int)} {x : Int × Int} (h : q.Pairwise qlt) : (qput true q x).length = q.length + 1 := by
  obtain ⟨i, g, _, _, e⟩ := qput_cut (x := x) h
  rw [e]; simp; omega
theorem qput_sorted {q : List (Int × Int)} {x : Int × Int} (h : q.Pairwise qlt) (hx : ∀ y ∈ q, y.1 < x.1) : (qput true q x).Pairwise qlt := by
  obtain ⟨i, _, g2, g3, e⟩ := qput_cut (x := x) h
  rw [e, List.pairwise_append]
  have h' : (q.take i ++ q.drop i).Pairwise qlt := by rw [List.take_append_drop]; exact h
  obtain ⟨k1, k2, k3⟩ := List.pairwise_append.1 h'
  refine ⟨k1, List.pairwise_cons.2 ⟨fun y hy => .inl (g2 y hy), k2⟩, fun a ha b hb => ?_⟩
  rcases List.mem_cons.1 hb with rfl | hb
  · have l1 := g3 a ha
    have l2 := hx a (List.mem_of_mem_take ha)
    unfold qlt
    omega
  · exact k3 a ha b hb
theorem qhas_false {q : List (Int × Int)} {id : Int} (h : ∀ y ∈ q, y.1 ≠ id) : qhas q id = false := by
  unfold qhas qidx
  rw [List.findIdx?_eq_none_iff.2 fun y hy => by simpa using h y hy]
  rfl
section
variable {es : List (Int × SV)} {id id' : Int} {s : SV}
theorem kput_new (h : ∀ e ∈ es, e.1 ≠ id) : kput es id s = es ++ [(id, s)] := by
  unfold kput kidx
  rw [List.findIdx?_eq_none_iff.2 fun y hy => by simpa using h y hy]
theorem klook_split (h : klook es id = some s) : ∃ e1 e2, es = e1 ++ (id, s) :: e2 ∧ (∀ e ∈ e1, e.1 ≠ id) ∧ kdel es id = e1 ++ e2 := by
  induction es with
  | nil => cases h
  | cons a es ih =>
    unfold klook at h
    rw [List.find?_cons] at h
    cases hc : decide (a.1 = id) with
    | true =>
      rw [hc] at h
      cases h
      refine ⟨[], es, ?_, by simp, ?_⟩
      · have : a.1 = id := by simpa using hc
        rw [← this]; rfl
      · unfold kdel kidx
        rw [List.findIdx?_cons, hc]
        rfl
    | false =>
      rw [hc] at h
      obtain ⟨e1, e2, h1, h2, h3⟩ := ih h
      refine ⟨a :: e1, e2, by rw [h1]; rfl, fun e he => ?_, ?_⟩
      · rcases List.mem_cons.1 he with rfl | he
        · simpa using hc
        · exact h2 e he
      · unfold kdel kidx at h3 ⊢
        rw [List.findIdx?_cons, hc]
        cases hk : List.findIdx? (fun e => decide (e.1 = id)) es with
        | none => rw [hk] at h3; simp only at h3; simp [h3]
        | some i => rw [hk] at h3; simp only at h3; simp [h3]
theorem klook_app_ne (h : id' ≠ id) (e1 e2 : List (Int × SV)) : klook (e1 ++ (id, s) :: e2) id' = klook (e1 ++ e2) id' := by
  unfold klook
  rw [List.find?_append, List.find?_append, List.find?_cons]
  rw [show decide (id = id') = false by simpa using fun hc => h hc.symm]
theorem klook_del (h : klook es id = some s) (hne : id' ≠ id) : klook (kdel es id) id' = klook es id' := by
  obtain ⟨e1, e2, h1, _, h3⟩ := klook_split h
  rw [h3, h1, klook_app_ne hne]
theorem klook_put_self (h : ∀ e ∈ es, e.1 ≠ id) : klook (es ++ [(id, s)]) id = some s := by
  unfold klook
  rw [List.find?_append, List.find?_eq_none.2 fun e he => by simpa using h e he]
  simp
theorem klook_put_ne (h : id' ≠ id) : klook (es ++ [(id, s)]) id' = klook es id' := by
  have := klook_app_ne (s := s) h es []
  rwa [List.append_nil] at this
def Ms (es : List (Int × SV)) : Asr := Asr.all (es.map fun e => Row encB 1 e.2 [e.1 - 1])
theorem Ms.put {L : List Asr} : LEnt (Row encB 1 s [id - 1] :: Ms es :: L) (Ms (es ++ [(id, s)]) :: L) := fun ρ H R hs => by
  have h1 : Sat ρ H (es.map (fun e => Row encB 1 e.2 [e.1 - 1]) ++ (Row encB 1 s [id - 1] :: (L ++ R))) := Sat.all (hs.perm (List.Perm.swap _ _ _))
  refine Sat.mkAll ?_
  rw [List.map_append, List.append_assoc]
  exact h1
theorem Ms.out {L : List Asr} (h : klook es id = some s) : LEnt (Ms es :: L) (Row encB 1 s [id - 1] :: Ms (kdel es id) :: L) := fun ρ H R hs => by
  obtain ⟨e1, e2, h1, _, h3⟩ := klook_split h
  have h2 : Sat ρ H (es.map (fun e => Row encB 1 e.2 [e.1 - 1]) ++ (L ++ R)) := Sat.all hs
  rw [h1, List.map_append, List.map_cons, List.append_assoc, List.cons_append] at h2
  have h4 := h2.perm List.perm_middle
  refine (Sat.mkAll (l := (kdel es id).map fun e => Row encB 1 e.2 [e.1 - 1]) ?_).perm (List.Perm.swap _ _ _)
  rw [h3, List.map_append]
  refine h4.perm ?_
  have := (List.perm_middle (l₁ := e1.map (fun e => Row encB 1 e.2 [e.1 - 1]) ++ e2.map (fun e => Row encB 1 e.2 [e.1 - 1])) (l₂ := L ++ R) (a := Row encB 1 s [id - 1])).symm
  simpa [List.append_assoc] using this
theorem Ms.nil {L : List Asr} : LEnt L (Ms [] :: L) := fun _ _ _ hs => Sat.mkAll (l := []) hs
end
end Go.AM

/-
  THE ABSTRACT MACHINE DOES NOT CARE FOR NAMES: values and code renamed.
-/
namespace Go.AM
section
variable (π : Nat → Nat)
def renA (a : Nat × Nat) : Nat × Nat := (π a.1, a.2)
def SV.ren : SV → SV
  | .ptr a => .ptr (a.map (renA π))
  | .slice a l c e => .slice (a.map (renA π)) l c e
  | .map r => .map (r.map π)
  | .fn f caps => .fn f (caps.map (renA π))
  | .bfn f a => .bfn f (renA π a)
  | .int k n => .int k n
  | .bool b => .bool b
  | .str s => .str s
  | .nilfn => .nilfn
  | .nili => .nili
  | .ifc => .ifc
abbrev renL (l : List SV) : List SV := l.map (SV.ren π)
def Part.ren : Part → Part
  | .s x => .s (x.ren π)
  | .agg l => .agg (renL π l)
def AV.ren : AV → AV
  | .s x => .s (x.ren π)
  | .agg l => .agg (renL π l)
  | .tup l => .tup (l.map (Part.ren π))
def renE (e : SV × Part) : SV × Part := (e.1.ren π, e.2.ren π)
def Blk.ren : Blk → Blk
  | .dead => .dead
  | .cells ro l => .cells ro (renL π l)
  | .map es => .map (es.map (renE π))
end
def SV.nn : SV → Bool
  | .ptr a => a.isNone
  | .slice a _ _ _ => a.isNone
  | .map r => r.isNone
  | .fn _ caps => caps.isEmpty
  | .bfn _ _ => false
  | _ => true
def nnL (l : List SV) : Bool := l.all SV.nn
def Part.nn : Part → Bool
  | .s x => x.nn
  | .agg l => nnL l
def AV.nn : AV → Bool
  | .s x => x.nn
  | .agg l => nnL l
  | .tup l => l.all Part.nn
def Opd.nn (g : Nat) : Opd → Bool
  | .t _ => true
  | .c v => v.nn
  | .g n => Nat.blt n g
def optNN (g : Nat) : Option Opd → Bool
  | none => true
  | some x => x.nn g
def psNN (g : Nat) (ps : List (Nat × Nat × Opd)) : Bool := ps.all fun p => p.2.2.nn g
def opsNN (g : Nat) (l : List Opd) : Bool := l.all (Opd.nn g)
def ROp.nn (g : Nat) : ROp → Bool
  | .move x | .nilCheck x | .box x | .load _ x | .fieldAddr _ x | .field _ _ x | .un _ x | .conv _ x | .extract _ x | .len x | .bindf _ x => x.nn g
  | .pick c a b => c.nn g && a.nn g && b.nn g
  | .newc l => nnL l
  | .build z ps => nnL z && psNN g ps
  | .buildSlice _ _ z ps => nnL z && psNN g ps
  | .store _ a v => a.nn g && v.nn g
  | .indexSl _ x i | .indexArr _ _ x i | .index _ _ _ x i => x.nn g && i.nn g
  | .slSl _ x lo hi mx => x.nn g && optNN g lo && optNN g hi && optNN g mx
  | .bin _ x y | .eqs _ _ x y | .eqAgg _ _ x y | .minmax _ x y | .copy _ x y => x.nn g && y.nn g
  | .makeSlice _ _ z l c => nnL z && l.nn g && c.nn g
  | .makeFunc _ caps => opsNN g caps
  | .lenArr _ => true
  | .append _ _ s x => s.nn g && x.nn g
  | .clear _ z x => nnL z && x.nn g
  | .call _ args => opsNN g args
  | .callv x args => x.nn g && opsNN g args
  | .stuck => true
  | .hop _ args => opsNN g args
def ROper.nn (g : Nat) (o : ROper) : Bool := o.op.nn g && o.watch.all fun w => w.a.nn g
def RC.nn (g : Nat) : RC → Bool
  | .skip | .ret | .exit _ => true
  | .region _ ops => ops.all (ROper.nn g)
  | .seq a b => a.nn g && b.nn g
  | .cond c a b => c.nn g && a.nn g && b.nn g
  | .block _ a => a.nn g
  | .loop a => a.nn g
section
variable {π : Nat → Nat}
theorem sv_nn {x : SV} (h : x.nn = true) : x.ren π = x := by
  cases x with
  | ptr a => cases a with | none => rfl | some a => cases h
  | slice a l c e => cases a with | none => rfl | some a => cases h
  | map a => cases a with | none => rfl | some a => cases h
  | fn f l => cases l with | nil => rfl | cons a l => cases h
  | bfn f a => cases h
  | _ => rfl
theorem l_nn {l : List SV} (h : nnL l = true) : renL π l = l := by
  induction l with
  | nil => rfl
  | cons a l ih =>
    simp only [nnL, List.all_cons, Bool.and_eq_true] at h
    show a.ren π :: renL π l = _
    rw [sv_nn h.1, ih h.2]
theorem part_nn {p : Part} (h : p.nn = true) : p.ren π = p := by
  cases p with
  | s x => show Part.s _ = _; rw [sv_nn h]
  | agg l => show Part.agg _ = _; rw [l_nn h]
theorem av_nn {v : AV} (h : v.nn = true) : v.ren π = v := by
  cases v with
  | s x => show AV.s _ = _; rw [sv_nn h]
  | agg l => show AV.agg _ = _; rw [l_nn h]
  | tup l =>
    show AV.tup _ = _
    congr 1
    induction l with
    | nil => rfl
    | cons a l ih =>
      simp only [AV.nn, List.all_cons, Bool.and_eq_true] at h
      rw [List.map_cons, part_nn h.1, ih h.2]
theorem ren_part (p : Part) : (p.ren π).av = p.av.ren π := by cases p <;> rfl
theorem ren_partQ (v : AV) : (v.ren π).part? = v.part?.map (Part.ren π) := by cases v <;> rfl
theorem ren_cells (v : AV) : (v.ren π).cells? = v.cells?.map (renL π) := by cases v <;> rfl
theorem ren_pick (c a b : AV) : pickA (c.ren π) (a.ren π) (b.ren π) = (pickA c a b).map (AV.ren π) := by
  cases c with
  | s x => cases x with
    | bool b => cases b <;> rfl
    | _ => rfl
  | _ => rfl
theorem ren_nilCheck (v : AV) : nilCheckA (v.ren π) = (nilCheckA v).map (AV.ren π) := by
  cases v with
  | s x => cases x with
    | ptr a => cases a <;> rfl
    | _ => rfl
  | _ => rfl
theorem ren_splice (l : List SV) (o : Nat) (vs : List SV) : renL π (splice l o vs) = splice (renL π l) o (renL π vs) := by
  simp [splice, renL]
theorem ren_fill : ∀ (ps : List (Nat × Nat × AV)) (z : List SV), fillA (renL π z) (ps.map fun p => (p.1, p.2.1, p.2.2.ren π)) = (fillA z ps).map (renL π)
  | [], z => rfl
  | (off, size, v) :: ps, z => by
    have ih := ren_fill ps
    simp only [List.map_cons, fillA, ren_cells]
    cases hv : v.cells? with
    | none => rfl
    | some l =>
      simp only [Option.map_some, List.length_map]
      split
      · rw [← ren_splice, ih]
      · rfl
theorem ren_partA (m : Option Nat) (l : List SV) (off : Nat) : partA m (renL π l) off = (partA m l off).map (AV.ren π) := by
  cases m with
  | none =>
    simp only [partA, List.getElem?_map]
    cases l[off]? <;> rfl
  | some n =>
    simp only [partA, List.length_map]
    split
    · simp only [Option.map_some, AV.ren, renL, List.map_take, List.map_drop]
    · rfl
theorem ren_fieldAddr (off : Nat) (v : AV) : fieldAddrA off (v.ren π) = (fieldAddrA off v).map (AV.ren π) := by
  cases v with
  | s x => cases x with
    | ptr a => cases a <;> rfl
    | _ => rfl
  | _ => rfl
theorem ren_field (m : Option Nat) (off : Nat) (v : AV) : fieldA m off (v.ren π) = (fieldA m off v).map (AV.ren π) := by
  cases v with
  | agg l => exact ren_partA m l off
  | _ => rfl
theorem ren_indexSl (esz : Nat) (x i : AV) : indexSlA esz (x.ren π) (i.ren π) = (indexSlA esz x i).map (AV.ren π) := by
  cases x with
  | s x => cases x with
    | slice a l c e => cases a with
      | none => rfl
      | some a => cases i with
        | s i => cases i with
          | int k n =>
            show (if _ then _ else _) = Option.map _ (if _ then _ else _)
            split <;> rfl
          | _ => rfl
        | _ => rfl
    | _ => rfl
  | _ => rfl
theorem ren_indexArr (len esz : Nat) (x i : AV) : indexArrA len esz (x.ren π) (i.ren π) = (indexArrA len esz x i).map (AV.ren π) := by
  cases x with
  | s x => cases x with
    | ptr a => cases a with
      | none => rfl
      | some a => cases i with
        | s i => cases i with
          | int k n =>
            show (if _ then _ else _) = Option.map _ (if _ then _ else _)
            split <;> rfl
          | _ => rfl
        | _ => rfl
    | _ => rfl
  | _ => rfl
theorem strIx_ren (len esz : Nat) (m : Option Nat) (s : ByteArray) (n : Int) : strIx len esz m s n = (strIx len esz m s n).map (AV.ren π) := by
  unfold strIx
  split
  · split
    · split <;> rfl
    · split <;> rfl
  · rfl
theorem ren_index (len esz : Nat) (m : Option Nat) (x i : AV) : indexA len esz m (x.ren π) (i.ren π) = (indexA len esz m x i).map (AV.ren π) := by
  cases x with
  | agg l => cases i with
    | s i => cases i with
      | int k n =>
        show (if _ then _ else _) = Option.map _ (if _ then _ else _)
        split
        · exact ren_partA m l _
        · rfl
      | _ => rfl
    | _ => rfl
  | s x => cases x with
    | str s => cases i with
      | s i => cases i with
        | int k n => exact strIx_ren len esz m s n
        | _ => rfl
      | _ => rfl
    | _ => rfl
  | _ => rfl
theorem ren_bound (d y : Nat) (v : Option AV) : boundA d y (v.map (AV.ren π)) = boundA d y v := by
  cases v with
  | none => rfl
  | some v => cases v with
    | s x => cases x <;> rfl
    | _ => rfl
theorem ren_bounds (len cap : Nat) (lo hi mx : Option AV) : boundsA len cap (lo.map (AV.ren π)) (hi.map (AV.ren π)) (mx.map (AV.ren π)) = boundsA len cap lo hi mx := by
  simp only [boundsA, ren_bound]
theorem ren_strSl (esz : Nat) (s : ByteArray) (lo hi mx : Option AV) : strSl esz s (lo.map (AV.ren π)) (hi.map (AV.ren π)) (mx.map (AV.ren π)) = (strSl esz s lo hi mx).map (AV.ren π) := by
  unfold strSl
  split
  · cases mx with
    | none => rfl
    | some v => cases v with
      | s x => cases x with
        | str t =>
          show (boundsA _ _ _ _ none).bind _ = Option.map _ ((boundsA _ _ _ _ none).bind _)
          have := ren_bounds (π := π) s.size s.size lo hi none
          rw [show (none : Option AV).map (AV.ren π) = none from rfl] at this
          rw [this]
          cases boundsA s.size s.size lo hi none <;> rfl
        | _ => rfl
      | _ => rfl
  · rfl
theorem ren_slSl (esz : Nat) (x : AV) (lo hi mx : Option AV) : slSlA esz (x.ren π) (lo.map (AV.ren π)) (hi.map (AV.ren π)) (mx.map (AV.ren π)) = (slSlA esz x lo hi mx).map (AV.ren π) := by
  cases x with
  | s x => cases x with
    | slice a l c e => cases a with
      | none =>
        show (boundsA _ _ _ _ _).bind _ = Option.map _ ((boundsA _ _ _ _ _).bind _)
        rw [ren_bounds]
        cases boundsA l c lo hi mx <;> rfl
      | some a =>
        show (if _ then (boundsA _ _ _ _ _).bind _ else _) = Option.map _ (if _ then (boundsA _ _ _ _ _).bind _ else _)
        rw [ren_bounds]
        split
        · cases boundsA l c lo hi mx <;> rfl
        · rfl
    | str s => exact ren_strSl esz s lo hi mx
    | _ => rfl
  | _ => rfl
theorem sv_arith {op : BinOp} {k : IntKind} {x y : Int} {v : SV} (h : arithA op k x y = some v) : v.ren π = v := by
  unfold arithA at h
  split at h
  all_goals first
    | (split at h <;> first | (cases h; rfl) | cases h)
    | (cases h; rfl)
    | cases h
theorem sv_shift {l : Bool} {k : IntKind} {x y : Int} {v : SV} (h : shiftA l k x y = some v) : v.ren π = v := by
  unfold shiftA at h
  split at h
  · cases h
  · split at h <;> (cases h; rfl)
theorem ren_bin (op : BinOp) (x y : AV) : binA op (x.ren π) (y.ren π) = (binA op x y).map (AV.ren π) := by
  have key : ∀ o : Option SV, (∀ v, o = some v → v.ren π = v) → o.map AV.s = (o.map AV.s).map (AV.ren π) := by
    intro o h
    cases o with
    | none => rfl
    | some v => show some (AV.s v) = some (AV.s (v.ren π)); rw [h v rfl]
  cases x with
  | s x => cases x with
    | int k a => cases y with
      | s y => cases y with
        | int k' b =>
          show binA op (.s (.int k a)) (.s (.int k' b)) = Option.map _ (binA op (.s (.int k a)) (.s (.int k' b)))
          simp only [binA]
          split
          · exact key _ fun v h => sv_shift h
          · exact key _ fun v h => sv_shift h
          · split
            · exact key _ fun v h => sv_arith h
            · rfl
        | _ => rfl
      | _ => rfl
    | str a => cases y with
      | s y => cases y with
        | str b =>
          show (if _ then _ else _) = Option.map _ (if _ then _ else _)
          split <;> rfl
        | _ => rfl
      | _ => rfl
    | _ => rfl
  | _ => rfl
theorem ren_eqs (k : EqK) (ng : Bool) (x y : AV) : eqsA k ng (x.ren π) (y.ren π) = (eqsA k ng x y).map (AV.ren π) := by
  cases x with
  | s x =>
    cases k with
    | bool => cases x <;> (try rfl); cases y with
      | s y => cases y <;> rfl
      | _ => rfl
    | str => cases x <;> (try rfl); cases y with
      | s y => cases y <;> rfl
      | _ => rfl
    | ptr => cases x <;> (try rfl); rename_i a; cases a <;> (cases y with
      | s y => cases y <;> (try rfl); rename_i b; cases b <;> rfl
      | _ => rfl)
    | slice => cases x <;> (try rfl); rename_i a _ _ _; cases a <;> (cases y with
      | s y => cases y <;> (try rfl); rename_i b _ _ _; cases b <;> rfl
      | _ => rfl)
    | map => cases x <;> (try rfl); rename_i a; cases a <;> (cases y with
      | s y => cases y <;> (try rfl); rename_i b; cases b <;> rfl
      | _ => rfl)
    | fn => cases x <;> (try rfl) <;> (cases y with
      | s y => cases y <;> rfl
      | _ => rfl)
    | iface => cases x <;> (try rfl) <;> (cases y with
      | s y => cases y <;> rfl
      | _ => rfl)
  | agg l => cases k <;> rfl
  | tup l => cases k <;> rfl
theorem ren_eqCells : ∀ (ks : List Bool) (xs ys : List SV), eqCells ks (renL π xs) (renL π ys) = eqCells ks xs ys
  | [], [], [] => rfl
  | [], [], _ :: _ => rfl
  | [], _ :: _, _ => by cases ‹List SV› <;> rfl
  | false :: ks, [], _ => rfl
  | true :: ks, [], _ => rfl
  | false :: ks, x :: xs, [] => by cases x <;> rfl
  | true :: ks, x :: xs, [] => by cases x <;> rfl
  | false :: ks, x :: xs, y :: ys => by
    have ih := ren_eqCells ks xs ys
    cases x <;> (try rfl); cases y <;> (try rfl)
    simp only [renL, List.map_cons, SV.ren, eqCells] at ih ⊢
    rw [ih]
  | true :: ks, x :: xs, y :: ys => by
    have ih := ren_eqCells ks xs ys
    cases x <;> (try rfl); cases y <;> (try rfl)
    simp only [renL, List.map_cons, SV.ren, eqCells] at ih ⊢
    rw [ih]
theorem ren_eqAgg (ks : List Bool) (ng : Bool) (x y : AV) : eqAggA ks ng (x.ren π) (y.ren π) = (eqAggA ks ng x y).map (AV.ren π) := by
  cases x with
  | agg xs => cases y with
    | agg ys =>
      show Option.map _ (eqCells ks (renL π xs) (renL π ys)) = Option.map _ (Option.map _ (eqCells ks xs ys))
      rw [ren_eqCells]
      cases eqCells ks xs ys <;> rfl
    | _ => rfl
  | _ => rfl
theorem ren_un (op : UnOp) (x : AV) : unA op (x.ren π) = (unA op x).map (AV.ren π) := by
  cases op <;> (cases x with
    | s x => cases x <;> rfl
    | _ => rfl)
theorem ren_conv (k : IntKind) (x : AV) : convA k (x.ren π) = (convA k x).map (AV.ren π) := by
  cases x with
  | s x => cases x <;> rfl
  | _ => rfl
theorem ren_bind (f : Nat) (x : AV) : bindA f (x.ren π) = (bindA f x).map (AV.ren π) := by
  cases x with
  | s x => cases x <;> (try rfl); rename_i a; cases a <;> rfl
  | _ => rfl
theorem ren_caps : ∀ l : List AV, capsA (l.map (AV.ren π)) = (capsA l).map fun c => c.map (renA π)
  | [] => rfl
  | v :: l => by
    have ih := ren_caps l
    cases v with
    | s x =>
      cases x <;> (try rfl)
      rename_i a
      cases a with
      | none => rfl
      | some a =>
        show Option.map _ (capsA (l.map (AV.ren π))) = Option.map _ (Option.map _ (capsA l))
        rw [ih]
        cases capsA l <;> rfl
    | _ => rfl
theorem ren_extract (i : Nat) (x : AV) : extractA i (x.ren π) = (extractA i x).map (AV.ren π) := by
  cases x with
  | tup l =>
    show ((l.map (Part.ren π))[i]?).map Part.av = Option.map _ ((l[i]?).map Part.av)
    rw [List.getElem?_map]
    cases l[i]? with
    | none => rfl
    | some p => show some _ = some _; rw [← ren_part]
  | _ => rfl
theorem ren_len (x : AV) : lenA (x.ren π) = (lenA x).map (AV.ren π) := by
  cases x with
  | s x => cases x <;> rfl
  | _ => rfl
theorem ren_minmax (mx : Bool) (x y : AV) : minmaxA mx (x.ren π) (y.ren π) = (minmaxA mx x y).map (AV.ren π) := by
  cases x with
  | s x => cases x <;> (try rfl); cases y with
    | s y => cases y <;> rfl
    | _ => rfl
  | _ => rfl
theorem ren_slLen (x : AV) : slLen (x.ren π) = slLen x := by
  cases x with
  | s x => cases x <;> rfl
  | _ => rfl
def EvR (π : Nat → Nat) (g : Nat) (E E2 : Opd → AV) : Prop := ∀ x : Opd, x.nn g = true → E2 x = (E x).ren π
theorem EvR.ps {g : Nat} {E E2 : Opd → AV} (h : EvR π g E E2) {ps : List (Nat × Nat × Opd)} (hn : psNN g ps = true) : (ps.map fun p => (p.1, p.2.1, E2 p.2.2)) = (ps.map fun p => (p.1, p.2.1, E p.2.2)).map fun p => (p.1, p.2.1, p.2.2.ren π) := by
  rw [List.map_map]
  apply List.map_congr_left
  intro p hp
  have := h p.2.2 (List.all_eq_true.1 hn p hp)
  simp [this]
theorem EvR.ops {g : Nat} {E E2 : Opd → AV} (h : EvR π g E E2) {l : List Opd} (hn : opsNN g l = true) : l.map E2 = (l.map E).map (AV.ren π) := by
  rw [List.map_map]
  exact List.map_congr_left fun p hp => h p (List.all_eq_true.1 hn p hp)
theorem EvR.opt {g : Nat} {E E2 : Opd → AV} (h : EvR π g E E2) {x : Option Opd} (hn : optNN g x = true) : x.map E2 = (x.map E).map (AV.ren π) := by
  cases x with
  | none => rfl
  | some x => show some _ = some _; rw [h x hn]
theorem pure_ren {g : Nat} {E E2 : Opd → AV} (h : EvR π g E E2) {o : ROp} (hn : o.nn g = true) : pureA E2 o = (pureA E o).map (AV.ren π) := by
  cases o with
  | move x => show some _ = some _; rw [h x hn]
  | pick c a b =>
    simp only [ROp.nn, Bool.and_eq_true] at hn
    simp only [pureA]; rw [h c hn.1.1, h a hn.1.2, h b hn.2, ren_pick]
  | nilCheck x => simp only [pureA]; rw [h x hn, ren_nilCheck]
  | build z ps =>
    simp only [ROp.nn, Bool.and_eq_true] at hn
    simp only [pureA, buildA]
    rw [h.ps hn.2]
    conv => lhs; rw [← l_nn (π := π) hn.1]
    rw [ren_fill]
    cases fillA z _ <;> rfl
  | fieldAddr off x => simp only [pureA]; rw [h x hn, ren_fieldAddr]
  | field m off x => simp only [pureA]; rw [h x hn, ren_field]
  | indexSl e x i => simp only [ROp.nn, Bool.and_eq_true] at hn; simp only [pureA]; rw [h x hn.1, h i hn.2, ren_indexSl]
  | indexArr l e x i => simp only [ROp.nn, Bool.and_eq_true] at hn; simp only [pureA]; rw [h x hn.1, h i hn.2, ren_indexArr]
  | index l e m x i => simp only [ROp.nn, Bool.and_eq_true] at hn; simp only [pureA]; rw [h x hn.1, h i hn.2, ren_index]
  | slSl e x lo hi mx =>
    simp only [ROp.nn, Bool.and_eq_true] at hn
    simp only [pureA]; rw [h x hn.1.1.1, h.opt hn.1.1.2, h.opt hn.1.2, h.opt hn.2, ren_slSl]
  | bin op x y => simp only [ROp.nn, Bool.and_eq_true] at hn; simp only [pureA]; rw [h x hn.1, h y hn.2, ren_bin]
  | eqs k ng x y => simp only [ROp.nn, Bool.and_eq_true] at hn; simp only [pureA]; rw [h x hn.1, h y hn.2, ren_eqs]
  | eqAgg k ng x y => simp only [ROp.nn, Bool.and_eq_true] at hn; simp only [pureA]; rw [h x hn.1, h y hn.2, ren_eqAgg]
  | un op x => simp only [pureA]; rw [h x hn, ren_un]
  | conv k x => simp only [pureA]; rw [h x hn, ren_conv]
  | makeFunc f caps =>
    simp only [pureA]
    rw [h.ops hn, ren_caps]
    cases capsA (caps.map E) <;> rfl
  | bindf f x => simp only [pureA]; rw [h x hn, ren_bind]
  | extract i x => simp only [pureA]; rw [h x hn, ren_extract]
  | len x => simp only [pureA]; rw [h x hn, ren_len]
  | lenArr n => rfl
  | minmax mx x y => simp only [ROp.nn, Bool.and_eq_true] at hn; simp only [pureA]; rw [h x hn.1, h y hn.2, ren_minmax]
  | _ => rfl
end
end Go.AM
