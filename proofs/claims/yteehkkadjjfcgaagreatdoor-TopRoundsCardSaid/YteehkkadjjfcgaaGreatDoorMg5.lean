/-
  The code of the functions,as the abstract machine has it; it is the program's.
-/
import Derived.Test.YteehkkadjjfcgaaGreatDoorMg1
import Derived.Test.YteehkkadjjfcgaaGreatDoorMg2
import Derived.Test.YteehkkadjjfcgaaGreatDoorProg
import Derived.KernelRfl
set_option maxRecDepth 100000
namespace Go.AM.R
open Go.AM
def mpf_Pool_Put : RFunc := RFunc.mk 53 [.tmp 4,.tmp 5] (
  RC.seq (RC.region 2 [
  ⟨some 4,.move (.c (.s (.int .i64 0))),none,0,[]⟩,
  ⟨some 5,.move (.c (.s (.int .i64 0))),none,1,[]⟩]) (RC.seq (RC.region 11 [
  ⟨some 11,.move (.t 0),none,0,[]⟩,
  ⟨some 12,.nilCheck (.t 11),none,1,[]⟩,
  ⟨some 13,.fieldAddr 6 (.t 12),none,2,[]⟩,
  ⟨some 14,.load none (.t 13),none,3,[]⟩,
  ⟨some 15,.move (.t 1),none,4,[]⟩,
  ⟨some 16,.call F.slices_BinarySearch__int_int [(.t 14),(.t 15)],none,5,[]⟩,
  ⟨some 10,.move (.t 16),none,6,[]⟩,
  ⟨some 17,.extract 0 (.t 10),none,7,[]⟩,
  ⟨some 18,.extract 1 (.t 10),none,8,[]⟩,
  ⟨some 6,.move (.t 17),none,9,[]⟩,
  ⟨some 7,.move (.t 18),none,10,[]⟩]) (RC.seq (RC.seq (RC.region 2 [
  ⟨some 19,.move (.t 7),none,0,[]⟩,
  ⟨some 20,.un .not (.t 19),none,1,[]⟩]) (RC.cond (.t 20) (RC.seq (RC.region 2 [
  ⟨some 4,.move (.c (.s (.int .i64 0))),none,0,[]⟩,
  ⟨some 5,.move (.c (.s (.int .i64 (-17)))),none,1,[]⟩]) (RC.ret)) (RC.skip))) (RC.seq (RC.seq (RC.region 11 [
  ⟨some 22,.move (.t 0),none,0,[]⟩,
  ⟨some 23,.nilCheck (.t 22),none,1,[]⟩,
  ⟨some 24,.fieldAddr 0 (.t 23),none,2,[]⟩,
  ⟨some 25,.load none (.t 24),none,3,[]⟩,
  ⟨some 26,.call F.order_Queue_Take [(.t 25)],none,4,[]⟩,
  ⟨some 21,.move (.t 26),none,5,[]⟩,
  ⟨some 27,.extract 0 (.t 21),none,6,[]⟩,
  ⟨some 28,.extract 1 (.t 21),none,7,[]⟩,
  ⟨some 8,.newc [.int .i64 0,.int .i64 0],none,8,[]⟩,
  ⟨none,.store 2 (.t 8) (.t 27),none,9,[]⟩,
  ⟨some 9,.move (.t 28),none,10,[]⟩]) (RC.seq (RC.region 1 [
  ⟨some 29,.move (.t 9),none,0,[]⟩]) (RC.cond (.t 29) (RC.seq (RC.region 4 [
  ⟨some 30,.fieldAddr 0 (.t 8),none,0,[]⟩,
  ⟨some 31,.load none (.t 30),none,1,[]⟩,
  ⟨some 4,.move (.t 31),none,2,[]⟩,
  ⟨some 5,.move (.c (.s (.int .i64 0))),none,3,[]⟩]) (RC.ret)) (RC.skip)))) (RC.seq (RC.region 12 [
  ⟨some 32,.move (.t 0),none,0,[]⟩,
  ⟨some 33,.move (.t 0),none,1,[]⟩,
  ⟨some 34,.nilCheck (.t 33),none,2,[]⟩,
  ⟨some 35,.fieldAddr 6 (.t 34),none,3,[]⟩,
  ⟨some 36,.load none (.t 35),none,4,[]⟩,
  ⟨some 37,.move (.t 6),none,5,[]⟩,
  ⟨some 38,.move (.t 6),none,6,[]⟩,
  ⟨some 39,.bin .add (.t 38) (.c (.s (.int .i64 1))),none,7,[]⟩,
  ⟨some 40,.call F.slices_Delete__int_int [(.t 36),(.t 37),(.t 39)],none,8,[]⟩,
  ⟨some 41,.nilCheck (.t 32),none,9,[]⟩,
  ⟨some 42,.fieldAddr 6 (.t 41),none,10,[]⟩,
  ⟨none,.store 1 (.t 42) (.t 40),none,11,[]⟩]) (RC.seq (RC.region 11 [
  ⟨some 43,.move (.t 0),none,0,[]⟩,
  ⟨some 44,.move (.t 0),none,1,[]⟩,
  ⟨some 45,.nilCheck (.t 44),none,2,[]⟩,
  ⟨some 46,.fieldAddr 5 (.t 45),none,3,[]⟩,
  ⟨some 47,.load none (.t 46),none,4,[]⟩,
  ⟨some 48,.move (.t 1),none,5,[]⟩,
  ⟨some 49,.buildSlice 1 1 [.int .i64 0] [(0,1,(.t 48))],none,6,[]⟩,
  ⟨some 50,.append 1 8 (.t 47) (.t 49),none,7,[]⟩,
  ⟨some 51,.nilCheck (.t 43),none,8,[]⟩,
  ⟨some 52,.fieldAddr 5 (.t 51),none,9,[]⟩,
  ⟨none,.store 1 (.t 52) (.t 50),none,10,[]⟩]) (RC.seq (RC.region 2 [
  ⟨some 4,.move (.c (.s (.int .i64 0))),none,0,[]⟩,
  ⟨some 5,.move (.c (.s (.int .i64 0))),none,1,[]⟩]) (RC.ret))))))))
theorem mpf_Pool_Put_ok : chkFunc Go.Proofs.Tryz.prog [0] Go.Proofs.Tryz.f144 mpf_Pool_Put = true := by kernel_rfl
def mpf_Pool_Poll_s0 : RC :=
  RC.seq (RC.region 11 [
  ⟨some 67,.move (.t 0),none,0,[]⟩,
  ⟨some 68,.nilCheck (.t 67),none,1,[]⟩,
  ⟨some 69,.fieldAddr 6 (.t 68),none,2,[]⟩,
  ⟨some 70,.load none (.t 69),none,3,[]⟩,
  ⟨some 71,.move (.t 4),none,4,[]⟩,
  ⟨some 72,.call F.slices_BinarySearch__int_int [(.t 70),(.t 71)],none,5,[]⟩,
  ⟨some 66,.move (.t 72),none,6,[]⟩,
  ⟨some 73,.extract 0 (.t 66),none,7,[]⟩,
  ⟨some 74,.extract 1 (.t 66),none,8,[]⟩,
  ⟨some 6,.move (.t 73),none,9,[]⟩,
  ⟨some 7,.move (.t 74),none,10,[]⟩]) (RC.seq (RC.region 12 [
  ⟨some 75,.move (.t 0),none,0,[]⟩,
  ⟨some 76,.move (.t 0),none,1,[]⟩,
  ⟨some 77,.nilCheck (.t 76),none,2,[]⟩,
  ⟨some 78,.fieldAddr 6 (.t 77),none,3,[]⟩,
  ⟨some 79,.load none (.t 78),none,4,[]⟩,
  ⟨some 80,.move (.t 6),none,5,[]⟩,
  ⟨some 81,.move (.t 4),none,6,[]⟩,
  ⟨some 82,.buildSlice 1 1 [.int .i64 0] [(0,1,(.t 81))],none,7,[]⟩,
  ⟨some 83,.call F.slices_Insert__int_int [(.t 79),(.t 80),(.t 82)],none,8,[]⟩,
  ⟨some 84,.nilCheck (.t 75),none,9,[]⟩,
  ⟨some 85,.fieldAddr 6 (.t 84),none,10,[]⟩,
  ⟨none,.store 1 (.t 85) (.t 83),none,11,[]⟩]) (RC.seq (RC.region 3 [
  ⟨some 86,.move (.t 4),none,0,[]⟩,
  ⟨some 2,.move (.t 86),none,1,[]⟩,
  ⟨some 3,.move (.c (.s (.bool true))),none,2,[]⟩]) (RC.ret)))
def mpf_Pool_Poll : RFunc := RFunc.mk 87 [.tmp 2,.tmp 3] (
  RC.seq (RC.region 2 [
  ⟨some 2,.move (.c (.s (.int .i64 0))),none,0,[]⟩,
  ⟨some 3,.move (.c (.s (.bool false))),none,1,[]⟩]) (RC.seq (RC.region 1 [
  ⟨some 4,.move (.c (.s (.int .i64 0))),none,0,[]⟩]) (RC.seq (RC.seq (RC.region 6 [
  ⟨some 8,.move (.t 0),none,0,[]⟩,
  ⟨some 9,.nilCheck (.t 8),none,1,[]⟩,
  ⟨some 10,.fieldAddr 5 (.t 9),none,2,[]⟩,
  ⟨some 11,.load none (.t 10),none,3,[]⟩,
  ⟨some 12,.len (.t 11),none,4,[]⟩,
  ⟨some 5,.move (.t 12),none,5,[]⟩]) (RC.block 0 (RC.seq (RC.region 3 [
  ⟨some 14,.move (.t 5),none,0,[]⟩,
  ⟨some 15,.bin .gtr (.t 14) (.c (.s (.int .i64 0))),none,1,[]⟩,
  ⟨some 13,.move (.t 15),none,2,[]⟩]) (RC.cond (.t 13) (RC.seq (RC.region 9 [
  ⟨some 16,.move (.t 0),none,0,[]⟩,
  ⟨some 17,.nilCheck (.t 16),none,1,[]⟩,
  ⟨some 18,.fieldAddr 5 (.t 17),none,2,[]⟩,
  ⟨some 19,.load none (.t 18),none,3,[]⟩,
  ⟨some 20,.move (.t 5),none,4,[]⟩,
  ⟨some 21,.bin .sub (.t 20) (.c (.s (.int .i64 1))),none,5,[]⟩,
  ⟨some 22,.indexSl 1 (.t 19) (.t 21),none,6,[]⟩,
  ⟨some 23,.load none (.t 22),none,7,[]⟩,
  ⟨some 4,.move (.t 23),none,8,[]⟩]) (RC.region 11 [
  ⟨some 24,.move (.t 0),none,0,[]⟩,
  ⟨some 25,.move (.t 0),none,1,[]⟩,
  ⟨some 26,.nilCheck (.t 25),none,2,[]⟩,
  ⟨some 27,.fieldAddr 5 (.t 26),none,3,[]⟩,
  ⟨some 28,.load none (.t 27),none,4,[]⟩,
  ⟨some 29,.move (.t 5),none,5,[]⟩,
  ⟨some 30,.bin .sub (.t 29) (.c (.s (.int .i64 1))),none,6,[]⟩,
  ⟨some 31,.slSl 1 (.t 28) none (some (.t 30)) none,none,7,[]⟩,
  ⟨some 32,.nilCheck (.t 24),none,8,[]⟩,
  ⟨some 33,.fieldAddr 5 (.t 32),none,9,[]⟩,
  ⟨none,.store 1 (.t 33) (.t 31),none,10,[]⟩])) (RC.seq (RC.region 10 [
  ⟨some 35,.move (.t 0),none,0,[]⟩,
  ⟨some 36,.nilCheck (.t 35),none,1,[]⟩,
  ⟨some 37,.fieldAddr 4 (.t 36),none,2,[]⟩,
  ⟨some 38,.load none (.t 37),none,3,[]⟩,
  ⟨some 39,.move (.t 0),none,4,[]⟩,
  ⟨some 40,.nilCheck (.t 39),none,5,[]⟩,
  ⟨some 41,.fieldAddr 2 (.t 40),none,6,[]⟩,
  ⟨some 42,.load none (.t 41),none,7,[]⟩,
  ⟨some 43,.bin .lss (.t 38) (.t 42),none,8,[]⟩,
  ⟨some 34,.move (.t 43),none,9,[]⟩]) (RC.cond (.t 34) (RC.seq (RC.region 16 [
  ⟨some 44,.move (.t 0),none,0,[]⟩,
  ⟨some 45,.nilCheck (.t 44),none,1,[]⟩,
  ⟨some 46,.fieldAddr 1 (.t 45),none,2,[]⟩,
  ⟨some 47,.load none (.t 46),none,3,[]⟩,
  ⟨some 48,.move (.t 0),none,4,[]⟩,
  ⟨some 49,.nilCheck (.t 48),none,5,[]⟩,
  ⟨some 50,.fieldAddr 4 (.t 49),none,6,[]⟩,
  ⟨some 51,.load none (.t 50),none,7,[]⟩,
  ⟨some 52,.move (.t 0),none,8,[]⟩,
  ⟨some 53,.nilCheck (.t 52),none,9,[]⟩,
  ⟨some 54,.fieldAddr 3 (.t 53),none,10,[]⟩,
  ⟨some 55,.load none (.t 54),none,11,[]⟩,
  ⟨some 56,.call F.nums_Align [(.t 55),(.c (.s (.int .i64 4)))],none,12,[⟨47,none,(.t 46),none⟩,⟨51,none,(.t 50),none⟩]⟩,
  ⟨some 57,.bin .mul (.t 51) (.t 56),none,13,[]⟩,
  ⟨some 58,.bin .add (.t 47) (.t 57),none,14,[]⟩,
  ⟨some 4,.move (.t 58),none,15,[]⟩]) (RC.region 8 [
  ⟨some 59,.move (.t 0),none,0,[]⟩,
  ⟨some 60,.nilCheck (.t 59),none,1,[]⟩,
  ⟨some 61,.fieldAddr 4 (.t 60),none,2,[]⟩,
  ⟨some 62,.load none (.t 61),none,3,[]⟩,
  ⟨some 63,.bin .add (.t 62) (.c (.s (.int .i64 1))),none,4,[]⟩,
  ⟨some 64,.nilCheck (.t 59),none,5,[]⟩,
  ⟨some 65,.fieldAddr 4 (.t 64),none,6,[]⟩,
  ⟨none,.store 1 (.t 65) (.t 63),none,7,[]⟩])) (RC.seq (RC.region 2 [
  ⟨some 2,.move (.c (.s (.int .i64 0))),none,0,[]⟩,
  ⟨some 3,.move (.c (.s (.bool false))),none,1,[]⟩]) (RC.ret)))))))) R.mpf_Pool_Poll_s0)))
theorem mpf_Pool_Poll_ok : chkFunc Go.Proofs.Tryz.prog [0] Go.Proofs.Tryz.f145 mpf_Pool_Poll = true := by kernel_rfl
def mpf_Pool_Get : RFunc := RFunc.mk 25 [.tmp 6,.tmp 7,.tmp 8] (
  RC.seq (RC.region 3 [
  ⟨some 6,.move (.c (.s (.int .i64 0))),none,0,[]⟩,
  ⟨some 7,.move (.c (.s (.bool false))),none,1,[]⟩,
  ⟨some 8,.move (.c (.s (.int .i64 0))),none,2,[]⟩]) (RC.seq (RC.seq (RC.region 7 [
  ⟨some 12,.move (.t 0),none,0,[]⟩,
  ⟨some 13,.call F.mpf_Pool_Poll [(.t 12)],none,1,[]⟩,
  ⟨some 11,.move (.t 13),none,2,[]⟩,
  ⟨some 14,.extract 0 (.t 11),none,3,[]⟩,
  ⟨some 15,.extract 1 (.t 11),none,4,[]⟩,
  ⟨some 9,.move (.t 14),none,5,[]⟩,
  ⟨some 10,.move (.t 15),none,6,[]⟩]) (RC.seq (RC.region 1 [
  ⟨some 16,.move (.t 10),none,0,[]⟩]) (RC.cond (.t 16) (RC.seq (RC.region 4 [
  ⟨some 17,.move (.t 9),none,0,[]⟩,
  ⟨some 6,.move (.t 17),none,1,[]⟩,
  ⟨some 7,.move (.c (.s (.bool true))),none,2,[]⟩,
  ⟨some 8,.move (.c (.s (.int .i64 0))),none,3,[]⟩]) (RC.ret)) (RC.skip)))) (RC.seq (RC.region 10 [
  ⟨some 18,.move (.t 0),none,0,[]⟩,
  ⟨some 19,.nilCheck (.t 18),none,1,[]⟩,
  ⟨some 20,.fieldAddr 0 (.t 19),none,2,[]⟩,
  ⟨some 21,.load none (.t 20),none,3,[]⟩,
  ⟨some 22,.move (.t 1),none,4,[]⟩,
  ⟨some 23,.move (.t 2),none,5,[]⟩,
  ⟨some 24,.call F.order_Queue_Add [(.t 21),(.t 22),(.t 23)],none,6,[]⟩,
  ⟨some 6,.move (.c (.s (.int .i64 0))),none,7,[]⟩,
  ⟨some 7,.move (.c (.s (.bool false))),none,8,[]⟩,
  ⟨some 8,.move (.t 24),none,9,[]⟩]) (RC.ret))))
theorem mpf_Pool_Get_ok : chkFunc Go.Proofs.Tryz.prog [0] Go.Proofs.Tryz.f146 mpf_Pool_Get = true := by kernel_rfl
def clock_Clock_Set : RFunc := RFunc.mk 14 [] (
  RC.region 11 [
  ⟨some 4,.move (.t 0),none,0,[]⟩,
  ⟨some 5,.move (.t 1),none,1,[]⟩,
  ⟨some 6,.move (.t 0),none,2,[]⟩,
  ⟨some 7,.nilCheck (.t 6),none,3,[]⟩,
  ⟨some 8,.fieldAddr 2 (.t 7),none,4,[]⟩,
  ⟨some 9,.load none (.t 8),none,5,[]⟩,
  ⟨some 10,.un .neg (.t 9),none,6,[]⟩,
  ⟨some 11,.call F.nums_Add [(.t 5),(.t 10)],none,7,[]⟩,
  ⟨some 12,.nilCheck (.t 4),none,8,[]⟩,
  ⟨some 13,.fieldAddr 3 (.t 12),none,9,[]⟩,
  ⟨none,.store 1 (.t 13) (.t 11),none,10,[]⟩])
theorem clock_Clock_Set_ok : chkFunc Go.Proofs.Tryz.prog [0] Go.Proofs.Tryz.f147 clock_Clock_Set = true := by kernel_rfl
def cyc_Hands_Start : RFunc := RFunc.mk 74 [.tmp 4] (
  RC.seq (RC.region 1 [
  ⟨some 4,.move (.c (.s (.int .i64 0))),none,0,[]⟩]) (RC.seq (RC.region 4 [
  ⟨some 7,.move (.t 0),none,0,[]⟩,
  ⟨some 8,.move (.t 1),none,1,[]⟩,
  ⟨some 9,.call F.cyc_Hands_cyc [(.t 7),(.t 8)],none,2,[]⟩,
  ⟨some 5,.move (.t 9),none,3,[]⟩]) (RC.seq (RC.seq (RC.region 2 [
  ⟨some 10,.move (.t 5),none,0,[]⟩,
  ⟨some 11,.eqs .ptr false (.t 10) (.c (.s (.ptr none))),none,1,[]⟩]) (RC.cond (.t 11) (RC.seq (RC.region 1 [
  ⟨some 4,.move (.c (.s (.int .i64 (-18)))),none,0,[]⟩]) (RC.ret)) (RC.skip))) (RC.seq (RC.region 4 [
  ⟨some 12,.move (.t 5),none,0,[]⟩,
  ⟨some 13,.nilCheck (.t 12),none,1,[]⟩,
  ⟨some 14,.fieldAddr 3 (.t 13),none,2,[]⟩,
  ⟨none,.store 1 (.t 14) (.c (.s (.bool true))),none,3,[]⟩]) (RC.seq (RC.seq (RC.region 6 [
  ⟨some 15,.move (.t 0),none,0,[]⟩,
  ⟨some 16,.nilCheck (.t 15),none,1,[]⟩,
  ⟨some 17,.fieldAddr 0 (.t 16),none,2,[]⟩,
  ⟨some 18,.load none (.t 17),none,3,[]⟩,
  ⟨some 19,.call F.clock_Clock_Up [(.t 18)],none,4,[]⟩,
  ⟨some 6,.move (.t 19),none,5,[]⟩]) (RC.block 0 (RC.seq (RC.region 6 [
  ⟨some 46,.move (.t 5),none,0,[]⟩,
  ⟨some 47,.nilCheck (.t 46),none,1,[]⟩,
  ⟨some 48,.fieldAddr 4 (.t 47),none,2,[]⟩,
  ⟨some 49,.load none (.t 48),none,3,[]⟩,
  ⟨some 50,.un .not (.t 49),none,4,[]⟩,
  ⟨some 45,.move (.t 50),none,5,[]⟩]) (RC.cond (.t 45) (RC.region 10 [
  ⟨some 51,.move (.t 5),none,0,[]⟩,
  ⟨some 52,.move (.t 6),none,1,[]⟩,
  ⟨some 53,.move (.t 5),none,2,[]⟩,
  ⟨some 54,.nilCheck (.t 53),none,3,[]⟩,
  ⟨some 55,.fieldAddr 2 (.t 54),none,4,[]⟩,
  ⟨some 56,.load none (.t 55),none,5,[]⟩,
  ⟨some 57,.bin .add (.t 52) (.t 56),none,6,[]⟩,
  ⟨some 58,.nilCheck (.t 51),none,7,[]⟩,
  ⟨some 59,.fieldAddr 1 (.t 58),none,8,[]⟩,
  ⟨none,.store 1 (.t 59) (.t 57),none,9,[]⟩]) (RC.seq (RC.region 7 [
  ⟨some 61,.move (.t 5),none,0,[]⟩,
  ⟨some 62,.nilCheck (.t 61),none,1,[]⟩,
  ⟨some 63,.fieldAddr 0 (.t 62),none,2,[]⟩,
  ⟨some 64,.load none (.t 63),none,3,[]⟩,
  ⟨some 65,.move (.t 6),none,4,[]⟩,
  ⟨some 66,.bin .gtr (.t 64) (.t 65),none,5,[]⟩,
  ⟨some 60,.move (.t 66),none,6,[]⟩]) (RC.cond (.t 60) (RC.region 8 [
  ⟨some 67,.move (.t 5),none,0,[]⟩,
  ⟨some 68,.move (.t 5),none,1,[]⟩,
  ⟨some 69,.nilCheck (.t 68),none,2,[]⟩,
  ⟨some 70,.fieldAddr 0 (.t 69),none,3,[]⟩,
  ⟨some 71,.load none (.t 70),none,4,[]⟩,
  ⟨some 72,.nilCheck (.t 67),none,5,[]⟩,
  ⟨some 73,.fieldAddr 1 (.t 72),none,6,[]⟩,
  ⟨none,.store 1 (.t 73) (.t 71),none,7,[]⟩]) (RC.region 26 [
  ⟨some 20,.move (.t 5),none,0,[]⟩,
  ⟨some 21,.move (.t 5),none,1,[]⟩,
  ⟨some 22,.nilCheck (.t 21),none,2,[]⟩,
  ⟨some 23,.fieldAddr 0 (.t 22),none,3,[]⟩,
  ⟨some 24,.load none (.t 23),none,4,[]⟩,
  ⟨some 25,.move (.t 6),none,5,[]⟩,
  ⟨some 26,.move (.t 5),none,6,[]⟩,
  ⟨some 27,.nilCheck (.t 26),none,7,[]⟩,
  ⟨some 28,.fieldAddr 0 (.t 27),none,8,[]⟩,
  ⟨some 29,.load none (.t 28),none,9,[]⟩,
  ⟨some 30,.bin .sub (.t 25) (.t 29),none,10,[]⟩,
  ⟨some 31,.move (.t 5),none,11,[]⟩,
  ⟨some 32,.nilCheck (.t 31),none,12,[]⟩,
  ⟨some 33,.fieldAddr 2 (.t 32),none,13,[]⟩,
  ⟨some 34,.load none (.t 33),none,14,[]⟩,
  ⟨some 35,.bin .quo (.t 30) (.t 34),none,15,[]⟩,
  ⟨some 36,.bin .add (.t 35) (.c (.s (.int .u64 1))),none,16,[]⟩,
  ⟨some 37,.move (.t 5),none,17,[]⟩,
  ⟨some 38,.nilCheck (.t 37),none,18,[]⟩,
  ⟨some 39,.fieldAddr 2 (.t 38),none,19,[]⟩,
  ⟨some 40,.load none (.t 39),none,20,[]⟩,
  ⟨some 41,.bin .mul (.t 36) (.t 40),none,21,[]⟩,
  ⟨some 42,.bin .add (.t 24) (.t 41),none,22,[]⟩,
  ⟨some 43,.nilCheck (.t 20),none,23,[]⟩,
  ⟨some 44,.fieldAddr 1 (.t 43),none,24,[]⟩,
  ⟨none,.store 1 (.t 44) (.t 42),none,25,[]⟩]))))))) (RC.seq (RC.region 1 [
  ⟨some 4,.move (.c (.s (.int .i64 0))),none,0,[]⟩]) (RC.ret)))))))
theorem cyc_Hands_Start_ok : chkFunc Go.Proofs.Tryz.prog [0] Go.Proofs.Tryz.f148 cyc_Hands_Start = true := by kernel_rfl
def cyc_Hands_Stop : RFunc := RFunc.mk 14 [.tmp 4] (
  RC.seq (RC.region 1 [
  ⟨some 4,.move (.c (.s (.int .i64 0))),none,0,[]⟩]) (RC.seq (RC.region 4 [
  ⟨some 6,.move (.t 0),none,0,[]⟩,
  ⟨some 7,.move (.t 1),none,1,[]⟩,
  ⟨some 8,.call F.cyc_Hands_cyc [(.t 6),(.t 7)],none,2,[]⟩,
  ⟨some 5,.move (.t 8),none,3,[]⟩]) (RC.seq (RC.seq (RC.region 2 [
  ⟨some 9,.move (.t 5),none,0,[]⟩,
  ⟨some 10,.eqs .ptr false (.t 9) (.c (.s (.ptr none))),none,1,[]⟩]) (RC.cond (.t 10) (RC.seq (RC.region 1 [
  ⟨some 4,.move (.c (.s (.int .i64 (-18)))),none,0,[]⟩]) (RC.ret)) (RC.skip))) (RC.seq (RC.region 4 [
  ⟨some 11,.move (.t 5),none,0,[]⟩,
  ⟨some 12,.nilCheck (.t 11),none,1,[]⟩,
  ⟨some 13,.fieldAddr 3 (.t 12),none,2,[]⟩,
  ⟨none,.store 1 (.t 13) (.c (.s (.bool false))),none,3,[]⟩]) (RC.seq (RC.region 1 [
  ⟨some 4,.move (.c (.s (.int .i64 0))),none,0,[]⟩]) (RC.ret))))))
theorem cyc_Hands_Stop_ok : chkFunc Go.Proofs.Tryz.prog [0] Go.Proofs.Tryz.f149 cyc_Hands_Stop = true := by kernel_rfl
def cyc_Hands_Set : RFunc := RFunc.mk 38 [.tmp 6] (
  RC.seq (RC.region 1 [
  ⟨some 6,.move (.c (.s (.int .i64 0))),none,0,[]⟩]) (RC.seq (RC.region 4 [
  ⟨some 10,.move (.t 0),none,0,[]⟩,
  ⟨some 11,.move (.t 1),none,1,[]⟩,
  ⟨some 12,.call F.cyc_Hands_alarm [(.t 10),(.t 11)],none,2,[]⟩,
  ⟨some 7,.move (.t 12),none,3,[]⟩]) (RC.seq (RC.seq (RC.region 2 [
  ⟨some 13,.move (.t 7),none,0,[]⟩,
  ⟨some 14,.eqs .ptr false (.t 13) (.c (.s (.ptr none))),none,1,[]⟩]) (RC.cond (.t 14) (RC.seq (RC.region 1 [
  ⟨some 6,.move (.c (.s (.int .i64 (-18)))),none,0,[]⟩]) (RC.ret)) (RC.skip))) (RC.seq (RC.region 7 [
  ⟨some 16,.move (.t 2),none,0,[]⟩,
  ⟨some 17,.call F.nums_Rel [(.t 16)],none,1,[]⟩,
  ⟨some 15,.move (.t 17),none,2,[]⟩,
  ⟨some 18,.extract 0 (.t 15),none,3,[]⟩,
  ⟨some 19,.extract 1 (.t 15),none,4,[]⟩,
  ⟨some 8,.move (.t 18),none,5,[]⟩,
  ⟨some 9,.move (.t 19),none,6,[]⟩]) (RC.seq (RC.seq (RC.region 2 [
  ⟨some 20,.move (.t 9),none,0,[]⟩,
  ⟨some 21,.bin .neq (.t 20) (.c (.s (.int .i64 0))),none,1,[]⟩]) (RC.cond (.t 21) (RC.seq (RC.region 2 [
  ⟨some 22,.move (.t 9),none,0,[]⟩,
  ⟨some 6,.move (.t 22),none,1,[]⟩]) (RC.ret)) (RC.skip))) (RC.seq (RC.region 16 [
  ⟨some 23,.move (.t 7),none,0,[]⟩,
  ⟨some 24,.move (.t 0),none,1,[]⟩,
  ⟨some 25,.nilCheck (.t 24),none,2,[]⟩,
  ⟨some 26,.fieldAddr 0 (.t 25),none,3,[]⟩,
  ⟨some 27,.load none (.t 26),none,4,[]⟩,
  ⟨some 29,.move (.t 8),none,6,[]⟩,
  ⟨some 31,.move (.t 0),none,8,[]⟩,
  ⟨some 32,.nilCheck (.t 31),none,9,[]⟩,
  ⟨some 33,.fieldAddr 1 (.t 32),none,10,[]⟩,
  ⟨some 34,.load none (.t 33),none,11,[]⟩,
  ⟨some 28,.call F.clock_Clock_Up [(.t 27)],none,5,[⟨34,none,(.t 33),none⟩]⟩,
  ⟨some 30,.bin .add (.t 28) (.t 29),none,7,[]⟩,
  ⟨some 35,.bin .add (.t 30) (.t 34),none,12,[]⟩,
  ⟨some 36,.build [.bool false,.int .u64 0] [(0,1,(.c (.s (.bool true)))),(1,1,(.t 35))],none,13,[]⟩,
  ⟨some 37,.nilCheck (.t 23),none,14,[]⟩,
  ⟨none,.store 2 (.t 37) (.t 36),none,15,[]⟩]) (RC.seq (RC.region 1 [
  ⟨some 6,.move (.c (.s (.int .i64 0))),none,0,[]⟩]) (RC.ret))))))))
theorem cyc_Hands_Set_ok : chkFunc Go.Proofs.Tryz.prog [0] Go.Proofs.Tryz.f150 cyc_Hands_Set = true := by kernel_rfl
def cyc_Hands_Clear : RFunc := RFunc.mk 14 [.tmp 4] (
  RC.seq (RC.region 1 [
  ⟨some 4,.move (.c (.s (.int .i64 0))),none,0,[]⟩]) (RC.seq (RC.region 4 [
  ⟨some 6,.move (.t 0),none,0,[]⟩,
  ⟨some 7,.move (.t 1),none,1,[]⟩,
  ⟨some 8,.call F.cyc_Hands_alarm [(.t 6),(.t 7)],none,2,[]⟩,
  ⟨some 5,.move (.t 8),none,3,[]⟩]) (RC.seq (RC.seq (RC.region 2 [
  ⟨some 9,.move (.t 5),none,0,[]⟩,
  ⟨some 10,.eqs .ptr false (.t 9) (.c (.s (.ptr none))),none,1,[]⟩]) (RC.cond (.t 10) (RC.seq (RC.region 1 [
  ⟨some 4,.move (.c (.s (.int .i64 (-18)))),none,0,[]⟩]) (RC.ret)) (RC.skip))) (RC.seq (RC.region 4 [
  ⟨some 11,.move (.t 5),none,0,[]⟩,
  ⟨some 12,.build [.bool false,.int .u64 0] [],none,1,[]⟩,
  ⟨some 13,.nilCheck (.t 11),none,2,[]⟩,
  ⟨none,.store 2 (.t 13) (.t 12),none,3,[]⟩]) (RC.seq (RC.region 1 [
  ⟨some 4,.move (.c (.s (.int .i64 0))),none,0,[]⟩]) (RC.ret))))))
theorem cyc_Hands_Clear_ok : chkFunc Go.Proofs.Tryz.prog [0] Go.Proofs.Tryz.f151 cyc_Hands_Clear = true := by kernel_rfl
def kern_truth : RFunc := RFunc.mk 7 [.cell 2 (some 2)] (
  RC.seq (RC.region 1 [
  ⟨some 2,.newc [.int .i64 0,.int .i64 0],none,0,[]⟩]) (RC.seq (RC.seq (RC.region 1 [
  ⟨some 3,.move (.t 0),none,0,[]⟩]) (RC.cond (.t 3) (RC.seq (RC.region 3 [
  ⟨some 4,.buildSlice 1 1 [.int .i64 0] [(0,1,(.c (.s (.int .i64 1))))],none,0,[]⟩,
  ⟨some 5,.call F.kern_say [(.c (.s (.int .i64 0))),(.t 4)],none,1,[]⟩,
  ⟨none,.store 2 (.t 2) (.t 5),none,2,[]⟩]) (RC.ret)) (RC.skip))) (RC.seq (RC.region 2 [
  ⟨some 6,.call F.kern_say [(.c (.s (.int .i64 0))),(.c (.s (.slice none 0 0 1)))],none,0,[]⟩,
  ⟨none,.store 2 (.t 2) (.t 6),none,1,[]⟩]) (RC.ret))))
theorem kern_truth_ok : chkFunc Go.Proofs.Tryz.prog [0] Go.Proofs.Tryz.f152 kern_truth = true := by kernel_rfl
def ctx_state_In : RFunc := RFunc.mk 9 [.tmp 2] (
  RC.seq (RC.region 1 [
  ⟨some 2,.move (.c (.s (.bool false))),none,0,[]⟩]) (RC.seq (RC.region 7 [
  ⟨some 3,.move (.t 0),none,0,[]⟩,
  ⟨some 4,.nilCheck (.t 3),none,1,[]⟩,
  ⟨some 5,.fieldAddr 0 (.t 4),none,2,[]⟩,
  ⟨some 6,.load none (.t 5),none,3,[]⟩,
  ⟨some 7,.len (.t 6),none,4,[]⟩,
  ⟨some 8,.bin .gtr (.t 7) (.c (.s (.int .i64 0))),none,5,[]⟩,
  ⟨some 2,.move (.t 8),none,6,[]⟩]) (RC.ret)))
theorem ctx_state_In_ok : chkFunc Go.Proofs.Tryz.prog [0] Go.Proofs.Tryz.f153 ctx_state_In = true := by kernel_rfl
def ctx_state_Locked : RFunc := RFunc.mk 7 [.tmp 2] (
  RC.seq (RC.region 1 [
  ⟨some 2,.move (.c (.s (.bool false))),none,0,[]⟩]) (RC.seq (RC.region 5 [
  ⟨some 3,.move (.t 0),none,0,[]⟩,
  ⟨some 4,.nilCheck (.t 3),none,1,[]⟩,
  ⟨some 5,.fieldAddr 1 (.t 4),none,2,[]⟩,
  ⟨some 6,.load none (.t 5),none,3,[]⟩,
  ⟨some 2,.move (.t 6),none,4,[]⟩]) (RC.ret)))
theorem ctx_state_Locked_ok : chkFunc Go.Proofs.Tryz.prog [0] Go.Proofs.Tryz.f154 ctx_state_Locked = true := by kernel_rfl
def ctx_state_Disabled : RFunc := RFunc.mk 7 [.tmp 2] (
  RC.seq (RC.region 1 [
  ⟨some 2,.move (.c (.s (.bool false))),none,0,[]⟩]) (RC.seq (RC.region 5 [
  ⟨some 3,.move (.t 0),none,0,[]⟩,
  ⟨some 4,.nilCheck (.t 3),none,1,[]⟩,
  ⟨some 5,.fieldAddr 2 (.t 4),none,2,[]⟩,
  ⟨some 6,.load none (.t 5),none,3,[]⟩,
  ⟨some 2,.move (.t 6),none,4,[]⟩]) (RC.ret)))
theorem ctx_state_Disabled_ok : chkFunc Go.Proofs.Tryz.prog [0] Go.Proofs.Tryz.f155 ctx_state_Disabled = true := by kernel_rfl
def ctx_state_Dispatch : RFunc := RFunc.mk 20 [.tmp 2] (
  RC.seq (RC.region 1 [
  ⟨some 2,.move (.c (.s (.bool false))),none,0,[]⟩]) (RC.seq (RC.region 18 [
  ⟨some 3,.move (.t 0),none,0,[]⟩,
  ⟨some 4,.call F.ctx_state_In [(.t 3)],none,1,[]⟩,
  ⟨some 5,.un .not (.t 4),none,2,[]⟩,
  ⟨some 6,.move (.t 5),none,3,[]⟩,
  ⟨some 7,.move (.t 0),(some (6,true)),4,[]⟩,
  ⟨some 8,.nilCheck (.t 7),(some (6,true)),5,[]⟩,
  ⟨some 9,.fieldAddr 1 (.t 8),(some (6,true)),6,[]⟩,
  ⟨some 10,.load none (.t 9),(some (6,true)),7,[]⟩,
  ⟨some 11,.un .not (.t 10),(some (6,true)),8,[]⟩,
  ⟨some 12,.pick (.t 6) (.t 11) (.c (.s (.bool false))),none,9,[]⟩,
  ⟨some 13,.move (.t 12),none,10,[]⟩,
  ⟨some 14,.move (.t 0),(some (13,true)),11,[]⟩,
  ⟨some 15,.nilCheck (.t 14),(some (13,true)),12,[]⟩,
  ⟨some 16,.fieldAddr 2 (.t 15),(some (13,true)),13,[]⟩,
  ⟨some 17,.load none (.t 16),(some (13,true)),14,[]⟩,
  ⟨some 18,.un .not (.t 17),(some (13,true)),15,[]⟩,
  ⟨some 19,.pick (.t 13) (.t 18) (.c (.s (.bool false))),none,16,[]⟩,
  ⟨some 2,.move (.t 19),none,17,[]⟩]) (RC.ret)))
theorem ctx_state_Dispatch_ok : chkFunc Go.Proofs.Tryz.prog [0] Go.Proofs.Tryz.f156 ctx_state_Dispatch = true := by kernel_rfl
def ready_Queue_First : RFunc := RFunc.mk 23 [.tmp 2,.tmp 3] (
  RC.seq (RC.region 2 [
  ⟨some 2,.move (.c (.s (.int .i64 0))),none,0,[]⟩,
  ⟨some 3,.move (.c (.s (.bool false))),none,1,[]⟩]) (RC.seq (RC.region 9 [
  ⟨some 7,.move (.t 0),none,0,[]⟩,
  ⟨some 8,.nilCheck (.t 7),none,1,[]⟩,
  ⟨some 9,.fieldAddr 0 (.t 8),none,2,[]⟩,
  ⟨some 10,.call F.bits_Map_First [(.t 9)],none,3,[]⟩,
  ⟨some 6,.move (.t 10),none,4,[]⟩,
  ⟨some 11,.extract 0 (.t 6),none,5,[]⟩,
  ⟨some 12,.extract 1 (.t 6),none,6,[]⟩,
  ⟨some 4,.move (.t 11),none,7,[]⟩,
  ⟨some 5,.move (.t 12),none,8,[]⟩]) (RC.seq (RC.seq (RC.region 2 [
  ⟨some 13,.move (.t 5),none,0,[]⟩,
  ⟨some 14,.un .not (.t 13),none,1,[]⟩]) (RC.cond (.t 14) (RC.seq (RC.region 2 [
  ⟨some 2,.move (.c (.s (.int .i64 0))),none,0,[]⟩,
  ⟨some 3,.move (.c (.s (.bool false))),none,1,[]⟩]) (RC.ret)) (RC.skip))) (RC.seq (RC.region 10 [
  ⟨some 15,.move (.t 0),none,0,[]⟩,
  ⟨some 16,.move (.t 4),none,1,[]⟩,
  ⟨some 17,.nilCheck (.t 15),none,2,[]⟩,
  ⟨some 18,.fieldAddr 4 (.t 17),none,3,[]⟩,
  ⟨some 19,.indexArr 17 1 (.t 18) (.t 16),none,4,[]⟩,
  ⟨some 20,.load none (.t 19),none,5,[]⟩,
  ⟨some 21,.indexSl 1 (.t 20) (.c (.s (.int .i64 0))),none,6,[]⟩,
  ⟨some 22,.load none (.t 21),none,7,[]⟩,
  ⟨some 2,.move (.t 22),none,8,[]⟩,
  ⟨some 3,.move (.c (.s (.bool true))),none,9,[]⟩]) (RC.ret)))))
theorem ready_Queue_First_ok : chkFunc Go.Proofs.Tryz.prog [0] Go.Proofs.Tryz.f157 ready_Queue_First = true := by kernel_rfl
def clock_Clock_Tick : RFunc := RFunc.mk 23 [.tmp 2] (
  RC.seq (RC.region 1 [
  ⟨some 2,.move (.c (.s (.slice none 0 0 1))),none,0,[]⟩]) (RC.seq (RC.region 12 [
  ⟨some 3,.move (.t 0),none,0,[]⟩,
  ⟨some 4,.nilCheck (.t 3),none,1,[]⟩,
  ⟨some 5,.fieldAddr 2 (.t 4),none,2,[]⟩,
  ⟨some 6,.load none (.t 5),none,3,[]⟩,
  ⟨some 7,.move (.t 0),none,4,[]⟩,
  ⟨some 8,.nilCheck (.t 7),none,5,[]⟩,
  ⟨some 9,.fieldAddr 1 (.t 8),none,6,[]⟩,
  ⟨some 10,.load none (.t 9),none,7,[]⟩,
  ⟨some 11,.bin .add (.t 6) (.t 10),none,8,[]⟩,
  ⟨some 12,.nilCheck (.t 3),none,9,[]⟩,
  ⟨some 13,.fieldAddr 2 (.t 12),none,10,[]⟩,
  ⟨none,.store 1 (.t 13) (.t 11),none,11,[]⟩]) (RC.seq (RC.region 10 [
  ⟨some 14,.move (.t 0),none,0,[]⟩,
  ⟨some 15,.nilCheck (.t 14),none,1,[]⟩,
  ⟨some 16,.fieldAddr 0 (.t 15),none,2,[]⟩,
  ⟨some 17,.load none (.t 16),none,3,[]⟩,
  ⟨some 18,.move (.t 0),none,4,[]⟩,
  ⟨some 19,.nilCheck (.t 18),none,5,[]⟩,
  ⟨some 20,.fieldAddr 2 (.t 19),none,6,[]⟩,
  ⟨some 21,.load none (.t 20),none,7,[]⟩,
  ⟨some 22,.call F.heap_Timers_Due [(.t 17),(.t 21)],none,8,[]⟩,
  ⟨some 2,.move (.t 22),none,9,[]⟩]) (RC.ret))))
theorem clock_Clock_Tick_ok : chkFunc Go.Proofs.Tryz.prog [0] Go.Proofs.Tryz.f158 clock_Clock_Tick = true := by kernel_rfl
def clock_Clock_Up : RFunc := RFunc.mk 7 [.tmp 2] (
  RC.seq (RC.region 1 [
  ⟨some 2,.move (.c (.s (.int .u64 0))),none,0,[]⟩]) (RC.seq (RC.region 5 [
  ⟨some 3,.move (.t 0),none,0,[]⟩,
  ⟨some 4,.nilCheck (.t 3),none,1,[]⟩,
  ⟨some 5,.fieldAddr 2 (.t 4),none,2,[]⟩,
  ⟨some 6,.load none (.t 5),none,3,[]⟩,
  ⟨some 2,.move (.t 6),none,4,[]⟩]) (RC.ret)))
theorem clock_Clock_Up_ok : chkFunc Go.Proofs.Tryz.prog [0] Go.Proofs.Tryz.f159 clock_Clock_Up = true := by kernel_rfl
def slices_SortStableFunc__cyc_Fired_cyc_Fired : RFunc := RFunc.mk 9 [] (
  RC.region 5 [
  ⟨some 4,.move (.t 0),none,0,[]⟩,
  ⟨some 5,.move (.t 0),none,1,[]⟩,
  ⟨some 6,.len (.t 5),none,2,[]⟩,
  ⟨some 7,.move (.t 1),none,3,[]⟩,
  ⟨some 8,.call F.slices_stableCmpFunc_cyc_Fired [(.t 4),(.t 6),(.t 7)],none,4,[]⟩])
theorem slices_SortStableFunc__cyc_Fired_cyc_Fired_ok : chkFunc Go.Proofs.Tryz.prog [0] Go.Proofs.Tryz.f160 slices_SortStableFunc__cyc_Fired_cyc_Fired = true := by kernel_rfl
def cyc_order : RFunc := RFunc.mk 26 [.tmp 4] (
  RC.seq (RC.region 3 [
  ⟨some 2,.box (.t 0),none,0,[]⟩,
  ⟨some 3,.box (.t 1),none,1,[]⟩,
  ⟨some 4,.move (.c (.s (.int .i64 0))),none,2,[]⟩]) (RC.seq (RC.seq (RC.region 6 [
  ⟨some 6,.fieldAddr 2 (.t 2),none,0,[]⟩,
  ⟨some 7,.load none (.t 6),none,1,[]⟩,
  ⟨some 8,.fieldAddr 2 (.t 3),none,2,[]⟩,
  ⟨some 9,.load none (.t 8),none,3,[]⟩,
  ⟨some 10,.call F.cmp_Compare_uint64 [(.t 7),(.t 9)],none,4,[]⟩,
  ⟨some 5,.move (.t 10),none,5,[]⟩]) (RC.seq (RC.region 2 [
  ⟨some 11,.move (.t 5),none,0,[]⟩,
  ⟨some 12,.bin .neq (.t 11) (.c (.s (.int .i64 0))),none,1,[]⟩]) (RC.cond (.t 12) (RC.seq (RC.region 2 [
  ⟨some 13,.move (.t 5),none,0,[]⟩,
  ⟨some 4,.move (.t 13),none,1,[]⟩]) (RC.ret)) (RC.skip)))) (RC.seq (RC.seq (RC.region 5 [
  ⟨some 14,.fieldAddr 0 (.t 2),none,0,[]⟩,
  ⟨some 15,.load none (.t 14),none,1,[]⟩,
  ⟨some 16,.fieldAddr 0 (.t 3),none,2,[]⟩,
  ⟨some 17,.load none (.t 16),none,3,[]⟩,
  ⟨some 18,.eqs .bool true (.t 15) (.t 17),none,4,[]⟩]) (RC.cond (.t 18) (RC.seq (RC.seq (RC.region 2 [
  ⟨some 19,.fieldAddr 0 (.t 2),none,0,[]⟩,
  ⟨some 20,.load none (.t 19),none,1,[]⟩]) (RC.cond (.t 20) (RC.seq (RC.region 1 [
  ⟨some 4,.move (.c (.s (.int .i64 (-1)))),none,0,[]⟩]) (RC.ret)) (RC.skip))) (RC.seq (RC.region 1 [
  ⟨some 4,.move (.c (.s (.int .i64 1))),none,0,[]⟩]) (RC.ret))) (RC.skip))) (RC.seq (RC.region 6 [
  ⟨some 21,.fieldAddr 1 (.t 2),none,0,[]⟩,
  ⟨some 22,.load none (.t 21),none,1,[]⟩,
  ⟨some 23,.fieldAddr 1 (.t 3),none,2,[]⟩,
  ⟨some 24,.load none (.t 23),none,3,[]⟩,
  ⟨some 25,.call F.cmp_Compare_int [(.t 22),(.t 24)],none,4,[]⟩,
  ⟨some 4,.move (.t 25),none,5,[]⟩]) (RC.ret)))))
theorem cyc_order_ok : chkFunc Go.Proofs.Tryz.prog [0] Go.Proofs.Tryz.f161 cyc_order = true := by kernel_rfl
def slices_Clip__cyc_Fired_cyc_Fired : RFunc := RFunc.mk 9 [.tmp 2] (
  RC.seq (RC.region 1 [
  ⟨some 2,.move (.c (.s (.slice none 0 0 1))),none,0,[]⟩]) (RC.seq (RC.region 7 [
  ⟨some 3,.move (.t 0),none,0,[]⟩,
  ⟨some 4,.move (.t 0),none,1,[]⟩,
  ⟨some 5,.len (.t 4),none,2,[]⟩,
  ⟨some 6,.move (.t 0),none,3,[]⟩,
  ⟨some 7,.len (.t 6),none,4,[]⟩,
  ⟨some 8,.slSl 3 (.t 3) none (some (.t 5)) (some (.t 7)),none,5,[]⟩,
  ⟨some 2,.move (.t 8),none,6,[]⟩]) (RC.ret)))
theorem slices_Clip__cyc_Fired_cyc_Fired_ok : chkFunc Go.Proofs.Tryz.prog [0] Go.Proofs.Tryz.f162 slices_Clip__cyc_Fired_cyc_Fired = true := by kernel_rfl
def order_Line_Remove : RFunc := RFunc.mk 22 [.tmp 4] (
  RC.seq (RC.region 1 [
  ⟨some 4,.move (.c (.s (.bool false))),none,0,[]⟩]) (RC.seq (RC.region 4 [
  ⟨some 6,.move (.t 0),none,0,[]⟩,
  ⟨some 7,.move (.t 1),none,1,[]⟩,
  ⟨some 8,.call F.order_Line_at [(.t 6),(.t 7)],none,2,[]⟩,
  ⟨some 5,.move (.t 8),none,3,[]⟩]) (RC.seq (RC.seq (RC.region 2 [
  ⟨some 9,.move (.t 5),none,0,[]⟩,
  ⟨some 10,.bin .lss (.t 9) (.c (.s (.int .i64 0))),none,1,[]⟩]) (RC.cond (.t 10) (RC.seq (RC.region 1 [
  ⟨some 4,.move (.c (.s (.bool false))),none,0,[]⟩]) (RC.ret)) (RC.skip))) (RC.seq (RC.region 12 [
  ⟨some 11,.move (.t 0),none,0,[]⟩,
  ⟨some 12,.move (.t 0),none,1,[]⟩,
  ⟨some 13,.nilCheck (.t 12),none,2,[]⟩,
  ⟨some 14,.fieldAddr 0 (.t 13),none,3,[]⟩,
  ⟨some 15,.load none (.t 14),none,4,[]⟩,
  ⟨some 16,.move (.t 5),none,5,[]⟩,
  ⟨some 17,.move (.t 5),none,6,[]⟩,
  ⟨some 18,.bin .add (.t 17) (.c (.s (.int .i64 1))),none,7,[]⟩,
  ⟨some 19,.call F.slices_Delete__order_Item_order_Item [(.t 15),(.t 16),(.t 18)],none,8,[]⟩,
  ⟨some 20,.nilCheck (.t 11),none,9,[]⟩,
  ⟨some 21,.fieldAddr 0 (.t 20),none,10,[]⟩,
  ⟨none,.store 1 (.t 21) (.t 19),none,11,[]⟩]) (RC.seq (RC.region 1 [
  ⟨some 4,.move (.c (.s (.bool true))),none,0,[]⟩]) (RC.ret))))))
theorem order_Line_Remove_ok : chkFunc Go.Proofs.Tryz.prog [0] Go.Proofs.Tryz.f163 order_Line_Remove = true := by kernel_rfl
def flag_Flag_Drop : RFunc := RFunc.mk 18 [.tmp 4] (
  RC.seq (RC.region 1 [
  ⟨some 4,.move (.c (.s (.bool false))),none,0,[]⟩]) (RC.seq (RC.region 6 [
  ⟨some 5,.move (.t 0),none,0,[]⟩,
  ⟨some 6,.nilCheck (.t 5),none,1,[]⟩,
  ⟨some 7,.fieldAddr 4 (.t 6),none,2,[]⟩,
  ⟨some 8,.load none (.t 7),none,3,[]⟩,
  ⟨some 9,.move (.t 1),none,4,[]⟩,
  ⟨none,.hop .delete [(.t 8),(.t 9)],none,5,[]⟩]) (RC.seq (RC.region 9 [
  ⟨some 10,.move (.t 0),none,0,[]⟩,
  ⟨some 11,.nilCheck (.t 10),none,1,[]⟩,
  ⟨some 12,.fieldAddr 0 (.t 11),none,2,[]⟩,
  ⟨some 13,.load none (.t 12),none,3,[]⟩,
  ⟨some 14,.nilCheck (.t 13),none,4,[]⟩,
  ⟨some 15,.fieldAddr 0 (.t 14),none,5,[]⟩,
  ⟨some 16,.move (.t 1),none,6,[]⟩,
  ⟨some 17,.call F.order_Line_Remove [(.t 15),(.t 16)],none,7,[]⟩,
  ⟨some 4,.move (.t 17),none,8,[]⟩]) (RC.ret))))
theorem flag_Flag_Drop_ok : chkFunc Go.Proofs.Tryz.prog [0] Go.Proofs.Tryz.f164 flag_Flag_Drop = true := by kernel_rfl
def dtq_Queue_Drop : RFunc := RFunc.mk 30 [.tmp 4] (
  RC.seq (RC.region 1 [
  ⟨some 4,.move (.c (.s (.bool false))),none,0,[]⟩]) (RC.seq (RC.region 6 [
  ⟨some 5,.move (.t 0),none,0,[]⟩,
  ⟨some 6,.nilCheck (.t 5),none,1,[]⟩,
  ⟨some 7,.fieldAddr 4 (.t 6),none,2,[]⟩,
  ⟨some 8,.load none (.t 7),none,3,[]⟩,
  ⟨some 9,.move (.t 1),none,4,[]⟩,
  ⟨none,.hop .delete [(.t 8),(.t 9)],none,5,[]⟩]) (RC.seq (RC.region 21 [
  ⟨some 10,.move (.t 0),none,0,[]⟩,
  ⟨some 11,.nilCheck (.t 10),none,1,[]⟩,
  ⟨some 12,.fieldAddr 0 (.t 11),none,2,[]⟩,
  ⟨some 13,.fieldAddr 0 (.t 12),none,3,[]⟩,
  ⟨some 14,.load none (.t 13),none,4,[]⟩,
  ⟨some 15,.nilCheck (.t 14),none,5,[]⟩,
  ⟨some 16,.fieldAddr 0 (.t 15),none,6,[]⟩,
  ⟨some 17,.move (.t 1),none,7,[]⟩,
  ⟨some 18,.call F.order_Line_Remove [(.t 16),(.t 17)],none,8,[]⟩,
  ⟨some 19,.move (.t 18),none,9,[]⟩,
  ⟨some 20,.move (.t 0),(some (19,false)),10,[]⟩,
  ⟨some 21,.nilCheck (.t 20),(some (19,false)),11,[]⟩,
  ⟨some 22,.fieldAddr 1 (.t 21),(some (19,false)),12,[]⟩,
  ⟨some 23,.fieldAddr 0 (.t 22),(some (19,false)),13,[]⟩,
  ⟨some 24,.load none (.t 23),(some (19,false)),14,[]⟩,
  ⟨some 25,.nilCheck (.t 24),(some (19,false)),15,[]⟩,
  ⟨some 26,.fieldAddr 0 (.t 25),(some (19,false)),16,[]⟩,
  ⟨some 27,.move (.t 1),(some (19,false)),17,[]⟩,
  ⟨some 28,.call F.order_Line_Remove [(.t 26),(.t 27)],(some (19,false)),18,[]⟩,
  ⟨some 29,.pick (.t 19) (.c (.s (.bool true))) (.t 28),none,19,[]⟩,
  ⟨some 4,.move (.t 29),none,20,[]⟩]) (RC.ret))))
theorem dtq_Queue_Drop_ok : chkFunc Go.Proofs.Tryz.prog [0] Go.Proofs.Tryz.f165 dtq_Queue_Drop = true := by kernel_rfl
def mtx_All_Drop : RFunc := RFunc.mk 48 [.tmp 4] (
  RC.seq (RC.region 2 [
  ⟨some 3,.box (.t 1),none,0,[]⟩,
  ⟨some 4,.move (.c (.s (.bool false))),none,1,[]⟩]) (RC.seq (RC.seq (RC.region 13 [
  ⟨some 6,.load none (.t 3),none,0,[]⟩,
  ⟨some 7,.call F.mtx_is [(.t 6)],none,1,[]⟩,
  ⟨some 8,.un .not (.t 7),none,2,[]⟩,
  ⟨some 9,.move (.t 8),none,3,[]⟩,
  ⟨some 10,.move (.t 0),(some (9,false)),4,[]⟩,
  ⟨some 11,.load none (.t 3),(some (9,false)),5,[]⟩,
  ⟨some 12,.nilCheck (.t 10),(some (9,false)),6,[]⟩,
  ⟨some 13,.fieldAddr 1 (.t 12),(some (9,false)),7,[]⟩,
  ⟨some 14,.indexArr 17 3 (.t 13) (.t 11),(some (9,false)),8,[]⟩,
  ⟨some 15,.fieldAddr 2 (.t 14),(some (9,false)),9,[]⟩,
  ⟨some 16,.load none (.t 15),(some (9,false)),10,[]⟩,
  ⟨some 17,.bin .eql (.t 16) (.c (.s (.int .i64 0))),(some (9,false)),11,[]⟩,
  ⟨some 18,.pick (.t 9) (.c (.s (.bool true))) (.t 17),none,12,[]⟩]) (RC.cond (.t 18) (RC.seq (RC.region 1 [
  ⟨some 4,.move (.c (.s (.bool false))),none,0,[]⟩]) (RC.ret)) (RC.skip))) (RC.seq (RC.region 13 [
  ⟨some 19,.move (.t 0),none,0,[]⟩,
  ⟨some 20,.nilCheck (.t 19),none,1,[]⟩,
  ⟨some 21,.fieldAddr 0 (.t 20),none,2,[]⟩,
  ⟨some 22,.load none (.t 21),none,3,[]⟩,
  ⟨some 23,.move (.t 0),none,4,[]⟩,
  ⟨some 24,.load none (.t 3),none,5,[]⟩,
  ⟨some 25,.nilCheck (.t 23),none,6,[]⟩,
  ⟨some 26,.fieldAddr 1 (.t 25),none,7,[]⟩,
  ⟨some 27,.indexArr 17 3 (.t 26) (.t 24),none,8,[]⟩,
  ⟨some 28,.fieldAddr 2 (.t 27),none,9,[]⟩,
  ⟨some 29,.load none (.t 28),none,10,[]⟩,
  ⟨some 30,.indexSl 4 (.t 22) (.t 29),none,11,[]⟩,
  ⟨some 5,.move (.t 30),none,12,[]⟩]) (RC.seq (RC.region 10 [
  ⟨some 31,.move (.t 5),none,0,[]⟩,
  ⟨some 32,.move (.t 5),none,1,[]⟩,
  ⟨some 33,.nilCheck (.t 32),none,2,[]⟩,
  ⟨some 34,.fieldAddr 3 (.t 33),none,3,[]⟩,
  ⟨some 35,.load none (.t 34),none,4,[]⟩,
  ⟨some 36,.makeFunc F.mtx_All_Drop_1 [(.t 3)],none,5,[]⟩,
  ⟨some 37,.call F.slices_DeleteFunc__int_int [(.t 35),(.t 36)],none,6,[]⟩,
  ⟨some 38,.nilCheck (.t 31),none,7,[]⟩,
  ⟨some 39,.fieldAddr 3 (.t 38),none,8,[]⟩,
  ⟨none,.store 1 (.t 39) (.t 37),none,9,[]⟩]) (RC.seq (RC.region 7 [
  ⟨some 40,.move (.t 0),none,0,[]⟩,
  ⟨some 41,.load none (.t 3),none,1,[]⟩,
  ⟨some 42,.nilCheck (.t 40),none,2,[]⟩,
  ⟨some 43,.fieldAddr 1 (.t 42),none,3,[]⟩,
  ⟨some 44,.indexArr 17 3 (.t 43) (.t 41),none,4,[]⟩,
  ⟨some 45,.fieldAddr 2 (.t 44),none,5,[]⟩,
  ⟨none,.store 1 (.t 45) (.c (.s (.int .i64 0))),none,6,[]⟩]) (RC.seq (RC.region 2 [
  ⟨some 46,.move (.t 0),none,0,[]⟩,
  ⟨some 47,.call F.mtx_All_settle [(.t 46)],none,1,[]⟩]) (RC.seq (RC.region 1 [
  ⟨some 4,.move (.c (.s (.bool true))),none,0,[]⟩]) (RC.ret))))))))
theorem mtx_All_Drop_ok : chkFunc Go.Proofs.Tryz.prog [0] Go.Proofs.Tryz.f166 mtx_All_Drop = true := by kernel_rfl
def tcb_Task_Release_s0 : RC :=
  RC.seq (RC.region 4 [
  ⟨some 17,.move (.t 0),none,0,[]⟩,
  ⟨some 18,.nilCheck (.t 17),none,1,[]⟩,
  ⟨some 19,.fieldAddr 4 (.t 18),none,2,[]⟩,
  ⟨none,.store 1 (.t 19) (.c (.s (.bool false))),none,3,[]⟩]) (RC.seq (RC.region 1 [
  ⟨some 2,.move (.c (.s (.bool true))),none,0,[]⟩]) (RC.ret))
def tcb_Task_Release : RFunc := RFunc.mk 20 [.tmp 2] (
  RC.seq (RC.region 1 [
  ⟨some 2,.move (.c (.s (.bool false))),none,0,[]⟩]) (RC.seq (RC.seq (RC.region 4 [
  ⟨some 3,.move (.t 0),none,0,[]⟩,
  ⟨some 4,.nilCheck (.t 3),none,1,[]⟩,
  ⟨some 5,.fieldAddr 3 (.t 4),none,2,[]⟩,
  ⟨some 6,.load none (.t 5),none,3,[]⟩]) (RC.block 0 (RC.seq (RC.region 2 [
  ⟨some 8,.bin .eql (.t 6) (.c (.s (.int .i64 4))),none,0,[]⟩,
  ⟨some 7,.move (.t 8),none,1,[]⟩]) (RC.cond (.t 7) (RC.region 4 [
  ⟨some 9,.move (.t 0),none,0,[]⟩,
  ⟨some 10,.nilCheck (.t 9),none,1,[]⟩,
  ⟨some 11,.fieldAddr 3 (.t 10),none,2,[]⟩,
  ⟨none,.store 1 (.t 11) (.c (.s (.int .i64 2))),none,3,[]⟩]) (RC.seq (RC.region 2 [
  ⟨some 13,.bin .eql (.t 6) (.c (.s (.int .i64 12))),none,0,[]⟩,
  ⟨some 12,.move (.t 13),none,1,[]⟩]) (RC.cond (.t 12) (RC.region 4 [
  ⟨some 14,.move (.t 0),none,0,[]⟩,
  ⟨some 15,.nilCheck (.t 14),none,1,[]⟩,
  ⟨some 16,.fieldAddr 3 (.t 15),none,2,[]⟩,
  ⟨none,.store 1 (.t 16) (.c (.s (.int .i64 8))),none,3,[]⟩]) (RC.seq (RC.region 1 [
  ⟨some 2,.move (.c (.s (.bool false))),none,0,[]⟩]) (RC.ret)))))))) R.tcb_Task_Release_s0))
theorem tcb_Task_Release_ok : chkFunc Go.Proofs.Tryz.prog [0] Go.Proofs.Tryz.f167 tcb_Task_Release = true := by kernel_rfl
def kern_Kernel_told : RFunc := RFunc.mk 22 [] (
  RC.seq (RC.region 1 [
  ⟨some 5,.box (.t 2),none,0,[]⟩]) (RC.seq (RC.region 3 [
  ⟨some 6,.move (.t 0),none,0,[]⟩,
  ⟨some 7,.move (.t 1),none,1,[]⟩,
  ⟨some 8,.call F.kern_Kernel_forget [(.t 6),(.t 7)],none,2,[]⟩]) (RC.seq (RC.region 11 [
  ⟨some 9,.move (.t 0),none,0,[]⟩,
  ⟨some 10,.nilCheck (.t 9),none,1,[]⟩,
  ⟨some 11,.fieldAddr 9 (.t 10),none,2,[]⟩,
  ⟨some 12,.load none (.t 11),none,3,[]⟩,
  ⟨some 13,.move (.t 1),none,4,[]⟩,
  ⟨some 14,.indexSl 1 (.t 12) (.t 13),none,5,[]⟩,
  ⟨some 15,.load none (.t 14),none,6,[]⟩,
  ⟨some 16,.load (some 2) (.t 5),none,7,[]⟩,
  ⟨some 17,.nilCheck (.t 15),none,8,[]⟩,
  ⟨some 18,.fieldAddr 6 (.t 17),none,9,[]⟩,
  ⟨none,.store 2 (.t 18) (.t 16),none,10,[]⟩]) (RC.region 3 [
  ⟨some 19,.move (.t 0),none,0,[]⟩,
  ⟨some 20,.move (.t 1),none,1,[]⟩,
  ⟨some 21,.call F.kern_Kernel_enter [(.t 19),(.t 20)],none,2,[]⟩]))))
theorem kern_Kernel_told_ok : chkFunc Go.Proofs.Tryz.prog [0] Go.Proofs.Tryz.f168 kern_Kernel_told = true := by kernel_rfl
def ready_Queue_Change : RFunc := RFunc.mk 20 [.tmp 6] (
  RC.seq (RC.region 1 [
  ⟨some 6,.move (.c (.s (.bool false))),none,0,[]⟩]) (RC.seq (RC.seq (RC.region 9 [
  ⟨some 7,.move (.t 2),none,0,[]⟩,
  ⟨some 8,.call F.ready_may [(.t 7)],none,1,[]⟩,
  ⟨some 9,.un .not (.t 8),none,2,[]⟩,
  ⟨some 10,.move (.t 9),none,3,[]⟩,
  ⟨some 11,.move (.t 0),(some (10,false)),4,[]⟩,
  ⟨some 12,.move (.t 1),(some (10,false)),5,[]⟩,
  ⟨some 13,.call F.ready_Queue_Remove [(.t 11),(.t 12)],(some (10,false)),6,[]⟩,
  ⟨some 14,.un .not (.t 13),(some (10,false)),7,[]⟩,
  ⟨some 15,.pick (.t 10) (.c (.s (.bool true))) (.t 14),none,8,[]⟩]) (RC.cond (.t 15) (RC.seq (RC.region 1 [
  ⟨some 6,.move (.c (.s (.bool false))),none,0,[]⟩]) (RC.ret)) (RC.skip))) (RC.seq (RC.region 4 [
  ⟨some 16,.move (.t 0),none,0,[]⟩,
  ⟨some 17,.move (.t 1),none,1,[]⟩,
  ⟨some 18,.move (.t 2),none,2,[]⟩,
  ⟨some 19,.call F.ready_Queue_put [(.t 16),(.t 17),(.t 18)],none,3,[]⟩]) (RC.seq (RC.region 1 [
  ⟨some 6,.move (.c (.s (.bool true))),none,0,[]⟩]) (RC.ret)))))
theorem ready_Queue_Change_ok : chkFunc Go.Proofs.Tryz.prog [0] Go.Proofs.Tryz.f169 ready_Queue_Change = true := by kernel_rfl
def order_Queue_Change : RFunc := RFunc.mk 44 [.tmp 6] (
  RC.seq (RC.region 1 [
  ⟨some 6,.move (.c (.s (.bool false))),none,0,[]⟩]) (RC.seq (RC.region 6 [
  ⟨some 8,.move (.t 0),none,0,[]⟩,
  ⟨some 9,.nilCheck (.t 8),none,1,[]⟩,
  ⟨some 10,.fieldAddr 0 (.t 9),none,2,[]⟩,
  ⟨some 11,.move (.t 1),none,3,[]⟩,
  ⟨some 12,.call F.order_Line_at [(.t 10),(.t 11)],none,4,[]⟩,
  ⟨some 7,.move (.t 12),none,5,[]⟩]) (RC.seq (RC.seq (RC.region 7 [
  ⟨some 13,.move (.t 7),none,0,[]⟩,
  ⟨some 14,.bin .lss (.t 13) (.c (.s (.int .i64 0))),none,1,[]⟩,
  ⟨some 15,.move (.t 14),none,2,[]⟩,
  ⟨some 16,.move (.t 2),(some (15,false)),3,[]⟩,
  ⟨some 17,.call F.order_may [(.t 16)],(some (15,false)),4,[]⟩,
  ⟨some 18,.un .not (.t 17),(some (15,false)),5,[]⟩,
  ⟨some 19,.pick (.t 15) (.c (.s (.bool true))) (.t 18),none,6,[]⟩]) (RC.cond (.t 19) (RC.seq (RC.region 1 [
  ⟨some 6,.move (.c (.s (.bool false))),none,0,[]⟩]) (RC.ret)) (RC.skip))) (RC.seq (RC.seq (RC.region 5 [
  ⟨some 20,.move (.t 0),none,0,[]⟩,
  ⟨some 21,.nilCheck (.t 20),none,1,[]⟩,
  ⟨some 22,.fieldAddr 1 (.t 21),none,2,[]⟩,
  ⟨some 23,.load none (.t 22),none,3,[]⟩,
  ⟨some 24,.un .not (.t 23),none,4,[]⟩]) (RC.cond (.t 24) (RC.seq (RC.region 10 [
  ⟨some 25,.move (.t 0),none,0,[]⟩,
  ⟨some 26,.nilCheck (.t 25),none,1,[]⟩,
  ⟨some 27,.fieldAddr 0 (.t 26),none,2,[]⟩,
  ⟨some 28,.fieldAddr 0 (.t 27),none,3,[]⟩,
  ⟨some 29,.load none (.t 28),none,4,[]⟩,
  ⟨some 30,.move (.t 7),none,5,[]⟩,
  ⟨some 31,.move (.t 2),none,6,[]⟩,
  ⟨some 32,.indexSl 2 (.t 29) (.t 30),none,7,[]⟩,
  ⟨some 33,.fieldAddr 1 (.t 32),none,8,[]⟩,
  ⟨none,.store 1 (.t 33) (.t 31),none,9,[]⟩]) (RC.seq (RC.region 1 [
  ⟨some 6,.move (.c (.s (.bool true))),none,0,[]⟩]) (RC.ret))) (RC.skip))) (RC.seq (RC.region 5 [
  ⟨some 34,.move (.t 0),none,0,[]⟩,
  ⟨some 35,.nilCheck (.t 34),none,1,[]⟩,
  ⟨some 36,.fieldAddr 0 (.t 35),none,2,[]⟩,
  ⟨some 37,.move (.t 1),none,3,[]⟩,
  ⟨some 38,.call F.order_Line_Remove [(.t 36),(.t 37)],none,4,[]⟩]) (RC.seq (RC.region 5 [
  ⟨some 39,.move (.t 0),none,0,[]⟩,
  ⟨some 40,.move (.t 1),none,1,[]⟩,
  ⟨some 41,.move (.t 2),none,2,[]⟩,
  ⟨some 42,.build [.int .i64 0,.int .i64 0] [(0,1,(.t 40)),(1,1,(.t 41))],none,3,[]⟩,
  ⟨some 43,.call F.order_Queue_put [(.t 39),(.t 42)],none,4,[]⟩]) (RC.seq (RC.region 1 [
  ⟨some 6,.move (.c (.s (.bool true))),none,0,[]⟩]) (RC.ret))))))))
theorem order_Queue_Change_ok : chkFunc Go.Proofs.Tryz.prog [0] Go.Proofs.Tryz.f170 order_Queue_Change = true := by kernel_rfl
def dtq_Queue_Change : RFunc := RFunc.mk 25 [.tmp 6] (
  RC.seq (RC.region 1 [
  ⟨some 6,.move (.c (.s (.bool false))),none,0,[]⟩]) (RC.seq (RC.region 19 [
  ⟨some 7,.move (.t 0),none,0,[]⟩,
  ⟨some 8,.nilCheck (.t 7),none,1,[]⟩,
  ⟨some 9,.fieldAddr 0 (.t 8),none,2,[]⟩,
  ⟨some 10,.fieldAddr 0 (.t 9),none,3,[]⟩,
  ⟨some 11,.load none (.t 10),none,4,[]⟩,
  ⟨some 12,.move (.t 1),none,5,[]⟩,
  ⟨some 13,.move (.t 2),none,6,[]⟩,
  ⟨some 14,.call F.order_Queue_Change [(.t 11),(.t 12),(.t 13)],none,7,[]⟩,
  ⟨some 15,.move (.t 14),none,8,[]⟩,
  ⟨some 16,.move (.t 0),(some (15,false)),9,[]⟩,
  ⟨some 17,.nilCheck (.t 16),(some (15,false)),10,[]⟩,
  ⟨some 18,.fieldAddr 1 (.t 17),(some (15,false)),11,[]⟩,
  ⟨some 19,.fieldAddr 0 (.t 18),(some (15,false)),12,[]⟩,
  ⟨some 20,.load none (.t 19),(some (15,false)),13,[]⟩,
  ⟨some 21,.move (.t 1),(some (15,false)),14,[]⟩,
  ⟨some 22,.move (.t 2),(some (15,false)),15,[]⟩,
  ⟨some 23,.call F.order_Queue_Change [(.t 20),(.t 21),(.t 22)],(some (15,false)),16,[]⟩,
  ⟨some 24,.pick (.t 15) (.c (.s (.bool true))) (.t 23),none,17,[]⟩,
  ⟨some 6,.move (.t 24),none,18,[]⟩]) (RC.ret)))
theorem dtq_Queue_Change_ok : chkFunc Go.Proofs.Tryz.prog [0] Go.Proofs.Tryz.f171 dtq_Queue_Change = true := by kernel_rfl
def slices_Clip__int_int : RFunc := RFunc.mk 9 [.tmp 2] (
  RC.seq (RC.region 1 [
  ⟨some 2,.move (.c (.s (.slice none 0 0 1))),none,0,[]⟩]) (RC.seq (RC.region 7 [
  ⟨some 3,.move (.t 0),none,0,[]⟩,
  ⟨some 4,.move (.t 0),none,1,[]⟩,
  ⟨some 5,.len (.t 4),none,2,[]⟩,
  ⟨some 6,.move (.t 0),none,3,[]⟩,
  ⟨some 7,.len (.t 6),none,4,[]⟩,
  ⟨some 8,.slSl 1 (.t 3) none (some (.t 5)) (some (.t 7)),none,5,[]⟩,
  ⟨some 2,.move (.t 8),none,6,[]⟩]) (RC.ret)))
theorem slices_Clip__int_int_ok : chkFunc Go.Proofs.Tryz.prog [0] Go.Proofs.Tryz.f86 slices_Clip__int_int = true := by kernel_rfl
def order_Line_Row : RFunc := RFunc.mk 9 [.tmp 2] (
  RC.seq (RC.region 1 [
  ⟨some 2,.move (.c (.s (.slice none 0 0 1))),none,0,[]⟩]) (RC.seq (RC.region 7 [
  ⟨some 3,.move (.t 0),none,0,[]⟩,
  ⟨some 4,.nilCheck (.t 3),none,1,[]⟩,
  ⟨some 5,.fieldAddr 0 (.t 4),none,2,[]⟩,
  ⟨some 6,.load none (.t 5),none,3,[]⟩,
  ⟨some 7,.call F.slices_Clone__order_Item_order_Item [(.t 6)],none,4,[]⟩,
  ⟨some 8,.call F.slices_Clip__order_Item_order_Item [(.t 7)],none,5,[]⟩,
  ⟨some 2,.move (.t 8),none,6,[]⟩]) (RC.ret)))
theorem order_Line_Row_ok : chkFunc Go.Proofs.Tryz.prog [0] Go.Proofs.Tryz.f172 order_Line_Row = true := by kernel_rfl
def mtx_All_in : RFunc := RFunc.mk 16 [.tmp 4] (
  RC.seq (RC.region 1 [
  ⟨some 4,.move (.c (.s (.bool false))),none,0,[]⟩]) (RC.seq (RC.region 12 [
  ⟨some 5,.move (.t 1),none,0,[]⟩,
  ⟨some 6,.bin .geq (.t 5) (.c (.s (.int .i64 1))),none,1,[]⟩,
  ⟨some 7,.move (.t 6),none,2,[]⟩,
  ⟨some 8,.move (.t 1),(some (7,true)),3,[]⟩,
  ⟨some 9,.move (.t 0),(some (7,true)),4,[]⟩,
  ⟨some 10,.nilCheck (.t 9),(some (7,true)),5,[]⟩,
  ⟨some 11,.fieldAddr 0 (.t 10),(some (7,true)),6,[]⟩,
  ⟨some 12,.load none (.t 11),(some (7,true)),7,[]⟩,
  ⟨some 13,.len (.t 12),(some (7,true)),8,[]⟩,
  ⟨some 14,.bin .lss (.t 8) (.t 13),(some (7,true)),9,[]⟩,
  ⟨some 15,.pick (.t 7) (.t 14) (.c (.s (.bool false))),none,10,[]⟩,
  ⟨some 4,.move (.t 15),none,11,[]⟩]) (RC.ret)))
theorem mtx_All_in_ok : chkFunc Go.Proofs.Tryz.prog [0] Go.Proofs.Tryz.f173 mtx_All_in = true := by kernel_rfl
def slices_Clone__int_int : RFunc := RFunc.mk 8 [.tmp 2] (
  RC.seq (RC.region 1 [
  ⟨some 2,.move (.c (.s (.slice none 0 0 1))),none,0,[]⟩]) (RC.seq (RC.seq (RC.region 2 [
  ⟨some 3,.move (.t 0),none,0,[]⟩,
  ⟨some 4,.eqs .slice false (.t 3) (.c (.s (.slice none 0 0 1))),none,1,[]⟩]) (RC.cond (.t 4) (RC.seq (RC.region 1 [
  ⟨some 2,.move (.c (.s (.slice none 0 0 1))),none,0,[]⟩]) (RC.ret)) (RC.skip))) (RC.seq (RC.region 4 [
  ⟨some 5,.buildSlice 1 0 [] [],none,0,[]⟩,
  ⟨some 6,.move (.t 0),none,1,[]⟩,
  ⟨some 7,.append 1 8 (.t 5) (.t 6),none,2,[]⟩,
  ⟨some 2,.move (.t 7),none,3,[]⟩]) (RC.ret))))
theorem slices_Clone__int_int_ok : chkFunc Go.Proofs.Tryz.prog [0] Go.Proofs.Tryz.f174 slices_Clone__int_int = true := by kernel_rfl
def nums_Add : RFunc := RFunc.mk 9 [.tmp 4] (
  RC.seq (RC.region 1 [
  ⟨some 4,.move (.c (.s (.int .u64 0))),none,0,[]⟩]) (RC.seq (RC.region 5 [
  ⟨some 5,.move (.t 0),none,0,[]⟩,
  ⟨some 6,.move (.t 1),none,1,[]⟩,
  ⟨some 7,.bin .add (.t 5) (.t 6),none,2,[]⟩,
  ⟨some 8,.bin .rem (.t 7) (.c (.s (.int .u64 281474976710656))),none,3,[]⟩,
  ⟨some 4,.move (.t 8),none,4,[]⟩]) (RC.ret)))
theorem nums_Add_ok : chkFunc Go.Proofs.Tryz.prog [0] Go.Proofs.Tryz.f175 nums_Add = true := by kernel_rfl
def conf_first_l0 : RC :=
  RC.seq (RC.region 1 [
  ⟨some 32,.bin .lss (.t 31) (.t 30),none,0,[]⟩]) (RC.seq (RC.cond (.t 32) (RC.skip) (RC.exit 2)) (RC.seq (RC.block 3 (RC.seq (RC.region 2 [
  ⟨some 33,.move (.t 31),none,0,[]⟩,
  ⟨some 7,.move (.t 33),none,1,[]⟩]) (RC.seq (RC.region 5 [
  ⟨some 34,.fieldAddr 5 (.t 6),none,0,[]⟩,
  ⟨some 35,.load none (.t 34),none,1,[]⟩,
  ⟨some 36,.move (.t 7),none,2,[]⟩,
  ⟨some 37,.callv (.t 35) [(.t 36)],none,3,[]⟩,
  ⟨some 8,.move (.t 37),none,4,[]⟩]) (RC.seq (RC.region 2 [
  ⟨some 38,.move (.t 8),none,0,[]⟩,
  ⟨some 39,.bin .neq (.t 38) (.c (.s (.int .i64 0))),none,1,[]⟩]) (RC.cond (.t 39) (RC.seq (RC.region 8 [
  ⟨some 40,.fieldAddr 0 (.t 6),none,0,[]⟩,
  ⟨some 41,.load none (.t 40),none,1,[]⟩,
  ⟨some 42,.move (.t 7),none,2,[]⟩,
  ⟨some 43,.bin .add (.t 42) (.c (.s (.int .i64 1))),none,3,[]⟩,
  ⟨some 44,.move (.t 8),none,4,[]⟩,
  ⟨some 2,.move (.t 41),none,5,[]⟩,
  ⟨some 3,.move (.t 43),none,6,[]⟩,
  ⟨some 4,.move (.t 44),none,7,[]⟩]) (RC.ret)) (RC.skip)))))) (RC.region 2 [
  ⟨some 45,.bin .add (.t 31) (.c (.s (.int .i64 1))),none,0,[]⟩,
  ⟨some 31,.move (.t 45),none,1,[]⟩])))
def conf_first_s1 : RC :=
  RC.region 2 [
  ⟨some 46,.bin .add (.t 11) (.c (.s (.int .i64 1))),none,0,[]⟩,
  ⟨some 11,.move (.t 46),none,1,[]⟩]
def conf_first_l2 : RC :=
  RC.seq (RC.region 1 [
  ⟨some 12,.bin .lss (.t 11) (.t 10),none,0,[]⟩]) (RC.seq (RC.cond (.t 12) (RC.skip) (RC.exit 0)) (RC.seq (RC.block 1 (RC.seq (RC.region 4 [
  ⟨some 13,.indexSl 6 (.t 9) (.t 11),none,0,[]⟩,
  ⟨some 14,.load (some 6) (.t 13),none,1,[]⟩,
  ⟨some 6,.newc [.str ⟨#[]⟩,.str ⟨#[]⟩,.int .i64 0,.int .i64 0,.int .i64 0,.nilfn],none,2,[]⟩,
  ⟨none,.store 6 (.t 6) (.t 14),none,3,[]⟩]) (RC.seq (RC.seq (RC.region 12 [
  ⟨some 15,.fieldAddr 2 (.t 6),none,0,[]⟩,
  ⟨some 16,.load none (.t 15),none,1,[]⟩,
  ⟨some 17,.fieldAddr 3 (.t 6),none,2,[]⟩,
  ⟨some 18,.load none (.t 17),none,3,[]⟩,
  ⟨some 19,.bin .lss (.t 16) (.t 18),none,4,[]⟩,
  ⟨some 20,.move (.t 19),none,5,[]⟩,
  ⟨some 21,.fieldAddr 2 (.t 6),(some (20,false)),6,[]⟩,
  ⟨some 22,.load none (.t 21),(some (20,false)),7,[]⟩,
  ⟨some 23,.fieldAddr 4 (.t 6),(some (20,false)),8,[]⟩,
  ⟨some 24,.load none (.t 23),(some (20,false)),9,[]⟩,
  ⟨some 25,.bin .gtr (.t 22) (.t 24),(some (20,false)),10,[]⟩,
  ⟨some 26,.pick (.t 20) (.c (.s (.bool true))) (.t 25),none,11,[]⟩]) (RC.cond (.t 26) (RC.seq (RC.region 5 [
  ⟨some 27,.fieldAddr 1 (.t 6),none,0,[]⟩,
  ⟨some 28,.load none (.t 27),none,1,[]⟩,
  ⟨some 2,.move (.t 28),none,2,[]⟩,
  ⟨some 3,.move (.c (.s (.int .i64 0))),none,3,[]⟩,
  ⟨some 4,.move (.c (.s (.int .i64 (-17)))),none,4,[]⟩]) (RC.ret)) (RC.skip))) (RC.seq (RC.region 3 [
  ⟨some 29,.fieldAddr 2 (.t 6),none,0,[]⟩,
  ⟨some 30,.load none (.t 29),none,1,[]⟩,
  ⟨some 31,.move (.c (.s (.int .i64 0))),none,2,[]⟩]) (RC.block 2 (RC.loop R.conf_first_l0)))))) R.conf_first_s1))
def conf_first_s3 : RC :=
  RC.seq (RC.region 3 [
  ⟨some 2,.move (.c (.s (.str ⟨#[]⟩))),none,0,[]⟩,
  ⟨some 3,.move (.c (.s (.int .i64 0))),none,1,[]⟩,
  ⟨some 4,.move (.c (.s (.int .i64 0))),none,2,[]⟩]) (RC.ret)
def conf_first : RFunc := RFunc.mk 47 [.tmp 2,.tmp 3,.tmp 4] (
  RC.seq (RC.region 3 [
  ⟨some 2,.move (.c (.s (.str ⟨#[]⟩))),none,0,[]⟩,
  ⟨some 3,.move (.c (.s (.int .i64 0))),none,1,[]⟩,
  ⟨some 4,.move (.c (.s (.int .i64 0))),none,2,[]⟩]) (RC.seq (RC.seq (RC.region 3 [
  ⟨some 9,.move (.t 0),none,0,[]⟩,
  ⟨some 10,.len (.t 9),none,1,[]⟩,
  ⟨some 11,.move (.c (.s (.int .i64 0))),none,2,[]⟩]) (RC.block 0 (RC.loop R.conf_first_l2))) R.conf_first_s3))
theorem conf_first_ok : chkFunc Go.Proofs.Tryz.prog [0] Go.Proofs.Tryz.f195 conf_first = true := by kernel_rfl
def conf_Check_1 : RFunc := RFunc.mk 17 [.tmp 3] (
  RC.seq (RC.region 1 [
  ⟨some 3,.move (.c (.s (.int .i64 0))),none,0,[]⟩]) (RC.seq (RC.seq (RC.region 7 [
  ⟨some 5,.fieldAddr 1 (.t 1),none,0,[]⟩,
  ⟨some 6,.load none (.t 5),none,1,[]⟩,
  ⟨some 7,.move (.t 0),none,2,[]⟩,
  ⟨some 8,.indexSl 2 (.t 6) (.t 7),none,3,[]⟩,
  ⟨some 9,.fieldAddr 0 (.t 8),none,4,[]⟩,
  ⟨some 10,.load none (.t 9),none,5,[]⟩,
  ⟨some 4,.move (.t 10),none,6,[]⟩]) (RC.seq (RC.region 6 [
  ⟨some 11,.move (.t 4),none,0,[]⟩,
  ⟨some 12,.bin .lss (.t 11) (.c (.s (.int .i64 1))),none,1,[]⟩,
  ⟨some 13,.move (.t 12),none,2,[]⟩,
  ⟨some 14,.move (.t 4),(some (13,false)),3,[]⟩,
  ⟨some 15,.bin .gtr (.t 14) (.c (.s (.int .i64 16))),(some (13,false)),4,[]⟩,
  ⟨some 16,.pick (.t 13) (.c (.s (.bool true))) (.t 15),none,5,[]⟩]) (RC.cond (.t 16) (RC.seq (RC.region 1 [
  ⟨some 3,.move (.c (.s (.int .i64 (-17)))),none,0,[]⟩]) (RC.ret)) (RC.skip)))) (RC.seq (RC.region 1 [
  ⟨some 3,.move (.c (.s (.int .i64 0))),none,0,[]⟩]) (RC.ret))))
theorem conf_Check_1_ok : chkFunc Go.Proofs.Tryz.prog [0] Go.Proofs.Tryz.f196 conf_Check_1 = true := by kernel_rfl
def conf_objects : RFunc := RFunc.mk 12 [.cell 6 (some 6)] (
  RC.seq (RC.region 1 [
  ⟨some 6,.newc [.str ⟨#[]⟩,.str ⟨#[]⟩,.int .i64 0,.int .i64 0,.int .i64 0,.nilfn],none,0,[]⟩]) (RC.seq (RC.region 6 [
  ⟨some 7,.move (.t 0),none,0,[]⟩,
  ⟨some 8,.move (.t 0),none,1,[]⟩,
  ⟨some 9,.move (.t 1),none,2,[]⟩,
  ⟨some 10,.move (.t 2),none,3,[]⟩,
  ⟨some 11,.build [.str ⟨#[]⟩,.str ⟨#[]⟩,.int .i64 0,.int .i64 0,.int .i64 0,.nilfn] [(0,1,(.t 7)),(1,1,(.t 8)),(2,1,(.t 9)),(3,1,(.c (.s (.int .i64 0)))),(4,1,(.c (.s (.int .i64 8)))),(5,1,(.t 10))],none,4,[]⟩,
  ⟨none,.store 6 (.t 6) (.t 11),none,5,[]⟩]) (RC.ret)))
theorem conf_objects_ok : chkFunc Go.Proofs.Tryz.prog [0] Go.Proofs.Tryz.f197 conf_objects = true := by kernel_rfl
def conf_Check_2 : RFunc := RFunc.mk 29 [.tmp 3] (
  RC.seq (RC.region 1 [
  ⟨some 3,.move (.c (.s (.int .i64 0))),none,0,[]⟩]) (RC.seq (RC.region 24 [
  ⟨some 7,.fieldAddr 2 (.t 1),none,0,[]⟩,
  ⟨some 8,.load none (.t 7),none,1,[]⟩,
  ⟨some 9,.move (.t 0),none,2,[]⟩,
  ⟨some 10,.indexSl 3 (.t 8) (.t 9),none,3,[]⟩,
  ⟨some 11,.fieldAddr 0 (.t 10),none,4,[]⟩,
  ⟨some 12,.load none (.t 11),none,5,[]⟩,
  ⟨some 13,.fieldAddr 2 (.t 1),none,6,[]⟩,
  ⟨some 14,.load none (.t 13),none,7,[]⟩,
  ⟨some 15,.move (.t 0),none,8,[]⟩,
  ⟨some 16,.indexSl 3 (.t 14) (.t 15),none,9,[]⟩,
  ⟨some 17,.fieldAddr 1 (.t 16),none,10,[]⟩,
  ⟨some 18,.load none (.t 17),none,11,[]⟩,
  ⟨some 19,.fieldAddr 2 (.t 1),none,12,[]⟩,
  ⟨some 20,.load none (.t 19),none,13,[]⟩,
  ⟨some 21,.move (.t 0),none,14,[]⟩,
  ⟨some 22,.indexSl 3 (.t 20) (.t 21),none,15,[]⟩,
  ⟨some 23,.fieldAddr 2 (.t 22),none,16,[]⟩,
  ⟨some 24,.load none (.t 23),none,17,[]⟩,
  ⟨some 25,.call F.sem_NewSem [(.t 12),(.t 18),(.t 24)],none,18,[]⟩,
  ⟨some 6,.move (.t 25),none,19,[]⟩,
  ⟨some 26,.extract 0 (.t 6),none,20,[]⟩,
  ⟨some 27,.extract 1 (.t 6),none,21,[]⟩,
  ⟨some 4,.move (.t 26),none,22,[]⟩,
  ⟨some 5,.move (.t 27),none,23,[]⟩]) (RC.seq (RC.region 2 [
  ⟨some 28,.move (.t 5),none,0,[]⟩,
  ⟨some 3,.move (.t 28),none,1,[]⟩]) (RC.ret))))
theorem conf_Check_2_ok : chkFunc Go.Proofs.Tryz.prog [0] Go.Proofs.Tryz.f198 conf_Check_2 = true := by kernel_rfl
def conf_fine : RFunc := RFunc.mk 3 [.tmp 2] (
  RC.seq (RC.region 1 [
  ⟨some 2,.move (.c (.s (.int .i64 0))),none,0,[]⟩]) (RC.seq (RC.region 1 [
  ⟨some 2,.move (.c (.s (.int .i64 0))),none,0,[]⟩]) (RC.ret)))
theorem conf_fine_ok : chkFunc Go.Proofs.Tryz.prog [0] Go.Proofs.Tryz.f200 conf_fine = true := by kernel_rfl
def conf_Check_3 : RFunc := RFunc.mk 23 [.tmp 3] (
  RC.seq (RC.region 1 [
  ⟨some 3,.move (.c (.s (.int .i64 0))),none,0,[]⟩]) (RC.seq (RC.region 18 [
  ⟨some 7,.fieldAddr 4 (.t 1),none,0,[]⟩,
  ⟨some 8,.load none (.t 7),none,1,[]⟩,
  ⟨some 9,.move (.t 0),none,2,[]⟩,
  ⟨some 10,.indexSl 2 (.t 8) (.t 9),none,3,[]⟩,
  ⟨some 11,.fieldAddr 0 (.t 10),none,4,[]⟩,
  ⟨some 12,.load none (.t 11),none,5,[]⟩,
  ⟨some 13,.fieldAddr 4 (.t 1),none,6,[]⟩,
  ⟨some 14,.load none (.t 13),none,7,[]⟩,
  ⟨some 15,.move (.t 0),none,8,[]⟩,
  ⟨some 16,.indexSl 2 (.t 14) (.t 15),none,9,[]⟩,
  ⟨some 17,.fieldAddr 1 (.t 16),none,10,[]⟩,
  ⟨some 18,.load none (.t 17),none,11,[]⟩,
  ⟨some 19,.call F.dtq_New [(.t 12),(.t 18)],none,12,[]⟩,
  ⟨some 6,.move (.t 19),none,13,[]⟩,
  ⟨some 20,.extract 0 (.t 6),none,14,[]⟩,
  ⟨some 21,.extract 1 (.t 6),none,15,[]⟩,
  ⟨some 4,.move (.t 20),none,16,[]⟩,
  ⟨some 5,.move (.t 21),none,17,[]⟩]) (RC.seq (RC.region 2 [
  ⟨some 22,.move (.t 5),none,0,[]⟩,
  ⟨some 3,.move (.t 22),none,1,[]⟩]) (RC.ret))))
theorem conf_Check_3_ok : chkFunc Go.Proofs.Tryz.prog [0] Go.Proofs.Tryz.f201 conf_Check_3 = true := by kernel_rfl
def conf_Check_4 : RFunc := RFunc.mk 17 [.tmp 3] (
  RC.seq (RC.region 1 [
  ⟨some 3,.move (.c (.s (.int .i64 0))),none,0,[]⟩]) (RC.seq (RC.region 12 [
  ⟨some 7,.fieldAddr 5 (.t 1),none,0,[]⟩,
  ⟨some 8,.load none (.t 7),none,1,[]⟩,
  ⟨some 9,.move (.t 0),none,2,[]⟩,
  ⟨some 10,.indexSl 2 (.t 8) (.t 9),none,3,[]⟩,
  ⟨some 11,.load (some 2) (.t 10),none,4,[]⟩,
  ⟨some 12,.buildSlice 2 1 [.int .i64 0,.int .i64 0] [(0,2,(.t 11))],none,5,[]⟩,
  ⟨some 13,.call F.mtx_New [(.t 12)],none,6,[]⟩,
  ⟨some 6,.move (.t 13),none,7,[]⟩,
  ⟨some 14,.extract 0 (.t 6),none,8,[]⟩,
  ⟨some 15,.extract 1 (.t 6),none,9,[]⟩,
  ⟨some 4,.move (.t 14),none,10,[]⟩,
  ⟨some 5,.move (.t 15),none,11,[]⟩]) (RC.seq (RC.region 2 [
  ⟨some 16,.move (.t 5),none,0,[]⟩,
  ⟨some 3,.move (.t 16),none,1,[]⟩]) (RC.ret))))
theorem conf_Check_4_ok : chkFunc Go.Proofs.Tryz.prog [0] Go.Proofs.Tryz.f203 conf_Check_4 = true := by kernel_rfl
def conf_Check_5 : RFunc := RFunc.mk 44 [.tmp 4] (
  RC.seq (RC.region 1 [
  ⟨some 4,.move (.c (.s (.int .i64 0))),none,0,[]⟩]) (RC.seq (RC.region 12 [
  ⟨some 10,.load none (.t 1),none,0,[]⟩,
  ⟨some 11,.fieldAddr 6 (.t 2),none,1,[]⟩,
  ⟨some 12,.load none (.t 11),none,2,[]⟩,
  ⟨some 13,.move (.t 0),none,3,[]⟩,
  ⟨some 14,.indexSl 3 (.t 12) (.t 13),none,4,[]⟩,
  ⟨some 15,.load (some 3) (.t 14),none,5,[]⟩,
  ⟨some 16,.call F.conf_next [(.t 10),(.t 15)],none,6,[]⟩,
  ⟨some 9,.move (.t 16),none,7,[]⟩,
  ⟨some 17,.extract 0 (.t 9),none,8,[]⟩,
  ⟨some 18,.extract 1 (.t 9),none,9,[]⟩,
  ⟨some 5,.move (.t 17),none,10,[]⟩,
  ⟨some 6,.move (.t 18),none,11,[]⟩]) (RC.seq (RC.region 25 [
  ⟨some 20,.fieldAddr 6 (.t 2),none,0,[]⟩,
  ⟨some 21,.load none (.t 20),none,1,[]⟩,
  ⟨some 22,.move (.t 0),none,2,[]⟩,
  ⟨some 23,.indexSl 3 (.t 21) (.t 22),none,3,[]⟩,
  ⟨some 24,.fieldAddr 0 (.t 23),none,4,[]⟩,
  ⟨some 25,.load none (.t 24),none,5,[]⟩,
  ⟨some 26,.move (.t 5),none,6,[]⟩,
  ⟨some 27,.fieldAddr 6 (.t 2),none,7,[]⟩,
  ⟨some 28,.load none (.t 27),none,8,[]⟩,
  ⟨some 29,.move (.t 0),none,9,[]⟩,
  ⟨some 30,.indexSl 3 (.t 28) (.t 29),none,10,[]⟩,
  ⟨some 31,.fieldAddr 1 (.t 30),none,11,[]⟩,
  ⟨some 32,.load none (.t 31),none,12,[]⟩,
  ⟨some 33,.fieldAddr 6 (.t 2),none,13,[]⟩,
  ⟨some 34,.load none (.t 33),none,14,[]⟩,
  ⟨some 35,.move (.t 0),none,15,[]⟩,
  ⟨some 36,.indexSl 3 (.t 34) (.t 35),none,16,[]⟩,
  ⟨some 37,.fieldAddr 2 (.t 36),none,17,[]⟩,
  ⟨some 38,.load none (.t 37),none,18,[]⟩,
  ⟨some 39,.call F.mpf_NewPool [(.t 25),(.t 26),(.t 32),(.t 38)],none,19,[]⟩,
  ⟨some 19,.move (.t 39),none,20,[]⟩,
  ⟨some 40,.extract 0 (.t 19),none,21,[]⟩,
  ⟨some 41,.extract 1 (.t 19),none,22,[]⟩,
  ⟨some 7,.move (.t 40),none,23,[]⟩,
  ⟨some 8,.move (.t 41),none,24,[]⟩]) (RC.seq (RC.region 2 [
  ⟨some 42,.move (.t 6),none,0,[]⟩,
  ⟨none,.store 1 (.t 1) (.t 42),none,1,[]⟩]) (RC.seq (RC.region 2 [
  ⟨some 43,.move (.t 8),none,0,[]⟩,
  ⟨some 4,.move (.t 43),none,1,[]⟩]) (RC.ret))))))
theorem conf_Check_5_ok : chkFunc Go.Proofs.Tryz.prog [0] Go.Proofs.Tryz.f205 conf_Check_5 = true := by kernel_rfl
def conf_Check_6 : RFunc := RFunc.mk 27 [.tmp 4] (
  RC.seq (RC.region 1 [
  ⟨some 4,.move (.c (.s (.int .i64 0))),none,0,[]⟩]) (RC.seq (RC.region 7 [
  ⟨some 8,.fieldAddr 7 (.t 1),none,0,[]⟩,
  ⟨some 9,.load none (.t 8),none,1,[]⟩,
  ⟨some 10,.move (.t 0),none,2,[]⟩,
  ⟨some 11,.indexSl 4 (.t 9) (.t 10),none,3,[]⟩,
  ⟨some 12,.load (some 4) (.t 11),none,4,[]⟩,
  ⟨some 5,.newc [.int .i64 0,.int .i64 0,.bool false,.bool false],none,5,[]⟩,
  ⟨none,.store 4 (.t 5) (.t 12),none,6,[]⟩]) (RC.seq (RC.region 15 [
  ⟨some 14,.load none (.t 2),none,0,[]⟩,
  ⟨some 15,.fieldAddr 0 (.t 5),none,1,[]⟩,
  ⟨some 16,.load none (.t 15),none,2,[]⟩,
  ⟨some 17,.fieldAddr 1 (.t 5),none,3,[]⟩,
  ⟨some 18,.load none (.t 17),none,4,[]⟩,
  ⟨some 19,.fieldAddr 2 (.t 5),none,5,[]⟩,
  ⟨some 20,.load none (.t 19),none,6,[]⟩,
  ⟨some 21,.fieldAddr 3 (.t 5),none,7,[]⟩,
  ⟨some 22,.load none (.t 21),none,8,[]⟩,
  ⟨some 23,.call F.cyc_Hands_Cyclic [(.t 14),(.t 16),(.t 18),(.t 20),(.t 22)],none,9,[]⟩,
  ⟨some 13,.move (.t 23),none,10,[]⟩,
  ⟨some 24,.extract 0 (.t 13),none,11,[]⟩,
  ⟨some 25,.extract 1 (.t 13),none,12,[]⟩,
  ⟨some 6,.move (.t 24),none,13,[]⟩,
  ⟨some 7,.move (.t 25),none,14,[]⟩]) (RC.seq (RC.region 2 [
  ⟨some 26,.move (.t 7),none,0,[]⟩,
  ⟨some 4,.move (.t 26),none,1,[]⟩]) (RC.ret)))))
theorem conf_Check_6_ok : chkFunc Go.Proofs.Tryz.prog [0] Go.Proofs.Tryz.f207 conf_Check_6 = true := by kernel_rfl
def sem_NewSem : RFunc := RFunc.mk 29 [.tmp 6,.tmp 7] (
  RC.seq (RC.region 2 [
  ⟨some 6,.move (.c (.s (.ptr none))),none,0,[]⟩,
  ⟨some 7,.move (.c (.s (.int .i64 0))),none,1,[]⟩]) (RC.seq (RC.seq (RC.region 15 [
  ⟨some 8,.move (.t 2),none,0,[]⟩,
  ⟨some 9,.bin .lss (.t 8) (.c (.s (.int .i64 1))),none,1,[]⟩,
  ⟨some 10,.move (.t 9),none,2,[]⟩,
  ⟨some 11,.move (.t 2),(some (10,false)),3,[]⟩,
  ⟨some 12,.bin .gtr (.t 11) (.c (.s (.int .i64 65535))),(some (10,false)),4,[]⟩,
  ⟨some 13,.pick (.t 10) (.c (.s (.bool true))) (.t 12),none,5,[]⟩,
  ⟨some 14,.move (.t 13),none,6,[]⟩,
  ⟨some 15,.move (.t 1),(some (14,false)),7,[]⟩,
  ⟨some 16,.bin .lss (.t 15) (.c (.s (.int .i64 0))),(some (14,false)),8,[]⟩,
  ⟨some 17,.pick (.t 14) (.c (.s (.bool true))) (.t 16),none,9,[]⟩,
  ⟨some 18,.move (.t 17),none,10,[]⟩,
  ⟨some 19,.move (.t 1),(some (18,false)),11,[]⟩,
  ⟨some 20,.move (.t 2),(some (18,false)),12,[]⟩,
  ⟨some 21,.bin .gtr (.t 19) (.t 20),(some (18,false)),13,[]⟩,
  ⟨some 22,.pick (.t 18) (.c (.s (.bool true))) (.t 21),none,14,[]⟩]) (RC.cond (.t 22) (RC.seq (RC.region 2 [
  ⟨some 6,.move (.c (.s (.ptr none))),none,0,[]⟩,
  ⟨some 7,.move (.c (.s (.int .i64 (-17)))),none,1,[]⟩]) (RC.ret)) (RC.skip))) (RC.seq (RC.region 8 [
  ⟨some 23,.move (.t 0),none,0,[]⟩,
  ⟨some 24,.call F.order_New [(.t 23)],none,1,[]⟩,
  ⟨some 25,.move (.t 1),none,2,[]⟩,
  ⟨some 26,.move (.t 2),none,3,[]⟩,
  ⟨some 27,.build [.ptr none,.int .i64 0,.int .i64 0] [(0,1,(.t 24)),(1,1,(.t 25)),(2,1,(.t 26))],none,4,[]⟩,
  ⟨some 28,.box (.t 27),none,5,[]⟩,
  ⟨some 6,.move (.t 28),none,6,[]⟩,
  ⟨some 7,.move (.c (.s (.int .i64 0))),none,7,[]⟩]) (RC.ret))))
theorem sem_NewSem_ok : chkFunc Go.Proofs.Tryz.prog [0] Go.Proofs.Tryz.f199 sem_NewSem = true := by kernel_rfl
def dtq_New : RFunc := RFunc.mk 21 [.tmp 4,.tmp 5] (
  RC.seq (RC.region 2 [
  ⟨some 4,.move (.c (.s (.ptr none))),none,0,[]⟩,
  ⟨some 5,.move (.c (.s (.int .i64 0))),none,1,[]⟩]) (RC.seq (RC.seq (RC.region 6 [
  ⟨some 6,.move (.t 1),none,0,[]⟩,
  ⟨some 7,.bin .lss (.t 6) (.c (.s (.int .i64 0))),none,1,[]⟩,
  ⟨some 8,.move (.t 7),none,2,[]⟩,
  ⟨some 9,.move (.t 1),(some (8,false)),3,[]⟩,
  ⟨some 10,.bin .gtr (.t 9) (.c (.s (.int .i64 64))),(some (8,false)),4,[]⟩,
  ⟨some 11,.pick (.t 8) (.c (.s (.bool true))) (.t 10),none,5,[]⟩]) (RC.cond (.t 11) (RC.seq (RC.region 2 [
  ⟨some 4,.move (.c (.s (.ptr none))),none,0,[]⟩,
  ⟨some 5,.move (.c (.s (.int .i64 (-17)))),none,1,[]⟩]) (RC.ret)) (RC.skip))) (RC.seq (RC.region 11 [
  ⟨some 12,.move (.t 0),none,0,[]⟩,
  ⟨some 13,.call F.order_New [(.t 12)],none,1,[]⟩,
  ⟨some 14,.build [.ptr none] [(0,1,(.t 13))],none,2,[]⟩,
  ⟨some 15,.call F.order_New [(.c (.s (.bool false)))],none,3,[]⟩,
  ⟨some 16,.build [.ptr none] [(0,1,(.t 15))],none,4,[]⟩,
  ⟨some 17,.move (.t 1),none,5,[]⟩,
  ⟨some 18,.hop .makeMap [],none,6,[]⟩,
  ⟨some 19,.build [.ptr none,.ptr none,.int .i64 0,.slice none 0 0 1,.map none] [(0,1,(.t 14)),(1,1,(.t 16)),(2,1,(.t 17)),(4,1,(.t 18))],none,7,[]⟩,
  ⟨some 20,.box (.t 19),none,8,[]⟩,
  ⟨some 4,.move (.t 20),none,9,[]⟩,
  ⟨some 5,.move (.c (.s (.int .i64 0))),none,10,[]⟩]) (RC.ret))))
theorem dtq_New_ok : chkFunc Go.Proofs.Tryz.prog [0] Go.Proofs.Tryz.f202 dtq_New = true := by kernel_rfl
def mtx_New_l0 : RC :=
  RC.seq (RC.region 1 [
  ⟨some 20,.bin .lss (.t 19) (.t 18),none,0,[]⟩]) (RC.seq (RC.cond (.t 20) (RC.skip) (RC.exit 0)) (RC.seq (RC.block 1 (RC.seq (RC.region 4 [
  ⟨some 21,.indexSl 2 (.t 17) (.t 19),none,0,[]⟩,
  ⟨some 22,.load (some 2) (.t 21),none,1,[]⟩,
  ⟨some 6,.newc [.int .i64 0,.int .i64 0],none,2,[]⟩,
  ⟨none,.store 2 (.t 6) (.t 22),none,3,[]⟩]) (RC.seq (RC.seq (RC.region 3 [
  ⟨some 23,.load (some 2) (.t 6),none,0,[]⟩,
  ⟨some 24,.call F.mtx_Kind_right [(.t 23)],none,1,[]⟩,
  ⟨some 25,.un .not (.t 24),none,2,[]⟩]) (RC.cond (.t 25) (RC.seq (RC.region 2 [
  ⟨some 2,.move (.c (.s (.ptr none))),none,0,[]⟩,
  ⟨some 3,.move (.c (.s (.int .i64 (-17)))),none,1,[]⟩]) (RC.ret)) (RC.skip))) (RC.region 12 [
  ⟨some 26,.move (.t 4),none,0,[]⟩,
  ⟨some 27,.move (.t 4),none,1,[]⟩,
  ⟨some 28,.nilCheck (.t 27),none,2,[]⟩,
  ⟨some 29,.fieldAddr 0 (.t 28),none,3,[]⟩,
  ⟨some 30,.load none (.t 29),none,4,[]⟩,
  ⟨some 31,.load (some 2) (.t 6),none,5,[]⟩,
  ⟨some 32,.build [.int .i64 0,.int .i64 0,.int .i64 0,.slice none 0 0 1] [(0,2,(.t 31))],none,6,[]⟩,
  ⟨some 33,.buildSlice 4 1 [.int .i64 0,.int .i64 0,.int .i64 0,.slice none 0 0 1] [(0,4,(.t 32))],none,7,[]⟩,
  ⟨some 34,.append 4 48 (.t 30) (.t 33),none,8,[]⟩,
  ⟨some 35,.nilCheck (.t 26),none,9,[]⟩,
  ⟨some 36,.fieldAddr 0 (.t 35),none,10,[]⟩,
  ⟨none,.store 1 (.t 36) (.t 34),none,11,[]⟩])))) (RC.region 2 [
  ⟨some 37,.bin .add (.t 19) (.c (.s (.int .i64 1))),none,0,[]⟩,
  ⟨some 19,.move (.t 37),none,1,[]⟩])))
def mtx_New_l1 : RC :=
  RC.seq (RC.region 1 [
  ⟨some 39,.bin .lss (.t 38) (.c (.s (.int .i64 17))),none,0,[]⟩]) (RC.seq (RC.cond (.t 39) (RC.skip) (RC.exit 2)) (RC.seq (RC.block 3 (RC.seq (RC.region 2 [
  ⟨some 40,.move (.t 38),none,0,[]⟩,
  ⟨some 7,.move (.t 40),none,1,[]⟩]) (RC.region 7 [
  ⟨some 41,.move (.t 4),none,0,[]⟩,
  ⟨some 42,.move (.t 7),none,1,[]⟩,
  ⟨some 43,.build [.int .i64 0,.int .i64 0,.int .i64 0] [(0,1,(.c (.s (.int .i64 16)))),(1,1,(.c (.s (.int .i64 16)))),(2,1,(.c (.s (.int .i64 0))))],none,2,[]⟩,
  ⟨some 44,.nilCheck (.t 41),none,3,[]⟩,
  ⟨some 45,.fieldAddr 1 (.t 44),none,4,[]⟩,
  ⟨some 46,.indexArr 17 3 (.t 45) (.t 42),none,5,[]⟩,
  ⟨none,.store 3 (.t 46) (.t 43),none,6,[]⟩]))) (RC.region 2 [
  ⟨some 47,.bin .add (.t 38) (.c (.s (.int .i64 1))),none,0,[]⟩,
  ⟨some 38,.move (.t 47),none,1,[]⟩])))
def mtx_New_s2 : RC :=
  RC.seq (RC.region 3 [
  ⟨some 48,.move (.t 4),none,0,[]⟩,
  ⟨some 2,.move (.t 48),none,1,[]⟩,
  ⟨some 3,.move (.c (.s (.int .i64 0))),none,2,[]⟩]) (RC.ret)
def mtx_New_s3 : RC :=
  RC.seq (RC.seq (RC.region 1 [
  ⟨some 38,.move (.c (.s (.int .i64 0))),none,0,[]⟩]) (RC.block 2 (RC.loop R.mtx_New_l1))) R.mtx_New_s2
def mtx_New : RFunc := RFunc.mk 49 [.tmp 2,.tmp 3] (
  RC.seq (RC.region 2 [
  ⟨some 2,.move (.c (.s (.ptr none))),none,0,[]⟩,
  ⟨some 3,.move (.c (.s (.int .i64 0))),none,1,[]⟩]) (RC.seq (RC.seq (RC.region 3 [
  ⟨some 8,.move (.t 0),none,0,[]⟩,
  ⟨some 9,.len (.t 8),none,1,[]⟩,
  ⟨some 10,.bin .gtr (.t 9) (.c (.s (.int .i64 8))),none,2,[]⟩]) (RC.cond (.t 10) (RC.seq (RC.region 2 [
  ⟨some 2,.move (.c (.s (.ptr none))),none,0,[]⟩,
  ⟨some 3,.move (.c (.s (.int .i64 (-17)))),none,1,[]⟩]) (RC.ret)) (RC.skip))) (RC.seq (RC.region 7 [
  ⟨some 11,.move (.t 0),none,0,[]⟩,
  ⟨some 12,.len (.t 11),none,1,[]⟩,
  ⟨some 13,.bin .add (.t 12) (.c (.s (.int .i64 1))),none,2,[]⟩,
  ⟨some 14,.makeSlice 4 48 [.int .i64 0,.int .i64 0,.int .i64 0,.slice none 0 0 1] (.c (.s (.int .i64 1))) (.t 13),none,3,[]⟩,
  ⟨some 15,.build [.slice none 0 0 1,.int .i64 0,.int .i64 0,.int .i64 0,.int .i64 0,.int .i64 0,.int .i64 0,.int .i64 0,.int .i64 0,.int .i64 0,.int .i64 0,.int .i64 0,.int .i64 0,.int .i64 0,.int .i64 0,.int .i64 0,.int .i64 0,.int .i64 0,.int .i64 0,.int .i64 0,.int .i64 0,.int .i64 0,.int .i64 0,.int .i64 0,.int .i64 0,.int .i64 0,.int .i64 0,.int .i64 0,.int .i64 0,.int .i64 0,.int .i64 0,.int .i64 0,.int .i64 0,.int .i64 0,.int .i64 0,.int .i64 0,.int .i64 0,.int .i64 0,.int .i64 0,.int .i64 0,.int .i64 0,.int .i64 0,.int .i64 0,.int .i64 0,.int .i64 0,.int .i64 0,.int .i64 0,.int .i64 0,.int .i64 0,.int .i64 0,.int .i64 0,.int .i64 0] [(0,1,(.t 14))],none,4,[]⟩,
  ⟨some 16,.box (.t 15),none,5,[]⟩,
  ⟨some 4,.move (.t 16),none,6,[]⟩]) (RC.seq (RC.seq (RC.region 3 [
  ⟨some 17,.move (.t 0),none,0,[]⟩,
  ⟨some 18,.len (.t 17),none,1,[]⟩,
  ⟨some 19,.move (.c (.s (.int .i64 0))),none,2,[]⟩]) (RC.block 0 (RC.loop R.mtx_New_l0))) R.mtx_New_s3))))
theorem mtx_New_ok : chkFunc Go.Proofs.Tryz.prog [0] Go.Proofs.Tryz.f204 mtx_New = true := by kernel_rfl
def mpf_NewPool : RFunc := RFunc.mk 53 [.tmp 8,.tmp 9] (
  RC.seq (RC.region 2 [
  ⟨some 8,.move (.c (.s (.ptr none))),none,0,[]⟩,
  ⟨some 9,.move (.c (.s (.int .i64 0))),none,1,[]⟩]) (RC.seq (RC.seq (RC.region 36 [
  ⟨some 10,.move (.t 2),none,0,[]⟩,
  ⟨some 11,.bin .lss (.t 10) (.c (.s (.int .i64 1))),none,1,[]⟩,
  ⟨some 12,.move (.t 11),none,2,[]⟩,
  ⟨some 13,.move (.t 2),(some (12,false)),3,[]⟩,
  ⟨some 14,.bin .gtr (.t 13) (.c (.s (.int .i64 256))),(some (12,false)),4,[]⟩,
  ⟨some 15,.pick (.t 12) (.c (.s (.bool true))) (.t 14),none,5,[]⟩,
  ⟨some 16,.move (.t 15),none,6,[]⟩,
  ⟨some 17,.move (.t 3),(some (16,false)),7,[]⟩,
  ⟨some 18,.bin .lss (.t 17) (.c (.s (.int .i64 1))),(some (16,false)),8,[]⟩,
  ⟨some 19,.pick (.t 16) (.c (.s (.bool true))) (.t 18),none,9,[]⟩,
  ⟨some 20,.move (.t 19),none,10,[]⟩,
  ⟨some 21,.move (.t 3),(some (20,false)),11,[]⟩,
  ⟨some 22,.bin .gtr (.t 21) (.c (.s (.int .i64 4096))),(some (20,false)),12,[]⟩,
  ⟨some 23,.pick (.t 20) (.c (.s (.bool true))) (.t 22),none,13,[]⟩,
  ⟨some 24,.move (.t 23),none,14,[]⟩,
  ⟨some 25,.move (.t 1),(some (24,false)),15,[]⟩,
  ⟨some 26,.bin .lss (.t 25) (.c (.s (.int .i64 0))),(some (24,false)),16,[]⟩,
  ⟨some 27,.pick (.t 24) (.c (.s (.bool true))) (.t 26),none,17,[]⟩,
  ⟨some 28,.move (.t 27),none,18,[]⟩,
  ⟨some 29,.move (.t 1),(some (28,false)),19,[]⟩,
  ⟨some 30,.bin .gtr (.t 29) (.c (.s (.int .i64 65536))),(some (28,false)),20,[]⟩,
  ⟨some 31,.pick (.t 28) (.c (.s (.bool true))) (.t 30),none,21,[]⟩,
  ⟨some 32,.move (.t 31),none,22,[]⟩,
  ⟨some 33,.move (.t 1),(some (32,false)),23,[]⟩,
  ⟨some 34,.bin .rem (.t 33) (.c (.s (.int .i64 4))),(some (32,false)),24,[]⟩,
  ⟨some 35,.bin .neq (.t 34) (.c (.s (.int .i64 0))),(some (32,false)),25,[]⟩,
  ⟨some 36,.pick (.t 32) (.c (.s (.bool true))) (.t 35),none,26,[]⟩,
  ⟨some 37,.move (.t 36),none,27,[]⟩,
  ⟨some 38,.move (.t 2),(some (37,false)),28,[]⟩,
  ⟨some 39,.move (.t 3),(some (37,false)),29,[]⟩,
  ⟨some 40,.call F.nums_Align [(.t 39),(.c (.s (.int .i64 4)))],(some (37,false)),30,[]⟩,
  ⟨some 41,.bin .mul (.t 38) (.t 40),(some (37,false)),31,[]⟩,
  ⟨some 42,.move (.t 1),(some (37,false)),32,[]⟩,
  ⟨some 43,.bin .sub (.c (.s (.int .i64 65536))) (.t 42),(some (37,false)),33,[]⟩,
  ⟨some 44,.bin .gtr (.t 41) (.t 43),(some (37,false)),34,[]⟩,
  ⟨some 45,.pick (.t 37) (.c (.s (.bool true))) (.t 44),none,35,[]⟩]) (RC.cond (.t 45) (RC.seq (RC.region 2 [
  ⟨some 8,.move (.c (.s (.ptr none))),none,0,[]⟩,
  ⟨some 9,.move (.c (.s (.int .i64 (-17)))),none,1,[]⟩]) (RC.ret)) (RC.skip))) (RC.seq (RC.region 9 [
  ⟨some 46,.move (.t 0),none,0,[]⟩,
  ⟨some 47,.call F.order_New [(.t 46)],none,1,[]⟩,
  ⟨some 48,.move (.t 1),none,2,[]⟩,
  ⟨some 49,.move (.t 2),none,3,[]⟩,
  ⟨some 50,.move (.t 3),none,4,[]⟩,
  ⟨some 51,.build [.ptr none,.int .i64 0,.int .i64 0,.int .i64 0,.int .i64 0,.slice none 0 0 1,.slice none 0 0 1] [(0,1,(.t 47)),(1,1,(.t 48)),(2,1,(.t 49)),(3,1,(.t 50))],none,5,[]⟩,
  ⟨some 52,.box (.t 51),none,6,[]⟩,
  ⟨some 8,.move (.t 52),none,7,[]⟩,
  ⟨some 9,.move (.c (.s (.int .i64 0))),none,8,[]⟩]) (RC.ret))))
theorem mpf_NewPool_ok : chkFunc Go.Proofs.Tryz.prog [0] Go.Proofs.Tryz.f206 mpf_NewPool = true := by kernel_rfl
def flag_NewFlag : RFunc := RFunc.mk 17 [.tmp 8] (
  RC.seq (RC.region 1 [
  ⟨some 8,.move (.c (.s (.ptr none))),none,0,[]⟩]) (RC.seq (RC.region 9 [
  ⟨some 9,.move (.t 0),none,0,[]⟩,
  ⟨some 10,.call F.order_New [(.t 9)],none,1,[]⟩,
  ⟨some 11,.move (.t 3),none,2,[]⟩,
  ⟨some 12,.move (.t 1),none,3,[]⟩,
  ⟨some 13,.move (.t 2),none,4,[]⟩,
  ⟨some 14,.hop .makeMap [],none,5,[]⟩,
  ⟨some 15,.build [.ptr none,.int .u32 0,.bool false,.bool false,.map none] [(0,1,(.t 10)),(1,1,(.t 11)),(2,1,(.t 12)),(3,1,(.t 13)),(4,1,(.t 14))],none,6,[]⟩,
  ⟨some 16,.box (.t 15),none,7,[]⟩,
  ⟨some 8,.move (.t 16),none,8,[]⟩]) (RC.ret)))
theorem flag_NewFlag_ok : chkFunc Go.Proofs.Tryz.prog [0] Go.Proofs.Tryz.f208 flag_NewFlag = true := by kernel_rfl
def conf_Layout_l0 : RC :=
  RC.seq (RC.region 1 [
  ⟨some 13,.bin .lss (.t 12) (.t 11),none,0,[]⟩]) (RC.seq (RC.cond (.t 13) (RC.skip) (RC.exit 0)) (RC.seq (RC.block 1 (RC.seq (RC.region 4 [
  ⟨some 14,.indexSl 3 (.t 10) (.t 12),none,0,[]⟩,
  ⟨some 15,.load (some 3) (.t 14),none,1,[]⟩,
  ⟨some 6,.newc [.bool false,.int .i64 0,.int .i64 0],none,2,[]⟩,
  ⟨none,.store 3 (.t 6) (.t 15),none,3,[]⟩]) (RC.seq (RC.region 8 [
  ⟨some 17,.move (.t 4),none,0,[]⟩,
  ⟨some 18,.load (some 3) (.t 6),none,1,[]⟩,
  ⟨some 19,.call F.conf_next [(.t 17),(.t 18)],none,2,[]⟩,
  ⟨some 16,.move (.t 19),none,3,[]⟩,
  ⟨some 20,.extract 0 (.t 16),none,4,[]⟩,
  ⟨some 21,.extract 1 (.t 16),none,5,[]⟩,
  ⟨some 7,.move (.t 20),none,6,[]⟩,
  ⟨some 8,.move (.t 21),none,7,[]⟩]) (RC.seq (RC.region 5 [
  ⟨some 22,.move (.t 3),none,0,[]⟩,
  ⟨some 23,.move (.t 7),none,1,[]⟩,
  ⟨some 24,.buildSlice 1 1 [.int .i64 0] [(0,1,(.t 23))],none,2,[]⟩,
  ⟨some 25,.append 1 8 (.t 22) (.t 24),none,3,[]⟩,
  ⟨some 3,.move (.t 25),none,4,[]⟩]) (RC.region 2 [
  ⟨some 26,.move (.t 8),none,0,[]⟩,
  ⟨some 4,.move (.t 26),none,1,[]⟩]))))) (RC.region 2 [
  ⟨some 27,.bin .add (.t 12) (.c (.s (.int .i64 1))),none,0,[]⟩,
  ⟨some 12,.move (.t 27),none,1,[]⟩])))
def conf_Layout_s1 : RC :=
  RC.seq (RC.region 2 [
  ⟨some 28,.move (.t 3),none,0,[]⟩,
  ⟨some 2,.move (.t 28),none,1,[]⟩]) (RC.ret)
def conf_Layout : RFunc := RFunc.mk 29 [.tmp 2] (
  RC.seq (RC.region 2 [
  ⟨some 1,.box (.t 0),none,0,[]⟩,
  ⟨some 2,.move (.c (.s (.slice none 0 0 1))),none,1,[]⟩]) (RC.seq (RC.region 1 [
  ⟨some 3,.move (.c (.s (.slice none 0 0 1))),none,0,[]⟩]) (RC.seq (RC.region 1 [
  ⟨some 4,.move (.c (.s (.int .i64 0))),none,0,[]⟩]) (RC.seq (RC.seq (RC.region 4 [
  ⟨some 9,.fieldAddr 6 (.t 1),none,0,[]⟩,
  ⟨some 10,.load none (.t 9),none,1,[]⟩,
  ⟨some 11,.len (.t 10),none,2,[]⟩,
  ⟨some 12,.move (.c (.s (.int .i64 0))),none,3,[]⟩]) (RC.block 0 (RC.loop R.conf_Layout_l0))) R.conf_Layout_s1))))
theorem conf_Layout_ok : chkFunc Go.Proofs.Tryz.prog [0] Go.Proofs.Tryz.f209 conf_Layout = true := by kernel_rfl
def clock_NewClock : RFunc := RFunc.mk 15 [.tmp 2,.tmp 3] (
  RC.seq (RC.region 2 [
  ⟨some 2,.move (.c (.s (.ptr none))),none,0,[]⟩,
  ⟨some 3,.move (.c (.s (.int .i64 0))),none,1,[]⟩]) (RC.seq (RC.seq (RC.region 6 [
  ⟨some 4,.move (.t 0),none,0,[]⟩,
  ⟨some 5,.bin .lss (.t 4) (.c (.s (.int .i64 1))),none,1,[]⟩,
  ⟨some 6,.move (.t 5),none,2,[]⟩,
  ⟨some 7,.move (.t 0),(some (6,false)),3,[]⟩,
  ⟨some 8,.bin .gtr (.t 7) (.c (.s (.int .i64 1000))),(some (6,false)),4,[]⟩,
  ⟨some 9,.pick (.t 6) (.c (.s (.bool true))) (.t 8),none,5,[]⟩]) (RC.cond (.t 9) (RC.seq (RC.region 2 [
  ⟨some 2,.move (.c (.s (.ptr none))),none,0,[]⟩,
  ⟨some 3,.move (.c (.s (.int .i64 (-17)))),none,1,[]⟩]) (RC.ret)) (RC.skip))) (RC.seq (RC.region 7 [
  ⟨some 10,.call F.heap_New [],none,0,[]⟩,
  ⟨some 11,.move (.t 0),none,1,[]⟩,
  ⟨some 12,.conv .u64 (.t 11),none,2,[]⟩,
  ⟨some 13,.build [.ptr none,.int .u64 0,.int .u64 0,.int .u64 0] [(0,1,(.t 10)),(1,1,(.t 12))],none,3,[]⟩,
  ⟨some 14,.box (.t 13),none,4,[]⟩,
  ⟨some 2,.move (.t 14),none,5,[]⟩,
  ⟨some 3,.move (.c (.s (.int .i64 0))),none,6,[]⟩]) (RC.ret))))
theorem clock_NewClock_ok : chkFunc Go.Proofs.Tryz.prog [0] Go.Proofs.Tryz.f210 clock_NewClock = true := by kernel_rfl
def mtx_may : RFunc := RFunc.mk 9 [.tmp 2] (
  RC.seq (RC.region 1 [
  ⟨some 2,.move (.c (.s (.bool false))),none,0,[]⟩]) (RC.seq (RC.region 7 [
  ⟨some 3,.move (.t 0),none,0,[]⟩,
  ⟨some 4,.bin .geq (.t 3) (.c (.s (.int .i64 1))),none,1,[]⟩,
  ⟨some 5,.move (.t 4),none,2,[]⟩,
  ⟨some 6,.move (.t 0),(some (5,true)),3,[]⟩,
  ⟨some 7,.bin .leq (.t 6) (.c (.s (.int .i64 16))),(some (5,true)),4,[]⟩,
  ⟨some 8,.pick (.t 5) (.t 7) (.c (.s (.bool false))),none,5,[]⟩,
  ⟨some 2,.move (.t 8),none,6,[]⟩]) (RC.ret)))
theorem mtx_may_ok : chkFunc Go.Proofs.Tryz.prog [0] Go.Proofs.Tryz.f211 mtx_may = true := by kernel_rfl
def mtx_All_settle_l0 : RC :=
  RC.seq (RC.seq (RC.region 2 [
  ⟨some 8,.move (.t 3),none,0,[]⟩,
  ⟨some 9,.bin .leq (.t 8) (.c (.s (.int .i64 16))),none,1,[]⟩]) (RC.cond (.t 9) (RC.skip) (RC.exit 0))) (RC.seq (RC.block 1 (RC.region 6 [
  ⟨some 12,.move (.t 3),none,0,[]⟩,
  ⟨some 13,.move (.t 0),none,1,[]⟩,
  ⟨some 14,.move (.t 3),none,2,[]⟩,
  ⟨some 15,.call F.mtx_All_reckon [(.t 13),(.t 14),(.c (.s (.int .i64 0)))],none,3,[]⟩,
  ⟨some 16,.indexArr 17 1 (.t 2) (.t 12),none,4,[]⟩,
  ⟨none,.store 1 (.t 16) (.t 15),none,5,[]⟩])) (RC.region 3 [
  ⟨some 10,.move (.t 3),none,0,[]⟩,
  ⟨some 11,.bin .add (.t 10) (.c (.s (.int .i64 1))),none,1,[]⟩,
  ⟨some 3,.move (.t 11),none,2,[]⟩]))
def mtx_All_settle_l1 : RC :=
  RC.seq (RC.region 1 [
  ⟨some 37,.bin .lss (.t 36) (.t 35),none,0,[]⟩]) (RC.seq (RC.cond (.t 37) (RC.skip) (RC.exit 4)) (RC.seq (RC.block 5 (RC.seq (RC.region 3 [
  ⟨some 38,.indexSl 1 (.t 34) (.t 36),none,0,[]⟩,
  ⟨some 39,.load none (.t 38),none,1,[]⟩,
  ⟨some 6,.move (.t 39),none,2,[]⟩]) (RC.seq (RC.seq (RC.region 11 [
  ⟨some 40,.move (.t 6),none,0,[]⟩,
  ⟨some 41,.indexArr 17 1 (.t 2) (.t 40),none,1,[]⟩,
  ⟨some 42,.load none (.t 41),none,2,[]⟩,
  ⟨some 43,.move (.t 0),none,3,[]⟩,
  ⟨some 44,.move (.t 6),none,4,[]⟩,
  ⟨some 45,.nilCheck (.t 43),none,5,[]⟩,
  ⟨some 46,.fieldAddr 1 (.t 45),none,6,[]⟩,
  ⟨some 47,.indexArr 17 3 (.t 46) (.t 44),none,7,[]⟩,
  ⟨some 48,.fieldAddr 1 (.t 47),none,8,[]⟩,
  ⟨some 49,.load none (.t 48),none,9,[]⟩,
  ⟨some 50,.bin .eql (.t 42) (.t 49),none,10,[]⟩]) (RC.cond (.t 50) (RC.exit 5) (RC.skip))) (RC.seq (RC.region 4 [
  ⟨some 51,.move (.t 0),none,0,[]⟩,
  ⟨some 52,.move (.t 4),none,1,[]⟩,
  ⟨some 53,.move (.t 6),none,2,[]⟩,
  ⟨some 54,.call F.mtx_All_leave [(.t 51),(.t 52),(.t 53)],none,3,[]⟩]) (RC.seq (RC.region 10 [
  ⟨some 55,.move (.t 0),none,0,[]⟩,
  ⟨some 56,.move (.t 6),none,1,[]⟩,
  ⟨some 57,.move (.t 6),none,2,[]⟩,
  ⟨some 58,.indexArr 17 1 (.t 2) (.t 57),none,3,[]⟩,
  ⟨some 59,.load none (.t 58),none,4,[]⟩,
  ⟨some 60,.nilCheck (.t 55),none,5,[]⟩,
  ⟨some 61,.fieldAddr 1 (.t 60),none,6,[]⟩,
  ⟨some 62,.indexArr 17 3 (.t 61) (.t 56),none,7,[]⟩,
  ⟨some 63,.fieldAddr 1 (.t 62),none,8,[]⟩,
  ⟨none,.store 1 (.t 63) (.t 59),none,9,[]⟩]) (RC.region 4 [
  ⟨some 64,.move (.t 0),none,0,[]⟩,
  ⟨some 65,.move (.t 4),none,1,[]⟩,
  ⟨some 66,.move (.t 6),none,2,[]⟩,
  ⟨some 67,.call F.mtx_All_rejoin [(.t 64),(.t 65),(.t 66)],none,3,[]⟩])))))) (RC.region 2 [
  ⟨some 68,.bin .add (.t 36) (.c (.s (.int .i64 1))),none,0,[]⟩,
  ⟨some 36,.move (.t 68),none,1,[]⟩])))
def mtx_All_settle_s2 : RC :=
  RC.region 3 [
  ⟨some 24,.move (.t 4),none,0,[]⟩,
  ⟨some 25,.bin .add (.t 24) (.c (.s (.int .i64 1))),none,1,[]⟩,
  ⟨some 4,.move (.t 25),none,2,[]⟩]
def mtx_All_settle_l3 : RC :=
  RC.seq (RC.seq (RC.region 7 [
  ⟨some 17,.move (.t 4),none,0,[]⟩,
  ⟨some 18,.move (.t 0),none,1,[]⟩,
  ⟨some 19,.nilCheck (.t 18),none,2,[]⟩,
  ⟨some 20,.fieldAddr 0 (.t 19),none,3,[]⟩,
  ⟨some 21,.load none (.t 20),none,4,[]⟩,
  ⟨some 22,.len (.t 21),none,5,[]⟩,
  ⟨some 23,.bin .lss (.t 17) (.t 22),none,6,[]⟩]) (RC.cond (.t 23) (RC.skip) (RC.exit 2))) (RC.seq (RC.block 3 (RC.seq (RC.region 11 [
  ⟨some 26,.move (.t 0),none,0,[]⟩,
  ⟨some 27,.nilCheck (.t 26),none,1,[]⟩,
  ⟨some 28,.fieldAddr 0 (.t 27),none,2,[]⟩,
  ⟨some 29,.load none (.t 28),none,3,[]⟩,
  ⟨some 30,.move (.t 4),none,4,[]⟩,
  ⟨some 31,.indexSl 4 (.t 29) (.t 30),none,5,[]⟩,
  ⟨some 32,.fieldAddr 3 (.t 31),none,6,[]⟩,
  ⟨some 33,.load none (.t 32),none,7,[]⟩,
  ⟨some 34,.call F.slices_Clone__int_int [(.t 33)],none,8,[]⟩,
  ⟨some 35,.len (.t 34),none,9,[]⟩,
  ⟨some 36,.move (.c (.s (.int .i64 0))),none,10,[]⟩]) (RC.block 4 (RC.loop R.mtx_All_settle_l1)))) R.mtx_All_settle_s2)
def mtx_All_settle_l4 : RC :=
  RC.seq (RC.seq (RC.region 2 [
  ⟨some 69,.move (.t 7),none,0,[]⟩,
  ⟨some 70,.bin .leq (.t 69) (.c (.s (.int .i64 16))),none,1,[]⟩]) (RC.cond (.t 70) (RC.skip) (RC.exit 6))) (RC.seq (RC.block 7 (RC.region 10 [
  ⟨some 73,.move (.t 0),none,0,[]⟩,
  ⟨some 74,.move (.t 7),none,1,[]⟩,
  ⟨some 75,.move (.t 7),none,2,[]⟩,
  ⟨some 76,.indexArr 17 1 (.t 2) (.t 75),none,3,[]⟩,
  ⟨some 77,.load none (.t 76),none,4,[]⟩,
  ⟨some 78,.nilCheck (.t 73),none,5,[]⟩,
  ⟨some 79,.fieldAddr 1 (.t 78),none,6,[]⟩,
  ⟨some 80,.indexArr 17 3 (.t 79) (.t 74),none,7,[]⟩,
  ⟨some 81,.fieldAddr 1 (.t 80),none,8,[]⟩,
  ⟨none,.store 1 (.t 81) (.t 77),none,9,[]⟩])) (RC.region 3 [
  ⟨some 71,.move (.t 7),none,0,[]⟩,
  ⟨some 72,.bin .add (.t 71) (.c (.s (.int .i64 1))),none,1,[]⟩,
  ⟨some 7,.move (.t 72),none,2,[]⟩]))
def mtx_All_settle_s5 : RC :=
  RC.seq (RC.region 1 [
  ⟨some 7,.move (.c (.s (.int .i64 1))),none,0,[]⟩]) (RC.block 6 (RC.loop R.mtx_All_settle_l4))
def mtx_All_settle_s6 : RC :=
  RC.seq (RC.seq (RC.region 1 [
  ⟨some 4,.move (.c (.s (.int .i64 1))),none,0,[]⟩]) (RC.block 2 (RC.loop R.mtx_All_settle_l3))) R.mtx_All_settle_s5
def mtx_All_settle : RFunc := RFunc.mk 82 [] (
  RC.seq (RC.region 1 [
  ⟨some 2,.newc [.int .i64 0,.int .i64 0,.int .i64 0,.int .i64 0,.int .i64 0,.int .i64 0,.int .i64 0,.int .i64 0,.int .i64 0,.int .i64 0,.int .i64 0,.int .i64 0,.int .i64 0,.int .i64 0,.int .i64 0,.int .i64 0,.int .i64 0],none,0,[]⟩]) (RC.seq (RC.seq (RC.region 1 [
  ⟨some 3,.move (.c (.s (.int .i64 1))),none,0,[]⟩]) (RC.block 0 (RC.loop R.mtx_All_settle_l0))) R.mtx_All_settle_s6))
theorem mtx_All_settle_ok : chkFunc Go.Proofs.Tryz.prog [0] Go.Proofs.Tryz.f212 mtx_All_settle = true := by kernel_rfl
def tcb_Task_Act : RFunc := RFunc.mk 27 [.tmp 2,.tmp 3] (
  RC.seq (RC.region 2 [
  ⟨some 2,.move (.c (.s (.bool false))),none,0,[]⟩,
  ⟨some 3,.move (.c (.s (.int .i64 0))),none,1,[]⟩]) (RC.seq (RC.block 0 (RC.seq (RC.region 4 [
  ⟨some 5,.move (.t 0),none,0,[]⟩,
  ⟨some 6,.buildSlice 1 1 [.int .i64 0] [(0,1,(.c (.s (.int .i64 16))))],none,1,[]⟩,
  ⟨some 7,.call F.tcb_Task_Is [(.t 5),(.t 6)],none,2,[]⟩,
  ⟨some 4,.move (.t 7),none,3,[]⟩]) (RC.cond (.t 4) (RC.seq (RC.region 4 [
  ⟨some 8,.move (.t 0),none,0,[]⟩,
  ⟨some 9,.nilCheck (.t 8),none,1,[]⟩,
  ⟨some 10,.fieldAddr 3 (.t 9),none,2,[]⟩,
  ⟨none,.store 1 (.t 10) (.c (.s (.int .i64 2))),none,3,[]⟩]) (RC.seq (RC.region 2 [
  ⟨some 2,.move (.c (.s (.bool true))),none,0,[]⟩,
  ⟨some 3,.move (.c (.s (.int .i64 0))),none,1,[]⟩]) (RC.ret))) (RC.seq (RC.region 7 [
  ⟨some 12,.move (.t 0),none,0,[]⟩,
  ⟨some 13,.nilCheck (.t 12),none,1,[]⟩,
  ⟨some 14,.fieldAddr 0 (.t 13),none,2,[]⟩,
  ⟨some 15,.fieldAddr 0 (.t 14),none,3,[]⟩,
  ⟨some 16,.load none (.t 15),none,4,[]⟩,
  ⟨some 17,.bin .geq (.t 16) (.c (.s (.int .i64 7))),none,5,[]⟩,
  ⟨some 11,.move (.t 17),none,6,[]⟩]) (RC.cond (.t 11) (RC.seq (RC.region 2 [
  ⟨some 2,.move (.c (.s (.bool false))),none,0,[]⟩,
  ⟨some 3,.move (.c (.s (.int .i64 (-43)))),none,1,[]⟩]) (RC.ret)) (RC.skip)))))) (RC.seq (RC.region 10 [
  ⟨some 18,.move (.t 0),none,0,[]⟩,
  ⟨some 19,.nilCheck (.t 18),none,1,[]⟩,
  ⟨some 20,.fieldAddr 0 (.t 19),none,2,[]⟩,
  ⟨some 21,.fieldAddr 0 (.t 20),none,3,[]⟩,
  ⟨some 22,.load none (.t 21),none,4,[]⟩,
  ⟨some 23,.bin .add (.t 22) (.c (.s (.int .i64 1))),none,5,[]⟩,
  ⟨some 24,.nilCheck (.t 18),none,6,[]⟩,
  ⟨some 25,.fieldAddr 0 (.t 24),none,7,[]⟩,
  ⟨some 26,.fieldAddr 0 (.t 25),none,8,[]⟩,
  ⟨none,.store 1 (.t 26) (.t 23),none,9,[]⟩]) (RC.seq (RC.region 2 [
  ⟨some 2,.move (.c (.s (.bool false))),none,0,[]⟩,
  ⟨some 3,.move (.c (.s (.int .i64 0))),none,1,[]⟩]) (RC.ret)))))
theorem tcb_Task_Act_ok : chkFunc Go.Proofs.Tryz.prog [0] Go.Proofs.Tryz.f213 tcb_Task_Act = true := by kernel_rfl
def kern_Kernel_enter : RFunc := RFunc.mk 38 [] (
  RC.seq (RC.region 8 [
  ⟨some 5,.move (.t 0),none,0,[]⟩,
  ⟨some 6,.nilCheck (.t 5),none,1,[]⟩,
  ⟨some 7,.fieldAddr 9 (.t 6),none,2,[]⟩,
  ⟨some 8,.load none (.t 7),none,3,[]⟩,
  ⟨some 9,.move (.t 1),none,4,[]⟩,
  ⟨some 10,.indexSl 1 (.t 8) (.t 9),none,5,[]⟩,
  ⟨some 11,.load none (.t 10),none,6,[]⟩,
  ⟨some 4,.move (.t 11),none,7,[]⟩]) (RC.seq (RC.region 6 [
  ⟨some 12,.move (.t 4),none,0,[]⟩,
  ⟨some 13,.nilCheck (.t 12),none,1,[]⟩,
  ⟨some 14,.fieldAddr 0 (.t 13),none,2,[]⟩,
  ⟨some 15,.load none (.t 14),none,3,[]⟩,
  ⟨some 16,.buildSlice 1 1 [.int .i64 0] [(0,1,(.c (.s (.int .i64 2))))],none,4,[]⟩,
  ⟨some 17,.call F.tcb_Task_Is [(.t 15),(.t 16)],none,5,[]⟩]) (RC.cond (.t 17) (RC.seq (RC.region 11 [
  ⟨some 18,.move (.t 4),none,0,[]⟩,
  ⟨some 19,.move (.t 0),none,1,[]⟩,
  ⟨some 20,.nilCheck (.t 19),none,2,[]⟩,
  ⟨some 21,.fieldAddr 0 (.t 20),none,3,[]⟩,
  ⟨some 22,.fieldAddr 5 (.t 21),none,4,[]⟩,
  ⟨some 23,.load none (.t 22),none,5,[]⟩,
  ⟨some 24,.move (.t 1),none,6,[]⟩,
  ⟨some 25,.call F.mtx_All_Pri [(.t 23),(.t 24)],none,7,[]⟩,
  ⟨some 26,.nilCheck (.t 18),none,8,[]⟩,
  ⟨some 27,.fieldAddr 2 (.t 26),none,9,[]⟩,
  ⟨none,.store 1 (.t 27) (.t 25),none,10,[]⟩]) (RC.region 10 [
  ⟨some 28,.move (.t 0),none,0,[]⟩,
  ⟨some 29,.nilCheck (.t 28),none,1,[]⟩,
  ⟨some 30,.fieldAddr 8 (.t 29),none,2,[]⟩,
  ⟨some 31,.load none (.t 30),none,3,[]⟩,
  ⟨some 32,.move (.t 1),none,4,[]⟩,
  ⟨some 33,.move (.t 4),none,5,[]⟩,
  ⟨some 34,.nilCheck (.t 33),none,6,[]⟩,
  ⟨some 35,.fieldAddr 2 (.t 34),none,7,[]⟩,
  ⟨some 36,.load none (.t 35),none,8,[]⟩,
  ⟨some 37,.call F.ready_Queue_Add [(.t 31),(.t 32),(.t 36)],none,9,[]⟩])) (RC.skip))))
theorem kern_Kernel_enter_ok : chkFunc Go.Proofs.Tryz.prog [0] Go.Proofs.Tryz.f214 kern_Kernel_enter = true := by kernel_rfl
def calls_table : RFunc := RFunc.mk 67 [.tmp 0] (
  RC.seq (RC.region 1 [
  ⟨some 0,.move (.c (.s (.slice none 0 0 1))),none,0,[]⟩]) (RC.seq (RC.region 67 [
  ⟨some 1,.build [.str ⟨#[]⟩,.int .i64 0,.int .i64 0] [],none,0,[]⟩,
  ⟨some 2,.build [.str ⟨#[]⟩,.int .i64 0,.int .i64 0] [(0,1,(.c (.s (.str ⟨#[97,99,116,95,116,115,107]⟩)))),(1,1,(.c (.s (.int .i64 1)))),(2,1,(.c (.s (.int .i64 1))))],none,1,[]⟩,
  ⟨some 3,.build [.str ⟨#[]⟩,.int .i64 0,.int .i64 0] [(0,1,(.c (.s (.str ⟨#[105,97,99,116,95,116,115,107]⟩)))),(1,1,(.c (.s (.int .i64 1)))),(2,1,(.c (.s (.int .i64 3))))],none,2,[]⟩,
  ⟨some 4,.build [.str ⟨#[]⟩,.int .i64 0,.int .i64 0] [(0,1,(.c (.s (.str ⟨#[99,97,110,95,97,99,116]⟩)))),(1,1,(.c (.s (.int .i64 1)))),(2,1,(.c (.s (.int .i64 1))))],none,3,[]⟩,
  ⟨some 5,.build [.str ⟨#[]⟩,.int .i64 0,.int .i64 0] [(0,1,(.c (.s (.str ⟨#[101,120,116,95,116,115,107]⟩)))),(1,1,(.c (.s (.int .i64 0)))),(2,1,(.c (.s (.int .i64 4))))],none,4,[]⟩,
  ⟨some 6,.build [.str ⟨#[]⟩,.int .i64 0,.int .i64 0] [(0,1,(.c (.s (.str ⟨#[116,101,114,95,116,115,107]⟩)))),(1,1,(.c (.s (.int .i64 1)))),(2,1,(.c (.s (.int .i64 1))))],none,5,[]⟩,
  ⟨some 7,.build [.str ⟨#[]⟩,.int .i64 0,.int .i64 0] [(0,1,(.c (.s (.str ⟨#[99,104,103,95,112,114,105]⟩)))),(1,1,(.c (.s (.int .i64 2)))),(2,1,(.c (.s (.int .i64 1))))],none,6,[]⟩,
  ⟨some 8,.build [.str ⟨#[]⟩,.int .i64 0,.int .i64 0] [(0,1,(.c (.s (.str ⟨#[103,101,116,95,112,114,105]⟩)))),(1,1,(.c (.s (.int .i64 1)))),(2,1,(.c (.s (.int .i64 1))))],none,7,[]⟩,
  ⟨some 9,.build [.str ⟨#[]⟩,.int .i64 0,.int .i64 0] [(0,1,(.c (.s (.str ⟨#[114,111,116,95,114,100,113]⟩)))),(1,1,(.c (.s (.int .i64 1)))),(2,1,(.c (.s (.int .i64 1))))],none,8,[]⟩,
  ⟨some 10,.build [.str ⟨#[]⟩,.int .i64 0,.int .i64 0] [(0,1,(.c (.s (.str ⟨#[105,114,111,116,95,114,100,113]⟩)))),(1,1,(.c (.s (.int .i64 1)))),(2,1,(.c (.s (.int .i64 3))))],none,9,[]⟩,
  ⟨some 11,.build [.str ⟨#[]⟩,.int .i64 0,.int .i64 0] [(0,1,(.c (.s (.str ⟨#[103,101,116,95,116,105,100]⟩)))),(1,1,(.c (.s (.int .i64 0)))),(2,1,(.c (.s (.int .i64 1))))],none,10,[]⟩,
  ⟨some 12,.build [.str ⟨#[]⟩,.int .i64 0,.int .i64 0] [(0,1,(.c (.s (.str ⟨#[105,103,101,116,95,116,105,100]⟩)))),(1,1,(.c (.s (.int .i64 0)))),(2,1,(.c (.s (.int .i64 3))))],none,11,[]⟩,
  ⟨some 13,.build [.str ⟨#[]⟩,.int .i64 0,.int .i64 0] [(0,1,(.c (.s (.str ⟨#[115,108,112,95,116,115,107]⟩)))),(1,1,(.c (.s (.int .i64 0)))),(2,1,(.c (.s (.int .i64 2))))],none,12,[]⟩,
  ⟨some 14,.build [.str ⟨#[]⟩,.int .i64 0,.int .i64 0] [(0,1,(.c (.s (.str ⟨#[116,115,108,112,95,116,115,107]⟩)))),(1,1,(.c (.s (.int .i64 1)))),(2,1,(.c (.s (.int .i64 2))))],none,13,[]⟩,
  ⟨some 15,.build [.str ⟨#[]⟩,.int .i64 0,.int .i64 0] [(0,1,(.c (.s (.str ⟨#[119,117,112,95,116,115,107]⟩)))),(1,1,(.c (.s (.int .i64 1)))),(2,1,(.c (.s (.int .i64 1))))],none,14,[]⟩,
  ⟨some 16,.build [.str ⟨#[]⟩,.int .i64 0,.int .i64 0] [(0,1,(.c (.s (.str ⟨#[105,119,117,112,95,116,115,107]⟩)))),(1,1,(.c (.s (.int .i64 1)))),(2,1,(.c (.s (.int .i64 3))))],none,15,[]⟩,
  ⟨some 17,.build [.str ⟨#[]⟩,.int .i64 0,.int .i64 0] [(0,1,(.c (.s (.str ⟨#[99,97,110,95,119,117,112]⟩)))),(1,1,(.c (.s (.int .i64 1)))),(2,1,(.c (.s (.int .i64 1))))],none,16,[]⟩,
  ⟨some 18,.build [.str ⟨#[]⟩,.int .i64 0,.int .i64 0] [(0,1,(.c (.s (.str ⟨#[114,101,108,95,119,97,105]⟩)))),(1,1,(.c (.s (.int .i64 1)))),(2,1,(.c (.s (.int .i64 1))))],none,17,[]⟩,
  ⟨some 19,.build [.str ⟨#[]⟩,.int .i64 0,.int .i64 0] [(0,1,(.c (.s (.str ⟨#[105,114,101,108,95,119,97,105]⟩)))),(1,1,(.c (.s (.int .i64 1)))),(2,1,(.c (.s (.int .i64 3))))],none,18,[]⟩,
  ⟨some 20,.build [.str ⟨#[]⟩,.int .i64 0,.int .i64 0] [(0,1,(.c (.s (.str ⟨#[115,117,115,95,116,115,107]⟩)))),(1,1,(.c (.s (.int .i64 1)))),(2,1,(.c (.s (.int .i64 1))))],none,19,[]⟩,
  ⟨some 21,.build [.str ⟨#[]⟩,.int .i64 0,.int .i64 0] [(0,1,(.c (.s (.str ⟨#[114,115,109,95,116,115,107]⟩)))),(1,1,(.c (.s (.int .i64 1)))),(2,1,(.c (.s (.int .i64 1))))],none,20,[]⟩,
  ⟨some 22,.build [.str ⟨#[]⟩,.int .i64 0,.int .i64 0] [(0,1,(.c (.s (.str ⟨#[102,114,115,109,95,116,115,107]⟩)))),(1,1,(.c (.s (.int .i64 1)))),(2,1,(.c (.s (.int .i64 1))))],none,21,[]⟩,
  ⟨some 23,.build [.str ⟨#[]⟩,.int .i64 0,.int .i64 0] [(0,1,(.c (.s (.str ⟨#[100,108,121,95,116,115,107]⟩)))),(1,1,(.c (.s (.int .i64 1)))),(2,1,(.c (.s (.int .i64 2))))],none,22,[]⟩,
  ⟨some 24,.build [.str ⟨#[]⟩,.int .i64 0,.int .i64 0] [(0,1,(.c (.s (.str ⟨#[115,105,103,95,115,101,109]⟩)))),(1,1,(.c (.s (.int .i64 1)))),(2,1,(.c (.s (.int .i64 1))))],none,23,[]⟩,
  ⟨some 25,.build [.str ⟨#[]⟩,.int .i64 0,.int .i64 0] [(0,1,(.c (.s (.str ⟨#[105,115,105,103,95,115,101,109]⟩)))),(1,1,(.c (.s (.int .i64 1)))),(2,1,(.c (.s (.int .i64 3))))],none,24,[]⟩,
  ⟨some 26,.build [.str ⟨#[]⟩,.int .i64 0,.int .i64 0] [(0,1,(.c (.s (.str ⟨#[119,97,105,95,115,101,109]⟩)))),(1,1,(.c (.s (.int .i64 1)))),(2,1,(.c (.s (.int .i64 2))))],none,25,[]⟩,
  ⟨some 27,.build [.str ⟨#[]⟩,.int .i64 0,.int .i64 0] [(0,1,(.c (.s (.str ⟨#[112,111,108,95,115,101,109]⟩)))),(1,1,(.c (.s (.int .i64 1)))),(2,1,(.c (.s (.int .i64 1))))],none,26,[]⟩,
  ⟨some 28,.build [.str ⟨#[]⟩,.int .i64 0,.int .i64 0] [(0,1,(.c (.s (.str ⟨#[116,119,97,105,95,115,101,109]⟩)))),(1,1,(.c (.s (.int .i64 2)))),(2,1,(.c (.s (.int .i64 2))))],none,27,[]⟩,
  ⟨some 29,.build [.str ⟨#[]⟩,.int .i64 0,.int .i64 0] [(0,1,(.c (.s (.str ⟨#[115,101,116,95,102,108,103]⟩)))),(1,1,(.c (.s (.int .i64 2)))),(2,1,(.c (.s (.int .i64 1))))],none,28,[]⟩,
  ⟨some 30,.build [.str ⟨#[]⟩,.int .i64 0,.int .i64 0] [(0,1,(.c (.s (.str ⟨#[105,115,101,116,95,102,108,103]⟩)))),(1,1,(.c (.s (.int .i64 2)))),(2,1,(.c (.s (.int .i64 3))))],none,29,[]⟩,
  ⟨some 31,.build [.str ⟨#[]⟩,.int .i64 0,.int .i64 0] [(0,1,(.c (.s (.str ⟨#[99,108,114,95,102,108,103]⟩)))),(1,1,(.c (.s (.int .i64 2)))),(2,1,(.c (.s (.int .i64 1))))],none,30,[]⟩,
  ⟨some 32,.build [.str ⟨#[]⟩,.int .i64 0,.int .i64 0] [(0,1,(.c (.s (.str ⟨#[119,97,105,95,102,108,103]⟩)))),(1,1,(.c (.s (.int .i64 3)))),(2,1,(.c (.s (.int .i64 2))))],none,31,[]⟩,
  ⟨some 33,.build [.str ⟨#[]⟩,.int .i64 0,.int .i64 0] [(0,1,(.c (.s (.str ⟨#[112,111,108,95,102,108,103]⟩)))),(1,1,(.c (.s (.int .i64 3)))),(2,1,(.c (.s (.int .i64 1))))],none,32,[]⟩,
  ⟨some 34,.build [.str ⟨#[]⟩,.int .i64 0,.int .i64 0] [(0,1,(.c (.s (.str ⟨#[116,119,97,105,95,102,108,103]⟩)))),(1,1,(.c (.s (.int .i64 4)))),(2,1,(.c (.s (.int .i64 2))))],none,33,[]⟩,
  ⟨some 35,.build [.str ⟨#[]⟩,.int .i64 0,.int .i64 0] [(0,1,(.c (.s (.str ⟨#[115,110,100,95,100,116,113]⟩)))),(1,1,(.c (.s (.int .i64 2)))),(2,1,(.c (.s (.int .i64 2))))],none,34,[]⟩,
  ⟨some 36,.build [.str ⟨#[]⟩,.int .i64 0,.int .i64 0] [(0,1,(.c (.s (.str ⟨#[112,115,110,100,95,100,116,113]⟩)))),(1,1,(.c (.s (.int .i64 2)))),(2,1,(.c (.s (.int .i64 1))))],none,35,[]⟩,
  ⟨some 37,.build [.str ⟨#[]⟩,.int .i64 0,.int .i64 0] [(0,1,(.c (.s (.str ⟨#[105,112,115,110,100,95,100,116,113]⟩)))),(1,1,(.c (.s (.int .i64 2)))),(2,1,(.c (.s (.int .i64 3))))],none,36,[]⟩,
  ⟨some 38,.build [.str ⟨#[]⟩,.int .i64 0,.int .i64 0] [(0,1,(.c (.s (.str ⟨#[116,115,110,100,95,100,116,113]⟩)))),(1,1,(.c (.s (.int .i64 3)))),(2,1,(.c (.s (.int .i64 2))))],none,37,[]⟩,
  ⟨some 39,.build [.str ⟨#[]⟩,.int .i64 0,.int .i64 0] [(0,1,(.c (.s (.str ⟨#[102,115,110,100,95,100,116,113]⟩)))),(1,1,(.c (.s (.int .i64 2)))),(2,1,(.c (.s (.int .i64 1))))],none,38,[]⟩,
  ⟨some 40,.build [.str ⟨#[]⟩,.int .i64 0,.int .i64 0] [(0,1,(.c (.s (.str ⟨#[105,102,115,110,100,95,100,116,113]⟩)))),(1,1,(.c (.s (.int .i64 2)))),(2,1,(.c (.s (.int .i64 3))))],none,39,[]⟩,
  ⟨some 41,.build [.str ⟨#[]⟩,.int .i64 0,.int .i64 0] [(0,1,(.c (.s (.str ⟨#[114,99,118,95,100,116,113]⟩)))),(1,1,(.c (.s (.int .i64 1)))),(2,1,(.c (.s (.int .i64 2))))],none,40,[]⟩,
  ⟨some 42,.build [.str ⟨#[]⟩,.int .i64 0,.int .i64 0] [(0,1,(.c (.s (.str ⟨#[112,114,99,118,95,100,116,113]⟩)))),(1,1,(.c (.s (.int .i64 1)))),(2,1,(.c (.s (.int .i64 1))))],none,41,[]⟩,
  ⟨some 43,.build [.str ⟨#[]⟩,.int .i64 0,.int .i64 0] [(0,1,(.c (.s (.str ⟨#[116,114,99,118,95,100,116,113]⟩)))),(1,1,(.c (.s (.int .i64 2)))),(2,1,(.c (.s (.int .i64 2))))],none,42,[]⟩,
  ⟨some 44,.build [.str ⟨#[]⟩,.int .i64 0,.int .i64 0] [(0,1,(.c (.s (.str ⟨#[108,111,99,95,109,116,120]⟩)))),(1,1,(.c (.s (.int .i64 1)))),(2,1,(.c (.s (.int .i64 2))))],none,43,[]⟩,
  ⟨some 45,.build [.str ⟨#[]⟩,.int .i64 0,.int .i64 0] [(0,1,(.c (.s (.str ⟨#[112,108,111,99,95,109,116,120]⟩)))),(1,1,(.c (.s (.int .i64 1)))),(2,1,(.c (.s (.int .i64 1))))],none,44,[]⟩,
  ⟨some 46,.build [.str ⟨#[]⟩,.int .i64 0,.int .i64 0] [(0,1,(.c (.s (.str ⟨#[116,108,111,99,95,109,116,120]⟩)))),(1,1,(.c (.s (.int .i64 2)))),(2,1,(.c (.s (.int .i64 2))))],none,45,[]⟩,
  ⟨some 47,.build [.str ⟨#[]⟩,.int .i64 0,.int .i64 0] [(0,1,(.c (.s (.str ⟨#[117,110,108,95,109,116,120]⟩)))),(1,1,(.c (.s (.int .i64 1)))),(2,1,(.c (.s (.int .i64 1))))],none,46,[]⟩,
  ⟨some 48,.build [.str ⟨#[]⟩,.int .i64 0,.int .i64 0] [(0,1,(.c (.s (.str ⟨#[103,101,116,95,109,112,102]⟩)))),(1,1,(.c (.s (.int .i64 1)))),(2,1,(.c (.s (.int .i64 2))))],none,47,[]⟩,
  ⟨some 49,.build [.str ⟨#[]⟩,.int .i64 0,.int .i64 0] [(0,1,(.c (.s (.str ⟨#[112,103,101,116,95,109,112,102]⟩)))),(1,1,(.c (.s (.int .i64 1)))),(2,1,(.c (.s (.int .i64 1))))],none,48,[]⟩,
  ⟨some 50,.build [.str ⟨#[]⟩,.int .i64 0,.int .i64 0] [(0,1,(.c (.s (.str ⟨#[116,103,101,116,95,109,112,102]⟩)))),(1,1,(.c (.s (.int .i64 2)))),(2,1,(.c (.s (.int .i64 2))))],none,49,[]⟩,
  ⟨some 51,.build [.str ⟨#[]⟩,.int .i64 0,.int .i64 0] [(0,1,(.c (.s (.str ⟨#[114,101,108,95,109,112,102]⟩)))),(1,1,(.c (.s (.int .i64 2)))),(2,1,(.c (.s (.int .i64 1))))],none,50,[]⟩,
  ⟨some 52,.build [.str ⟨#[]⟩,.int .i64 0,.int .i64 0] [(0,1,(.c (.s (.str ⟨#[115,101,116,95,116,105,109]⟩)))),(1,1,(.c (.s (.int .i64 1)))),(2,1,(.c (.s (.int .i64 1))))],none,51,[]⟩,
  ⟨some 53,.build [.str ⟨#[]⟩,.int .i64 0,.int .i64 0] [(0,1,(.c (.s (.str ⟨#[103,101,116,95,116,105,109]⟩)))),(1,1,(.c (.s (.int .i64 0)))),(2,1,(.c (.s (.int .i64 1))))],none,52,[]⟩,
  ⟨some 54,.build [.str ⟨#[]⟩,.int .i64 0,.int .i64 0] [(0,1,(.c (.s (.str ⟨#[115,116,97,95,99,121,99]⟩)))),(1,1,(.c (.s (.int .i64 1)))),(2,1,(.c (.s (.int .i64 1))))],none,53,[]⟩,
  ⟨some 55,.build [.str ⟨#[]⟩,.int .i64 0,.int .i64 0] [(0,1,(.c (.s (.str ⟨#[115,116,112,95,99,121,99]⟩)))),(1,1,(.c (.s (.int .i64 1)))),(2,1,(.c (.s (.int .i64 1))))],none,54,[]⟩,
  ⟨some 56,.build [.str ⟨#[]⟩,.int .i64 0,.int .i64 0] [(0,1,(.c (.s (.str ⟨#[115,116,97,95,97,108,109]⟩)))),(1,1,(.c (.s (.int .i64 2)))),(2,1,(.c (.s (.int .i64 1))))],none,55,[]⟩,
  ⟨some 57,.build [.str ⟨#[]⟩,.int .i64 0,.int .i64 0] [(0,1,(.c (.s (.str ⟨#[115,116,112,95,97,108,109]⟩)))),(1,1,(.c (.s (.int .i64 1)))),(2,1,(.c (.s (.int .i64 1))))],none,56,[]⟩,
  ⟨some 58,.build [.str ⟨#[]⟩,.int .i64 0,.int .i64 0] [(0,1,(.c (.s (.str ⟨#[108,111,99,95,99,112,117]⟩)))),(1,1,(.c (.s (.int .i64 0)))),(2,1,(.c (.s (.int .i64 4))))],none,57,[]⟩,
  ⟨some 59,.build [.str ⟨#[]⟩,.int .i64 0,.int .i64 0] [(0,1,(.c (.s (.str ⟨#[117,110,108,95,99,112,117]⟩)))),(1,1,(.c (.s (.int .i64 0)))),(2,1,(.c (.s (.int .i64 4))))],none,58,[]⟩,
  ⟨some 60,.build [.str ⟨#[]⟩,.int .i64 0,.int .i64 0] [(0,1,(.c (.s (.str ⟨#[100,105,115,95,100,115,112]⟩)))),(1,1,(.c (.s (.int .i64 0)))),(2,1,(.c (.s (.int .i64 1))))],none,59,[]⟩,
  ⟨some 61,.build [.str ⟨#[]⟩,.int .i64 0,.int .i64 0] [(0,1,(.c (.s (.str ⟨#[101,110,97,95,100,115,112]⟩)))),(1,1,(.c (.s (.int .i64 0)))),(2,1,(.c (.s (.int .i64 1))))],none,60,[]⟩,
  ⟨some 62,.build [.str ⟨#[]⟩,.int .i64 0,.int .i64 0] [(0,1,(.c (.s (.str ⟨#[115,110,115,95,99,116,120]⟩)))),(1,1,(.c (.s (.int .i64 0)))),(2,1,(.c (.s (.int .i64 0))))],none,61,[]⟩,
  ⟨some 63,.build [.str ⟨#[]⟩,.int .i64 0,.int .i64 0] [(0,1,(.c (.s (.str ⟨#[115,110,115,95,108,111,99]⟩)))),(1,1,(.c (.s (.int .i64 0)))),(2,1,(.c (.s (.int .i64 0))))],none,62,[]⟩,
  ⟨some 64,.build [.str ⟨#[]⟩,.int .i64 0,.int .i64 0] [(0,1,(.c (.s (.str ⟨#[115,110,115,95,100,115,112]⟩)))),(1,1,(.c (.s (.int .i64 0)))),(2,1,(.c (.s (.int .i64 0))))],none,63,[]⟩,
  ⟨some 65,.build [.str ⟨#[]⟩,.int .i64 0,.int .i64 0] [(0,1,(.c (.s (.str ⟨#[115,110,115,95,100,112,110]⟩)))),(1,1,(.c (.s (.int .i64 0)))),(2,1,(.c (.s (.int .i64 0))))],none,64,[]⟩,
  ⟨some 66,.buildSlice 3 65 [.str ⟨#[]⟩,.int .i64 0,.int .i64 0,.str ⟨#[]⟩,.int .i64 0,.int .i64 0,.str ⟨#[]⟩,.int .i64 0,.int .i64 0,.str ⟨#[]⟩,.int .i64 0,.int .i64 0,.str ⟨#[]⟩,.int .i64 0,.int .i64 0,.str ⟨#[]⟩,.int .i64 0,.int .i64 0,.str ⟨#[]⟩,.int .i64 0,.int .i64 0,.str ⟨#[]⟩,.int .i64 0,.int .i64 0,.str ⟨#[]⟩,.int .i64 0,.int .i64 0,.str ⟨#[]⟩,.int .i64 0,.int .i64 0,.str ⟨#[]⟩,.int .i64 0,.int .i64 0,.str ⟨#[]⟩,.int .i64 0,.int .i64 0,.str ⟨#[]⟩,.int .i64 0,.int .i64 0,.str ⟨#[]⟩,.int .i64 0,.int .i64 0,.str ⟨#[]⟩,.int .i64 0,.int .i64 0,.str ⟨#[]⟩,.int .i64 0,.int .i64 0,.str ⟨#[]⟩,.int .i64 0,.int .i64 0,.str ⟨#[]⟩,.int .i64 0,.int .i64 0,.str ⟨#[]⟩,.int .i64 0,.int .i64 0,.str ⟨#[]⟩,.int .i64 0,.int .i64 0,.str ⟨#[]⟩,.int .i64 0,.int .i64 0,.str ⟨#[]⟩,.int .i64 0,.int .i64 0,.str ⟨#[]⟩,.int .i64 0,.int .i64 0,.str ⟨#[]⟩,.int .i64 0,.int .i64 0,.str ⟨#[]⟩,.int .i64 0,.int .i64 0,.str ⟨#[]⟩,.int .i64 0,.int .i64 0,.str ⟨#[]⟩,.int .i64 0,.int .i64 0,.str ⟨#[]⟩,.int .i64 0,.int .i64 0,.str ⟨#[]⟩,.int .i64 0,.int .i64 0,.str ⟨#[]⟩,.int .i64 0,.int .i64 0,.str ⟨#[]⟩,.int .i64 0,.int .i64 0,.str ⟨#[]⟩,.int .i64 0,.int .i64 0,.str ⟨#[]⟩,.int .i64 0,.int .i64 0,.str ⟨#[]⟩,.int .i64 0,.int .i64 0,.str ⟨#[]⟩,.int .i64 0,.int .i64 0,.str ⟨#[]⟩,.int .i64 0,.int .i64 0,.str ⟨#[]⟩,.int .i64 0,.int .i64 0,.str ⟨#[]⟩,.int .i64 0,.int .i64 0,.str ⟨#[]⟩,.int .i64 0,.int .i64 0,.str ⟨#[]⟩,.int .i64 0,.int .i64 0,.str ⟨#[]⟩,.int .i64 0,.int .i64 0,.str ⟨#[]⟩,.int .i64 0,.int .i64 0,.str ⟨#[]⟩,.int .i64 0,.int .i64 0,.str ⟨#[]⟩,.int .i64 0,.int .i64 0,.str ⟨#[]⟩,.int .i64 0,.int .i64 0,.str ⟨#[]⟩,.int .i64 0,.int .i64 0,.str ⟨#[]⟩,.int .i64 0,.int .i64 0,.str ⟨#[]⟩,.int .i64 0,.int .i64 0,.str ⟨#[]⟩,.int .i64 0,.int .i64 0,.str ⟨#[]⟩,.int .i64 0,.int .i64 0,.str ⟨#[]⟩,.int .i64 0,.int .i64 0,.str ⟨#[]⟩,.int .i64 0,.int .i64 0,.str ⟨#[]⟩,.int .i64 0,.int .i64 0,.str ⟨#[]⟩,.int .i64 0,.int .i64 0,.str ⟨#[]⟩,.int .i64 0,.int .i64 0,.str ⟨#[]⟩,.int .i64 0,.int .i64 0,.str ⟨#[]⟩,.int .i64 0,.int .i64 0,.str ⟨#[]⟩,.int .i64 0,.int .i64 0,.str ⟨#[]⟩,.int .i64 0,.int .i64 0,.str ⟨#[]⟩,.int .i64 0,.int .i64 0,.str ⟨#[]⟩,.int .i64 0,.int .i64 0,.str ⟨#[]⟩,.int .i64 0,.int .i64 0,.str ⟨#[]⟩,.int .i64 0,.int .i64 0,.str ⟨#[]⟩,.int .i64 0,.int .i64 0,.str ⟨#[]⟩,.int .i64 0,.int .i64 0] [(0,3,(.t 1)),(3,3,(.t 2)),(6,3,(.t 3)),(9,3,(.t 4)),(12,3,(.t 5)),(15,3,(.t 6)),(18,3,(.t 7)),(21,3,(.t 8)),(24,3,(.t 9)),(27,3,(.t 10)),(30,3,(.t 11)),(33,3,(.t 12)),(36,3,(.t 13)),(39,3,(.t 14)),(42,3,(.t 15)),(45,3,(.t 16)),(48,3,(.t 17)),(51,3,(.t 18)),(54,3,(.t 19)),(57,3,(.t 20)),(60,3,(.t 21)),(63,3,(.t 22)),(66,3,(.t 23)),(69,3,(.t 24)),(72,3,(.t 25)),(75,3,(.t 26)),(78,3,(.t 27)),(81,3,(.t 28)),(84,3,(.t 29)),(87,3,(.t 30)),(90,3,(.t 31)),(93,3,(.t 32)),(96,3,(.t 33)),(99,3,(.t 34)),(102,3,(.t 35)),(105,3,(.t 36)),(108,3,(.t 37)),(111,3,(.t 38)),(114,3,(.t 39)),(117,3,(.t 40)),(120,3,(.t 41)),(123,3,(.t 42)),(126,3,(.t 43)),(129,3,(.t 44)),(132,3,(.t 45)),(135,3,(.t 46)),(138,3,(.t 47)),(141,3,(.t 48)),(144,3,(.t 49)),(147,3,(.t 50)),(150,3,(.t 51)),(153,3,(.t 52)),(156,3,(.t 53)),(159,3,(.t 54)),(162,3,(.t 55)),(165,3,(.t 56)),(168,3,(.t 57)),(171,3,(.t 58)),(174,3,(.t 59)),(177,3,(.t 60)),(180,3,(.t 61)),(183,3,(.t 62)),(186,3,(.t 63)),(189,3,(.t 64)),(192,3,(.t 65))],none,65,[]⟩,
  ⟨some 0,.move (.t 66),none,66,[]⟩]) (RC.ret)))
theorem calls_table_ok : chkFunc Go.Proofs.Tryz.prog [0] Go.Proofs.Tryz.f217 calls_table = true := by kernel_rfl
def kern_Kernel_forget : RFunc := RFunc.mk 36 [] (
  RC.seq (RC.region 8 [
  ⟨some 5,.move (.t 0),none,0,[]⟩,
  ⟨some 6,.nilCheck (.t 5),none,1,[]⟩,
  ⟨some 7,.fieldAddr 9 (.t 6),none,2,[]⟩,
  ⟨some 8,.load none (.t 7),none,3,[]⟩,
  ⟨some 9,.move (.t 1),none,4,[]⟩,
  ⟨some 10,.indexSl 1 (.t 8) (.t 9),none,5,[]⟩,
  ⟨some 11,.load none (.t 10),none,6,[]⟩,
  ⟨some 4,.move (.t 11),none,7,[]⟩]) (RC.seq (RC.region 15 [
  ⟨some 12,.move (.t 0),none,0,[]⟩,
  ⟨some 13,.nilCheck (.t 12),none,1,[]⟩,
  ⟨some 14,.fieldAddr 7 (.t 13),none,2,[]⟩,
  ⟨some 15,.load none (.t 14),none,3,[]⟩,
  ⟨some 16,.nilCheck (.t 15),none,4,[]⟩,
  ⟨some 17,.fieldAddr 0 (.t 16),none,5,[]⟩,
  ⟨some 18,.load none (.t 17),none,6,[]⟩,
  ⟨some 19,.nilCheck (.t 18),none,7,[]⟩,
  ⟨some 20,.fieldAddr 0 (.t 19),none,8,[]⟩,
  ⟨some 21,.load none (.t 20),none,9,[]⟩,
  ⟨some 22,.move (.t 4),none,10,[]⟩,
  ⟨some 23,.nilCheck (.t 22),none,11,[]⟩,
  ⟨some 24,.fieldAddr 5 (.t 23),none,12,[]⟩,
  ⟨some 25,.load none (.t 24),none,13,[]⟩,
  ⟨some 26,.call F.heap_Timers_Cancel [(.t 21),(.t 25)],none,14,[]⟩]) (RC.region 12 [
  ⟨some 27,.move (.t 4),none,0,[]⟩,
  ⟨some 28,.move (.t 4),none,1,[]⟩,
  ⟨some 29,.move (.t 4),none,2,[]⟩,
  ⟨some 30,.nilCheck (.t 27),none,3,[]⟩,
  ⟨some 31,.fieldAddr 3 (.t 30),none,4,[]⟩,
  ⟨none,.store 1 (.t 31) (.c (.s (.int .i64 0))),none,5,[]⟩,
  ⟨some 32,.nilCheck (.t 28),none,6,[]⟩,
  ⟨some 33,.fieldAddr 4 (.t 32),none,7,[]⟩,
  ⟨none,.store 1 (.t 33) (.c (.s (.int .i64 0))),none,8,[]⟩,
  ⟨some 34,.nilCheck (.t 29),none,9,[]⟩,
  ⟨some 35,.fieldAddr 5 (.t 34),none,10,[]⟩,
  ⟨none,.store 1 (.t 35) (.c (.s (.int .i64 0))),none,11,[]⟩])))
theorem kern_Kernel_forget_ok : chkFunc Go.Proofs.Tryz.prog [0] Go.Proofs.Tryz.f218 kern_Kernel_forget = true := by kernel_rfl
def ready_Queue_Remove : RFunc := RFunc.mk 67 [.tmp 4] (
  RC.seq (RC.region 1 [
  ⟨some 4,.move (.c (.s (.bool false))),none,0,[]⟩]) (RC.seq (RC.seq (RC.region 12 [
  ⟨some 7,.move (.t 1),none,0,[]⟩,
  ⟨some 8,.call F.ready_task [(.t 7)],none,1,[]⟩,
  ⟨some 9,.un .not (.t 8),none,2,[]⟩,
  ⟨some 10,.move (.t 9),none,3,[]⟩,
  ⟨some 11,.move (.t 0),(some (10,false)),4,[]⟩,
  ⟨some 12,.move (.t 1),(some (10,false)),5,[]⟩,
  ⟨some 13,.nilCheck (.t 11),(some (10,false)),6,[]⟩,
  ⟨some 14,.fieldAddr 21 (.t 13),(some (10,false)),7,[]⟩,
  ⟨some 15,.indexArr 17 1 (.t 14) (.t 12),(some (10,false)),8,[]⟩,
  ⟨some 16,.load none (.t 15),(some (10,false)),9,[]⟩,
  ⟨some 17,.bin .eql (.t 16) (.c (.s (.int .i64 0))),(some (10,false)),10,[]⟩,
  ⟨some 18,.pick (.t 10) (.c (.s (.bool true))) (.t 17),none,11,[]⟩]) (RC.cond (.t 18) (RC.seq (RC.region 1 [
  ⟨some 4,.move (.c (.s (.bool false))),none,0,[]⟩]) (RC.ret)) (RC.skip))) (RC.seq (RC.region 7 [
  ⟨some 19,.move (.t 0),none,0,[]⟩,
  ⟨some 20,.move (.t 1),none,1,[]⟩,
  ⟨some 21,.nilCheck (.t 19),none,2,[]⟩,
  ⟨some 22,.fieldAddr 21 (.t 21),none,3,[]⟩,
  ⟨some 23,.indexArr 17 1 (.t 22) (.t 20),none,4,[]⟩,
  ⟨some 24,.load none (.t 23),none,5,[]⟩,
  ⟨some 5,.move (.t 24),none,6,[]⟩]) (RC.seq (RC.region 9 [
  ⟨some 25,.move (.t 0),none,0,[]⟩,
  ⟨some 26,.move (.t 5),none,1,[]⟩,
  ⟨some 27,.nilCheck (.t 25),none,2,[]⟩,
  ⟨some 28,.fieldAddr 4 (.t 27),none,3,[]⟩,
  ⟨some 29,.indexArr 17 1 (.t 28) (.t 26),none,4,[]⟩,
  ⟨some 30,.load none (.t 29),none,5,[]⟩,
  ⟨some 31,.move (.t 1),none,6,[]⟩,
  ⟨some 32,.call F.slices_Index__int_int [(.t 30),(.t 31)],none,7,[]⟩,
  ⟨some 6,.move (.t 32),none,8,[]⟩]) (RC.seq (RC.region 16 [
  ⟨some 33,.move (.t 0),none,0,[]⟩,
  ⟨some 34,.move (.t 5),none,1,[]⟩,
  ⟨some 35,.move (.t 0),none,2,[]⟩,
  ⟨some 36,.move (.t 5),none,3,[]⟩,
  ⟨some 37,.nilCheck (.t 35),none,4,[]⟩,
  ⟨some 38,.fieldAddr 4 (.t 37),none,5,[]⟩,
  ⟨some 39,.indexArr 17 1 (.t 38) (.t 36),none,6,[]⟩,
  ⟨some 40,.load none (.t 39),none,7,[]⟩,
  ⟨some 41,.move (.t 6),none,8,[]⟩,
  ⟨some 42,.move (.t 6),none,9,[]⟩,
  ⟨some 43,.bin .add (.t 42) (.c (.s (.int .i64 1))),none,10,[]⟩,
  ⟨some 45,.nilCheck (.t 33),none,12,[]⟩,
  ⟨some 46,.fieldAddr 4 (.t 45),none,13,[]⟩,
  ⟨some 44,.call F.slices_Delete__int_int [(.t 40),(.t 41),(.t 43)],none,11,[]⟩,
  ⟨some 47,.indexArr 17 1 (.t 46) (.t 34),none,14,[]⟩,
  ⟨none,.store 1 (.t 47) (.t 44),none,15,[]⟩]) (RC.seq (RC.region 6 [
  ⟨some 48,.move (.t 0),none,0,[]⟩,
  ⟨some 49,.move (.t 1),none,1,[]⟩,
  ⟨some 50,.nilCheck (.t 48),none,2,[]⟩,
  ⟨some 51,.fieldAddr 21 (.t 50),none,3,[]⟩,
  ⟨some 52,.indexArr 17 1 (.t 51) (.t 49),none,4,[]⟩,
  ⟨none,.store 1 (.t 52) (.c (.s (.int .i64 0))),none,5,[]⟩]) (RC.seq (RC.seq (RC.region 8 [
  ⟨some 53,.move (.t 0),none,0,[]⟩,
  ⟨some 54,.move (.t 5),none,1,[]⟩,
  ⟨some 55,.nilCheck (.t 53),none,2,[]⟩,
  ⟨some 56,.fieldAddr 4 (.t 55),none,3,[]⟩,
  ⟨some 57,.indexArr 17 1 (.t 56) (.t 54),none,4,[]⟩,
  ⟨some 58,.load none (.t 57),none,5,[]⟩,
  ⟨some 59,.len (.t 58),none,6,[]⟩,
  ⟨some 60,.bin .eql (.t 59) (.c (.s (.int .i64 0))),none,7,[]⟩]) (RC.cond (.t 60) (RC.region 6 [
  ⟨some 61,.move (.t 0),none,0,[]⟩,
  ⟨some 62,.nilCheck (.t 61),none,1,[]⟩,
  ⟨some 63,.fieldAddr 0 (.t 62),none,2,[]⟩,
  ⟨some 64,.move (.t 5),none,3,[]⟩,
  ⟨some 65,.buildSlice 1 1 [.int .i64 0] [(0,1,(.t 64))],none,4,[]⟩,
  ⟨some 66,.call F.bits_Map_Clear [(.t 63),(.t 65)],none,5,[]⟩]) (RC.skip))) (RC.seq (RC.region 1 [
  ⟨some 4,.move (.c (.s (.bool true))),none,0,[]⟩]) (RC.ret)))))))))
theorem ready_Queue_Remove_ok : chkFunc Go.Proofs.Tryz.prog [0] Go.Proofs.Tryz.f219 ready_Queue_Remove = true := by kernel_rfl
def mtx_All_Free_l0 : RC :=
  RC.seq (RC.region 1 [
  ⟨some 15,.bin .lss (.t 14) (.t 13),none,0,[]⟩]) (RC.seq (RC.cond (.t 15) (RC.skip) (RC.exit 0)) (RC.seq (RC.block 1 (RC.seq (RC.region 3 [
  ⟨some 16,.indexSl 1 (.t 12) (.t 14),none,0,[]⟩,
  ⟨some 17,.load none (.t 16),none,1,[]⟩,
  ⟨some 7,.move (.t 17),none,2,[]⟩]) (RC.seq (RC.region 9 [
  ⟨some 19,.move (.t 0),none,0,[]⟩,
  ⟨some 20,.move (.t 7),none,1,[]⟩,
  ⟨some 21,.move (.t 1),none,2,[]⟩,
  ⟨some 22,.call F.mtx_All_Unlock [(.t 19),(.t 20),(.t 21)],none,3,[]⟩,
  ⟨some 18,.move (.t 22),none,4,[]⟩,
  ⟨some 23,.extract 0 (.t 18),none,5,[]⟩,
  ⟨some 24,.extract 1 (.t 18),none,6,[]⟩,
  ⟨some 8,.move (.t 23),none,7,[]⟩,
  ⟨some 9,.move (.t 24),none,8,[]⟩]) (RC.seq (RC.region 6 [
  ⟨some 25,.move (.t 9),none,0,[]⟩,
  ⟨some 26,.bin .eql (.t 25) (.c (.s (.int .i64 0))),none,1,[]⟩,
  ⟨some 27,.move (.t 26),none,2,[]⟩,
  ⟨some 28,.move (.t 8),(some (27,true)),3,[]⟩,
  ⟨some 29,.bin .gtr (.t 28) (.c (.s (.int .i64 0))),(some (27,true)),4,[]⟩,
  ⟨some 30,.pick (.t 27) (.t 29) (.c (.s (.bool false))),none,5,[]⟩]) (RC.cond (.t 30) (RC.region 5 [
  ⟨some 31,.move (.t 5),none,0,[]⟩,
  ⟨some 32,.move (.t 8),none,1,[]⟩,
  ⟨some 33,.buildSlice 1 1 [.int .i64 0] [(0,1,(.t 32))],none,2,[]⟩,
  ⟨some 34,.append 1 8 (.t 31) (.t 33),none,3,[]⟩,
  ⟨some 5,.move (.t 34),none,4,[]⟩]) (RC.skip)))))) (RC.region 2 [
  ⟨some 35,.bin .add (.t 14) (.c (.s (.int .i64 1))),none,0,[]⟩,
  ⟨some 14,.move (.t 35),none,1,[]⟩])))
def mtx_All_Free_s1 : RC :=
  RC.seq (RC.region 3 [
  ⟨some 36,.move (.t 5),none,0,[]⟩,
  ⟨some 37,.call F.slices_Clip__int_int [(.t 36)],none,1,[]⟩,
  ⟨some 4,.move (.t 37),none,2,[]⟩]) (RC.ret)
def mtx_All_Free : RFunc := RFunc.mk 38 [.tmp 4] (
  RC.seq (RC.region 1 [
  ⟨some 4,.move (.c (.s (.slice none 0 0 1))),none,0,[]⟩]) (RC.seq (RC.region 1 [
  ⟨some 5,.move (.c (.s (.slice none 0 0 1))),none,0,[]⟩]) (RC.seq (RC.seq (RC.region 5 [
  ⟨some 10,.move (.t 0),none,0,[]⟩,
  ⟨some 11,.move (.t 1),none,1,[]⟩,
  ⟨some 12,.call F.mtx_All_Held [(.t 10),(.t 11)],none,2,[]⟩,
  ⟨some 13,.len (.t 12),none,3,[]⟩,
  ⟨some 14,.move (.c (.s (.int .i64 0))),none,4,[]⟩]) (RC.block 0 (RC.loop R.mtx_All_Free_l0))) R.mtx_All_Free_s1)))
theorem mtx_All_Free_ok : chkFunc Go.Proofs.Tryz.prog [0] Go.Proofs.Tryz.f220 mtx_All_Free = true := by kernel_rfl
def tcb_Task_Kill : RFunc := RFunc.mk 9 [.tmp 2,.tmp 3] (
  RC.seq (RC.region 2 [
  ⟨some 2,.move (.c (.s (.bool false))),none,0,[]⟩,
  ⟨some 3,.move (.c (.s (.int .i64 0))),none,1,[]⟩]) (RC.seq (RC.seq (RC.region 3 [
  ⟨some 4,.move (.t 0),none,0,[]⟩,
  ⟨some 5,.buildSlice 1 1 [.int .i64 0] [(0,1,(.c (.s (.int .i64 16))))],none,1,[]⟩,
  ⟨some 6,.call F.tcb_Task_Is [(.t 4),(.t 5)],none,2,[]⟩]) (RC.cond (.t 6) (RC.seq (RC.region 2 [
  ⟨some 2,.move (.c (.s (.bool false))),none,0,[]⟩,
  ⟨some 3,.move (.c (.s (.int .i64 (-41)))),none,1,[]⟩]) (RC.ret)) (RC.skip))) (RC.seq (RC.region 4 [
  ⟨some 7,.move (.t 0),none,0,[]⟩,
  ⟨some 8,.call F.tcb_Task_end [(.t 7)],none,1,[]⟩,
  ⟨some 2,.move (.t 8),none,2,[]⟩,
  ⟨some 3,.move (.c (.s (.int .i64 0))),none,3,[]⟩]) (RC.ret))))
theorem tcb_Task_Kill_ok : chkFunc Go.Proofs.Tryz.prog [0] Go.Proofs.Tryz.f221 tcb_Task_Kill = true := by kernel_rfl
def ready_Queue_Rotate : RFunc := RFunc.mk 31 [.tmp 4] (
  RC.seq (RC.region 1 [
  ⟨some 4,.move (.c (.s (.int .i64 0))),none,0,[]⟩]) (RC.seq (RC.seq (RC.region 3 [
  ⟨some 6,.move (.t 1),none,0,[]⟩,
  ⟨some 7,.call F.ready_may [(.t 6)],none,1,[]⟩,
  ⟨some 8,.un .not (.t 7),none,2,[]⟩]) (RC.cond (.t 8) (RC.seq (RC.region 1 [
  ⟨some 4,.move (.c (.s (.int .i64 (-17)))),none,0,[]⟩]) (RC.ret)) (RC.skip))) (RC.seq (RC.seq (RC.region 7 [
  ⟨some 9,.move (.t 0),none,0,[]⟩,
  ⟨some 10,.move (.t 1),none,1,[]⟩,
  ⟨some 11,.nilCheck (.t 9),none,2,[]⟩,
  ⟨some 12,.fieldAddr 4 (.t 11),none,3,[]⟩,
  ⟨some 13,.indexArr 17 1 (.t 12) (.t 10),none,4,[]⟩,
  ⟨some 14,.load none (.t 13),none,5,[]⟩,
  ⟨some 5,.move (.t 14),none,6,[]⟩]) (RC.seq (RC.region 3 [
  ⟨some 15,.move (.t 5),none,0,[]⟩,
  ⟨some 16,.len (.t 15),none,1,[]⟩,
  ⟨some 17,.bin .gtr (.t 16) (.c (.s (.int .i64 1))),none,2,[]⟩]) (RC.cond (.t 17) (RC.region 14 [
  ⟨some 18,.move (.t 0),none,0,[]⟩,
  ⟨some 19,.move (.t 1),none,1,[]⟩,
  ⟨some 20,.move (.t 5),none,2,[]⟩,
  ⟨some 21,.slSl 1 (.t 20) (some (.c (.s (.int .i64 1)))) none none,none,3,[]⟩,
  ⟨some 23,.move (.t 5),none,5,[]⟩,
  ⟨some 24,.indexSl 1 (.t 23) (.c (.s (.int .i64 0))),none,6,[]⟩,
  ⟨some 25,.load none (.t 24),none,7,[]⟩,
  ⟨some 28,.nilCheck (.t 18),none,10,[]⟩,
  ⟨some 29,.fieldAddr 4 (.t 28),none,11,[]⟩,
  ⟨some 22,.call F.slices_Clone__int_int [(.t 21)],none,4,[⟨25,none,(.t 24),none⟩]⟩,
  ⟨some 26,.buildSlice 1 1 [.int .i64 0] [(0,1,(.t 25))],none,8,[]⟩,
  ⟨some 27,.append 1 8 (.t 22) (.t 26),none,9,[]⟩,
  ⟨some 30,.indexArr 17 1 (.t 29) (.t 19),none,12,[]⟩,
  ⟨none,.store 1 (.t 30) (.t 27),none,13,[]⟩]) (RC.skip)))) (RC.seq (RC.region 1 [
  ⟨some 4,.move (.c (.s (.int .i64 0))),none,0,[]⟩]) (RC.ret)))))
theorem ready_Queue_Rotate_ok : chkFunc Go.Proofs.Tryz.prog [0] Go.Proofs.Tryz.f222 ready_Queue_Rotate = true := by kernel_rfl
def tcb_Task_Sleep : RFunc := RFunc.mk 31 [.tmp 2,.tmp 3] (
  RC.seq (RC.region 2 [
  ⟨some 2,.move (.c (.s (.bool false))),none,0,[]⟩,
  ⟨some 3,.move (.c (.s (.int .i64 0))),none,1,[]⟩]) (RC.seq (RC.block 0 (RC.seq (RC.region 5 [
  ⟨some 5,.move (.t 0),none,0,[]⟩,
  ⟨some 6,.buildSlice 1 1 [.int .i64 0] [(0,1,(.c (.s (.int .i64 2))))],none,1,[]⟩,
  ⟨some 7,.call F.tcb_Task_Is [(.t 5),(.t 6)],none,2,[]⟩,
  ⟨some 8,.un .not (.t 7),none,3,[]⟩,
  ⟨some 4,.move (.t 8),none,4,[]⟩]) (RC.cond (.t 4) (RC.seq (RC.region 2 [
  ⟨some 2,.move (.c (.s (.bool false))),none,0,[]⟩,
  ⟨some 3,.move (.c (.s (.int .i64 (-41)))),none,1,[]⟩]) (RC.ret)) (RC.seq (RC.region 7 [
  ⟨some 10,.move (.t 0),none,0,[]⟩,
  ⟨some 11,.nilCheck (.t 10),none,1,[]⟩,
  ⟨some 12,.fieldAddr 0 (.t 11),none,2,[]⟩,
  ⟨some 13,.fieldAddr 1 (.t 12),none,3,[]⟩,
  ⟨some 14,.load none (.t 13),none,4,[]⟩,
  ⟨some 15,.bin .gtr (.t 14) (.c (.s (.int .i64 0))),none,5,[]⟩,
  ⟨some 9,.move (.t 15),none,6,[]⟩]) (RC.cond (.t 9) (RC.seq (RC.region 10 [
  ⟨some 16,.move (.t 0),none,0,[]⟩,
  ⟨some 17,.nilCheck (.t 16),none,1,[]⟩,
  ⟨some 18,.fieldAddr 0 (.t 17),none,2,[]⟩,
  ⟨some 19,.fieldAddr 1 (.t 18),none,3,[]⟩,
  ⟨some 20,.load none (.t 19),none,4,[]⟩,
  ⟨some 21,.bin .sub (.t 20) (.c (.s (.int .i64 1))),none,5,[]⟩,
  ⟨some 22,.nilCheck (.t 16),none,6,[]⟩,
  ⟨some 23,.fieldAddr 0 (.t 22),none,7,[]⟩,
  ⟨some 24,.fieldAddr 1 (.t 23),none,8,[]⟩,
  ⟨none,.store 1 (.t 24) (.t 21),none,9,[]⟩]) (RC.seq (RC.region 2 [
  ⟨some 2,.move (.c (.s (.bool false))),none,0,[]⟩,
  ⟨some 3,.move (.c (.s (.int .i64 0))),none,1,[]⟩]) (RC.ret))) (RC.skip)))))) (RC.seq (RC.region 8 [
  ⟨some 25,.move (.t 0),none,0,[]⟩,
  ⟨some 26,.move (.t 0),none,1,[]⟩,
  ⟨some 27,.nilCheck (.t 25),none,2,[]⟩,
  ⟨some 28,.fieldAddr 3 (.t 27),none,3,[]⟩,
  ⟨none,.store 1 (.t 28) (.c (.s (.int .i64 4))),none,4,[]⟩,
  ⟨some 29,.nilCheck (.t 26),none,5,[]⟩,
  ⟨some 30,.fieldAddr 4 (.t 29),none,6,[]⟩,
  ⟨none,.store 1 (.t 30) (.c (.s (.bool true))),none,7,[]⟩]) (RC.seq (RC.region 2 [
  ⟨some 2,.move (.c (.s (.bool true))),none,0,[]⟩,
  ⟨some 3,.move (.c (.s (.int .i64 0))),none,1,[]⟩]) (RC.ret)))))
theorem tcb_Task_Sleep_ok : chkFunc Go.Proofs.Tryz.prog [0] Go.Proofs.Tryz.f223 tcb_Task_Sleep = true := by kernel_rfl
def tcb_Task_Stay : RFunc := RFunc.mk 13 [.tmp 2] (
  RC.seq (RC.region 1 [
  ⟨some 2,.move (.c (.s (.int .i64 0))),none,0,[]⟩]) (RC.seq (RC.seq (RC.region 4 [
  ⟨some 3,.move (.t 0),none,0,[]⟩,
  ⟨some 4,.buildSlice 1 1 [.int .i64 0] [(0,1,(.c (.s (.int .i64 2))))],none,1,[]⟩,
  ⟨some 5,.call F.tcb_Task_Is [(.t 3),(.t 4)],none,2,[]⟩,
  ⟨some 6,.un .not (.t 5),none,3,[]⟩]) (RC.cond (.t 6) (RC.seq (RC.region 1 [
  ⟨some 2,.move (.c (.s (.int .i64 (-41)))),none,0,[]⟩]) (RC.ret)) (RC.skip))) (RC.seq (RC.region 8 [
  ⟨some 7,.move (.t 0),none,0,[]⟩,
  ⟨some 8,.move (.t 0),none,1,[]⟩,
  ⟨some 9,.nilCheck (.t 7),none,2,[]⟩,
  ⟨some 10,.fieldAddr 3 (.t 9),none,3,[]⟩,
  ⟨none,.store 1 (.t 10) (.c (.s (.int .i64 4))),none,4,[]⟩,
  ⟨some 11,.nilCheck (.t 8),none,5,[]⟩,
  ⟨some 12,.fieldAddr 4 (.t 11),none,6,[]⟩,
  ⟨none,.store 1 (.t 12) (.c (.s (.bool false))),none,7,[]⟩]) (RC.seq (RC.region 1 [
  ⟨some 2,.move (.c (.s (.int .i64 0))),none,0,[]⟩]) (RC.ret)))))
theorem tcb_Task_Stay_ok : chkFunc Go.Proofs.Tryz.prog [0] Go.Proofs.Tryz.f224 tcb_Task_Stay = true := by kernel_rfl
def cyc_Hands_Wait : RFunc := RFunc.mk 23 [.tmp 6,.tmp 7] (
  RC.seq (RC.region 2 [
  ⟨some 6,.move (.c (.s (.int .i64 0))),none,0,[]⟩,
  ⟨some 7,.move (.c (.s (.int .i64 0))),none,1,[]⟩]) (RC.seq (RC.seq (RC.region 6 [
  ⟨some 8,.move (.t 2),none,0,[]⟩,
  ⟨some 9,.bin .lss (.t 8) (.c (.s (.int .i64 0))),none,1,[]⟩,
  ⟨some 10,.move (.t 9),none,2,[]⟩,
  ⟨some 11,.move (.t 2),(some (10,false)),3,[]⟩,
  ⟨some 12,.bin .gtr (.t 11) (.c (.s (.int .i64 1000))),(some (10,false)),4,[]⟩,
  ⟨some 13,.pick (.t 10) (.c (.s (.bool true))) (.t 12),none,5,[]⟩]) (RC.cond (.t 13) (RC.seq (RC.region 2 [
  ⟨some 6,.move (.c (.s (.int .i64 0))),none,0,[]⟩,
  ⟨some 7,.move (.c (.s (.int .i64 (-17)))),none,1,[]⟩]) (RC.ret)) (RC.skip))) (RC.seq (RC.region 11 [
  ⟨some 14,.move (.t 0),none,0,[]⟩,
  ⟨some 15,.nilCheck (.t 14),none,1,[]⟩,
  ⟨some 16,.fieldAddr 0 (.t 15),none,2,[]⟩,
  ⟨some 17,.load none (.t 16),none,3,[]⟩,
  ⟨some 18,.move (.t 1),none,4,[]⟩,
  ⟨some 19,.move (.t 2),none,5,[]⟩,
  ⟨some 20,.call F.clock_Clock_After [(.t 17),(.t 18),(.t 19)],none,6,[]⟩,
  ⟨some 21,.extract 0 (.t 20),none,7,[]⟩,
  ⟨some 22,.extract 1 (.t 20),none,8,[]⟩,
  ⟨some 6,.move (.t 21),none,9,[]⟩,
  ⟨some 7,.move (.t 22),none,10,[]⟩]) (RC.ret))))
theorem cyc_Hands_Wait_ok : chkFunc Go.Proofs.Tryz.prog [0] Go.Proofs.Tryz.f225 cyc_Hands_Wait = true := by kernel_rfl
def tcb_Task_Is : RFunc := RFunc.mk 11 [.tmp 4] (
  RC.seq (RC.region 1 [
  ⟨some 4,.move (.c (.s (.bool false))),none,0,[]⟩]) (RC.seq (RC.region 7 [
  ⟨some 5,.move (.t 1),none,0,[]⟩,
  ⟨some 6,.move (.t 0),none,1,[]⟩,
  ⟨some 7,.nilCheck (.t 6),none,2,[]⟩,
  ⟨some 8,.fieldAddr 3 (.t 7),none,3,[]⟩,
  ⟨some 9,.load none (.t 8),none,4,[]⟩,
  ⟨some 10,.call F.slices_Contains__int_int [(.t 5),(.t 9)],none,5,[]⟩,
  ⟨some 4,.move (.t 10),none,6,[]⟩]) (RC.ret)))
theorem tcb_Task_Is_ok : chkFunc Go.Proofs.Tryz.prog [0] Go.Proofs.Tryz.f226 tcb_Task_Is = true := by kernel_rfl
def tcb_Task_CanAct : RFunc := RFunc.mk 14 [.tmp 2] (
  RC.seq (RC.region 1 [
  ⟨some 2,.move (.c (.s (.int .i64 0))),none,0,[]⟩]) (RC.seq (RC.region 6 [
  ⟨some 4,.move (.t 0),none,0,[]⟩,
  ⟨some 5,.nilCheck (.t 4),none,1,[]⟩,
  ⟨some 6,.fieldAddr 0 (.t 5),none,2,[]⟩,
  ⟨some 7,.fieldAddr 0 (.t 6),none,3,[]⟩,
  ⟨some 8,.load none (.t 7),none,4,[]⟩,
  ⟨some 3,.move (.t 8),none,5,[]⟩]) (RC.seq (RC.region 5 [
  ⟨some 9,.move (.t 0),none,0,[]⟩,
  ⟨some 10,.nilCheck (.t 9),none,1,[]⟩,
  ⟨some 11,.fieldAddr 0 (.t 10),none,2,[]⟩,
  ⟨some 12,.fieldAddr 0 (.t 11),none,3,[]⟩,
  ⟨none,.store 1 (.t 12) (.c (.s (.int .i64 0))),none,4,[]⟩]) (RC.seq (RC.region 2 [
  ⟨some 13,.move (.t 3),none,0,[]⟩,
  ⟨some 2,.move (.t 13),none,1,[]⟩]) (RC.ret)))))
theorem tcb_Task_CanAct_ok : chkFunc Go.Proofs.Tryz.prog [0] Go.Proofs.Tryz.f227 tcb_Task_CanAct = true := by kernel_rfl
def tcb_Task_Wake : RFunc := RFunc.mk 31 [.tmp 2,.tmp 3] (
  RC.seq (RC.region 2 [
  ⟨some 2,.move (.c (.s (.bool false))),none,0,[]⟩,
  ⟨some 3,.move (.c (.s (.int .i64 0))),none,1,[]⟩]) (RC.seq (RC.block 0 (RC.seq (RC.region 4 [
  ⟨some 5,.move (.t 0),none,0,[]⟩,
  ⟨some 6,.buildSlice 1 1 [.int .i64 0] [(0,1,(.c (.s (.int .i64 16))))],none,1,[]⟩,
  ⟨some 7,.call F.tcb_Task_Is [(.t 5),(.t 6)],none,2,[]⟩,
  ⟨some 4,.move (.t 7),none,3,[]⟩]) (RC.cond (.t 4) (RC.seq (RC.region 2 [
  ⟨some 2,.move (.c (.s (.bool false))),none,0,[]⟩,
  ⟨some 3,.move (.c (.s (.int .i64 (-41)))),none,1,[]⟩]) (RC.ret)) (RC.seq (RC.region 5 [
  ⟨some 9,.move (.t 0),none,0,[]⟩,
  ⟨some 10,.nilCheck (.t 9),none,1,[]⟩,
  ⟨some 11,.fieldAddr 4 (.t 10),none,2,[]⟩,
  ⟨some 12,.load none (.t 11),none,3,[]⟩,
  ⟨some 8,.move (.t 12),none,4,[]⟩]) (RC.cond (.t 8) (RC.seq (RC.region 2 [
  ⟨some 13,.move (.t 0),none,0,[]⟩,
  ⟨some 14,.call F.tcb_Task_Release [(.t 13)],none,1,[]⟩]) (RC.seq (RC.region 2 [
  ⟨some 2,.move (.c (.s (.bool true))),none,0,[]⟩,
  ⟨some 3,.move (.c (.s (.int .i64 0))),none,1,[]⟩]) (RC.ret))) (RC.seq (RC.region 7 [
  ⟨some 16,.move (.t 0),none,0,[]⟩,
  ⟨some 17,.nilCheck (.t 16),none,1,[]⟩,
  ⟨some 18,.fieldAddr 0 (.t 17),none,2,[]⟩,
  ⟨some 19,.fieldAddr 1 (.t 18),none,3,[]⟩,
  ⟨some 20,.load none (.t 19),none,4,[]⟩,
  ⟨some 21,.bin .geq (.t 20) (.c (.s (.int .i64 7))),none,5,[]⟩,
  ⟨some 15,.move (.t 21),none,6,[]⟩]) (RC.cond (.t 15) (RC.seq (RC.region 2 [
  ⟨some 2,.move (.c (.s (.bool false))),none,0,[]⟩,
  ⟨some 3,.move (.c (.s (.int .i64 (-43)))),none,1,[]⟩]) (RC.ret)) (RC.skip)))))))) (RC.seq (RC.region 10 [
  ⟨some 22,.move (.t 0),none,0,[]⟩,
  ⟨some 23,.nilCheck (.t 22),none,1,[]⟩,
  ⟨some 24,.fieldAddr 0 (.t 23),none,2,[]⟩,
  ⟨some 25,.fieldAddr 1 (.t 24),none,3,[]⟩,
  ⟨some 26,.load none (.t 25),none,4,[]⟩,
  ⟨some 27,.bin .add (.t 26) (.c (.s (.int .i64 1))),none,5,[]⟩,
  ⟨some 28,.nilCheck (.t 22),none,6,[]⟩,
  ⟨some 29,.fieldAddr 0 (.t 28),none,7,[]⟩,
  ⟨some 30,.fieldAddr 1 (.t 29),none,8,[]⟩,
  ⟨none,.store 1 (.t 30) (.t 27),none,9,[]⟩]) (RC.seq (RC.region 2 [
  ⟨some 2,.move (.c (.s (.bool false))),none,0,[]⟩,
  ⟨some 3,.move (.c (.s (.int .i64 0))),none,1,[]⟩]) (RC.ret)))))
theorem tcb_Task_Wake_ok : chkFunc Go.Proofs.Tryz.prog [0] Go.Proofs.Tryz.f228 tcb_Task_Wake = true := by kernel_rfl
def tcb_Task_CanWake : RFunc := RFunc.mk 18 [.tmp 2,.tmp 3] (
  RC.seq (RC.region 2 [
  ⟨some 2,.move (.c (.s (.int .i64 0))),none,0,[]⟩,
  ⟨some 3,.move (.c (.s (.int .i64 0))),none,1,[]⟩]) (RC.seq (RC.seq (RC.region 3 [
  ⟨some 5,.move (.t 0),none,0,[]⟩,
  ⟨some 6,.buildSlice 1 1 [.int .i64 0] [(0,1,(.c (.s (.int .i64 16))))],none,1,[]⟩,
  ⟨some 7,.call F.tcb_Task_Is [(.t 5),(.t 6)],none,2,[]⟩]) (RC.cond (.t 7) (RC.seq (RC.region 2 [
  ⟨some 2,.move (.c (.s (.int .i64 0))),none,0,[]⟩,
  ⟨some 3,.move (.c (.s (.int .i64 (-41)))),none,1,[]⟩]) (RC.ret)) (RC.skip))) (RC.seq (RC.region 6 [
  ⟨some 8,.move (.t 0),none,0,[]⟩,
  ⟨some 9,.nilCheck (.t 8),none,1,[]⟩,
  ⟨some 10,.fieldAddr 0 (.t 9),none,2,[]⟩,
  ⟨some 11,.fieldAddr 1 (.t 10),none,3,[]⟩,
  ⟨some 12,.load none (.t 11),none,4,[]⟩,
  ⟨some 4,.move (.t 12),none,5,[]⟩]) (RC.seq (RC.region 5 [
  ⟨some 13,.move (.t 0),none,0,[]⟩,
  ⟨some 14,.nilCheck (.t 13),none,1,[]⟩,
  ⟨some 15,.fieldAddr 0 (.t 14),none,2,[]⟩,
  ⟨some 16,.fieldAddr 1 (.t 15),none,3,[]⟩,
  ⟨none,.store 1 (.t 16) (.c (.s (.int .i64 0))),none,4,[]⟩]) (RC.seq (RC.region 3 [
  ⟨some 17,.move (.t 4),none,0,[]⟩,
  ⟨some 2,.move (.t 17),none,1,[]⟩,
  ⟨some 3,.move (.c (.s (.int .i64 0))),none,2,[]⟩]) (RC.ret))))))
theorem tcb_Task_CanWake_ok : chkFunc Go.Proofs.Tryz.prog [0] Go.Proofs.Tryz.f229 tcb_Task_CanWake = true := by kernel_rfl
def tcb_Task_Suspend : RFunc := RFunc.mk 37 [.tmp 2] (
  RC.seq (RC.region 1 [
  ⟨some 2,.move (.c (.s (.int .i64 0))),none,0,[]⟩]) (RC.seq (RC.block 0 (RC.seq (RC.region 4 [
  ⟨some 4,.move (.t 0),none,0,[]⟩,
  ⟨some 5,.buildSlice 1 1 [.int .i64 0] [(0,1,(.c (.s (.int .i64 16))))],none,1,[]⟩,
  ⟨some 6,.call F.tcb_Task_Is [(.t 4),(.t 5)],none,2,[]⟩,
  ⟨some 3,.move (.t 6),none,3,[]⟩]) (RC.cond (.t 3) (RC.seq (RC.region 1 [
  ⟨some 2,.move (.c (.s (.int .i64 (-41)))),none,0,[]⟩]) (RC.ret)) (RC.seq (RC.region 7 [
  ⟨some 8,.move (.t 0),none,0,[]⟩,
  ⟨some 9,.nilCheck (.t 8),none,1,[]⟩,
  ⟨some 10,.fieldAddr 0 (.t 9),none,2,[]⟩,
  ⟨some 11,.fieldAddr 2 (.t 10),none,3,[]⟩,
  ⟨some 12,.load none (.t 11),none,4,[]⟩,
  ⟨some 13,.bin .geq (.t 12) (.c (.s (.int .i64 7))),none,5,[]⟩,
  ⟨some 7,.move (.t 13),none,6,[]⟩]) (RC.cond (.t 7) (RC.seq (RC.region 1 [
  ⟨some 2,.move (.c (.s (.int .i64 (-43)))),none,0,[]⟩]) (RC.ret)) (RC.skip)))))) (RC.seq (RC.region 10 [
  ⟨some 14,.move (.t 0),none,0,[]⟩,
  ⟨some 15,.nilCheck (.t 14),none,1,[]⟩,
  ⟨some 16,.fieldAddr 0 (.t 15),none,2,[]⟩,
  ⟨some 17,.fieldAddr 2 (.t 16),none,3,[]⟩,
  ⟨some 18,.load none (.t 17),none,4,[]⟩,
  ⟨some 19,.bin .add (.t 18) (.c (.s (.int .i64 1))),none,5,[]⟩,
  ⟨some 20,.nilCheck (.t 14),none,6,[]⟩,
  ⟨some 21,.fieldAddr 0 (.t 20),none,7,[]⟩,
  ⟨some 22,.fieldAddr 2 (.t 21),none,8,[]⟩,
  ⟨none,.store 1 (.t 22) (.t 19),none,9,[]⟩]) (RC.seq (RC.seq (RC.region 4 [
  ⟨some 23,.move (.t 0),none,0,[]⟩,
  ⟨some 24,.nilCheck (.t 23),none,1,[]⟩,
  ⟨some 25,.fieldAddr 3 (.t 24),none,2,[]⟩,
  ⟨some 26,.load none (.t 25),none,3,[]⟩]) (RC.block 1 (RC.seq (RC.region 2 [
  ⟨some 28,.bin .eql (.t 26) (.c (.s (.int .i64 2))),none,0,[]⟩,
  ⟨some 27,.move (.t 28),none,1,[]⟩]) (RC.cond (.t 27) (RC.region 4 [
  ⟨some 29,.move (.t 0),none,0,[]⟩,
  ⟨some 30,.nilCheck (.t 29),none,1,[]⟩,
  ⟨some 31,.fieldAddr 3 (.t 30),none,2,[]⟩,
  ⟨none,.store 1 (.t 31) (.c (.s (.int .i64 8))),none,3,[]⟩]) (RC.seq (RC.region 2 [
  ⟨some 33,.bin .eql (.t 26) (.c (.s (.int .i64 4))),none,0,[]⟩,
  ⟨some 32,.move (.t 33),none,1,[]⟩]) (RC.cond (.t 32) (RC.region 4 [
  ⟨some 34,.move (.t 0),none,0,[]⟩,
  ⟨some 35,.nilCheck (.t 34),none,1,[]⟩,
  ⟨some 36,.fieldAddr 3 (.t 35),none,2,[]⟩,
  ⟨none,.store 1 (.t 36) (.c (.s (.int .i64 12))),none,3,[]⟩]) (RC.skip))))))) (RC.seq (RC.region 1 [
  ⟨some 2,.move (.c (.s (.int .i64 0))),none,0,[]⟩]) (RC.ret))))))
theorem tcb_Task_Suspend_ok : chkFunc Go.Proofs.Tryz.prog [0] Go.Proofs.Tryz.f230 tcb_Task_Suspend = true := by kernel_rfl
def tcb_Task_Resume_s0 : RC :=
  RC.seq (RC.seq (RC.region 6 [
  ⟨some 24,.move (.t 0),none,0,[]⟩,
  ⟨some 25,.nilCheck (.t 24),none,1,[]⟩,
  ⟨some 26,.fieldAddr 0 (.t 25),none,2,[]⟩,
  ⟨some 27,.fieldAddr 2 (.t 26),none,3,[]⟩,
  ⟨some 28,.load none (.t 27),none,4,[]⟩,
  ⟨some 29,.bin .gtr (.t 28) (.c (.s (.int .i64 0))),none,5,[]⟩]) (RC.cond (.t 29) (RC.seq (RC.region 2 [
  ⟨some 4,.move (.c (.s (.bool false))),none,0,[]⟩,
  ⟨some 5,.move (.c (.s (.int .i64 0))),none,1,[]⟩]) (RC.ret)) (RC.skip))) (RC.seq (RC.seq (RC.region 3 [
  ⟨some 30,.move (.t 0),none,0,[]⟩,
  ⟨some 31,.buildSlice 1 1 [.int .i64 0] [(0,1,(.c (.s (.int .i64 8))))],none,1,[]⟩,
  ⟨some 32,.call F.tcb_Task_Is [(.t 30),(.t 31)],none,2,[]⟩]) (RC.cond (.t 32) (RC.seq (RC.region 4 [
  ⟨some 33,.move (.t 0),none,0,[]⟩,
  ⟨some 34,.nilCheck (.t 33),none,1,[]⟩,
  ⟨some 35,.fieldAddr 3 (.t 34),none,2,[]⟩,
  ⟨none,.store 1 (.t 35) (.c (.s (.int .i64 2))),none,3,[]⟩]) (RC.seq (RC.region 2 [
  ⟨some 4,.move (.c (.s (.bool true))),none,0,[]⟩,
  ⟨some 5,.move (.c (.s (.int .i64 0))),none,1,[]⟩]) (RC.ret))) (RC.skip))) (RC.seq (RC.region 4 [
  ⟨some 36,.move (.t 0),none,0,[]⟩,
  ⟨some 37,.nilCheck (.t 36),none,1,[]⟩,
  ⟨some 38,.fieldAddr 3 (.t 37),none,2,[]⟩,
  ⟨none,.store 1 (.t 38) (.c (.s (.int .i64 4))),none,3,[]⟩]) (RC.seq (RC.region 2 [
  ⟨some 4,.move (.c (.s (.bool false))),none,0,[]⟩,
  ⟨some 5,.move (.c (.s (.int .i64 0))),none,1,[]⟩]) (RC.ret))))
def tcb_Task_Resume : RFunc := RFunc.mk 39 [.tmp 4,.tmp 5] (
  RC.seq (RC.region 2 [
  ⟨some 4,.move (.c (.s (.bool false))),none,0,[]⟩,
  ⟨some 5,.move (.c (.s (.int .i64 0))),none,1,[]⟩]) (RC.seq (RC.seq (RC.region 4 [
  ⟨some 6,.move (.t 0),none,0,[]⟩,
  ⟨some 7,.buildSlice 1 2 [.int .i64 0,.int .i64 0] [(0,1,(.c (.s (.int .i64 8)))),(1,1,(.c (.s (.int .i64 12))))],none,1,[]⟩,
  ⟨some 8,.call F.tcb_Task_Is [(.t 6),(.t 7)],none,2,[]⟩,
  ⟨some 9,.un .not (.t 8),none,3,[]⟩]) (RC.cond (.t 9) (RC.seq (RC.region 2 [
  ⟨some 4,.move (.c (.s (.bool false))),none,0,[]⟩,
  ⟨some 5,.move (.c (.s (.int .i64 (-41)))),none,1,[]⟩]) (RC.ret)) (RC.skip))) (RC.seq (RC.region 10 [
  ⟨some 10,.move (.t 0),none,0,[]⟩,
  ⟨some 11,.nilCheck (.t 10),none,1,[]⟩,
  ⟨some 12,.fieldAddr 0 (.t 11),none,2,[]⟩,
  ⟨some 13,.fieldAddr 2 (.t 12),none,3,[]⟩,
  ⟨some 14,.load none (.t 13),none,4,[]⟩,
  ⟨some 15,.bin .sub (.t 14) (.c (.s (.int .i64 1))),none,5,[]⟩,
  ⟨some 16,.nilCheck (.t 10),none,6,[]⟩,
  ⟨some 17,.fieldAddr 0 (.t 16),none,7,[]⟩,
  ⟨some 18,.fieldAddr 2 (.t 17),none,8,[]⟩,
  ⟨none,.store 1 (.t 18) (.t 15),none,9,[]⟩]) (RC.seq (RC.seq (RC.region 1 [
  ⟨some 19,.move (.t 1),none,0,[]⟩]) (RC.cond (.t 19) (RC.region 5 [
  ⟨some 20,.move (.t 0),none,0,[]⟩,
  ⟨some 21,.nilCheck (.t 20),none,1,[]⟩,
  ⟨some 22,.fieldAddr 0 (.t 21),none,2,[]⟩,
  ⟨some 23,.fieldAddr 2 (.t 22),none,3,[]⟩,
  ⟨none,.store 1 (.t 23) (.c (.s (.int .i64 0))),none,4,[]⟩]) (RC.skip))) R.tcb_Task_Resume_s0))))
theorem tcb_Task_Resume_ok : chkFunc Go.Proofs.Tryz.prog [0] Go.Proofs.Tryz.f231 tcb_Task_Resume = true := by kernel_rfl
def calls_Arity : RFunc := RFunc.mk 6 [.tmp 2] (
  RC.seq (RC.region 1 [
  ⟨some 2,.move (.c (.s (.int .i64 0))),none,0,[]⟩]) (RC.seq (RC.region 4 [
  ⟨some 3,.move (.t 0),none,0,[]⟩,
  ⟨some 4,.call F.calls_of [(.t 3)],none,1,[]⟩,
  ⟨some 5,.field none 1 (.t 4),none,2,[]⟩,
  ⟨some 2,.move (.t 5),none,3,[]⟩]) (RC.ret)))
theorem calls_Arity_ok : chkFunc Go.Proofs.Tryz.prog [0] Go.Proofs.Tryz.f232 calls_Arity = true := by kernel_rfl
def order_Queue_Take_s0 : RC :=
  RC.seq (RC.region 4 [
  ⟨some 20,.load (some 2) (.t 4),none,0,[]⟩,
  ⟨some 21,.move (.t 5),none,1,[]⟩,
  ⟨none,.store 2 (.t 2) (.t 20),none,2,[]⟩,
  ⟨some 3,.move (.t 21),none,3,[]⟩]) (RC.ret)
def order_Queue_Take : RFunc := RFunc.mk 22 [.cell 2 (some 2),.tmp 3] (
  RC.seq (RC.region 2 [
  ⟨some 2,.newc [.int .i64 0,.int .i64 0],none,0,[]⟩,
  ⟨some 3,.move (.c (.s (.bool false))),none,1,[]⟩]) (RC.seq (RC.region 10 [
  ⟨some 7,.move (.t 0),none,0,[]⟩,
  ⟨some 8,.nilCheck (.t 7),none,1,[]⟩,
  ⟨some 9,.fieldAddr 0 (.t 8),none,2,[]⟩,
  ⟨some 10,.call F.order_Line_First [(.t 9)],none,3,[]⟩,
  ⟨some 6,.move (.t 10),none,4,[]⟩,
  ⟨some 11,.extract 0 (.t 6),none,5,[]⟩,
  ⟨some 12,.extract 1 (.t 6),none,6,[]⟩,
  ⟨some 4,.newc [.int .i64 0,.int .i64 0],none,7,[]⟩,
  ⟨none,.store 2 (.t 4) (.t 11),none,8,[]⟩,
  ⟨some 5,.move (.t 12),none,9,[]⟩]) (RC.seq (RC.seq (RC.region 1 [
  ⟨some 13,.move (.t 5),none,0,[]⟩]) (RC.cond (.t 13) (RC.region 6 [
  ⟨some 14,.move (.t 0),none,0,[]⟩,
  ⟨some 15,.nilCheck (.t 14),none,1,[]⟩,
  ⟨some 16,.fieldAddr 0 (.t 15),none,2,[]⟩,
  ⟨some 17,.fieldAddr 0 (.t 4),none,3,[]⟩,
  ⟨some 18,.load none (.t 17),none,4,[]⟩,
  ⟨some 19,.call F.order_Line_Remove [(.t 16),(.t 18)],none,5,[]⟩]) (RC.skip))) R.order_Queue_Take_s0)))
theorem order_Queue_Take_ok : chkFunc Go.Proofs.Tryz.prog [0] Go.Proofs.Tryz.f90 order_Queue_Take = true := by kernel_rfl
def order_Queue_Add : RFunc := RFunc.mk 30 [.tmp 6] (
  RC.seq (RC.region 1 [
  ⟨some 6,.move (.c (.s (.int .i64 0))),none,0,[]⟩]) (RC.seq (RC.block 0 (RC.seq (RC.region 12 [
  ⟨some 8,.move (.t 1),none,0,[]⟩,
  ⟨some 9,.bin .lss (.t 8) (.c (.s (.int .i64 1))),none,1,[]⟩,
  ⟨some 10,.move (.t 9),none,2,[]⟩,
  ⟨some 11,.move (.t 1),(some (10,false)),3,[]⟩,
  ⟨some 12,.bin .gtr (.t 11) (.c (.s (.int .i64 16))),(some (10,false)),4,[]⟩,
  ⟨some 13,.pick (.t 10) (.c (.s (.bool true))) (.t 12),none,5,[]⟩,
  ⟨some 14,.move (.t 13),none,6,[]⟩,
  ⟨some 15,.move (.t 2),(some (14,false)),7,[]⟩,
  ⟨some 16,.call F.order_may [(.t 15)],(some (14,false)),8,[]⟩,
  ⟨some 17,.un .not (.t 16),(some (14,false)),9,[]⟩,
  ⟨some 18,.pick (.t 14) (.c (.s (.bool true))) (.t 17),none,10,[]⟩,
  ⟨some 7,.move (.t 18),none,11,[]⟩]) (RC.cond (.t 7) (RC.seq (RC.region 1 [
  ⟨some 6,.move (.c (.s (.int .i64 (-17)))),none,0,[]⟩]) (RC.ret)) (RC.seq (RC.region 6 [
  ⟨some 20,.move (.t 0),none,0,[]⟩,
  ⟨some 21,.nilCheck (.t 20),none,1,[]⟩,
  ⟨some 22,.fieldAddr 0 (.t 21),none,2,[]⟩,
  ⟨some 23,.move (.t 1),none,3,[]⟩,
  ⟨some 24,.call F.order_Line_Has [(.t 22),(.t 23)],none,4,[]⟩,
  ⟨some 19,.move (.t 24),none,5,[]⟩]) (RC.cond (.t 19) (RC.seq (RC.region 1 [
  ⟨some 6,.move (.c (.s (.int .i64 (-41)))),none,0,[]⟩]) (RC.ret)) (RC.skip)))))) (RC.seq (RC.region 5 [
  ⟨some 25,.move (.t 0),none,0,[]⟩,
  ⟨some 26,.move (.t 1),none,1,[]⟩,
  ⟨some 27,.move (.t 2),none,2,[]⟩,
  ⟨some 28,.build [.int .i64 0,.int .i64 0] [(0,1,(.t 26)),(1,1,(.t 27))],none,3,[]⟩,
  ⟨some 29,.call F.order_Queue_put [(.t 25),(.t 28)],none,4,[]⟩]) (RC.seq (RC.region 1 [
  ⟨some 6,.move (.c (.s (.int .i64 0))),none,0,[]⟩]) (RC.ret)))))
theorem order_Queue_Add_ok : chkFunc Go.Proofs.Tryz.prog [0] Go.Proofs.Tryz.f180 order_Queue_Add = true := by kernel_rfl
def flag_wish_met : RFunc := RFunc.mk 25 [.tmp 4] (
  RC.seq (RC.region 2 [
  ⟨some 2,.box (.t 0),none,0,[]⟩,
  ⟨some 4,.move (.c (.s (.bool false))),none,1,[]⟩]) (RC.seq (RC.seq (RC.region 3 [
  ⟨some 5,.fieldAddr 1 (.t 2),none,0,[]⟩,
  ⟨some 6,.load none (.t 5),none,1,[]⟩,
  ⟨some 7,.bin .eql (.t 6) (.c (.s (.int .i64 0))),none,2,[]⟩]) (RC.cond (.t 7) (RC.seq (RC.region 13 [
  ⟨some 8,.fieldAddr 0 (.t 2),none,0,[]⟩,
  ⟨some 9,.load none (.t 8),none,1,[]⟩,
  ⟨some 10,.bin .neq (.t 9) (.c (.s (.int .u32 0))),none,2,[]⟩,
  ⟨some 11,.move (.t 10),none,3,[]⟩,
  ⟨some 12,.move (.t 1),(some (11,true)),4,[]⟩,
  ⟨some 13,.fieldAddr 0 (.t 2),(some (11,true)),5,[]⟩,
  ⟨some 14,.load none (.t 13),(some (11,true)),6,[]⟩,
  ⟨some 15,.bin .and (.t 12) (.t 14),(some (11,true)),7,[]⟩,
  ⟨some 16,.fieldAddr 0 (.t 2),(some (11,true)),8,[]⟩,
  ⟨some 17,.load none (.t 16),(some (11,true)),9,[]⟩,
  ⟨some 18,.bin .eql (.t 15) (.t 17),(some (11,true)),10,[]⟩,
  ⟨some 19,.pick (.t 11) (.t 18) (.c (.s (.bool false))),none,11,[]⟩,
  ⟨some 4,.move (.t 19),none,12,[]⟩]) (RC.ret)) (RC.skip))) (RC.seq (RC.region 6 [
  ⟨some 20,.move (.t 1),none,0,[]⟩,
  ⟨some 21,.fieldAddr 0 (.t 2),none,1,[]⟩,
  ⟨some 22,.load none (.t 21),none,2,[]⟩,
  ⟨some 23,.bin .and (.t 20) (.t 22),none,3,[]⟩,
  ⟨some 24,.bin .neq (.t 23) (.c (.s (.int .u32 0))),none,4,[]⟩,
  ⟨some 4,.move (.t 24),none,5,[]⟩]) (RC.ret))))
theorem flag_wish_met_ok : chkFunc Go.Proofs.Tryz.prog [0] Go.Proofs.Tryz.f233 flag_wish_met = true := by kernel_rfl
def slices_Clip__flag_Woken_flag_Woken : RFunc := RFunc.mk 9 [.tmp 2] (
  RC.seq (RC.region 1 [
  ⟨some 2,.move (.c (.s (.slice none 0 0 1))),none,0,[]⟩]) (RC.seq (RC.region 7 [
  ⟨some 3,.move (.t 0),none,0,[]⟩,
  ⟨some 4,.move (.t 0),none,1,[]⟩,
  ⟨some 5,.len (.t 4),none,2,[]⟩,
  ⟨some 6,.move (.t 0),none,3,[]⟩,
  ⟨some 7,.len (.t 6),none,4,[]⟩,
  ⟨some 8,.slSl 2 (.t 3) none (some (.t 5)) (some (.t 7)),none,5,[]⟩,
  ⟨some 2,.move (.t 8),none,6,[]⟩]) (RC.ret)))
theorem slices_Clip__flag_Woken_flag_Woken_ok : chkFunc Go.Proofs.Tryz.prog [0] Go.Proofs.Tryz.f234 slices_Clip__flag_Woken_flag_Woken = true := by kernel_rfl
def order_Line_Len : RFunc := RFunc.mk 8 [.tmp 2] (
  RC.seq (RC.region 1 [
  ⟨some 2,.move (.c (.s (.int .i64 0))),none,0,[]⟩]) (RC.seq (RC.region 6 [
  ⟨some 3,.move (.t 0),none,0,[]⟩,
  ⟨some 4,.nilCheck (.t 3),none,1,[]⟩,
  ⟨some 5,.fieldAddr 0 (.t 4),none,2,[]⟩,
  ⟨some 6,.load none (.t 5),none,3,[]⟩,
  ⟨some 7,.len (.t 6),none,4,[]⟩,
  ⟨some 2,.move (.t 7),none,5,[]⟩]) (RC.ret)))
theorem order_Line_Len_ok : chkFunc Go.Proofs.Tryz.prog [0] Go.Proofs.Tryz.f92 order_Line_Len = true := by kernel_rfl
def order_Line_Has : RFunc := RFunc.mk 9 [.tmp 4] (
  RC.seq (RC.region 1 [
  ⟨some 4,.move (.c (.s (.bool false))),none,0,[]⟩]) (RC.seq (RC.region 5 [
  ⟨some 5,.move (.t 0),none,0,[]⟩,
  ⟨some 6,.move (.t 1),none,1,[]⟩,
  ⟨some 7,.call F.order_Line_at [(.t 5),(.t 6)],none,2,[]⟩,
  ⟨some 8,.bin .geq (.t 7) (.c (.s (.int .i64 0))),none,3,[]⟩,
  ⟨some 4,.move (.t 8),none,4,[]⟩]) (RC.ret)))
theorem order_Line_Has_ok : chkFunc Go.Proofs.Tryz.prog [0] Go.Proofs.Tryz.f176 order_Line_Has = true := by kernel_rfl
end Go.AM.R
