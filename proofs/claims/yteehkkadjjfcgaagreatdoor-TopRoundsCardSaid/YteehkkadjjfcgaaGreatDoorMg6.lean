/-
  The code of the functions,as the abstract machine has it; it is the program's.
-/
import Derived.Test.YteehkkadjjfcgaaGreatDoorMg1
import Derived.Test.YteehkkadjjfcgaaGreatDoorMg2
import Derived.Test.YteehkkadjjfcgaaGreatDoorProg
import Derived.KernelRfl
import Derived.Test.YteehkkadjjfcgaaGreatDoorMg3
import Derived.Test.YteehkkadjjfcgaaGreatDoorMg4
import Derived.Test.YteehkkadjjfcgaaGreatDoorMg5
set_option maxRecDepth 100000
namespace Go.AM.R
open Go.AM
def dtq_Queue_next : RFunc := RFunc.mk 35 [.tmp 2,.tmp 3,.tmp 4] (
  RC.seq (RC.region 3 [
  ⟨some 2,.move (.c (.s (.int .i64 0))),none,0,[]⟩,
  ⟨some 3,.move (.c (.s (.int .i64 0))),none,1,[]⟩,
  ⟨some 4,.move (.c (.s (.bool false))),none,2,[]⟩]) (RC.seq (RC.region 12 [
  ⟨some 9,.move (.t 0),none,0,[]⟩,
  ⟨some 10,.nilCheck (.t 9),none,1,[]⟩,
  ⟨some 11,.fieldAddr 0 (.t 10),none,2,[]⟩,
  ⟨some 12,.fieldAddr 0 (.t 11),none,3,[]⟩,
  ⟨some 13,.load none (.t 12),none,4,[]⟩,
  ⟨some 14,.call F.order_Queue_Take [(.t 13)],none,5,[]⟩,
  ⟨some 8,.move (.t 14),none,6,[]⟩,
  ⟨some 15,.extract 0 (.t 8),none,7,[]⟩,
  ⟨some 16,.extract 1 (.t 8),none,8,[]⟩,
  ⟨some 5,.newc [.int .i64 0,.int .i64 0],none,9,[]⟩,
  ⟨none,.store 2 (.t 5) (.t 15),none,10,[]⟩,
  ⟨some 6,.move (.t 16),none,11,[]⟩]) (RC.seq (RC.seq (RC.region 2 [
  ⟨some 17,.move (.t 6),none,0,[]⟩,
  ⟨some 18,.un .not (.t 17),none,1,[]⟩]) (RC.cond (.t 18) (RC.seq (RC.region 3 [
  ⟨some 2,.move (.c (.s (.int .i64 0))),none,0,[]⟩,
  ⟨some 3,.move (.c (.s (.int .i64 0))),none,1,[]⟩,
  ⟨some 4,.move (.c (.s (.bool false))),none,2,[]⟩]) (RC.ret)) (RC.skip))) (RC.seq (RC.region 8 [
  ⟨some 19,.move (.t 0),none,0,[]⟩,
  ⟨some 20,.nilCheck (.t 19),none,1,[]⟩,
  ⟨some 21,.fieldAddr 4 (.t 20),none,2,[]⟩,
  ⟨some 22,.load none (.t 21),none,3,[]⟩,
  ⟨some 23,.fieldAddr 0 (.t 5),none,4,[]⟩,
  ⟨some 24,.load none (.t 23),none,5,[]⟩,
  ⟨some 25,.hop (.lookup false) [(.t 22),(.t 24)],none,6,[]⟩,
  ⟨some 7,.move (.t 25),none,7,[]⟩]) (RC.seq (RC.region 7 [
  ⟨some 26,.move (.t 0),none,0,[]⟩,
  ⟨some 27,.nilCheck (.t 26),none,1,[]⟩,
  ⟨some 28,.fieldAddr 4 (.t 27),none,2,[]⟩,
  ⟨some 29,.load none (.t 28),none,3,[]⟩,
  ⟨some 30,.fieldAddr 0 (.t 5),none,4,[]⟩,
  ⟨some 31,.load none (.t 30),none,5,[]⟩,
  ⟨none,.hop .delete [(.t 29),(.t 31)],none,6,[]⟩]) (RC.seq (RC.region 6 [
  ⟨some 32,.move (.t 7),none,0,[]⟩,
  ⟨some 33,.fieldAddr 0 (.t 5),none,1,[]⟩,
  ⟨some 34,.load none (.t 33),none,2,[]⟩,
  ⟨some 2,.move (.t 32),none,3,[]⟩,
  ⟨some 3,.move (.t 34),none,4,[]⟩,
  ⟨some 4,.move (.c (.s (.bool true))),none,5,[]⟩]) (RC.ret)))))))
theorem dtq_Queue_next_ok : chkFunc Go.Proofs.Tryz.prog [0] Go.Proofs.Tryz.f235 dtq_Queue_next = true := by kernel_rfl
def slices_Delete__int_int : RFunc := RFunc.mk 33 [.tmp 6] (
  RC.seq (RC.region 1 [
  ⟨some 6,.move (.c (.s (.slice none 0 0 1))),none,0,[]⟩]) (RC.seq (RC.region 6 [
  ⟨some 8,.move (.t 0),none,0,[]⟩,
  ⟨some 9,.move (.t 1),none,1,[]⟩,
  ⟨some 10,.move (.t 2),none,2,[]⟩,
  ⟨some 11,.move (.t 0),none,3,[]⟩,
  ⟨some 12,.len (.t 11),none,4,[]⟩,
  ⟨some 13,.slSl 1 (.t 8) (some (.t 9)) (some (.t 10)) (some (.t 12)),none,5,[]⟩]) (RC.seq (RC.seq (RC.region 3 [
  ⟨some 14,.move (.t 1),none,0,[]⟩,
  ⟨some 15,.move (.t 2),none,1,[]⟩,
  ⟨some 16,.bin .eql (.t 14) (.t 15),none,2,[]⟩]) (RC.cond (.t 16) (RC.seq (RC.region 2 [
  ⟨some 17,.move (.t 0),none,0,[]⟩,
  ⟨some 6,.move (.t 17),none,1,[]⟩]) (RC.ret)) (RC.skip))) (RC.seq (RC.region 3 [
  ⟨some 18,.move (.t 0),none,0,[]⟩,
  ⟨some 19,.len (.t 18),none,1,[]⟩,
  ⟨some 7,.move (.t 19),none,2,[]⟩]) (RC.seq (RC.region 8 [
  ⟨some 20,.move (.t 0),none,0,[]⟩,
  ⟨some 21,.move (.t 1),none,1,[]⟩,
  ⟨some 22,.slSl 1 (.t 20) none (some (.t 21)) none,none,2,[]⟩,
  ⟨some 23,.move (.t 0),none,3,[]⟩,
  ⟨some 24,.move (.t 2),none,4,[]⟩,
  ⟨some 25,.slSl 1 (.t 23) (some (.t 24)) none none,none,5,[]⟩,
  ⟨some 26,.append 1 8 (.t 22) (.t 25),none,6,[]⟩,
  ⟨some 0,.move (.t 26),none,7,[]⟩]) (RC.seq (RC.region 6 [
  ⟨some 27,.move (.t 0),none,0,[]⟩,
  ⟨some 28,.move (.t 0),none,1,[]⟩,
  ⟨some 29,.len (.t 28),none,2,[]⟩,
  ⟨some 30,.move (.t 7),none,3,[]⟩,
  ⟨some 31,.slSl 1 (.t 27) (some (.t 29)) (some (.t 30)) none,none,4,[]⟩,
  ⟨none,.clear 1 [.int .i64 0] (.t 31),none,5,[]⟩]) (RC.seq (RC.region 2 [
  ⟨some 32,.move (.t 0),none,0,[]⟩,
  ⟨some 6,.move (.t 32),none,1,[]⟩]) (RC.ret))))))))
theorem slices_Delete__int_int_ok : chkFunc Go.Proofs.Tryz.prog [0] Go.Proofs.Tryz.f236 slices_Delete__int_int = true := by kernel_rfl
def mtx_All_over_l0 : RC :=
  RC.seq (RC.region 1 [
  ⟨some 9,.bin .lss (.t 8) (.c (.s (.int .i64 17))),none,0,[]⟩]) (RC.seq (RC.cond (.t 9) (RC.skip) (RC.exit 0)) (RC.seq (RC.block 1 (RC.seq (RC.region 8 [
  ⟨some 10,.move (.t 0),none,0,[]⟩,
  ⟨some 11,.move (.t 1),none,1,[]⟩,
  ⟨some 12,.nilCheck (.t 10),none,2,[]⟩,
  ⟨some 13,.fieldAddr 1 (.t 12),none,3,[]⟩,
  ⟨some 14,.indexArr 17 3 (.t 13) (.t 11),none,4,[]⟩,
  ⟨some 15,.fieldAddr 2 (.t 14),none,5,[]⟩,
  ⟨some 16,.load none (.t 15),none,6,[]⟩,
  ⟨some 7,.move (.t 16),none,7,[]⟩]) (RC.seq (RC.seq (RC.region 2 [
  ⟨some 17,.move (.t 7),none,0,[]⟩,
  ⟨some 18,.bin .eql (.t 17) (.c (.s (.int .i64 0))),none,1,[]⟩]) (RC.cond (.t 18) (RC.seq (RC.region 1 [
  ⟨some 6,.move (.c (.s (.bool false))),none,0,[]⟩]) (RC.ret)) (RC.skip))) (RC.seq (RC.seq (RC.region 9 [
  ⟨some 19,.move (.t 0),none,0,[]⟩,
  ⟨some 20,.nilCheck (.t 19),none,1,[]⟩,
  ⟨some 21,.fieldAddr 0 (.t 20),none,2,[]⟩,
  ⟨some 22,.load none (.t 21),none,3,[]⟩,
  ⟨some 23,.move (.t 7),none,4,[]⟩,
  ⟨some 24,.indexSl 4 (.t 22) (.t 23),none,5,[]⟩,
  ⟨some 25,.fieldAddr 2 (.t 24),none,6,[]⟩,
  ⟨some 26,.load none (.t 25),none,7,[]⟩,
  ⟨some 1,.move (.t 26),none,8,[]⟩]) (RC.seq (RC.region 3 [
  ⟨some 27,.move (.t 1),none,0,[]⟩,
  ⟨some 28,.move (.t 2),none,1,[]⟩,
  ⟨some 29,.bin .eql (.t 27) (.t 28),none,2,[]⟩]) (RC.cond (.t 29) (RC.seq (RC.region 1 [
  ⟨some 6,.move (.c (.s (.bool true))),none,0,[]⟩]) (RC.ret)) (RC.skip)))) (RC.seq (RC.region 2 [
  ⟨some 30,.move (.t 1),none,0,[]⟩,
  ⟨some 31,.bin .eql (.t 30) (.c (.s (.int .i64 0))),none,1,[]⟩]) (RC.cond (.t 31) (RC.seq (RC.region 1 [
  ⟨some 6,.move (.c (.s (.bool false))),none,0,[]⟩]) (RC.ret)) (RC.skip))))))) (RC.region 2 [
  ⟨some 32,.bin .add (.t 8) (.c (.s (.int .i64 1))),none,0,[]⟩,
  ⟨some 8,.move (.t 32),none,1,[]⟩])))
def mtx_All_over_s1 : RC :=
  RC.seq (RC.region 1 [
  ⟨some 6,.move (.c (.s (.bool false))),none,0,[]⟩]) (RC.ret)
def mtx_All_over : RFunc := RFunc.mk 33 [.tmp 6] (
  RC.seq (RC.region 1 [
  ⟨some 6,.move (.c (.s (.bool false))),none,0,[]⟩]) (RC.seq (RC.seq (RC.region 1 [
  ⟨some 8,.move (.c (.s (.int .i64 0))),none,0,[]⟩]) (RC.block 0 (RC.loop R.mtx_All_over_l0))) R.mtx_All_over_s1))
theorem mtx_All_over_ok : chkFunc Go.Proofs.Tryz.prog [0] Go.Proofs.Tryz.f237 mtx_All_over = true := by kernel_rfl
def mtx_All_stand_l0 : RC :=
  RC.seq (RC.seq (RC.region 34 [
  ⟨some 19,.move (.t 6),none,0,[]⟩,
  ⟨some 20,.nilCheck (.t 19),none,1,[]⟩,
  ⟨some 21,.fieldAddr 0 (.t 20),none,2,[]⟩,
  ⟨some 22,.fieldAddr 0 (.t 21),none,3,[]⟩,
  ⟨some 23,.load none (.t 22),none,4,[]⟩,
  ⟨some 24,.bin .neq (.t 23) (.c (.s (.int .i64 0))),none,5,[]⟩,
  ⟨some 25,.move (.t 24),none,6,[]⟩,
  ⟨some 26,.move (.t 7),(some (25,true)),7,[]⟩,
  ⟨some 27,.bin .gtr (.t 26) (.c (.s (.int .i64 0))),(some (25,true)),8,[]⟩,
  ⟨some 28,.pick (.t 25) (.t 27) (.c (.s (.bool false))),none,9,[]⟩,
  ⟨some 29,.move (.t 28),none,10,[]⟩,
  ⟨some 30,.move (.t 0),(some (29,true)),11,[]⟩,
  ⟨some 31,.move (.t 6),(some (29,true)),12,[]⟩,
  ⟨some 32,.nilCheck (.t 31),(some (29,true)),13,[]⟩,
  ⟨some 33,.fieldAddr 3 (.t 32),(some (29,true)),14,[]⟩,
  ⟨some 34,.load none (.t 33),(some (29,true)),15,[]⟩,
  ⟨some 35,.move (.t 7),(some (29,true)),16,[]⟩,
  ⟨some 36,.bin .sub (.t 35) (.c (.s (.int .i64 1))),(some (29,true)),17,[]⟩,
  ⟨some 37,.indexSl 1 (.t 34) (.t 36),(some (29,true)),18,[]⟩,
  ⟨some 38,.load none (.t 37),(some (29,true)),19,[]⟩,
  ⟨some 39,.nilCheck (.t 30),(some (29,true)),20,[]⟩,
  ⟨some 40,.fieldAddr 1 (.t 39),(some (29,true)),21,[]⟩,
  ⟨some 41,.indexArr 17 3 (.t 40) (.t 38),(some (29,true)),22,[]⟩,
  ⟨some 42,.fieldAddr 1 (.t 41),(some (29,true)),23,[]⟩,
  ⟨some 43,.load none (.t 42),(some (29,true)),24,[]⟩,
  ⟨some 44,.move (.t 0),(some (29,true)),25,[]⟩,
  ⟨some 45,.move (.t 2),(some (29,true)),26,[]⟩,
  ⟨some 46,.nilCheck (.t 44),(some (29,true)),27,[]⟩,
  ⟨some 47,.fieldAddr 1 (.t 46),(some (29,true)),28,[]⟩,
  ⟨some 48,.indexArr 17 3 (.t 47) (.t 45),(some (29,true)),29,[]⟩,
  ⟨some 49,.fieldAddr 1 (.t 48),(some (29,true)),30,[]⟩,
  ⟨some 50,.load none (.t 49),(some (29,true)),31,[]⟩,
  ⟨some 51,.bin .gtr (.t 43) (.t 50),(some (29,true)),32,[]⟩,
  ⟨some 52,.pick (.t 29) (.t 51) (.c (.s (.bool false))),none,33,[]⟩]) (RC.cond (.t 52) (RC.skip) (RC.exit 0))) (RC.block 1 (RC.region 3 [
  ⟨some 53,.move (.t 7),none,0,[]⟩,
  ⟨some 54,.bin .sub (.t 53) (.c (.s (.int .i64 1))),none,1,[]⟩,
  ⟨some 7,.move (.t 54),none,2,[]⟩]))
def mtx_All_stand_s1 : RC :=
  RC.region 12 [
  ⟨some 55,.move (.t 6),none,0,[]⟩,
  ⟨some 56,.move (.t 6),none,1,[]⟩,
  ⟨some 57,.nilCheck (.t 56),none,2,[]⟩,
  ⟨some 58,.fieldAddr 3 (.t 57),none,3,[]⟩,
  ⟨some 59,.load none (.t 58),none,4,[]⟩,
  ⟨some 60,.move (.t 7),none,5,[]⟩,
  ⟨some 61,.move (.t 2),none,6,[]⟩,
  ⟨some 62,.buildSlice 1 1 [.int .i64 0] [(0,1,(.t 61))],none,7,[]⟩,
  ⟨some 63,.call F.slices_Insert__int_int [(.t 59),(.t 60),(.t 62)],none,8,[]⟩,
  ⟨some 64,.nilCheck (.t 55),none,9,[]⟩,
  ⟨some 65,.fieldAddr 3 (.t 64),none,10,[]⟩,
  ⟨none,.store 1 (.t 65) (.t 63),none,11,[]⟩]
def mtx_All_stand : RFunc := RFunc.mk 66 [] (
  RC.seq (RC.region 7 [
  ⟨some 8,.move (.t 0),none,0,[]⟩,
  ⟨some 9,.nilCheck (.t 8),none,1,[]⟩,
  ⟨some 10,.fieldAddr 0 (.t 9),none,2,[]⟩,
  ⟨some 11,.load none (.t 10),none,3,[]⟩,
  ⟨some 12,.move (.t 1),none,4,[]⟩,
  ⟨some 13,.indexSl 4 (.t 11) (.t 12),none,5,[]⟩,
  ⟨some 6,.move (.t 13),none,6,[]⟩]) (RC.seq (RC.region 6 [
  ⟨some 14,.move (.t 6),none,0,[]⟩,
  ⟨some 15,.nilCheck (.t 14),none,1,[]⟩,
  ⟨some 16,.fieldAddr 3 (.t 15),none,2,[]⟩,
  ⟨some 17,.load none (.t 16),none,3,[]⟩,
  ⟨some 18,.len (.t 17),none,4,[]⟩,
  ⟨some 7,.move (.t 18),none,5,[]⟩]) (RC.seq (RC.block 0 (RC.loop R.mtx_All_stand_l0)) R.mtx_All_stand_s1)))
theorem mtx_All_stand_ok : chkFunc Go.Proofs.Tryz.prog [0] Go.Proofs.Tryz.f238 mtx_All_stand = true := by kernel_rfl
def slices_BinarySearch__int_int_l0 : RC :=
  RC.seq (RC.seq (RC.region 3 [
  ⟨some 13,.move (.t 7),none,0,[]⟩,
  ⟨some 14,.move (.t 8),none,1,[]⟩,
  ⟨some 15,.bin .lss (.t 13) (.t 14),none,2,[]⟩]) (RC.cond (.t 15) (RC.skip) (RC.exit 0))) (RC.block 1 (RC.seq (RC.region 7 [
  ⟨some 16,.move (.t 7),none,0,[]⟩,
  ⟨some 17,.move (.t 8),none,1,[]⟩,
  ⟨some 18,.bin .add (.t 16) (.t 17),none,2,[]⟩,
  ⟨some 19,.conv .u64 (.t 18),none,3,[]⟩,
  ⟨some 20,.bin .shr (.t 19) (.c (.s (.int .u64 1))),none,4,[]⟩,
  ⟨some 21,.conv .i64 (.t 20),none,5,[]⟩,
  ⟨some 9,.move (.t 21),none,6,[]⟩]) (RC.seq (RC.region 6 [
  ⟨some 22,.move (.t 0),none,0,[]⟩,
  ⟨some 23,.move (.t 9),none,1,[]⟩,
  ⟨some 24,.indexSl 1 (.t 22) (.t 23),none,2,[]⟩,
  ⟨some 25,.load none (.t 24),none,3,[]⟩,
  ⟨some 26,.move (.t 1),none,4,[]⟩,
  ⟨some 27,.call F.cmp_Less_int [(.t 25),(.t 26)],none,5,[]⟩]) (RC.cond (.t 27) (RC.region 3 [
  ⟨some 28,.move (.t 9),none,0,[]⟩,
  ⟨some 29,.bin .add (.t 28) (.c (.s (.int .i64 1))),none,1,[]⟩,
  ⟨some 7,.move (.t 29),none,2,[]⟩]) (RC.region 2 [
  ⟨some 30,.move (.t 9),none,0,[]⟩,
  ⟨some 8,.move (.t 30),none,1,[]⟩])))))
def slices_BinarySearch__int_int_s1 : RC :=
  RC.seq (RC.region 25 [
  ⟨some 31,.move (.t 7),none,0,[]⟩,
  ⟨some 32,.move (.t 7),none,1,[]⟩,
  ⟨some 33,.move (.t 6),none,2,[]⟩,
  ⟨some 34,.bin .lss (.t 32) (.t 33),none,3,[]⟩,
  ⟨some 35,.move (.t 34),none,4,[]⟩,
  ⟨some 36,.move (.t 0),(some (35,true)),5,[]⟩,
  ⟨some 37,.move (.t 7),(some (35,true)),6,[]⟩,
  ⟨some 38,.indexSl 1 (.t 36) (.t 37),(some (35,true)),7,[]⟩,
  ⟨some 39,.load none (.t 38),(some (35,true)),8,[]⟩,
  ⟨some 40,.move (.t 1),(some (35,true)),9,[]⟩,
  ⟨some 41,.bin .eql (.t 39) (.t 40),(some (35,true)),10,[]⟩,
  ⟨some 42,.move (.t 41),(some (35,true)),11,[]⟩,
  ⟨some 43,.move (.t 0),(some (42,false)),12,[]⟩,
  ⟨some 44,.move (.t 7),(some (42,false)),13,[]⟩,
  ⟨some 45,.indexSl 1 (.t 43) (.t 44),(some (42,false)),14,[]⟩,
  ⟨some 46,.load none (.t 45),(some (42,false)),15,[]⟩,
  ⟨some 47,.call F.slices_isNaN_int [(.t 46)],(some (42,false)),16,[]⟩,
  ⟨some 48,.move (.t 47),(some (42,false)),17,[]⟩,
  ⟨some 49,.move (.t 1),(some (48,true)),18,[]⟩,
  ⟨some 50,.call F.slices_isNaN_int [(.t 49)],(some (48,true)),19,[]⟩,
  ⟨some 51,.pick (.t 48) (.t 50) (.c (.s (.bool false))),(some (42,false)),20,[]⟩,
  ⟨some 52,.pick (.t 42) (.c (.s (.bool true))) (.t 51),(some (35,true)),21,[]⟩,
  ⟨some 53,.pick (.t 35) (.t 52) (.c (.s (.bool false))),none,22,[]⟩,
  ⟨some 4,.move (.t 31),none,23,[]⟩,
  ⟨some 5,.move (.t 53),none,24,[]⟩]) (RC.ret)
def slices_BinarySearch__int_int : RFunc := RFunc.mk 54 [.tmp 4,.tmp 5] (
  RC.seq (RC.region 2 [
  ⟨some 4,.move (.c (.s (.int .i64 0))),none,0,[]⟩,
  ⟨some 5,.move (.c (.s (.bool false))),none,1,[]⟩]) (RC.seq (RC.region 3 [
  ⟨some 10,.move (.t 0),none,0,[]⟩,
  ⟨some 11,.len (.t 10),none,1,[]⟩,
  ⟨some 6,.move (.t 11),none,2,[]⟩]) (RC.seq (RC.region 3 [
  ⟨some 12,.move (.t 6),none,0,[]⟩,
  ⟨some 7,.move (.c (.s (.int .i64 0))),none,1,[]⟩,
  ⟨some 8,.move (.t 12),none,2,[]⟩]) (RC.seq (RC.block 0 (RC.loop R.slices_BinarySearch__int_int_l0)) R.slices_BinarySearch__int_int_s1))))
theorem slices_BinarySearch__int_int_ok : chkFunc Go.Proofs.Tryz.prog [0] Go.Proofs.Tryz.f239 slices_BinarySearch__int_int = true := by kernel_rfl
def nums_Align : RFunc := RFunc.mk 28 [.tmp 4] (
  RC.seq (RC.region 1 [
  ⟨some 4,.move (.c (.s (.int .i64 0))),none,0,[]⟩]) (RC.seq (RC.seq (RC.region 14 [
  ⟨some 5,.move (.t 0),none,0,[]⟩,
  ⟨some 6,.bin .lss (.t 5) (.c (.s (.int .i64 0))),none,1,[]⟩,
  ⟨some 7,.move (.t 6),none,2,[]⟩,
  ⟨some 8,.move (.t 0),(some (7,false)),3,[]⟩,
  ⟨some 9,.bin .gtr (.t 8) (.c (.s (.int .i64 1073741824))),(some (7,false)),4,[]⟩,
  ⟨some 10,.pick (.t 7) (.c (.s (.bool true))) (.t 9),none,5,[]⟩,
  ⟨some 11,.move (.t 10),none,6,[]⟩,
  ⟨some 12,.move (.t 1),(some (11,false)),7,[]⟩,
  ⟨some 13,.bin .lss (.t 12) (.c (.s (.int .i64 1))),(some (11,false)),8,[]⟩,
  ⟨some 14,.pick (.t 11) (.c (.s (.bool true))) (.t 13),none,9,[]⟩,
  ⟨some 15,.move (.t 14),none,10,[]⟩,
  ⟨some 16,.move (.t 1),(some (15,false)),11,[]⟩,
  ⟨some 17,.bin .gtr (.t 16) (.c (.s (.int .i64 4096))),(some (15,false)),12,[]⟩,
  ⟨some 18,.pick (.t 15) (.c (.s (.bool true))) (.t 17),none,13,[]⟩]) (RC.cond (.t 18) (RC.seq (RC.region 2 [
  ⟨some 19,.move (.t 0),none,0,[]⟩,
  ⟨some 4,.move (.t 19),none,1,[]⟩]) (RC.ret)) (RC.skip))) (RC.seq (RC.region 9 [
  ⟨some 20,.move (.t 0),none,0,[]⟩,
  ⟨some 21,.move (.t 1),none,1,[]⟩,
  ⟨some 22,.bin .add (.t 20) (.t 21),none,2,[]⟩,
  ⟨some 23,.bin .sub (.t 22) (.c (.s (.int .i64 1))),none,3,[]⟩,
  ⟨some 24,.move (.t 1),none,4,[]⟩,
  ⟨some 25,.bin .quo (.t 23) (.t 24),none,5,[]⟩,
  ⟨some 26,.move (.t 1),none,6,[]⟩,
  ⟨some 27,.bin .mul (.t 25) (.t 26),none,7,[]⟩,
  ⟨some 4,.move (.t 27),none,8,[]⟩]) (RC.ret))))
theorem nums_Align_ok : chkFunc Go.Proofs.Tryz.prog [0] Go.Proofs.Tryz.f107 nums_Align = true := by kernel_rfl
def slices_Insert__int_int : RFunc := RFunc.mk 95 [.tmp 6] (
  RC.seq (RC.region 1 [
  ⟨some 6,.move (.c (.s (.slice none 0 0 1))),none,0,[]⟩]) (RC.seq (RC.region 3 [
  ⟨some 10,.move (.t 0),none,0,[]⟩,
  ⟨some 11,.move (.t 1),none,1,[]⟩,
  ⟨some 12,.slSl 1 (.t 10) (some (.t 11)) none none,none,2,[]⟩]) (RC.seq (RC.region 3 [
  ⟨some 13,.move (.t 2),none,0,[]⟩,
  ⟨some 14,.len (.t 13),none,1,[]⟩,
  ⟨some 7,.move (.t 14),none,2,[]⟩]) (RC.seq (RC.seq (RC.region 2 [
  ⟨some 15,.move (.t 7),none,0,[]⟩,
  ⟨some 16,.bin .eql (.t 15) (.c (.s (.int .i64 0))),none,1,[]⟩]) (RC.cond (.t 16) (RC.seq (RC.region 2 [
  ⟨some 17,.move (.t 0),none,0,[]⟩,
  ⟨some 6,.move (.t 17),none,1,[]⟩]) (RC.ret)) (RC.skip))) (RC.seq (RC.region 3 [
  ⟨some 18,.move (.t 0),none,0,[]⟩,
  ⟨some 19,.len (.t 18),none,1,[]⟩,
  ⟨some 8,.move (.t 19),none,2,[]⟩]) (RC.seq (RC.seq (RC.region 3 [
  ⟨some 20,.move (.t 1),none,0,[]⟩,
  ⟨some 21,.move (.t 8),none,1,[]⟩,
  ⟨some 22,.bin .eql (.t 20) (.t 21),none,2,[]⟩]) (RC.cond (.t 22) (RC.seq (RC.region 4 [
  ⟨some 23,.move (.t 0),none,0,[]⟩,
  ⟨some 24,.move (.t 2),none,1,[]⟩,
  ⟨some 25,.append 1 8 (.t 23) (.t 24),none,2,[]⟩,
  ⟨some 6,.move (.t 25),none,3,[]⟩]) (RC.ret)) (RC.skip))) (RC.seq (RC.seq (RC.region 6 [
  ⟨some 26,.move (.t 8),none,0,[]⟩,
  ⟨some 27,.move (.t 7),none,1,[]⟩,
  ⟨some 28,.bin .add (.t 26) (.t 27),none,2,[]⟩,
  ⟨some 29,.move (.t 0),none,3,[]⟩,
  ⟨some 30,.stuck,none,4,[]⟩,
  ⟨some 31,.bin .gtr (.t 28) (.t 30),none,5,[]⟩]) (RC.cond (.t 31) (RC.seq (RC.region 10 [
  ⟨some 32,.move (.t 0),none,0,[]⟩,
  ⟨some 33,.move (.t 1),none,1,[]⟩,
  ⟨some 34,.slSl 1 (.t 32) none (some (.t 33)) none,none,2,[]⟩,
  ⟨some 35,.move (.t 8),none,3,[]⟩,
  ⟨some 36,.move (.t 7),none,4,[]⟩,
  ⟨some 37,.bin .add (.t 35) (.t 36),none,5,[]⟩,
  ⟨some 38,.move (.t 1),none,6,[]⟩,
  ⟨some 39,.bin .sub (.t 37) (.t 38),none,7,[]⟩,
  ⟨some 40,.stuck,none,8,[]⟩,
  ⟨some 9,.move (.t 40),none,9,[]⟩]) (RC.seq (RC.region 5 [
  ⟨some 41,.move (.t 9),none,0,[]⟩,
  ⟨some 42,.move (.t 1),none,1,[]⟩,
  ⟨some 43,.slSl 1 (.t 41) (some (.t 42)) none none,none,2,[]⟩,
  ⟨some 44,.move (.t 2),none,3,[]⟩,
  ⟨some 45,.copy 1 (.t 43) (.t 44),none,4,[]⟩]) (RC.seq (RC.region 9 [
  ⟨some 46,.move (.t 9),none,0,[]⟩,
  ⟨some 47,.move (.t 1),none,1,[]⟩,
  ⟨some 48,.move (.t 7),none,2,[]⟩,
  ⟨some 49,.bin .add (.t 47) (.t 48),none,3,[]⟩,
  ⟨some 50,.slSl 1 (.t 46) (some (.t 49)) none none,none,4,[]⟩,
  ⟨some 51,.move (.t 0),none,5,[]⟩,
  ⟨some 52,.move (.t 1),none,6,[]⟩,
  ⟨some 53,.slSl 1 (.t 51) (some (.t 52)) none none,none,7,[]⟩,
  ⟨some 54,.copy 1 (.t 50) (.t 53),none,8,[]⟩]) (RC.seq (RC.region 2 [
  ⟨some 55,.move (.t 9),none,0,[]⟩,
  ⟨some 6,.move (.t 55),none,1,[]⟩]) (RC.ret))))) (RC.skip))) (RC.seq (RC.region 6 [
  ⟨some 56,.move (.t 0),none,0,[]⟩,
  ⟨some 57,.move (.t 8),none,1,[]⟩,
  ⟨some 58,.move (.t 7),none,2,[]⟩,
  ⟨some 59,.bin .add (.t 57) (.t 58),none,3,[]⟩,
  ⟨some 60,.slSl 1 (.t 56) none (some (.t 59)) none,none,4,[]⟩,
  ⟨some 0,.move (.t 60),none,5,[]⟩]) (RC.seq (RC.seq (RC.region 8 [
  ⟨some 61,.move (.t 2),none,0,[]⟩,
  ⟨some 62,.move (.t 0),none,1,[]⟩,
  ⟨some 63,.move (.t 1),none,2,[]⟩,
  ⟨some 64,.move (.t 7),none,3,[]⟩,
  ⟨some 65,.bin .add (.t 63) (.t 64),none,4,[]⟩,
  ⟨some 66,.slSl 1 (.t 62) (some (.t 65)) none none,none,5,[]⟩,
  ⟨some 67,.call F.slices_overlaps_int [(.t 61),(.t 66)],none,6,[]⟩,
  ⟨some 68,.un .not (.t 67),none,7,[]⟩]) (RC.cond (.t 68) (RC.seq (RC.region 9 [
  ⟨some 69,.move (.t 0),none,0,[]⟩,
  ⟨some 70,.move (.t 1),none,1,[]⟩,
  ⟨some 71,.move (.t 7),none,2,[]⟩,
  ⟨some 72,.bin .add (.t 70) (.t 71),none,3,[]⟩,
  ⟨some 73,.slSl 1 (.t 69) (some (.t 72)) none none,none,4,[]⟩,
  ⟨some 74,.move (.t 0),none,5,[]⟩,
  ⟨some 75,.move (.t 1),none,6,[]⟩,
  ⟨some 76,.slSl 1 (.t 74) (some (.t 75)) none none,none,7,[]⟩,
  ⟨some 77,.copy 1 (.t 73) (.t 76),none,8,[]⟩]) (RC.seq (RC.region 5 [
  ⟨some 78,.move (.t 0),none,0,[]⟩,
  ⟨some 79,.move (.t 1),none,1,[]⟩,
  ⟨some 80,.slSl 1 (.t 78) (some (.t 79)) none none,none,2,[]⟩,
  ⟨some 81,.move (.t 2),none,3,[]⟩,
  ⟨some 82,.copy 1 (.t 80) (.t 81),none,4,[]⟩]) (RC.seq (RC.region 2 [
  ⟨some 83,.move (.t 0),none,0,[]⟩,
  ⟨some 6,.move (.t 83),none,1,[]⟩]) (RC.ret)))) (RC.skip))) (RC.seq (RC.region 5 [
  ⟨some 84,.move (.t 0),none,0,[]⟩,
  ⟨some 85,.move (.t 8),none,1,[]⟩,
  ⟨some 86,.slSl 1 (.t 84) (some (.t 85)) none none,none,2,[]⟩,
  ⟨some 87,.move (.t 2),none,3,[]⟩,
  ⟨some 88,.copy 1 (.t 86) (.t 87),none,4,[]⟩]) (RC.seq (RC.region 5 [
  ⟨some 89,.move (.t 0),none,0,[]⟩,
  ⟨some 90,.move (.t 1),none,1,[]⟩,
  ⟨some 91,.slSl 1 (.t 89) (some (.t 90)) none none,none,2,[]⟩,
  ⟨some 92,.move (.t 7),none,3,[]⟩,
  ⟨some 93,.call F.slices_rotateRight_int [(.t 91),(.t 92)],none,4,[]⟩]) (RC.seq (RC.region 2 [
  ⟨some 94,.move (.t 0),none,0,[]⟩,
  ⟨some 6,.move (.t 94),none,1,[]⟩]) (RC.ret)))))))))))))
theorem slices_Insert__int_int_ok : chkFunc Go.Proofs.Tryz.prog [0] Go.Proofs.Tryz.f240 slices_Insert__int_int = true := by kernel_rfl
def cyc_Hands_cyc : RFunc := RFunc.mk 23 [.tmp 4] (
  RC.seq (RC.region 1 [
  ⟨some 4,.move (.c (.s (.ptr none))),none,0,[]⟩]) (RC.seq (RC.seq (RC.region 11 [
  ⟨some 5,.move (.t 1),none,0,[]⟩,
  ⟨some 6,.bin .lss (.t 5) (.c (.s (.int .i64 1))),none,1,[]⟩,
  ⟨some 7,.move (.t 6),none,2,[]⟩,
  ⟨some 8,.move (.t 1),(some (7,false)),3,[]⟩,
  ⟨some 9,.move (.t 0),(some (7,false)),4,[]⟩,
  ⟨some 10,.nilCheck (.t 9),(some (7,false)),5,[]⟩,
  ⟨some 11,.fieldAddr 2 (.t 10),(some (7,false)),6,[]⟩,
  ⟨some 12,.load none (.t 11),(some (7,false)),7,[]⟩,
  ⟨some 13,.len (.t 12),(some (7,false)),8,[]⟩,
  ⟨some 14,.bin .gtr (.t 8) (.t 13),(some (7,false)),9,[]⟩,
  ⟨some 15,.pick (.t 7) (.c (.s (.bool true))) (.t 14),none,10,[]⟩]) (RC.cond (.t 15) (RC.seq (RC.region 1 [
  ⟨some 4,.move (.c (.s (.ptr none))),none,0,[]⟩]) (RC.ret)) (RC.skip))) (RC.seq (RC.region 8 [
  ⟨some 16,.move (.t 0),none,0,[]⟩,
  ⟨some 17,.nilCheck (.t 16),none,1,[]⟩,
  ⟨some 18,.fieldAddr 2 (.t 17),none,2,[]⟩,
  ⟨some 19,.load none (.t 18),none,3,[]⟩,
  ⟨some 20,.move (.t 1),none,4,[]⟩,
  ⟨some 21,.bin .sub (.t 20) (.c (.s (.int .i64 1))),none,5,[]⟩,
  ⟨some 22,.indexSl 5 (.t 19) (.t 21),none,6,[]⟩,
  ⟨some 4,.move (.t 22),none,7,[]⟩]) (RC.ret))))
theorem cyc_Hands_cyc_ok : chkFunc Go.Proofs.Tryz.prog [0] Go.Proofs.Tryz.f241 cyc_Hands_cyc = true := by kernel_rfl
def cyc_Hands_alarm : RFunc := RFunc.mk 23 [.tmp 4] (
  RC.seq (RC.region 1 [
  ⟨some 4,.move (.c (.s (.ptr none))),none,0,[]⟩]) (RC.seq (RC.seq (RC.region 11 [
  ⟨some 5,.move (.t 1),none,0,[]⟩,
  ⟨some 6,.bin .lss (.t 5) (.c (.s (.int .i64 1))),none,1,[]⟩,
  ⟨some 7,.move (.t 6),none,2,[]⟩,
  ⟨some 8,.move (.t 1),(some (7,false)),3,[]⟩,
  ⟨some 9,.move (.t 0),(some (7,false)),4,[]⟩,
  ⟨some 10,.nilCheck (.t 9),(some (7,false)),5,[]⟩,
  ⟨some 11,.fieldAddr 3 (.t 10),(some (7,false)),6,[]⟩,
  ⟨some 12,.load none (.t 11),(some (7,false)),7,[]⟩,
  ⟨some 13,.len (.t 12),(some (7,false)),8,[]⟩,
  ⟨some 14,.bin .gtr (.t 8) (.t 13),(some (7,false)),9,[]⟩,
  ⟨some 15,.pick (.t 7) (.c (.s (.bool true))) (.t 14),none,10,[]⟩]) (RC.cond (.t 15) (RC.seq (RC.region 1 [
  ⟨some 4,.move (.c (.s (.ptr none))),none,0,[]⟩]) (RC.ret)) (RC.skip))) (RC.seq (RC.region 8 [
  ⟨some 16,.move (.t 0),none,0,[]⟩,
  ⟨some 17,.nilCheck (.t 16),none,1,[]⟩,
  ⟨some 18,.fieldAddr 3 (.t 17),none,2,[]⟩,
  ⟨some 19,.load none (.t 18),none,3,[]⟩,
  ⟨some 20,.move (.t 1),none,4,[]⟩,
  ⟨some 21,.bin .sub (.t 20) (.c (.s (.int .i64 1))),none,5,[]⟩,
  ⟨some 22,.indexSl 2 (.t 19) (.t 21),none,6,[]⟩,
  ⟨some 4,.move (.t 22),none,7,[]⟩]) (RC.ret))))
theorem cyc_Hands_alarm_ok : chkFunc Go.Proofs.Tryz.prog [0] Go.Proofs.Tryz.f242 cyc_Hands_alarm = true := by kernel_rfl
def bits_Map_First : RFunc := RFunc.mk 8 [.tmp 2,.tmp 3] (
  RC.seq (RC.region 2 [
  ⟨some 2,.move (.c (.s (.int .i64 0))),none,0,[]⟩,
  ⟨some 3,.move (.c (.s (.bool false))),none,1,[]⟩]) (RC.seq (RC.region 6 [
  ⟨some 4,.move (.t 0),none,0,[]⟩,
  ⟨some 5,.call F.bits_Map_After [(.t 4),(.c (.s (.int .i64 0)))],none,1,[]⟩,
  ⟨some 6,.extract 0 (.t 5),none,2,[]⟩,
  ⟨some 7,.extract 1 (.t 5),none,3,[]⟩,
  ⟨some 2,.move (.t 6),none,4,[]⟩,
  ⟨some 3,.move (.t 7),none,5,[]⟩]) (RC.ret)))
theorem bits_Map_First_ok : chkFunc Go.Proofs.Tryz.prog [0] Go.Proofs.Tryz.f243 bits_Map_First = true := by kernel_rfl
def heap_Timers_Due_l0 : RC :=
  RC.seq (RC.seq (RC.region 17 [
  ⟨some 6,.move (.t 0),none,0,[]⟩,
  ⟨some 7,.nilCheck (.t 6),none,1,[]⟩,
  ⟨some 8,.fieldAddr 0 (.t 7),none,2,[]⟩,
  ⟨some 9,.load none (.t 8),none,3,[]⟩,
  ⟨some 10,.len (.t 9),none,4,[]⟩,
  ⟨some 11,.bin .gtr (.t 10) (.c (.s (.int .i64 0))),none,5,[]⟩,
  ⟨some 12,.move (.t 11),none,6,[]⟩,
  ⟨some 13,.move (.t 0),(some (12,true)),7,[]⟩,
  ⟨some 14,.nilCheck (.t 13),(some (12,true)),8,[]⟩,
  ⟨some 15,.fieldAddr 0 (.t 14),(some (12,true)),9,[]⟩,
  ⟨some 16,.load none (.t 15),(some (12,true)),10,[]⟩,
  ⟨some 17,.indexSl 3 (.t 16) (.c (.s (.int .i64 0))),(some (12,true)),11,[]⟩,
  ⟨some 18,.fieldAddr 0 (.t 17),(some (12,true)),12,[]⟩,
  ⟨some 19,.load none (.t 18),(some (12,true)),13,[]⟩,
  ⟨some 20,.move (.t 1),(some (12,true)),14,[]⟩,
  ⟨some 21,.bin .leq (.t 19) (.t 20),(some (12,true)),15,[]⟩,
  ⟨some 22,.pick (.t 12) (.t 21) (.c (.s (.bool false))),none,16,[]⟩]) (RC.cond (.t 22) (RC.skip) (RC.exit 0))) (RC.block 1 (RC.seq (RC.region 11 [
  ⟨some 23,.move (.t 5),none,0,[]⟩,
  ⟨some 24,.move (.t 0),none,1,[]⟩,
  ⟨some 25,.nilCheck (.t 24),none,2,[]⟩,
  ⟨some 26,.fieldAddr 0 (.t 25),none,3,[]⟩,
  ⟨some 27,.load none (.t 26),none,4,[]⟩,
  ⟨some 28,.indexSl 3 (.t 27) (.c (.s (.int .i64 0))),none,5,[]⟩,
  ⟨some 29,.fieldAddr 2 (.t 28),none,6,[]⟩,
  ⟨some 30,.load none (.t 29),none,7,[]⟩,
  ⟨some 31,.buildSlice 1 1 [.int .i64 0] [(0,1,(.t 30))],none,8,[]⟩,
  ⟨some 32,.append 1 8 (.t 23) (.t 31),none,9,[]⟩,
  ⟨some 5,.move (.t 32),none,10,[]⟩]) (RC.region 2 [
  ⟨some 33,.move (.t 0),none,0,[]⟩,
  ⟨some 34,.call F.heap_Timers_remove [(.t 33),(.c (.s (.int .i64 0)))],none,1,[]⟩])))
def heap_Timers_Due_s1 : RC :=
  RC.seq (RC.region 2 [
  ⟨some 35,.move (.t 5),none,0,[]⟩,
  ⟨some 4,.move (.t 35),none,1,[]⟩]) (RC.ret)
def heap_Timers_Due : RFunc := RFunc.mk 36 [.tmp 4] (
  RC.seq (RC.region 1 [
  ⟨some 4,.move (.c (.s (.slice none 0 0 1))),none,0,[]⟩]) (RC.seq (RC.region 1 [
  ⟨some 5,.move (.c (.s (.slice none 0 0 1))),none,0,[]⟩]) (RC.seq (RC.block 0 (RC.loop R.heap_Timers_Due_l0)) R.heap_Timers_Due_s1)))
theorem heap_Timers_Due_ok : chkFunc Go.Proofs.Tryz.prog [0] Go.Proofs.Tryz.f244 heap_Timers_Due = true := by kernel_rfl
def slices_stableCmpFunc_cyc_Fired_l0 : RC :=
  RC.seq (RC.seq (RC.region 3 [
  ⟨some 11,.move (.t 8),none,0,[]⟩,
  ⟨some 12,.move (.t 1),none,1,[]⟩,
  ⟨some 13,.bin .leq (.t 11) (.t 12),none,2,[]⟩]) (RC.cond (.t 13) (RC.skip) (RC.exit 0))) (RC.block 1 (RC.seq (RC.region 5 [
  ⟨some 14,.move (.t 0),none,0,[]⟩,
  ⟨some 15,.move (.t 7),none,1,[]⟩,
  ⟨some 16,.move (.t 8),none,2,[]⟩,
  ⟨some 17,.move (.t 2),none,3,[]⟩,
  ⟨some 18,.call F.slices_insertionSortCmpFunc_cyc_Fired [(.t 14),(.t 15),(.t 16),(.t 17)],none,4,[]⟩]) (RC.seq (RC.region 2 [
  ⟨some 19,.move (.t 8),none,0,[]⟩,
  ⟨some 7,.move (.t 19),none,1,[]⟩]) (RC.region 4 [
  ⟨some 20,.move (.t 8),none,0,[]⟩,
  ⟨some 21,.move (.t 6),none,1,[]⟩,
  ⟨some 22,.bin .add (.t 20) (.t 21),none,2,[]⟩,
  ⟨some 8,.move (.t 22),none,3,[]⟩]))))
def slices_stableCmpFunc_cyc_Fired_l1 : RC :=
  RC.seq (RC.seq (RC.region 3 [
  ⟨some 33,.move (.t 8),none,0,[]⟩,
  ⟨some 34,.move (.t 1),none,1,[]⟩,
  ⟨some 35,.bin .leq (.t 33) (.t 34),none,2,[]⟩]) (RC.cond (.t 35) (RC.skip) (RC.exit 4))) (RC.block 5 (RC.seq (RC.region 8 [
  ⟨some 36,.move (.t 0),none,0,[]⟩,
  ⟨some 37,.move (.t 7),none,1,[]⟩,
  ⟨some 38,.move (.t 7),none,2,[]⟩,
  ⟨some 39,.move (.t 6),none,3,[]⟩,
  ⟨some 40,.bin .add (.t 38) (.t 39),none,4,[]⟩,
  ⟨some 41,.move (.t 8),none,5,[]⟩,
  ⟨some 42,.move (.t 2),none,6,[]⟩,
  ⟨some 43,.call F.slices_symMergeCmpFunc_cyc_Fired [(.t 36),(.t 37),(.t 40),(.t 41),(.t 42)],none,7,[]⟩]) (RC.seq (RC.region 2 [
  ⟨some 44,.move (.t 8),none,0,[]⟩,
  ⟨some 7,.move (.t 44),none,1,[]⟩]) (RC.region 5 [
  ⟨some 45,.move (.t 8),none,0,[]⟩,
  ⟨some 46,.move (.t 6),none,1,[]⟩,
  ⟨some 47,.bin .mul (.c (.s (.int .i64 2))) (.t 46),none,2,[]⟩,
  ⟨some 48,.bin .add (.t 45) (.t 47),none,3,[]⟩,
  ⟨some 8,.move (.t 48),none,4,[]⟩]))))
def slices_stableCmpFunc_cyc_Fired_s2 : RC :=
  RC.seq (RC.seq (RC.region 4 [
  ⟨some 49,.move (.t 7),none,0,[]⟩,
  ⟨some 50,.move (.t 6),none,1,[]⟩,
  ⟨some 51,.bin .add (.t 49) (.t 50),none,2,[]⟩,
  ⟨some 9,.move (.t 51),none,3,[]⟩]) (RC.seq (RC.region 3 [
  ⟨some 52,.move (.t 9),none,0,[]⟩,
  ⟨some 53,.move (.t 1),none,1,[]⟩,
  ⟨some 54,.bin .lss (.t 52) (.t 53),none,2,[]⟩]) (RC.cond (.t 54) (RC.region 6 [
  ⟨some 55,.move (.t 0),none,0,[]⟩,
  ⟨some 56,.move (.t 7),none,1,[]⟩,
  ⟨some 57,.move (.t 9),none,2,[]⟩,
  ⟨some 58,.move (.t 1),none,3,[]⟩,
  ⟨some 59,.move (.t 2),none,4,[]⟩,
  ⟨some 60,.call F.slices_symMergeCmpFunc_cyc_Fired [(.t 55),(.t 56),(.t 57),(.t 58),(.t 59)],none,5,[]⟩]) (RC.skip)))) (RC.region 3 [
  ⟨some 61,.move (.t 6),none,0,[]⟩,
  ⟨some 62,.bin .mul (.t 61) (.c (.s (.int .i64 2))),none,1,[]⟩,
  ⟨some 6,.move (.t 62),none,2,[]⟩])
def slices_stableCmpFunc_cyc_Fired_l3 : RC :=
  RC.seq (RC.seq (RC.region 3 [
  ⟨some 28,.move (.t 6),none,0,[]⟩,
  ⟨some 29,.move (.t 1),none,1,[]⟩,
  ⟨some 30,.bin .lss (.t 28) (.t 29),none,2,[]⟩]) (RC.cond (.t 30) (RC.skip) (RC.exit 2))) (RC.block 3 (RC.seq (RC.region 4 [
  ⟨some 31,.move (.t 6),none,0,[]⟩,
  ⟨some 32,.bin .mul (.c (.s (.int .i64 2))) (.t 31),none,1,[]⟩,
  ⟨some 7,.move (.c (.s (.int .i64 0))),none,2,[]⟩,
  ⟨some 8,.move (.t 32),none,3,[]⟩]) (RC.seq (RC.block 4 (RC.loop R.slices_stableCmpFunc_cyc_Fired_l1)) R.slices_stableCmpFunc_cyc_Fired_s2)))
def slices_stableCmpFunc_cyc_Fired_s4 : RC :=
  RC.seq (RC.region 5 [
  ⟨some 23,.move (.t 0),none,0,[]⟩,
  ⟨some 24,.move (.t 7),none,1,[]⟩,
  ⟨some 25,.move (.t 1),none,2,[]⟩,
  ⟨some 26,.move (.t 2),none,3,[]⟩,
  ⟨some 27,.call F.slices_insertionSortCmpFunc_cyc_Fired [(.t 23),(.t 24),(.t 25),(.t 26)],none,4,[]⟩]) (RC.block 2 (RC.loop R.slices_stableCmpFunc_cyc_Fired_l3))
def slices_stableCmpFunc_cyc_Fired : RFunc := RFunc.mk 63 [] (
  RC.seq (RC.region 1 [
  ⟨some 6,.move (.c (.s (.int .i64 20))),none,0,[]⟩]) (RC.seq (RC.region 3 [
  ⟨some 10,.move (.t 6),none,0,[]⟩,
  ⟨some 7,.move (.c (.s (.int .i64 0))),none,1,[]⟩,
  ⟨some 8,.move (.t 10),none,2,[]⟩]) (RC.seq (RC.block 0 (RC.loop R.slices_stableCmpFunc_cyc_Fired_l0)) R.slices_stableCmpFunc_cyc_Fired_s4)))
theorem slices_stableCmpFunc_cyc_Fired_ok : chkFunc Go.Proofs.Tryz.prog [0] Go.Proofs.Tryz.f245 slices_stableCmpFunc_cyc_Fired = true := by kernel_rfl
def cmp_Compare_uint64 : RFunc := RFunc.mk 20 [.tmp 4] (
  RC.seq (RC.region 1 [
  ⟨some 4,.move (.c (.s (.int .i64 0))),none,0,[]⟩]) (RC.seq (RC.region 3 [
  ⟨some 7,.move (.t 0),none,0,[]⟩,
  ⟨some 8,.call F.cmp_isNaN_uint64 [(.t 7)],none,1,[]⟩,
  ⟨some 5,.move (.t 8),none,2,[]⟩]) (RC.seq (RC.region 3 [
  ⟨some 9,.move (.t 1),none,0,[]⟩,
  ⟨some 10,.call F.cmp_isNaN_uint64 [(.t 9)],none,1,[]⟩,
  ⟨some 6,.move (.t 10),none,2,[]⟩]) (RC.seq (RC.seq (RC.region 1 [
  ⟨some 11,.move (.t 5),none,0,[]⟩]) (RC.cond (.t 11) (RC.seq (RC.seq (RC.region 1 [
  ⟨some 12,.move (.t 6),none,0,[]⟩]) (RC.cond (.t 12) (RC.seq (RC.region 1 [
  ⟨some 4,.move (.c (.s (.int .i64 0))),none,0,[]⟩]) (RC.ret)) (RC.skip))) (RC.seq (RC.region 1 [
  ⟨some 4,.move (.c (.s (.int .i64 (-1)))),none,0,[]⟩]) (RC.ret))) (RC.skip))) (RC.seq (RC.seq (RC.region 1 [
  ⟨some 13,.move (.t 6),none,0,[]⟩]) (RC.cond (.t 13) (RC.seq (RC.region 1 [
  ⟨some 4,.move (.c (.s (.int .i64 1))),none,0,[]⟩]) (RC.ret)) (RC.skip))) (RC.seq (RC.seq (RC.region 3 [
  ⟨some 14,.move (.t 0),none,0,[]⟩,
  ⟨some 15,.move (.t 1),none,1,[]⟩,
  ⟨some 16,.bin .lss (.t 14) (.t 15),none,2,[]⟩]) (RC.cond (.t 16) (RC.seq (RC.region 1 [
  ⟨some 4,.move (.c (.s (.int .i64 (-1)))),none,0,[]⟩]) (RC.ret)) (RC.skip))) (RC.seq (RC.seq (RC.region 3 [
  ⟨some 17,.move (.t 0),none,0,[]⟩,
  ⟨some 18,.move (.t 1),none,1,[]⟩,
  ⟨some 19,.bin .gtr (.t 17) (.t 18),none,2,[]⟩]) (RC.cond (.t 19) (RC.seq (RC.region 1 [
  ⟨some 4,.move (.c (.s (.int .i64 1))),none,0,[]⟩]) (RC.ret)) (RC.skip))) (RC.seq (RC.region 1 [
  ⟨some 4,.move (.c (.s (.int .i64 0))),none,0,[]⟩]) (RC.ret)))))))))
theorem cmp_Compare_uint64_ok : chkFunc Go.Proofs.Tryz.prog [0] Go.Proofs.Tryz.f246 cmp_Compare_uint64 = true := by kernel_rfl
def cmp_Compare_int : RFunc := RFunc.mk 20 [.tmp 4] (
  RC.seq (RC.region 1 [
  ⟨some 4,.move (.c (.s (.int .i64 0))),none,0,[]⟩]) (RC.seq (RC.region 3 [
  ⟨some 7,.move (.t 0),none,0,[]⟩,
  ⟨some 8,.call F.cmp_isNaN_int [(.t 7)],none,1,[]⟩,
  ⟨some 5,.move (.t 8),none,2,[]⟩]) (RC.seq (RC.region 3 [
  ⟨some 9,.move (.t 1),none,0,[]⟩,
  ⟨some 10,.call F.cmp_isNaN_int [(.t 9)],none,1,[]⟩,
  ⟨some 6,.move (.t 10),none,2,[]⟩]) (RC.seq (RC.seq (RC.region 1 [
  ⟨some 11,.move (.t 5),none,0,[]⟩]) (RC.cond (.t 11) (RC.seq (RC.seq (RC.region 1 [
  ⟨some 12,.move (.t 6),none,0,[]⟩]) (RC.cond (.t 12) (RC.seq (RC.region 1 [
  ⟨some 4,.move (.c (.s (.int .i64 0))),none,0,[]⟩]) (RC.ret)) (RC.skip))) (RC.seq (RC.region 1 [
  ⟨some 4,.move (.c (.s (.int .i64 (-1)))),none,0,[]⟩]) (RC.ret))) (RC.skip))) (RC.seq (RC.seq (RC.region 1 [
  ⟨some 13,.move (.t 6),none,0,[]⟩]) (RC.cond (.t 13) (RC.seq (RC.region 1 [
  ⟨some 4,.move (.c (.s (.int .i64 1))),none,0,[]⟩]) (RC.ret)) (RC.skip))) (RC.seq (RC.seq (RC.region 3 [
  ⟨some 14,.move (.t 0),none,0,[]⟩,
  ⟨some 15,.move (.t 1),none,1,[]⟩,
  ⟨some 16,.bin .lss (.t 14) (.t 15),none,2,[]⟩]) (RC.cond (.t 16) (RC.seq (RC.region 1 [
  ⟨some 4,.move (.c (.s (.int .i64 (-1)))),none,0,[]⟩]) (RC.ret)) (RC.skip))) (RC.seq (RC.seq (RC.region 3 [
  ⟨some 17,.move (.t 0),none,0,[]⟩,
  ⟨some 18,.move (.t 1),none,1,[]⟩,
  ⟨some 19,.bin .gtr (.t 17) (.t 18),none,2,[]⟩]) (RC.cond (.t 19) (RC.seq (RC.region 1 [
  ⟨some 4,.move (.c (.s (.int .i64 1))),none,0,[]⟩]) (RC.ret)) (RC.skip))) (RC.seq (RC.region 1 [
  ⟨some 4,.move (.c (.s (.int .i64 0))),none,0,[]⟩]) (RC.ret)))))))))
theorem cmp_Compare_int_ok : chkFunc Go.Proofs.Tryz.prog [0] Go.Proofs.Tryz.f247 cmp_Compare_int = true := by kernel_rfl
def order_Line_at : RFunc := RFunc.mk 11 [.tmp 4] (
  RC.seq (RC.region 2 [
  ⟨some 3,.box (.t 1),none,0,[]⟩,
  ⟨some 4,.move (.c (.s (.int .i64 0))),none,1,[]⟩]) (RC.seq (RC.region 7 [
  ⟨some 5,.move (.t 0),none,0,[]⟩,
  ⟨some 6,.nilCheck (.t 5),none,1,[]⟩,
  ⟨some 7,.fieldAddr 0 (.t 6),none,2,[]⟩,
  ⟨some 8,.load none (.t 7),none,3,[]⟩,
  ⟨some 9,.makeFunc F.order_Line_at_1 [(.t 3)],none,4,[]⟩,
  ⟨some 10,.call F.slices_IndexFunc__order_Item_order_Item [(.t 8),(.t 9)],none,5,[]⟩,
  ⟨some 4,.move (.t 10),none,6,[]⟩]) (RC.ret)))
theorem order_Line_at_ok : chkFunc Go.Proofs.Tryz.prog [0] Go.Proofs.Tryz.f248 order_Line_at = true := by kernel_rfl
def slices_Delete__order_Item_order_Item : RFunc := RFunc.mk 33 [.tmp 6] (
  RC.seq (RC.region 1 [
  ⟨some 6,.move (.c (.s (.slice none 0 0 1))),none,0,[]⟩]) (RC.seq (RC.region 6 [
  ⟨some 8,.move (.t 0),none,0,[]⟩,
  ⟨some 9,.move (.t 1),none,1,[]⟩,
  ⟨some 10,.move (.t 2),none,2,[]⟩,
  ⟨some 11,.move (.t 0),none,3,[]⟩,
  ⟨some 12,.len (.t 11),none,4,[]⟩,
  ⟨some 13,.slSl 2 (.t 8) (some (.t 9)) (some (.t 10)) (some (.t 12)),none,5,[]⟩]) (RC.seq (RC.seq (RC.region 3 [
  ⟨some 14,.move (.t 1),none,0,[]⟩,
  ⟨some 15,.move (.t 2),none,1,[]⟩,
  ⟨some 16,.bin .eql (.t 14) (.t 15),none,2,[]⟩]) (RC.cond (.t 16) (RC.seq (RC.region 2 [
  ⟨some 17,.move (.t 0),none,0,[]⟩,
  ⟨some 6,.move (.t 17),none,1,[]⟩]) (RC.ret)) (RC.skip))) (RC.seq (RC.region 3 [
  ⟨some 18,.move (.t 0),none,0,[]⟩,
  ⟨some 19,.len (.t 18),none,1,[]⟩,
  ⟨some 7,.move (.t 19),none,2,[]⟩]) (RC.seq (RC.region 8 [
  ⟨some 20,.move (.t 0),none,0,[]⟩,
  ⟨some 21,.move (.t 1),none,1,[]⟩,
  ⟨some 22,.slSl 2 (.t 20) none (some (.t 21)) none,none,2,[]⟩,
  ⟨some 23,.move (.t 0),none,3,[]⟩,
  ⟨some 24,.move (.t 2),none,4,[]⟩,
  ⟨some 25,.slSl 2 (.t 23) (some (.t 24)) none none,none,5,[]⟩,
  ⟨some 26,.append 2 16 (.t 22) (.t 25),none,6,[]⟩,
  ⟨some 0,.move (.t 26),none,7,[]⟩]) (RC.seq (RC.region 6 [
  ⟨some 27,.move (.t 0),none,0,[]⟩,
  ⟨some 28,.move (.t 0),none,1,[]⟩,
  ⟨some 29,.len (.t 28),none,2,[]⟩,
  ⟨some 30,.move (.t 7),none,3,[]⟩,
  ⟨some 31,.slSl 2 (.t 27) (some (.t 29)) (some (.t 30)) none,none,4,[]⟩,
  ⟨none,.clear 2 [.int .i64 0,.int .i64 0] (.t 31),none,5,[]⟩]) (RC.seq (RC.region 2 [
  ⟨some 32,.move (.t 0),none,0,[]⟩,
  ⟨some 6,.move (.t 32),none,1,[]⟩]) (RC.ret))))))))
theorem slices_Delete__order_Item_order_Item_ok : chkFunc Go.Proofs.Tryz.prog [0] Go.Proofs.Tryz.f249 slices_Delete__order_Item_order_Item = true := by kernel_rfl
def slices_DeleteFunc__int_int_l0 : RC :=
  RC.seq (RC.seq (RC.region 4 [
  ⟨some 16,.move (.t 6),none,0,[]⟩,
  ⟨some 17,.move (.t 0),none,1,[]⟩,
  ⟨some 18,.len (.t 17),none,2,[]⟩,
  ⟨some 19,.bin .lss (.t 16) (.t 18),none,3,[]⟩]) (RC.cond (.t 19) (RC.skip) (RC.exit 0))) (RC.seq (RC.block 1 (RC.seq (RC.region 5 [
  ⟨some 22,.move (.t 0),none,0,[]⟩,
  ⟨some 23,.move (.t 6),none,1,[]⟩,
  ⟨some 24,.indexSl 1 (.t 22) (.t 23),none,2,[]⟩,
  ⟨some 25,.load none (.t 24),none,3,[]⟩,
  ⟨some 7,.move (.t 25),none,4,[]⟩]) (RC.seq (RC.region 4 [
  ⟨some 26,.move (.t 1),none,0,[]⟩,
  ⟨some 27,.move (.t 7),none,1,[]⟩,
  ⟨some 28,.callv (.t 26) [(.t 27)],none,2,[]⟩,
  ⟨some 29,.un .not (.t 28),none,3,[]⟩]) (RC.cond (.t 29) (RC.seq (RC.region 5 [
  ⟨some 30,.move (.t 0),none,0,[]⟩,
  ⟨some 31,.move (.t 5),none,1,[]⟩,
  ⟨some 32,.move (.t 7),none,2,[]⟩,
  ⟨some 33,.indexSl 1 (.t 30) (.t 31),none,3,[]⟩,
  ⟨none,.store 1 (.t 33) (.t 32),none,4,[]⟩]) (RC.region 3 [
  ⟨some 34,.move (.t 5),none,0,[]⟩,
  ⟨some 35,.bin .add (.t 34) (.c (.s (.int .i64 1))),none,1,[]⟩,
  ⟨some 5,.move (.t 35),none,2,[]⟩])) (RC.skip))))) (RC.region 3 [
  ⟨some 20,.move (.t 6),none,0,[]⟩,
  ⟨some 21,.bin .add (.t 20) (.c (.s (.int .i64 1))),none,1,[]⟩,
  ⟨some 6,.move (.t 21),none,2,[]⟩]))
def slices_DeleteFunc__int_int_s1 : RC :=
  RC.seq (RC.region 4 [
  ⟨some 36,.move (.t 0),none,0,[]⟩,
  ⟨some 37,.move (.t 5),none,1,[]⟩,
  ⟨some 38,.slSl 1 (.t 36) (some (.t 37)) none none,none,2,[]⟩,
  ⟨none,.clear 1 [.int .i64 0] (.t 38),none,3,[]⟩]) (RC.seq (RC.region 4 [
  ⟨some 39,.move (.t 0),none,0,[]⟩,
  ⟨some 40,.move (.t 5),none,1,[]⟩,
  ⟨some 41,.slSl 1 (.t 39) none (some (.t 40)) none,none,2,[]⟩,
  ⟨some 4,.move (.t 41),none,3,[]⟩]) (RC.ret))
def slices_DeleteFunc__int_int : RFunc := RFunc.mk 42 [.tmp 4] (
  RC.seq (RC.region 1 [
  ⟨some 4,.move (.c (.s (.slice none 0 0 1))),none,0,[]⟩]) (RC.seq (RC.region 4 [
  ⟨some 8,.move (.t 0),none,0,[]⟩,
  ⟨some 9,.move (.t 1),none,1,[]⟩,
  ⟨some 10,.call F.slices_IndexFunc__int_int [(.t 8),(.t 9)],none,2,[]⟩,
  ⟨some 5,.move (.t 10),none,3,[]⟩]) (RC.seq (RC.seq (RC.region 2 [
  ⟨some 11,.move (.t 5),none,0,[]⟩,
  ⟨some 12,.bin .eql (.t 11) (.c (.s (.int .i64 (-1)))),none,1,[]⟩]) (RC.cond (.t 12) (RC.seq (RC.region 2 [
  ⟨some 13,.move (.t 0),none,0,[]⟩,
  ⟨some 4,.move (.t 13),none,1,[]⟩]) (RC.ret)) (RC.skip))) (RC.seq (RC.seq (RC.region 3 [
  ⟨some 14,.move (.t 5),none,0,[]⟩,
  ⟨some 15,.bin .add (.t 14) (.c (.s (.int .i64 1))),none,1,[]⟩,
  ⟨some 6,.move (.t 15),none,2,[]⟩]) (RC.block 0 (RC.loop R.slices_DeleteFunc__int_int_l0))) R.slices_DeleteFunc__int_int_s1))))
theorem slices_DeleteFunc__int_int_ok : chkFunc Go.Proofs.Tryz.prog [0] Go.Proofs.Tryz.f250 slices_DeleteFunc__int_int = true := by kernel_rfl
def mtx_All_Drop_1 : RFunc := RFunc.mk 7 [.tmp 3] (
  RC.seq (RC.region 1 [
  ⟨some 3,.move (.c (.s (.bool false))),none,0,[]⟩]) (RC.seq (RC.region 4 [
  ⟨some 4,.move (.t 0),none,0,[]⟩,
  ⟨some 5,.load none (.t 1),none,1,[]⟩,
  ⟨some 6,.bin .eql (.t 4) (.t 5),none,2,[]⟩,
  ⟨some 3,.move (.t 6),none,3,[]⟩]) (RC.ret)))
theorem mtx_All_Drop_1_ok : chkFunc Go.Proofs.Tryz.prog [0] Go.Proofs.Tryz.f251 mtx_All_Drop_1 = true := by kernel_rfl
def ready_may : RFunc := RFunc.mk 9 [.tmp 2] (
  RC.seq (RC.region 1 [
  ⟨some 2,.move (.c (.s (.bool false))),none,0,[]⟩]) (RC.seq (RC.region 7 [
  ⟨some 3,.move (.t 0),none,0,[]⟩,
  ⟨some 4,.bin .geq (.t 3) (.c (.s (.int .i64 1))),none,1,[]⟩,
  ⟨some 5,.move (.t 4),none,2,[]⟩,
  ⟨some 6,.move (.t 0),(some (5,true)),3,[]⟩,
  ⟨some 7,.bin .leq (.t 6) (.c (.s (.int .i64 16))),(some (5,true)),4,[]⟩,
  ⟨some 8,.pick (.t 5) (.t 7) (.c (.s (.bool false))),none,5,[]⟩,
  ⟨some 2,.move (.t 8),none,6,[]⟩]) (RC.ret)))
theorem ready_may_ok : chkFunc Go.Proofs.Tryz.prog [0] Go.Proofs.Tryz.f252 ready_may = true := by kernel_rfl
def ready_Queue_put : RFunc := RFunc.mk 32 [] (
  RC.seq (RC.region 15 [
  ⟨some 6,.move (.t 0),none,0,[]⟩,
  ⟨some 7,.move (.t 2),none,1,[]⟩,
  ⟨some 8,.move (.t 0),none,2,[]⟩,
  ⟨some 9,.move (.t 2),none,3,[]⟩,
  ⟨some 10,.nilCheck (.t 8),none,4,[]⟩,
  ⟨some 11,.fieldAddr 4 (.t 10),none,5,[]⟩,
  ⟨some 12,.indexArr 17 1 (.t 11) (.t 9),none,6,[]⟩,
  ⟨some 13,.load none (.t 12),none,7,[]⟩,
  ⟨some 14,.move (.t 1),none,8,[]⟩,
  ⟨some 17,.nilCheck (.t 6),none,11,[]⟩,
  ⟨some 18,.fieldAddr 4 (.t 17),none,12,[]⟩,
  ⟨some 15,.buildSlice 1 1 [.int .i64 0] [(0,1,(.t 14))],none,9,[]⟩,
  ⟨some 16,.append 1 8 (.t 13) (.t 15),none,10,[]⟩,
  ⟨some 19,.indexArr 17 1 (.t 18) (.t 7),none,13,[]⟩,
  ⟨none,.store 1 (.t 19) (.t 16),none,14,[]⟩]) (RC.seq (RC.region 7 [
  ⟨some 20,.move (.t 0),none,0,[]⟩,
  ⟨some 21,.move (.t 1),none,1,[]⟩,
  ⟨some 22,.move (.t 2),none,2,[]⟩,
  ⟨some 23,.nilCheck (.t 20),none,3,[]⟩,
  ⟨some 24,.fieldAddr 21 (.t 23),none,4,[]⟩,
  ⟨some 25,.indexArr 17 1 (.t 24) (.t 21),none,5,[]⟩,
  ⟨none,.store 1 (.t 25) (.t 22),none,6,[]⟩]) (RC.region 6 [
  ⟨some 26,.move (.t 0),none,0,[]⟩,
  ⟨some 27,.nilCheck (.t 26),none,1,[]⟩,
  ⟨some 28,.fieldAddr 0 (.t 27),none,2,[]⟩,
  ⟨some 29,.move (.t 2),none,3,[]⟩,
  ⟨some 30,.buildSlice 1 1 [.int .i64 0] [(0,1,(.t 29))],none,4,[]⟩,
  ⟨some 31,.call F.bits_Map_Set [(.t 28),(.t 30)],none,5,[]⟩])))
theorem ready_Queue_put_ok : chkFunc Go.Proofs.Tryz.prog [0] Go.Proofs.Tryz.f253 ready_Queue_put = true := by kernel_rfl
def order_may : RFunc := RFunc.mk 9 [.tmp 2] (
  RC.seq (RC.region 1 [
  ⟨some 2,.move (.c (.s (.bool false))),none,0,[]⟩]) (RC.seq (RC.region 7 [
  ⟨some 3,.move (.t 0),none,0,[]⟩,
  ⟨some 4,.bin .geq (.t 3) (.c (.s (.int .i64 1))),none,1,[]⟩,
  ⟨some 5,.move (.t 4),none,2,[]⟩,
  ⟨some 6,.move (.t 0),(some (5,true)),3,[]⟩,
  ⟨some 7,.bin .leq (.t 6) (.c (.s (.int .i64 16))),(some (5,true)),4,[]⟩,
  ⟨some 8,.pick (.t 5) (.t 7) (.c (.s (.bool false))),none,5,[]⟩,
  ⟨some 2,.move (.t 8),none,6,[]⟩]) (RC.ret)))
theorem order_may_ok : chkFunc Go.Proofs.Tryz.prog [0] Go.Proofs.Tryz.f254 order_may = true := by kernel_rfl
def order_Queue_put_l0 : RC :=
  RC.seq (RC.seq (RC.region 23 [
  ⟨some 11,.move (.t 0),none,0,[]⟩,
  ⟨some 12,.nilCheck (.t 11),none,1,[]⟩,
  ⟨some 13,.fieldAddr 1 (.t 12),none,2,[]⟩,
  ⟨some 14,.load none (.t 13),none,3,[]⟩,
  ⟨some 15,.move (.t 14),none,4,[]⟩,
  ⟨some 16,.move (.t 4),(some (15,true)),5,[]⟩,
  ⟨some 17,.bin .gtr (.t 16) (.c (.s (.int .i64 0))),(some (15,true)),6,[]⟩,
  ⟨some 18,.pick (.t 15) (.t 17) (.c (.s (.bool false))),none,7,[]⟩,
  ⟨some 19,.move (.t 18),none,8,[]⟩,
  ⟨some 20,.move (.t 0),(some (19,true)),9,[]⟩,
  ⟨some 21,.nilCheck (.t 20),(some (19,true)),10,[]⟩,
  ⟨some 22,.fieldAddr 0 (.t 21),(some (19,true)),11,[]⟩,
  ⟨some 23,.fieldAddr 0 (.t 22),(some (19,true)),12,[]⟩,
  ⟨some 24,.load none (.t 23),(some (19,true)),13,[]⟩,
  ⟨some 25,.move (.t 4),(some (19,true)),14,[]⟩,
  ⟨some 26,.bin .sub (.t 25) (.c (.s (.int .i64 1))),(some (19,true)),15,[]⟩,
  ⟨some 27,.indexSl 2 (.t 24) (.t 26),(some (19,true)),16,[]⟩,
  ⟨some 28,.fieldAddr 1 (.t 27),(some (19,true)),17,[]⟩,
  ⟨some 29,.load none (.t 28),(some (19,true)),18,[]⟩,
  ⟨some 30,.fieldAddr 1 (.t 3),(some (19,true)),19,[]⟩,
  ⟨some 31,.load none (.t 30),(some (19,true)),20,[]⟩,
  ⟨some 32,.bin .gtr (.t 29) (.t 31),(some (19,true)),21,[]⟩,
  ⟨some 33,.pick (.t 19) (.t 32) (.c (.s (.bool false))),none,22,[]⟩]) (RC.cond (.t 33) (RC.skip) (RC.exit 0))) (RC.block 1 (RC.region 3 [
  ⟨some 34,.move (.t 4),none,0,[]⟩,
  ⟨some 35,.bin .sub (.t 34) (.c (.s (.int .i64 1))),none,1,[]⟩,
  ⟨some 4,.move (.t 35),none,2,[]⟩]))
def order_Queue_put_s1 : RC :=
  RC.region 14 [
  ⟨some 36,.move (.t 0),none,0,[]⟩,
  ⟨some 37,.move (.t 0),none,1,[]⟩,
  ⟨some 38,.nilCheck (.t 37),none,2,[]⟩,
  ⟨some 39,.fieldAddr 0 (.t 38),none,3,[]⟩,
  ⟨some 40,.fieldAddr 0 (.t 39),none,4,[]⟩,
  ⟨some 41,.load none (.t 40),none,5,[]⟩,
  ⟨some 42,.move (.t 4),none,6,[]⟩,
  ⟨some 43,.load (some 2) (.t 3),none,7,[]⟩,
  ⟨some 44,.buildSlice 2 1 [.int .i64 0,.int .i64 0] [(0,2,(.t 43))],none,8,[]⟩,
  ⟨some 45,.call F.slices_Insert__order_Item_order_Item [(.t 41),(.t 42),(.t 44)],none,9,[]⟩,
  ⟨some 46,.nilCheck (.t 36),none,10,[]⟩,
  ⟨some 47,.fieldAddr 0 (.t 46),none,11,[]⟩,
  ⟨some 48,.fieldAddr 0 (.t 47),none,12,[]⟩,
  ⟨none,.store 1 (.t 48) (.t 45),none,13,[]⟩]
def order_Queue_put : RFunc := RFunc.mk 49 [] (
  RC.seq (RC.region 1 [
  ⟨some 3,.box (.t 1),none,0,[]⟩]) (RC.seq (RC.region 7 [
  ⟨some 5,.move (.t 0),none,0,[]⟩,
  ⟨some 6,.nilCheck (.t 5),none,1,[]⟩,
  ⟨some 7,.fieldAddr 0 (.t 6),none,2,[]⟩,
  ⟨some 8,.fieldAddr 0 (.t 7),none,3,[]⟩,
  ⟨some 9,.load none (.t 8),none,4,[]⟩,
  ⟨some 10,.len (.t 9),none,5,[]⟩,
  ⟨some 4,.move (.t 10),none,6,[]⟩]) (RC.seq (RC.block 0 (RC.loop R.order_Queue_put_l0)) R.order_Queue_put_s1)))
theorem order_Queue_put_ok : chkFunc Go.Proofs.Tryz.prog [0] Go.Proofs.Tryz.f255 order_Queue_put = true := by kernel_rfl
def slices_Clip__order_Item_order_Item : RFunc := RFunc.mk 9 [.tmp 2] (
  RC.seq (RC.region 1 [
  ⟨some 2,.move (.c (.s (.slice none 0 0 1))),none,0,[]⟩]) (RC.seq (RC.region 7 [
  ⟨some 3,.move (.t 0),none,0,[]⟩,
  ⟨some 4,.move (.t 0),none,1,[]⟩,
  ⟨some 5,.len (.t 4),none,2,[]⟩,
  ⟨some 6,.move (.t 0),none,3,[]⟩,
  ⟨some 7,.len (.t 6),none,4,[]⟩,
  ⟨some 8,.slSl 2 (.t 3) none (some (.t 5)) (some (.t 7)),none,5,[]⟩,
  ⟨some 2,.move (.t 8),none,6,[]⟩]) (RC.ret)))
theorem slices_Clip__order_Item_order_Item_ok : chkFunc Go.Proofs.Tryz.prog [0] Go.Proofs.Tryz.f256 slices_Clip__order_Item_order_Item = true := by kernel_rfl
def slices_Clone__order_Item_order_Item : RFunc := RFunc.mk 8 [.tmp 2] (
  RC.seq (RC.region 1 [
  ⟨some 2,.move (.c (.s (.slice none 0 0 1))),none,0,[]⟩]) (RC.seq (RC.seq (RC.region 2 [
  ⟨some 3,.move (.t 0),none,0,[]⟩,
  ⟨some 4,.eqs .slice false (.t 3) (.c (.s (.slice none 0 0 1))),none,1,[]⟩]) (RC.cond (.t 4) (RC.seq (RC.region 1 [
  ⟨some 2,.move (.c (.s (.slice none 0 0 1))),none,0,[]⟩]) (RC.ret)) (RC.skip))) (RC.seq (RC.region 4 [
  ⟨some 5,.buildSlice 2 0 [] [],none,0,[]⟩,
  ⟨some 6,.move (.t 0),none,1,[]⟩,
  ⟨some 7,.append 2 16 (.t 5) (.t 6),none,2,[]⟩,
  ⟨some 2,.move (.t 7),none,3,[]⟩]) (RC.ret))))
theorem slices_Clone__order_Item_order_Item_ok : chkFunc Go.Proofs.Tryz.prog [0] Go.Proofs.Tryz.f257 slices_Clone__order_Item_order_Item = true := by kernel_rfl
def conf_next : RFunc := RFunc.mk 37 [.tmp 4,.tmp 5] (
  RC.seq (RC.region 3 [
  ⟨some 3,.box (.t 1),none,0,[]⟩,
  ⟨some 4,.move (.c (.s (.int .i64 0))),none,1,[]⟩,
  ⟨some 5,.move (.c (.s (.int .i64 0))),none,2,[]⟩]) (RC.seq (RC.region 3 [
  ⟨some 6,.move (.t 0),none,0,[]⟩,
  ⟨some 7,.call F.nums_Align [(.t 6),(.c (.s (.int .i64 4)))],none,1,[]⟩,
  ⟨some 0,.move (.t 7),none,2,[]⟩]) (RC.seq (RC.seq (RC.region 18 [
  ⟨some 8,.fieldAddr 1 (.t 3),none,0,[]⟩,
  ⟨some 9,.load none (.t 8),none,1,[]⟩,
  ⟨some 10,.bin .lss (.t 9) (.c (.s (.int .i64 0))),none,2,[]⟩,
  ⟨some 11,.move (.t 10),none,3,[]⟩,
  ⟨some 12,.fieldAddr 1 (.t 3),(some (11,false)),4,[]⟩,
  ⟨some 13,.load none (.t 12),(some (11,false)),5,[]⟩,
  ⟨some 14,.bin .gtr (.t 13) (.c (.s (.int .i64 65536))),(some (11,false)),6,[]⟩,
  ⟨some 15,.pick (.t 11) (.c (.s (.bool true))) (.t 14),none,7,[]⟩,
  ⟨some 16,.move (.t 15),none,8,[]⟩,
  ⟨some 17,.fieldAddr 2 (.t 3),(some (16,false)),9,[]⟩,
  ⟨some 18,.load none (.t 17),(some (16,false)),10,[]⟩,
  ⟨some 19,.bin .lss (.t 18) (.c (.s (.int .i64 0))),(some (16,false)),11,[]⟩,
  ⟨some 20,.pick (.t 16) (.c (.s (.bool true))) (.t 19),none,12,[]⟩,
  ⟨some 21,.move (.t 20),none,13,[]⟩,
  ⟨some 22,.fieldAddr 2 (.t 3),(some (21,false)),14,[]⟩,
  ⟨some 23,.load none (.t 22),(some (21,false)),15,[]⟩,
  ⟨some 24,.bin .gtr (.t 23) (.c (.s (.int .i64 65536))),(some (21,false)),16,[]⟩,
  ⟨some 25,.pick (.t 21) (.c (.s (.bool true))) (.t 24),none,17,[]⟩]) (RC.cond (.t 25) (RC.seq (RC.region 4 [
  ⟨some 26,.move (.t 0),none,0,[]⟩,
  ⟨some 27,.move (.t 0),none,1,[]⟩,
  ⟨some 4,.move (.t 26),none,2,[]⟩,
  ⟨some 5,.move (.t 27),none,3,[]⟩]) (RC.ret)) (RC.skip))) (RC.seq (RC.region 11 [
  ⟨some 28,.move (.t 0),none,0,[]⟩,
  ⟨some 29,.move (.t 0),none,1,[]⟩,
  ⟨some 30,.fieldAddr 1 (.t 3),none,2,[]⟩,
  ⟨some 31,.load none (.t 30),none,3,[]⟩,
  ⟨some 32,.fieldAddr 2 (.t 3),none,4,[]⟩,
  ⟨some 33,.load none (.t 32),none,5,[]⟩,
  ⟨some 34,.call F.nums_Align [(.t 33),(.c (.s (.int .i64 4)))],none,6,[⟨31,none,(.t 30),none⟩]⟩,
  ⟨some 35,.bin .mul (.t 31) (.t 34),none,7,[]⟩,
  ⟨some 36,.bin .add (.t 29) (.t 35),none,8,[]⟩,
  ⟨some 4,.move (.t 28),none,9,[]⟩,
  ⟨some 5,.move (.t 36),none,10,[]⟩]) (RC.ret)))))
theorem conf_next_ok : chkFunc Go.Proofs.Tryz.prog [0] Go.Proofs.Tryz.f45 conf_next = true := by kernel_rfl
def order_New : RFunc := RFunc.mk 6 [.tmp 2] (
  RC.seq (RC.region 1 [
  ⟨some 2,.move (.c (.s (.ptr none))),none,0,[]⟩]) (RC.seq (RC.region 4 [
  ⟨some 3,.move (.t 0),none,0,[]⟩,
  ⟨some 4,.build [.slice none 0 0 1,.bool false] [(1,1,(.t 3))],none,1,[]⟩,
  ⟨some 5,.box (.t 4),none,2,[]⟩,
  ⟨some 2,.move (.t 5),none,3,[]⟩]) (RC.ret)))
theorem order_New_ok : chkFunc Go.Proofs.Tryz.prog [0] Go.Proofs.Tryz.f46 order_New = true := by kernel_rfl
def mtx_Kind_right_s0 : RC :=
  RC.cond (.t 5) (RC.seq (RC.region 4 [
  ⟨some 9,.fieldAddr 1 (.t 1),none,0,[]⟩,
  ⟨some 10,.load none (.t 9),none,1,[]⟩,
  ⟨some 11,.bin .eql (.t 10) (.c (.s (.int .i64 0))),none,2,[]⟩,
  ⟨some 2,.move (.t 11),none,3,[]⟩]) (RC.ret)) (RC.seq (RC.region 2 [
  ⟨some 13,.bin .eql (.t 4) (.c (.s (.int .i64 3))),none,0,[]⟩,
  ⟨some 12,.move (.t 13),none,1,[]⟩]) (RC.cond (.t 12) (RC.seq (RC.region 4 [
  ⟨some 14,.fieldAddr 1 (.t 1),none,0,[]⟩,
  ⟨some 15,.load none (.t 14),none,1,[]⟩,
  ⟨some 16,.call F.mtx_may [(.t 15)],none,2,[]⟩,
  ⟨some 2,.move (.t 16),none,3,[]⟩]) (RC.ret)) (RC.skip)))
def mtx_Kind_right_s1 : RC :=
  RC.seq (RC.region 1 [
  ⟨some 2,.move (.c (.s (.bool false))),none,0,[]⟩]) (RC.ret)
def mtx_Kind_right : RFunc := RFunc.mk 17 [.tmp 2] (
  RC.seq (RC.region 2 [
  ⟨some 1,.box (.t 0),none,0,[]⟩,
  ⟨some 2,.move (.c (.s (.bool false))),none,1,[]⟩]) (RC.seq (RC.seq (RC.region 2 [
  ⟨some 3,.fieldAddr 0 (.t 1),none,0,[]⟩,
  ⟨some 4,.load none (.t 3),none,1,[]⟩]) (RC.block 0 (RC.seq (RC.seq (RC.region 2 [
  ⟨some 6,.bin .eql (.t 4) (.c (.s (.int .i64 0))),none,0,[]⟩,
  ⟨some 5,.move (.t 6),none,1,[]⟩]) (RC.cond (.t 5) (RC.skip) (RC.seq (RC.region 2 [
  ⟨some 7,.bin .eql (.t 4) (.c (.s (.int .i64 1))),none,0,[]⟩,
  ⟨some 5,.move (.t 7),none,1,[]⟩]) (RC.cond (.t 5) (RC.skip) (RC.region 2 [
  ⟨some 8,.bin .eql (.t 4) (.c (.s (.int .i64 2))),none,0,[]⟩,
  ⟨some 5,.move (.t 8),none,1,[]⟩]))))) R.mtx_Kind_right_s0))) R.mtx_Kind_right_s1))
theorem mtx_Kind_right_ok : chkFunc Go.Proofs.Tryz.prog [0] Go.Proofs.Tryz.f263 mtx_Kind_right = true := by kernel_rfl
def heap_New : RFunc := RFunc.mk 3 [.tmp 0] (
  RC.seq (RC.region 1 [
  ⟨some 0,.move (.c (.s (.ptr none))),none,0,[]⟩]) (RC.seq (RC.region 3 [
  ⟨some 1,.build [.slice none 0 0 1,.int .i64 0] [],none,0,[]⟩,
  ⟨some 2,.box (.t 1),none,1,[]⟩,
  ⟨some 0,.move (.t 2),none,2,[]⟩]) (RC.ret)))
theorem heap_New_ok : chkFunc Go.Proofs.Tryz.prog [0] Go.Proofs.Tryz.f264 heap_New = true := by kernel_rfl
def mtx_All_reckon_l0 : RC :=
  RC.seq (RC.region 1 [
  ⟨some 57,.bin .lss (.t 56) (.t 55),none,0,[]⟩]) (RC.seq (RC.cond (.t 57) (RC.skip) (RC.exit 3)) (RC.seq (RC.block 4 (RC.seq (RC.region 3 [
  ⟨some 58,.indexSl 1 (.t 54) (.t 56),none,0,[]⟩,
  ⟨some 59,.load none (.t 58),none,1,[]⟩,
  ⟨some 11,.move (.t 59),none,2,[]⟩]) (RC.region 8 [
  ⟨some 60,.move (.t 7),none,0,[]⟩,
  ⟨some 61,.move (.t 0),none,1,[]⟩,
  ⟨some 62,.move (.t 11),none,2,[]⟩,
  ⟨some 63,.move (.t 2),none,3,[]⟩,
  ⟨some 64,.bin .add (.t 63) (.c (.s (.int .i64 1))),none,4,[]⟩,
  ⟨some 65,.call F.mtx_All_reckon [(.t 61),(.t 62),(.t 64)],none,5,[]⟩,
  ⟨some 66,.minmax false (.t 60) (.t 65),none,6,[]⟩,
  ⟨some 7,.move (.t 66),none,7,[]⟩]))) (RC.region 2 [
  ⟨some 67,.bin .add (.t 56) (.c (.s (.int .i64 1))),none,0,[]⟩,
  ⟨some 56,.move (.t 67),none,1,[]⟩])))
def mtx_All_reckon_s1 : RC :=
  RC.region 2 [
  ⟨some 68,.bin .add (.t 25) (.c (.s (.int .i64 1))),none,0,[]⟩,
  ⟨some 25,.move (.t 68),none,1,[]⟩]
def mtx_All_reckon_l2 : RC :=
  RC.seq (RC.region 1 [
  ⟨some 26,.bin .lss (.t 25) (.t 24),none,0,[]⟩]) (RC.seq (RC.cond (.t 26) (RC.skip) (RC.exit 0)) (RC.seq (RC.block 1 (RC.seq (RC.region 4 [
  ⟨some 27,.indexSl 4 (.t 23) (.t 25),none,0,[]⟩,
  ⟨some 28,.load (some 4) (.t 27),none,1,[]⟩,
  ⟨some 9,.newc [.int .i64 0,.int .i64 0,.int .i64 0,.slice none 0 0 1],none,2,[]⟩,
  ⟨none,.store 4 (.t 9) (.t 28),none,3,[]⟩]) (RC.block 2 (RC.seq (RC.region 9 [
  ⟨some 30,.fieldAddr 2 (.t 9),none,0,[]⟩,
  ⟨some 31,.load none (.t 30),none,1,[]⟩,
  ⟨some 32,.move (.t 1),none,2,[]⟩,
  ⟨some 33,.bin .neq (.t 31) (.t 32),none,3,[]⟩,
  ⟨some 34,.move (.t 33),none,4,[]⟩,
  ⟨some 35,.move (.t 2),(some (34,false)),5,[]⟩,
  ⟨some 36,.bin .gtr (.t 35) (.c (.s (.int .i64 16))),(some (34,false)),6,[]⟩,
  ⟨some 37,.pick (.t 34) (.c (.s (.bool true))) (.t 36),none,7,[]⟩,
  ⟨some 29,.move (.t 37),none,8,[]⟩]) (RC.cond (.t 29) (RC.skip) (RC.seq (RC.region 5 [
  ⟨some 39,.fieldAddr 0 (.t 9),none,0,[]⟩,
  ⟨some 40,.fieldAddr 0 (.t 39),none,1,[]⟩,
  ⟨some 41,.load none (.t 40),none,2,[]⟩,
  ⟨some 42,.bin .eql (.t 41) (.c (.s (.int .i64 3))),none,3,[]⟩,
  ⟨some 38,.move (.t 42),none,4,[]⟩]) (RC.cond (.t 38) (RC.region 6 [
  ⟨some 43,.move (.t 7),none,0,[]⟩,
  ⟨some 44,.fieldAddr 0 (.t 9),none,1,[]⟩,
  ⟨some 45,.fieldAddr 1 (.t 44),none,2,[]⟩,
  ⟨some 46,.load none (.t 45),none,3,[]⟩,
  ⟨some 47,.minmax false (.t 43) (.t 46),none,4,[]⟩,
  ⟨some 7,.move (.t 47),none,5,[]⟩]) (RC.seq (RC.region 5 [
  ⟨some 49,.fieldAddr 0 (.t 9),none,0,[]⟩,
  ⟨some 50,.fieldAddr 0 (.t 49),none,1,[]⟩,
  ⟨some 51,.load none (.t 50),none,2,[]⟩,
  ⟨some 52,.bin .eql (.t 51) (.c (.s (.int .i64 2))),none,3,[]⟩,
  ⟨some 48,.move (.t 52),none,4,[]⟩]) (RC.cond (.t 48) (RC.seq (RC.region 4 [
  ⟨some 53,.fieldAddr 3 (.t 9),none,0,[]⟩,
  ⟨some 54,.load none (.t 53),none,1,[]⟩,
  ⟨some 55,.len (.t 54),none,2,[]⟩,
  ⟨some 56,.move (.c (.s (.int .i64 0))),none,3,[]⟩]) (RC.block 3 (RC.loop R.mtx_All_reckon_l0))) (RC.skip)))))))))) R.mtx_All_reckon_s1))
def mtx_All_reckon_s3 : RC :=
  RC.seq (RC.region 2 [
  ⟨some 69,.move (.t 7),none,0,[]⟩,
  ⟨some 6,.move (.t 69),none,1,[]⟩]) (RC.ret)
def mtx_All_reckon : RFunc := RFunc.mk 70 [.tmp 6] (
  RC.seq (RC.region 1 [
  ⟨some 6,.move (.c (.s (.int .i64 0))),none,0,[]⟩]) (RC.seq (RC.region 8 [
  ⟨some 12,.move (.t 0),none,0,[]⟩,
  ⟨some 13,.move (.t 1),none,1,[]⟩,
  ⟨some 14,.nilCheck (.t 12),none,2,[]⟩,
  ⟨some 15,.fieldAddr 1 (.t 14),none,3,[]⟩,
  ⟨some 16,.indexArr 17 3 (.t 15) (.t 13),none,4,[]⟩,
  ⟨some 17,.fieldAddr 0 (.t 16),none,5,[]⟩,
  ⟨some 18,.load none (.t 17),none,6,[]⟩,
  ⟨some 7,.move (.t 18),none,7,[]⟩]) (RC.seq (RC.seq (RC.region 7 [
  ⟨some 19,.move (.t 0),none,0,[]⟩,
  ⟨some 20,.nilCheck (.t 19),none,1,[]⟩,
  ⟨some 21,.fieldAddr 0 (.t 20),none,2,[]⟩,
  ⟨some 22,.load none (.t 21),none,3,[]⟩,
  ⟨some 23,.slSl 4 (.t 22) (some (.c (.s (.int .i64 1)))) none none,none,4,[]⟩,
  ⟨some 24,.len (.t 23),none,5,[]⟩,
  ⟨some 25,.move (.c (.s (.int .i64 0))),none,6,[]⟩]) (RC.block 0 (RC.loop R.mtx_All_reckon_l2))) R.mtx_All_reckon_s3)))
theorem mtx_All_reckon_ok : chkFunc Go.Proofs.Tryz.prog [0] Go.Proofs.Tryz.f265 mtx_All_reckon = true := by kernel_rfl
def mtx_All_leave : RFunc := RFunc.mk 28 [] (
  RC.seq (RC.region 1 [
  ⟨some 5,.box (.t 2),none,0,[]⟩]) (RC.seq (RC.region 7 [
  ⟨some 7,.move (.t 0),none,0,[]⟩,
  ⟨some 8,.nilCheck (.t 7),none,1,[]⟩,
  ⟨some 9,.fieldAddr 0 (.t 8),none,2,[]⟩,
  ⟨some 10,.load none (.t 9),none,3,[]⟩,
  ⟨some 11,.move (.t 1),none,4,[]⟩,
  ⟨some 12,.indexSl 4 (.t 10) (.t 11),none,5,[]⟩,
  ⟨some 6,.move (.t 12),none,6,[]⟩]) (RC.seq (RC.region 6 [
  ⟨some 13,.move (.t 6),none,0,[]⟩,
  ⟨some 14,.nilCheck (.t 13),none,1,[]⟩,
  ⟨some 15,.fieldAddr 0 (.t 14),none,2,[]⟩,
  ⟨some 16,.fieldAddr 0 (.t 15),none,3,[]⟩,
  ⟨some 17,.load none (.t 16),none,4,[]⟩,
  ⟨some 18,.bin .neq (.t 17) (.c (.s (.int .i64 0))),none,5,[]⟩]) (RC.cond (.t 18) (RC.region 10 [
  ⟨some 19,.move (.t 6),none,0,[]⟩,
  ⟨some 20,.move (.t 6),none,1,[]⟩,
  ⟨some 21,.nilCheck (.t 20),none,2,[]⟩,
  ⟨some 22,.fieldAddr 3 (.t 21),none,3,[]⟩,
  ⟨some 23,.load none (.t 22),none,4,[]⟩,
  ⟨some 24,.makeFunc F.mtx_All_leave_1 [(.t 5)],none,5,[]⟩,
  ⟨some 25,.call F.slices_DeleteFunc__int_int [(.t 23),(.t 24)],none,6,[]⟩,
  ⟨some 26,.nilCheck (.t 19),none,7,[]⟩,
  ⟨some 27,.fieldAddr 3 (.t 26),none,8,[]⟩,
  ⟨none,.store 1 (.t 27) (.t 25),none,9,[]⟩]) (RC.skip)))))
theorem mtx_All_leave_ok : chkFunc Go.Proofs.Tryz.prog [0] Go.Proofs.Tryz.f266 mtx_All_leave = true := by kernel_rfl
def mtx_All_rejoin : RFunc := RFunc.mk 20 [] (
  RC.seq (RC.region 10 [
  ⟨some 6,.move (.t 0),none,0,[]⟩,
  ⟨some 7,.nilCheck (.t 6),none,1,[]⟩,
  ⟨some 8,.fieldAddr 0 (.t 7),none,2,[]⟩,
  ⟨some 9,.load none (.t 8),none,3,[]⟩,
  ⟨some 10,.move (.t 1),none,4,[]⟩,
  ⟨some 11,.indexSl 4 (.t 9) (.t 10),none,5,[]⟩,
  ⟨some 12,.fieldAddr 0 (.t 11),none,6,[]⟩,
  ⟨some 13,.fieldAddr 0 (.t 12),none,7,[]⟩,
  ⟨some 14,.load none (.t 13),none,8,[]⟩,
  ⟨some 15,.bin .neq (.t 14) (.c (.s (.int .i64 0))),none,9,[]⟩]) (RC.cond (.t 15) (RC.region 4 [
  ⟨some 16,.move (.t 0),none,0,[]⟩,
  ⟨some 17,.move (.t 1),none,1,[]⟩,
  ⟨some 18,.move (.t 2),none,2,[]⟩,
  ⟨some 19,.call F.mtx_All_stand [(.t 16),(.t 17),(.t 18)],none,3,[]⟩]) (RC.skip)))
theorem mtx_All_rejoin_ok : chkFunc Go.Proofs.Tryz.prog [0] Go.Proofs.Tryz.f267 mtx_All_rejoin = true := by kernel_rfl
def ready_Queue_Add : RFunc := RFunc.mk 28 [.tmp 6] (
  RC.seq (RC.region 1 [
  ⟨some 6,.move (.c (.s (.int .i64 0))),none,0,[]⟩]) (RC.seq (RC.block 0 (RC.seq (RC.region 9 [
  ⟨some 8,.move (.t 1),none,0,[]⟩,
  ⟨some 9,.call F.ready_task [(.t 8)],none,1,[]⟩,
  ⟨some 10,.un .not (.t 9),none,2,[]⟩,
  ⟨some 11,.move (.t 10),none,3,[]⟩,
  ⟨some 12,.move (.t 2),(some (11,false)),4,[]⟩,
  ⟨some 13,.call F.ready_may [(.t 12)],(some (11,false)),5,[]⟩,
  ⟨some 14,.un .not (.t 13),(some (11,false)),6,[]⟩,
  ⟨some 15,.pick (.t 11) (.c (.s (.bool true))) (.t 14),none,7,[]⟩,
  ⟨some 7,.move (.t 15),none,8,[]⟩]) (RC.cond (.t 7) (RC.seq (RC.region 1 [
  ⟨some 6,.move (.c (.s (.int .i64 (-17)))),none,0,[]⟩]) (RC.ret)) (RC.seq (RC.region 8 [
  ⟨some 17,.move (.t 0),none,0,[]⟩,
  ⟨some 18,.move (.t 1),none,1,[]⟩,
  ⟨some 19,.nilCheck (.t 17),none,2,[]⟩,
  ⟨some 20,.fieldAddr 21 (.t 19),none,3,[]⟩,
  ⟨some 21,.indexArr 17 1 (.t 20) (.t 18),none,4,[]⟩,
  ⟨some 22,.load none (.t 21),none,5,[]⟩,
  ⟨some 23,.bin .gtr (.t 22) (.c (.s (.int .i64 0))),none,6,[]⟩,
  ⟨some 16,.move (.t 23),none,7,[]⟩]) (RC.cond (.t 16) (RC.seq (RC.region 1 [
  ⟨some 6,.move (.c (.s (.int .i64 (-41)))),none,0,[]⟩]) (RC.ret)) (RC.skip)))))) (RC.seq (RC.region 4 [
  ⟨some 24,.move (.t 0),none,0,[]⟩,
  ⟨some 25,.move (.t 1),none,1,[]⟩,
  ⟨some 26,.move (.t 2),none,2,[]⟩,
  ⟨some 27,.call F.ready_Queue_put [(.t 24),(.t 25),(.t 26)],none,3,[]⟩]) (RC.seq (RC.region 1 [
  ⟨some 6,.move (.c (.s (.int .i64 0))),none,0,[]⟩]) (RC.ret)))))
theorem ready_Queue_Add_ok : chkFunc Go.Proofs.Tryz.prog [0] Go.Proofs.Tryz.f268 ready_Queue_Add = true := by kernel_rfl
def heap_Timers_Cancel : RFunc := RFunc.mk 16 [.tmp 4] (
  RC.seq (RC.region 1 [
  ⟨some 4,.move (.c (.s (.bool false))),none,0,[]⟩]) (RC.seq (RC.region 4 [
  ⟨some 6,.move (.t 0),none,0,[]⟩,
  ⟨some 7,.move (.t 1),none,1,[]⟩,
  ⟨some 8,.call F.heap_Timers_find [(.t 6),(.t 7)],none,2,[]⟩,
  ⟨some 5,.move (.t 8),none,3,[]⟩]) (RC.seq (RC.seq (RC.region 2 [
  ⟨some 9,.move (.t 5),none,0,[]⟩,
  ⟨some 10,.bin .geq (.t 9) (.c (.s (.int .i64 0))),none,1,[]⟩]) (RC.cond (.t 10) (RC.region 3 [
  ⟨some 11,.move (.t 0),none,0,[]⟩,
  ⟨some 12,.move (.t 5),none,1,[]⟩,
  ⟨some 13,.call F.heap_Timers_remove [(.t 11),(.t 12)],none,2,[]⟩]) (RC.skip))) (RC.seq (RC.region 3 [
  ⟨some 14,.move (.t 5),none,0,[]⟩,
  ⟨some 15,.bin .geq (.t 14) (.c (.s (.int .i64 0))),none,1,[]⟩,
  ⟨some 4,.move (.t 15),none,2,[]⟩]) (RC.ret)))))
theorem heap_Timers_Cancel_ok : chkFunc Go.Proofs.Tryz.prog [0] Go.Proofs.Tryz.f270 heap_Timers_Cancel = true := by kernel_rfl
def ready_task : RFunc := RFunc.mk 9 [.tmp 2] (
  RC.seq (RC.region 1 [
  ⟨some 2,.move (.c (.s (.bool false))),none,0,[]⟩]) (RC.seq (RC.region 7 [
  ⟨some 3,.move (.t 0),none,0,[]⟩,
  ⟨some 4,.bin .geq (.t 3) (.c (.s (.int .i64 1))),none,1,[]⟩,
  ⟨some 5,.move (.t 4),none,2,[]⟩,
  ⟨some 6,.move (.t 0),(some (5,true)),3,[]⟩,
  ⟨some 7,.bin .leq (.t 6) (.c (.s (.int .i64 16))),(some (5,true)),4,[]⟩,
  ⟨some 8,.pick (.t 5) (.t 7) (.c (.s (.bool false))),none,5,[]⟩,
  ⟨some 2,.move (.t 8),none,6,[]⟩]) (RC.ret)))
theorem ready_task_ok : chkFunc Go.Proofs.Tryz.prog [0] Go.Proofs.Tryz.f271 ready_task = true := by kernel_rfl
def slices_Index__int_int_l0 : RC :=
  RC.seq (RC.region 1 [
  ⟨some 9,.bin .lss (.t 8) (.t 7),none,0,[]⟩]) (RC.seq (RC.cond (.t 9) (RC.skip) (RC.exit 0)) (RC.seq (RC.block 1 (RC.seq (RC.region 2 [
  ⟨some 10,.move (.t 8),none,0,[]⟩,
  ⟨some 5,.move (.t 10),none,1,[]⟩]) (RC.seq (RC.region 6 [
  ⟨some 11,.move (.t 1),none,0,[]⟩,
  ⟨some 12,.move (.t 0),none,1,[]⟩,
  ⟨some 13,.move (.t 5),none,2,[]⟩,
  ⟨some 14,.indexSl 1 (.t 12) (.t 13),none,3,[]⟩,
  ⟨some 15,.load none (.t 14),none,4,[]⟩,
  ⟨some 16,.bin .eql (.t 11) (.t 15),none,5,[]⟩]) (RC.cond (.t 16) (RC.seq (RC.region 2 [
  ⟨some 17,.move (.t 5),none,0,[]⟩,
  ⟨some 4,.move (.t 17),none,1,[]⟩]) (RC.ret)) (RC.skip))))) (RC.region 2 [
  ⟨some 18,.bin .add (.t 8) (.c (.s (.int .i64 1))),none,0,[]⟩,
  ⟨some 8,.move (.t 18),none,1,[]⟩])))
def slices_Index__int_int_s1 : RC :=
  RC.seq (RC.region 1 [
  ⟨some 4,.move (.c (.s (.int .i64 (-1)))),none,0,[]⟩]) (RC.ret)
def slices_Index__int_int : RFunc := RFunc.mk 19 [.tmp 4] (
  RC.seq (RC.region 1 [
  ⟨some 4,.move (.c (.s (.int .i64 0))),none,0,[]⟩]) (RC.seq (RC.seq (RC.region 3 [
  ⟨some 6,.move (.t 0),none,0,[]⟩,
  ⟨some 7,.len (.t 6),none,1,[]⟩,
  ⟨some 8,.move (.c (.s (.int .i64 0))),none,2,[]⟩]) (RC.block 0 (RC.loop R.slices_Index__int_int_l0))) R.slices_Index__int_int_s1))
theorem slices_Index__int_int_ok : chkFunc Go.Proofs.Tryz.prog [0] Go.Proofs.Tryz.f272 slices_Index__int_int = true := by kernel_rfl
def bits_Map_Clear_l0 : RC :=
  RC.seq (RC.region 1 [
  ⟨some 12,.bin .lss (.t 11) (.t 10),none,0,[]⟩]) (RC.seq (RC.cond (.t 12) (RC.skip) (RC.exit 0)) (RC.seq (RC.block 1 (RC.seq (RC.region 3 [
  ⟨some 13,.indexSl 1 (.t 9) (.t 11),none,0,[]⟩,
  ⟨some 14,.load none (.t 13),none,1,[]⟩,
  ⟨some 5,.move (.t 14),none,2,[]⟩]) (RC.seq (RC.region 9 [
  ⟨some 16,.move (.t 5),none,0,[]⟩,
  ⟨some 17,.call F.bits_place [(.t 16)],none,1,[]⟩,
  ⟨some 15,.move (.t 17),none,2,[]⟩,
  ⟨some 18,.extract 0 (.t 15),none,3,[]⟩,
  ⟨some 19,.extract 1 (.t 15),none,4,[]⟩,
  ⟨some 20,.extract 2 (.t 15),none,5,[]⟩,
  ⟨some 6,.move (.t 18),none,6,[]⟩,
  ⟨some 7,.move (.t 19),none,7,[]⟩,
  ⟨some 8,.move (.t 20),none,8,[]⟩]) (RC.seq (RC.region 1 [
  ⟨some 21,.move (.t 8),none,0,[]⟩]) (RC.cond (.t 21) (RC.region 12 [
  ⟨some 22,.move (.t 0),none,0,[]⟩,
  ⟨some 23,.move (.t 6),none,1,[]⟩,
  ⟨some 24,.nilCheck (.t 22),none,2,[]⟩,
  ⟨some 25,.fieldAddr 0 (.t 24),none,3,[]⟩,
  ⟨some 26,.indexArr 4 1 (.t 25) (.t 23),none,4,[]⟩,
  ⟨some 27,.load none (.t 26),none,5,[]⟩,
  ⟨some 28,.move (.t 7),none,6,[]⟩,
  ⟨some 29,.bin .andNot (.t 27) (.t 28),none,7,[]⟩,
  ⟨some 30,.nilCheck (.t 22),none,8,[]⟩,
  ⟨some 31,.fieldAddr 0 (.t 30),none,9,[]⟩,
  ⟨some 32,.indexArr 4 1 (.t 31) (.t 23),none,10,[]⟩,
  ⟨none,.store 1 (.t 32) (.t 29),none,11,[]⟩]) (RC.skip)))))) (RC.region 2 [
  ⟨some 33,.bin .add (.t 11) (.c (.s (.int .i64 1))),none,0,[]⟩,
  ⟨some 11,.move (.t 33),none,1,[]⟩])))
def bits_Map_Clear : RFunc := RFunc.mk 34 [] (
  RC.seq (RC.region 3 [
  ⟨some 9,.move (.t 1),none,0,[]⟩,
  ⟨some 10,.len (.t 9),none,1,[]⟩,
  ⟨some 11,.move (.c (.s (.int .i64 0))),none,2,[]⟩]) (RC.block 0 (RC.loop R.bits_Map_Clear_l0)))
theorem bits_Map_Clear_ok : chkFunc Go.Proofs.Tryz.prog [0] Go.Proofs.Tryz.f273 bits_Map_Clear = true := by kernel_rfl
def mtx_All_Held_l0 : RC :=
  RC.seq (RC.seq (RC.region 11 [
  ⟨some 7,.move (.t 1),none,0,[]⟩,
  ⟨some 8,.call F.mtx_is [(.t 7)],none,1,[]⟩,
  ⟨some 9,.move (.t 8),none,2,[]⟩,
  ⟨some 10,.move (.t 6),(some (9,true)),3,[]⟩,
  ⟨some 11,.move (.t 0),(some (9,true)),4,[]⟩,
  ⟨some 12,.nilCheck (.t 11),(some (9,true)),5,[]⟩,
  ⟨some 13,.fieldAddr 0 (.t 12),(some (9,true)),6,[]⟩,
  ⟨some 14,.load none (.t 13),(some (9,true)),7,[]⟩,
  ⟨some 15,.len (.t 14),(some (9,true)),8,[]⟩,
  ⟨some 16,.bin .lss (.t 10) (.t 15),(some (9,true)),9,[]⟩,
  ⟨some 17,.pick (.t 9) (.t 16) (.c (.s (.bool false))),none,10,[]⟩]) (RC.cond (.t 17) (RC.skip) (RC.exit 0))) (RC.seq (RC.block 1 (RC.seq (RC.region 10 [
  ⟨some 20,.move (.t 0),none,0,[]⟩,
  ⟨some 21,.nilCheck (.t 20),none,1,[]⟩,
  ⟨some 22,.fieldAddr 0 (.t 21),none,2,[]⟩,
  ⟨some 23,.load none (.t 22),none,3,[]⟩,
  ⟨some 24,.move (.t 6),none,4,[]⟩,
  ⟨some 25,.indexSl 4 (.t 23) (.t 24),none,5,[]⟩,
  ⟨some 26,.fieldAddr 2 (.t 25),none,6,[]⟩,
  ⟨some 27,.load none (.t 26),none,7,[]⟩,
  ⟨some 28,.move (.t 1),none,8,[]⟩,
  ⟨some 29,.bin .eql (.t 27) (.t 28),none,9,[]⟩]) (RC.cond (.t 29) (RC.region 5 [
  ⟨some 30,.move (.t 5),none,0,[]⟩,
  ⟨some 31,.move (.t 6),none,1,[]⟩,
  ⟨some 32,.buildSlice 1 1 [.int .i64 0] [(0,1,(.t 31))],none,2,[]⟩,
  ⟨some 33,.append 1 8 (.t 30) (.t 32),none,3,[]⟩,
  ⟨some 5,.move (.t 33),none,4,[]⟩]) (RC.skip)))) (RC.region 3 [
  ⟨some 18,.move (.t 6),none,0,[]⟩,
  ⟨some 19,.bin .add (.t 18) (.c (.s (.int .i64 1))),none,1,[]⟩,
  ⟨some 6,.move (.t 19),none,2,[]⟩]))
def mtx_All_Held_s1 : RC :=
  RC.seq (RC.region 3 [
  ⟨some 34,.move (.t 5),none,0,[]⟩,
  ⟨some 35,.call F.slices_Clip__int_int [(.t 34)],none,1,[]⟩,
  ⟨some 4,.move (.t 35),none,2,[]⟩]) (RC.ret)
def mtx_All_Held : RFunc := RFunc.mk 36 [.tmp 4] (
  RC.seq (RC.region 1 [
  ⟨some 4,.move (.c (.s (.slice none 0 0 1))),none,0,[]⟩]) (RC.seq (RC.region 1 [
  ⟨some 5,.move (.c (.s (.slice none 0 0 1))),none,0,[]⟩]) (RC.seq (RC.seq (RC.region 1 [
  ⟨some 6,.move (.c (.s (.int .i64 1))),none,0,[]⟩]) (RC.block 0 (RC.loop R.mtx_All_Held_l0))) R.mtx_All_Held_s1)))
theorem mtx_All_Held_ok : chkFunc Go.Proofs.Tryz.prog [0] Go.Proofs.Tryz.f274 mtx_All_Held = true := by kernel_rfl
def tcb_Task_end : RFunc := RFunc.mk 35 [.tmp 2] (
  RC.seq (RC.region 1 [
  ⟨some 2,.move (.c (.s (.bool false))),none,0,[]⟩]) (RC.seq (RC.region 18 [
  ⟨some 3,.move (.t 0),none,0,[]⟩,
  ⟨some 4,.move (.t 0),none,1,[]⟩,
  ⟨some 5,.move (.t 0),none,2,[]⟩,
  ⟨some 6,.move (.t 0),none,3,[]⟩,
  ⟨some 7,.nilCheck (.t 3),none,4,[]⟩,
  ⟨some 8,.fieldAddr 3 (.t 7),none,5,[]⟩,
  ⟨none,.store 1 (.t 8) (.c (.s (.int .i64 16))),none,6,[]⟩,
  ⟨some 9,.nilCheck (.t 4),none,7,[]⟩,
  ⟨some 10,.fieldAddr 4 (.t 9),none,8,[]⟩,
  ⟨none,.store 1 (.t 10) (.c (.s (.bool false))),none,9,[]⟩,
  ⟨some 11,.nilCheck (.t 5),none,10,[]⟩,
  ⟨some 12,.fieldAddr 0 (.t 11),none,11,[]⟩,
  ⟨some 13,.fieldAddr 1 (.t 12),none,12,[]⟩,
  ⟨none,.store 1 (.t 13) (.c (.s (.int .i64 0))),none,13,[]⟩,
  ⟨some 14,.nilCheck (.t 6),none,14,[]⟩,
  ⟨some 15,.fieldAddr 0 (.t 14),none,15,[]⟩,
  ⟨some 16,.fieldAddr 2 (.t 15),none,16,[]⟩,
  ⟨none,.store 1 (.t 16) (.c (.s (.int .i64 0))),none,17,[]⟩]) (RC.seq (RC.seq (RC.region 6 [
  ⟨some 17,.move (.t 0),none,0,[]⟩,
  ⟨some 18,.nilCheck (.t 17),none,1,[]⟩,
  ⟨some 19,.fieldAddr 0 (.t 18),none,2,[]⟩,
  ⟨some 20,.fieldAddr 0 (.t 19),none,3,[]⟩,
  ⟨some 21,.load none (.t 20),none,4,[]⟩,
  ⟨some 22,.bin .eql (.t 21) (.c (.s (.int .i64 0))),none,5,[]⟩]) (RC.cond (.t 22) (RC.seq (RC.region 1 [
  ⟨some 2,.move (.c (.s (.bool false))),none,0,[]⟩]) (RC.ret)) (RC.skip))) (RC.seq (RC.region 10 [
  ⟨some 23,.move (.t 0),none,0,[]⟩,
  ⟨some 24,.nilCheck (.t 23),none,1,[]⟩,
  ⟨some 25,.fieldAddr 0 (.t 24),none,2,[]⟩,
  ⟨some 26,.fieldAddr 0 (.t 25),none,3,[]⟩,
  ⟨some 27,.load none (.t 26),none,4,[]⟩,
  ⟨some 28,.bin .sub (.t 27) (.c (.s (.int .i64 1))),none,5,[]⟩,
  ⟨some 29,.nilCheck (.t 23),none,6,[]⟩,
  ⟨some 30,.fieldAddr 0 (.t 29),none,7,[]⟩,
  ⟨some 31,.fieldAddr 0 (.t 30),none,8,[]⟩,
  ⟨none,.store 1 (.t 31) (.t 28),none,9,[]⟩]) (RC.seq (RC.region 4 [
  ⟨some 32,.move (.t 0),none,0,[]⟩,
  ⟨some 33,.nilCheck (.t 32),none,1,[]⟩,
  ⟨some 34,.fieldAddr 3 (.t 33),none,2,[]⟩,
  ⟨none,.store 1 (.t 34) (.c (.s (.int .i64 2))),none,3,[]⟩]) (RC.seq (RC.region 1 [
  ⟨some 2,.move (.c (.s (.bool true))),none,0,[]⟩]) (RC.ret)))))))
theorem tcb_Task_end_ok : chkFunc Go.Proofs.Tryz.prog [0] Go.Proofs.Tryz.f275 tcb_Task_end = true := by kernel_rfl
def clock_Clock_After : RFunc := RFunc.mk 37 [.tmp 6,.tmp 7] (
  RC.seq (RC.region 2 [
  ⟨some 6,.move (.c (.s (.int .i64 0))),none,0,[]⟩,
  ⟨some 7,.move (.c (.s (.int .i64 0))),none,1,[]⟩]) (RC.seq (RC.region 7 [
  ⟨some 11,.move (.t 1),none,0,[]⟩,
  ⟨some 12,.call F.nums_Rel [(.t 11)],none,1,[]⟩,
  ⟨some 10,.move (.t 12),none,2,[]⟩,
  ⟨some 13,.extract 0 (.t 10),none,3,[]⟩,
  ⟨some 14,.extract 1 (.t 10),none,4,[]⟩,
  ⟨some 8,.move (.t 13),none,5,[]⟩,
  ⟨some 9,.move (.t 14),none,6,[]⟩]) (RC.seq (RC.seq (RC.region 2 [
  ⟨some 15,.move (.t 9),none,0,[]⟩,
  ⟨some 16,.bin .neq (.t 15) (.c (.s (.int .i64 0))),none,1,[]⟩]) (RC.cond (.t 16) (RC.seq (RC.region 3 [
  ⟨some 17,.move (.t 9),none,0,[]⟩,
  ⟨some 6,.move (.c (.s (.int .i64 0))),none,1,[]⟩,
  ⟨some 7,.move (.t 17),none,2,[]⟩]) (RC.ret)) (RC.skip))) (RC.seq (RC.region 21 [
  ⟨some 18,.move (.t 0),none,0,[]⟩,
  ⟨some 19,.nilCheck (.t 18),none,1,[]⟩,
  ⟨some 20,.fieldAddr 0 (.t 19),none,2,[]⟩,
  ⟨some 21,.load none (.t 20),none,3,[]⟩,
  ⟨some 22,.move (.t 0),none,4,[]⟩,
  ⟨some 23,.nilCheck (.t 22),none,5,[]⟩,
  ⟨some 24,.fieldAddr 2 (.t 23),none,6,[]⟩,
  ⟨some 25,.load none (.t 24),none,7,[]⟩,
  ⟨some 26,.move (.t 8),none,8,[]⟩,
  ⟨some 27,.bin .add (.t 25) (.t 26),none,9,[]⟩,
  ⟨some 28,.move (.t 0),none,10,[]⟩,
  ⟨some 29,.nilCheck (.t 28),none,11,[]⟩,
  ⟨some 30,.fieldAddr 1 (.t 29),none,12,[]⟩,
  ⟨some 31,.load none (.t 30),none,13,[]⟩,
  ⟨some 32,.bin .add (.t 27) (.t 31),none,14,[]⟩,
  ⟨some 33,.move (.t 2),none,15,[]⟩,
  ⟨some 34,.call F.heap_Timers_Insert [(.t 21),(.t 32),(.t 33)],none,16,[]⟩,
  ⟨some 35,.extract 0 (.t 34),none,17,[]⟩,
  ⟨some 36,.extract 1 (.t 34),none,18,[]⟩,
  ⟨some 6,.move (.t 35),none,19,[]⟩,
  ⟨some 7,.move (.t 36),none,20,[]⟩]) (RC.ret)))))
theorem clock_Clock_After_ok : chkFunc Go.Proofs.Tryz.prog [0] Go.Proofs.Tryz.f276 clock_Clock_After = true := by kernel_rfl
def slices_Contains__int_int : RFunc := RFunc.mk 9 [.tmp 4] (
  RC.seq (RC.region 1 [
  ⟨some 4,.move (.c (.s (.bool false))),none,0,[]⟩]) (RC.seq (RC.region 5 [
  ⟨some 5,.move (.t 0),none,0,[]⟩,
  ⟨some 6,.move (.t 1),none,1,[]⟩,
  ⟨some 7,.call F.slices_Index__int_int [(.t 5),(.t 6)],none,2,[]⟩,
  ⟨some 8,.bin .geq (.t 7) (.c (.s (.int .i64 0))),none,3,[]⟩,
  ⟨some 4,.move (.t 8),none,4,[]⟩]) (RC.ret)))
theorem slices_Contains__int_int_ok : chkFunc Go.Proofs.Tryz.prog [0] Go.Proofs.Tryz.f277 slices_Contains__int_int = true := by kernel_rfl
def order_Line_First : RFunc := RFunc.mk 17 [.cell 2 (some 2),.tmp 3] (
  RC.seq (RC.region 2 [
  ⟨some 2,.newc [.int .i64 0,.int .i64 0],none,0,[]⟩,
  ⟨some 3,.move (.c (.s (.bool false))),none,1,[]⟩]) (RC.seq (RC.seq (RC.region 6 [
  ⟨some 4,.move (.t 0),none,0,[]⟩,
  ⟨some 5,.nilCheck (.t 4),none,1,[]⟩,
  ⟨some 6,.fieldAddr 0 (.t 5),none,2,[]⟩,
  ⟨some 7,.load none (.t 6),none,3,[]⟩,
  ⟨some 8,.len (.t 7),none,4,[]⟩,
  ⟨some 9,.bin .eql (.t 8) (.c (.s (.int .i64 0))),none,5,[]⟩]) (RC.cond (.t 9) (RC.seq (RC.region 3 [
  ⟨some 10,.build [.int .i64 0,.int .i64 0] [],none,0,[]⟩,
  ⟨none,.store 2 (.t 2) (.t 10),none,1,[]⟩,
  ⟨some 3,.move (.c (.s (.bool false))),none,2,[]⟩]) (RC.ret)) (RC.skip))) (RC.seq (RC.region 8 [
  ⟨some 11,.move (.t 0),none,0,[]⟩,
  ⟨some 12,.nilCheck (.t 11),none,1,[]⟩,
  ⟨some 13,.fieldAddr 0 (.t 12),none,2,[]⟩,
  ⟨some 14,.load none (.t 13),none,3,[]⟩,
  ⟨some 15,.indexSl 2 (.t 14) (.c (.s (.int .i64 0))),none,4,[]⟩,
  ⟨some 16,.load (some 2) (.t 15),none,5,[]⟩,
  ⟨none,.store 2 (.t 2) (.t 16),none,6,[]⟩,
  ⟨some 3,.move (.c (.s (.bool true))),none,7,[]⟩]) (RC.ret))))
theorem order_Line_First_ok : chkFunc Go.Proofs.Tryz.prog [0] Go.Proofs.Tryz.f186 order_Line_First = true := by kernel_rfl
def cmp_Less_int : RFunc := RFunc.mk 17 [.tmp 4] (
  RC.seq (RC.region 1 [
  ⟨some 4,.move (.c (.s (.bool false))),none,0,[]⟩]) (RC.seq (RC.region 13 [
  ⟨some 5,.move (.t 0),none,0,[]⟩,
  ⟨some 6,.call F.cmp_isNaN_int [(.t 5)],none,1,[]⟩,
  ⟨some 7,.move (.t 6),none,2,[]⟩,
  ⟨some 8,.move (.t 1),(some (7,true)),3,[]⟩,
  ⟨some 9,.call F.cmp_isNaN_int [(.t 8)],(some (7,true)),4,[]⟩,
  ⟨some 10,.un .not (.t 9),(some (7,true)),5,[]⟩,
  ⟨some 11,.pick (.t 7) (.t 10) (.c (.s (.bool false))),none,6,[]⟩,
  ⟨some 12,.move (.t 11),none,7,[]⟩,
  ⟨some 13,.move (.t 0),(some (12,false)),8,[]⟩,
  ⟨some 14,.move (.t 1),(some (12,false)),9,[]⟩,
  ⟨some 15,.bin .lss (.t 13) (.t 14),(some (12,false)),10,[]⟩,
  ⟨some 16,.pick (.t 12) (.c (.s (.bool true))) (.t 15),none,11,[]⟩,
  ⟨some 4,.move (.t 16),none,12,[]⟩]) (RC.ret)))
theorem cmp_Less_int_ok : chkFunc Go.Proofs.Tryz.prog [0] Go.Proofs.Tryz.f278 cmp_Less_int = true := by kernel_rfl
def slices_isNaN_int : RFunc := RFunc.mk 6 [.tmp 2] (
  RC.seq (RC.region 1 [
  ⟨some 2,.move (.c (.s (.bool false))),none,0,[]⟩]) (RC.seq (RC.region 4 [
  ⟨some 3,.move (.t 0),none,0,[]⟩,
  ⟨some 4,.move (.t 0),none,1,[]⟩,
  ⟨some 5,.bin .neq (.t 3) (.t 4),none,2,[]⟩,
  ⟨some 2,.move (.t 5),none,3,[]⟩]) (RC.ret)))
theorem slices_isNaN_int_ok : chkFunc Go.Proofs.Tryz.prog [0] Go.Proofs.Tryz.f279 slices_isNaN_int = true := by kernel_rfl
def slices_rotateRight_int : RFunc := RFunc.mk 10 [] (
  RC.region 6 [
  ⟨some 4,.move (.t 0),none,0,[]⟩,
  ⟨some 5,.move (.t 0),none,1,[]⟩,
  ⟨some 6,.len (.t 5),none,2,[]⟩,
  ⟨some 7,.move (.t 1),none,3,[]⟩,
  ⟨some 8,.bin .sub (.t 6) (.t 7),none,4,[]⟩,
  ⟨some 9,.call F.slices_rotateLeft_int [(.t 4),(.t 8)],none,5,[]⟩])
theorem slices_rotateRight_int_ok : chkFunc Go.Proofs.Tryz.prog [0] Go.Proofs.Tryz.f281 slices_rotateRight_int = true := by kernel_rfl
def bits_Map_After_s0 : RC :=
  RC.seq (RC.region 2 [
  ⟨some 35,.move (.t 7),none,0,[]⟩,
  ⟨some 36,.bin .neq (.t 35) (.c (.s (.int .u64 0))),none,1,[]⟩]) (RC.cond (.t 36) (RC.seq (RC.region 8 [
  ⟨some 37,.move (.t 6),none,0,[]⟩,
  ⟨some 38,.bin .mul (.t 37) (.c (.s (.int .i64 64))),none,1,[]⟩,
  ⟨some 39,.move (.t 7),none,2,[]⟩,
  ⟨some 40,.call F.math_bits_TrailingZeros64 [(.t 39)],none,3,[]⟩,
  ⟨some 41,.bin .add (.t 38) (.t 40),none,4,[]⟩,
  ⟨some 42,.bin .add (.t 41) (.c (.s (.int .i64 1))),none,5,[]⟩,
  ⟨some 4,.move (.t 42),none,6,[]⟩,
  ⟨some 5,.move (.c (.s (.bool true))),none,7,[]⟩]) (RC.ret)) (RC.skip))
def bits_Map_After_s1 : RC :=
  RC.region 3 [
  ⟨some 16,.move (.t 6),none,0,[]⟩,
  ⟨some 17,.bin .add (.t 16) (.c (.s (.int .i64 1))),none,1,[]⟩,
  ⟨some 6,.move (.t 17),none,2,[]⟩]
def bits_Map_After_l2 : RC :=
  RC.seq (RC.seq (RC.region 2 [
  ⟨some 14,.move (.t 6),none,0,[]⟩,
  ⟨some 15,.bin .lss (.t 14) (.c (.s (.int .i64 4))),none,1,[]⟩]) (RC.cond (.t 15) (RC.skip) (RC.exit 0))) (RC.seq (RC.block 1 (RC.seq (RC.region 7 [
  ⟨some 18,.move (.t 0),none,0,[]⟩,
  ⟨some 19,.move (.t 6),none,1,[]⟩,
  ⟨some 20,.nilCheck (.t 18),none,2,[]⟩,
  ⟨some 21,.fieldAddr 0 (.t 20),none,3,[]⟩,
  ⟨some 22,.indexArr 4 1 (.t 21) (.t 19),none,4,[]⟩,
  ⟨some 23,.load none (.t 22),none,5,[]⟩,
  ⟨some 7,.move (.t 23),none,6,[]⟩]) (RC.seq (RC.seq (RC.region 4 [
  ⟨some 24,.move (.t 6),none,0,[]⟩,
  ⟨some 25,.move (.t 1),none,1,[]⟩,
  ⟨some 26,.bin .quo (.t 25) (.c (.s (.int .i64 64))),none,2,[]⟩,
  ⟨some 27,.bin .eql (.t 24) (.t 26),none,3,[]⟩]) (RC.cond (.t 27) (RC.region 8 [
  ⟨some 28,.move (.t 7),none,0,[]⟩,
  ⟨some 29,.move (.t 1),none,1,[]⟩,
  ⟨some 30,.bin .rem (.t 29) (.c (.s (.int .i64 64))),none,2,[]⟩,
  ⟨some 31,.bin .shr (.t 28) (.t 30),none,3,[]⟩,
  ⟨some 32,.move (.t 1),none,4,[]⟩,
  ⟨some 33,.bin .rem (.t 32) (.c (.s (.int .i64 64))),none,5,[]⟩,
  ⟨some 34,.bin .shl (.t 31) (.t 33),none,6,[]⟩,
  ⟨some 7,.move (.t 34),none,7,[]⟩]) (RC.skip))) R.bits_Map_After_s0))) R.bits_Map_After_s1)
def bits_Map_After_s3 : RC :=
  RC.seq (RC.region 2 [
  ⟨some 4,.move (.c (.s (.int .i64 0))),none,0,[]⟩,
  ⟨some 5,.move (.c (.s (.bool false))),none,1,[]⟩]) (RC.ret)
def bits_Map_After : RFunc := RFunc.mk 43 [.tmp 4,.tmp 5] (
  RC.seq (RC.region 2 [
  ⟨some 4,.move (.c (.s (.int .i64 0))),none,0,[]⟩,
  ⟨some 5,.move (.c (.s (.bool false))),none,1,[]⟩]) (RC.seq (RC.region 3 [
  ⟨some 8,.move (.t 1),none,0,[]⟩,
  ⟨some 9,.minmax true (.t 8) (.c (.s (.int .i64 0))),none,1,[]⟩,
  ⟨some 1,.move (.t 9),none,2,[]⟩]) (RC.seq (RC.seq (RC.region 2 [
  ⟨some 10,.move (.t 1),none,0,[]⟩,
  ⟨some 11,.bin .geq (.t 10) (.c (.s (.int .i64 256))),none,1,[]⟩]) (RC.cond (.t 11) (RC.seq (RC.region 2 [
  ⟨some 4,.move (.c (.s (.int .i64 0))),none,0,[]⟩,
  ⟨some 5,.move (.c (.s (.bool false))),none,1,[]⟩]) (RC.ret)) (RC.skip))) (RC.seq (RC.seq (RC.region 3 [
  ⟨some 12,.move (.t 1),none,0,[]⟩,
  ⟨some 13,.bin .quo (.t 12) (.c (.s (.int .i64 64))),none,1,[]⟩,
  ⟨some 6,.move (.t 13),none,2,[]⟩]) (RC.block 0 (RC.loop R.bits_Map_After_l2))) R.bits_Map_After_s3))))
theorem bits_Map_After_ok : chkFunc Go.Proofs.Tryz.prog [0] Go.Proofs.Tryz.f282 bits_Map_After = true := by kernel_rfl
def heap_Timers_remove : RFunc := RFunc.mk 48 [] (
  RC.seq (RC.region 7 [
  ⟨some 5,.move (.t 0),none,0,[]⟩,
  ⟨some 6,.nilCheck (.t 5),none,1,[]⟩,
  ⟨some 7,.fieldAddr 0 (.t 6),none,2,[]⟩,
  ⟨some 8,.load none (.t 7),none,3,[]⟩,
  ⟨some 9,.len (.t 8),none,4,[]⟩,
  ⟨some 10,.bin .sub (.t 9) (.c (.s (.int .i64 1))),none,5,[]⟩,
  ⟨some 4,.move (.t 10),none,6,[]⟩]) (RC.seq (RC.region 14 [
  ⟨some 11,.move (.t 0),none,0,[]⟩,
  ⟨some 12,.nilCheck (.t 11),none,1,[]⟩,
  ⟨some 13,.fieldAddr 0 (.t 12),none,2,[]⟩,
  ⟨some 14,.load none (.t 13),none,3,[]⟩,
  ⟨some 15,.move (.t 1),none,4,[]⟩,
  ⟨some 16,.move (.t 0),none,5,[]⟩,
  ⟨some 17,.nilCheck (.t 16),none,6,[]⟩,
  ⟨some 18,.fieldAddr 0 (.t 17),none,7,[]⟩,
  ⟨some 19,.load none (.t 18),none,8,[]⟩,
  ⟨some 20,.move (.t 4),none,9,[]⟩,
  ⟨some 21,.indexSl 3 (.t 19) (.t 20),none,10,[]⟩,
  ⟨some 22,.load (some 3) (.t 21),none,11,[]⟩,
  ⟨some 23,.indexSl 3 (.t 14) (.t 15),none,12,[]⟩,
  ⟨none,.store 3 (.t 23) (.t 22),none,13,[]⟩]) (RC.seq (RC.region 10 [
  ⟨some 24,.move (.t 0),none,0,[]⟩,
  ⟨some 25,.move (.t 0),none,1,[]⟩,
  ⟨some 26,.nilCheck (.t 25),none,2,[]⟩,
  ⟨some 27,.fieldAddr 0 (.t 26),none,3,[]⟩,
  ⟨some 28,.load none (.t 27),none,4,[]⟩,
  ⟨some 29,.move (.t 4),none,5,[]⟩,
  ⟨some 30,.slSl 3 (.t 28) none (some (.t 29)) none,none,6,[]⟩,
  ⟨some 31,.nilCheck (.t 24),none,7,[]⟩,
  ⟨some 32,.fieldAddr 0 (.t 31),none,8,[]⟩,
  ⟨none,.store 1 (.t 32) (.t 30),none,9,[]⟩]) (RC.seq (RC.region 3 [
  ⟨some 33,.move (.t 1),none,0,[]⟩,
  ⟨some 34,.move (.t 4),none,1,[]⟩,
  ⟨some 35,.bin .lss (.t 33) (.t 34),none,2,[]⟩]) (RC.cond (.t 35) (RC.seq (RC.region 6 [
  ⟨some 36,.move (.t 0),none,0,[]⟩,
  ⟨some 37,.nilCheck (.t 36),none,1,[]⟩,
  ⟨some 38,.fieldAddr 0 (.t 37),none,2,[]⟩,
  ⟨some 39,.load none (.t 38),none,3,[]⟩,
  ⟨some 40,.move (.t 1),none,4,[]⟩,
  ⟨some 41,.call F.heap_row_up [(.t 39),(.t 40)],none,5,[]⟩]) (RC.region 6 [
  ⟨some 42,.move (.t 0),none,0,[]⟩,
  ⟨some 43,.nilCheck (.t 42),none,1,[]⟩,
  ⟨some 44,.fieldAddr 0 (.t 43),none,2,[]⟩,
  ⟨some 45,.load none (.t 44),none,3,[]⟩,
  ⟨some 46,.move (.t 1),none,4,[]⟩,
  ⟨some 47,.call F.heap_row_down [(.t 45),(.t 46)],none,5,[]⟩])) (RC.skip))))))
theorem heap_Timers_remove_ok : chkFunc Go.Proofs.Tryz.prog [0] Go.Proofs.Tryz.f283 heap_Timers_remove = true := by kernel_rfl
def slices_insertionSortCmpFunc_cyc_Fired_l0 : RC :=
  RC.seq (RC.seq (RC.region 17 [
  ⟨some 18,.move (.t 9),none,0,[]⟩,
  ⟨some 19,.move (.t 1),none,1,[]⟩,
  ⟨some 20,.bin .gtr (.t 18) (.t 19),none,2,[]⟩,
  ⟨some 21,.move (.t 20),none,3,[]⟩,
  ⟨some 22,.move (.t 3),(some (21,true)),4,[]⟩,
  ⟨some 23,.move (.t 0),(some (21,true)),5,[]⟩,
  ⟨some 24,.move (.t 9),(some (21,true)),6,[]⟩,
  ⟨some 25,.indexSl 3 (.t 23) (.t 24),(some (21,true)),7,[]⟩,
  ⟨some 26,.load (some 3) (.t 25),(some (21,true)),8,[]⟩,
  ⟨some 27,.move (.t 0),(some (21,true)),9,[]⟩,
  ⟨some 28,.move (.t 9),(some (21,true)),10,[]⟩,
  ⟨some 29,.bin .sub (.t 28) (.c (.s (.int .i64 1))),(some (21,true)),11,[]⟩,
  ⟨some 30,.indexSl 3 (.t 27) (.t 29),(some (21,true)),12,[]⟩,
  ⟨some 31,.load (some 3) (.t 30),(some (21,true)),13,[]⟩,
  ⟨some 32,.callv (.t 22) [(.t 26),(.t 31)],(some (21,true)),14,[]⟩,
  ⟨some 33,.bin .lss (.t 32) (.c (.s (.int .i64 0))),(some (21,true)),15,[]⟩,
  ⟨some 34,.pick (.t 21) (.t 33) (.c (.s (.bool false))),none,16,[]⟩]) (RC.cond (.t 34) (RC.skip) (RC.exit 2))) (RC.seq (RC.block 3 (RC.region 18 [
  ⟨some 37,.move (.t 0),none,0,[]⟩,
  ⟨some 38,.move (.t 9),none,1,[]⟩,
  ⟨some 39,.move (.t 0),none,2,[]⟩,
  ⟨some 40,.move (.t 9),none,3,[]⟩,
  ⟨some 41,.bin .sub (.t 40) (.c (.s (.int .i64 1))),none,4,[]⟩,
  ⟨some 42,.move (.t 0),none,5,[]⟩,
  ⟨some 43,.move (.t 9),none,6,[]⟩,
  ⟨some 44,.bin .sub (.t 43) (.c (.s (.int .i64 1))),none,7,[]⟩,
  ⟨some 45,.indexSl 3 (.t 42) (.t 44),none,8,[]⟩,
  ⟨some 46,.load (some 3) (.t 45),none,9,[]⟩,
  ⟨some 47,.move (.t 0),none,10,[]⟩,
  ⟨some 48,.move (.t 9),none,11,[]⟩,
  ⟨some 49,.indexSl 3 (.t 47) (.t 48),none,12,[]⟩,
  ⟨some 50,.load (some 3) (.t 49),none,13,[]⟩,
  ⟨some 51,.indexSl 3 (.t 37) (.t 38),none,14,[]⟩,
  ⟨none,.store 3 (.t 51) (.t 46),none,15,[]⟩,
  ⟨some 52,.indexSl 3 (.t 39) (.t 41),none,16,[]⟩,
  ⟨none,.store 3 (.t 52) (.t 50),none,17,[]⟩])) (RC.region 3 [
  ⟨some 35,.move (.t 9),none,0,[]⟩,
  ⟨some 36,.bin .sub (.t 35) (.c (.s (.int .i64 1))),none,1,[]⟩,
  ⟨some 9,.move (.t 36),none,2,[]⟩]))
def slices_insertionSortCmpFunc_cyc_Fired_s1 : RC :=
  RC.region 3 [
  ⟨some 15,.move (.t 8),none,0,[]⟩,
  ⟨some 16,.bin .add (.t 15) (.c (.s (.int .i64 1))),none,1,[]⟩,
  ⟨some 8,.move (.t 16),none,2,[]⟩]
def slices_insertionSortCmpFunc_cyc_Fired_l2 : RC :=
  RC.seq (RC.seq (RC.region 3 [
  ⟨some 12,.move (.t 8),none,0,[]⟩,
  ⟨some 13,.move (.t 2),none,1,[]⟩,
  ⟨some 14,.bin .lss (.t 12) (.t 13),none,2,[]⟩]) (RC.cond (.t 14) (RC.skip) (RC.exit 0))) (RC.seq (RC.block 1 (RC.seq (RC.region 2 [
  ⟨some 17,.move (.t 8),none,0,[]⟩,
  ⟨some 9,.move (.t 17),none,1,[]⟩]) (RC.block 2 (RC.loop R.slices_insertionSortCmpFunc_cyc_Fired_l0)))) R.slices_insertionSortCmpFunc_cyc_Fired_s1)
def slices_insertionSortCmpFunc_cyc_Fired : RFunc := RFunc.mk 53 [] (
  RC.seq (RC.region 3 [
  ⟨some 10,.move (.t 1),none,0,[]⟩,
  ⟨some 11,.bin .add (.t 10) (.c (.s (.int .i64 1))),none,1,[]⟩,
  ⟨some 8,.move (.t 11),none,2,[]⟩]) (RC.block 0 (RC.loop R.slices_insertionSortCmpFunc_cyc_Fired_l2)))
theorem slices_insertionSortCmpFunc_cyc_Fired_ok : chkFunc Go.Proofs.Tryz.prog [0] Go.Proofs.Tryz.f284 slices_insertionSortCmpFunc_cyc_Fired = true := by kernel_rfl
def slices_symMergeCmpFunc_cyc_Fired_l0 : RC :=
  RC.seq (RC.seq (RC.region 3 [
  ⟨some 31,.move (.t 10),none,0,[]⟩,
  ⟨some 32,.move (.t 11),none,1,[]⟩,
  ⟨some 33,.bin .lss (.t 31) (.t 32),none,2,[]⟩]) (RC.cond (.t 33) (RC.skip) (RC.exit 0))) (RC.block 1 (RC.seq (RC.region 7 [
  ⟨some 34,.move (.t 10),none,0,[]⟩,
  ⟨some 35,.move (.t 11),none,1,[]⟩,
  ⟨some 36,.bin .add (.t 34) (.t 35),none,2,[]⟩,
  ⟨some 37,.conv .u64 (.t 36),none,3,[]⟩,
  ⟨some 38,.bin .shr (.t 37) (.c (.s (.int .u64 1))),none,4,[]⟩,
  ⟨some 39,.conv .i64 (.t 38),none,5,[]⟩,
  ⟨some 12,.move (.t 39),none,6,[]⟩]) (RC.seq (RC.region 11 [
  ⟨some 40,.move (.t 4),none,0,[]⟩,
  ⟨some 41,.move (.t 0),none,1,[]⟩,
  ⟨some 42,.move (.t 12),none,2,[]⟩,
  ⟨some 43,.indexSl 3 (.t 41) (.t 42),none,3,[]⟩,
  ⟨some 44,.load (some 3) (.t 43),none,4,[]⟩,
  ⟨some 45,.move (.t 0),none,5,[]⟩,
  ⟨some 46,.move (.t 1),none,6,[]⟩,
  ⟨some 47,.indexSl 3 (.t 45) (.t 46),none,7,[]⟩,
  ⟨some 48,.load (some 3) (.t 47),none,8,[]⟩,
  ⟨some 49,.callv (.t 40) [(.t 44),(.t 48)],none,9,[]⟩,
  ⟨some 50,.bin .lss (.t 49) (.c (.s (.int .i64 0))),none,10,[]⟩]) (RC.cond (.t 50) (RC.region 3 [
  ⟨some 51,.move (.t 12),none,0,[]⟩,
  ⟨some 52,.bin .add (.t 51) (.c (.s (.int .i64 1))),none,1,[]⟩,
  ⟨some 10,.move (.t 52),none,2,[]⟩]) (RC.region 2 [
  ⟨some 53,.move (.t 12),none,0,[]⟩,
  ⟨some 11,.move (.t 53),none,1,[]⟩])))))
def slices_symMergeCmpFunc_cyc_Fired_l1 : RC :=
  RC.seq (RC.seq (RC.region 4 [
  ⟨some 55,.move (.t 13),none,0,[]⟩,
  ⟨some 56,.move (.t 10),none,1,[]⟩,
  ⟨some 57,.bin .sub (.t 56) (.c (.s (.int .i64 1))),none,2,[]⟩,
  ⟨some 58,.bin .lss (.t 55) (.t 57),none,3,[]⟩]) (RC.cond (.t 58) (RC.skip) (RC.exit 2))) (RC.seq (RC.block 3 (RC.region 18 [
  ⟨some 61,.move (.t 0),none,0,[]⟩,
  ⟨some 62,.move (.t 13),none,1,[]⟩,
  ⟨some 63,.move (.t 0),none,2,[]⟩,
  ⟨some 64,.move (.t 13),none,3,[]⟩,
  ⟨some 65,.bin .add (.t 64) (.c (.s (.int .i64 1))),none,4,[]⟩,
  ⟨some 66,.move (.t 0),none,5,[]⟩,
  ⟨some 67,.move (.t 13),none,6,[]⟩,
  ⟨some 68,.bin .add (.t 67) (.c (.s (.int .i64 1))),none,7,[]⟩,
  ⟨some 69,.indexSl 3 (.t 66) (.t 68),none,8,[]⟩,
  ⟨some 70,.load (some 3) (.t 69),none,9,[]⟩,
  ⟨some 71,.move (.t 0),none,10,[]⟩,
  ⟨some 72,.move (.t 13),none,11,[]⟩,
  ⟨some 73,.indexSl 3 (.t 71) (.t 72),none,12,[]⟩,
  ⟨some 74,.load (some 3) (.t 73),none,13,[]⟩,
  ⟨some 75,.indexSl 3 (.t 61) (.t 62),none,14,[]⟩,
  ⟨none,.store 3 (.t 75) (.t 70),none,15,[]⟩,
  ⟨some 76,.indexSl 3 (.t 63) (.t 65),none,16,[]⟩,
  ⟨none,.store 3 (.t 76) (.t 74),none,17,[]⟩])) (RC.region 3 [
  ⟨some 59,.move (.t 13),none,0,[]⟩,
  ⟨some 60,.bin .add (.t 59) (.c (.s (.int .i64 1))),none,1,[]⟩,
  ⟨some 13,.move (.t 60),none,2,[]⟩]))
def slices_symMergeCmpFunc_cyc_Fired_s2 : RC :=
  RC.ret
def slices_symMergeCmpFunc_cyc_Fired_s3 : RC :=
  RC.seq (RC.seq (RC.region 2 [
  ⟨some 54,.move (.t 1),none,0,[]⟩,
  ⟨some 13,.move (.t 54),none,1,[]⟩]) (RC.block 2 (RC.loop R.slices_symMergeCmpFunc_cyc_Fired_l1))) R.slices_symMergeCmpFunc_cyc_Fired_s2
def slices_symMergeCmpFunc_cyc_Fired_l4 : RC :=
  RC.seq (RC.seq (RC.region 3 [
  ⟨some 83,.move (.t 14),none,0,[]⟩,
  ⟨some 84,.move (.t 15),none,1,[]⟩,
  ⟨some 85,.bin .lss (.t 83) (.t 84),none,2,[]⟩]) (RC.cond (.t 85) (RC.skip) (RC.exit 4))) (RC.block 5 (RC.seq (RC.region 7 [
  ⟨some 86,.move (.t 14),none,0,[]⟩,
  ⟨some 87,.move (.t 15),none,1,[]⟩,
  ⟨some 88,.bin .add (.t 86) (.t 87),none,2,[]⟩,
  ⟨some 89,.conv .u64 (.t 88),none,3,[]⟩,
  ⟨some 90,.bin .shr (.t 89) (.c (.s (.int .u64 1))),none,4,[]⟩,
  ⟨some 91,.conv .i64 (.t 90),none,5,[]⟩,
  ⟨some 16,.move (.t 91),none,6,[]⟩]) (RC.seq (RC.region 12 [
  ⟨some 92,.move (.t 4),none,0,[]⟩,
  ⟨some 93,.move (.t 0),none,1,[]⟩,
  ⟨some 94,.move (.t 2),none,2,[]⟩,
  ⟨some 95,.indexSl 3 (.t 93) (.t 94),none,3,[]⟩,
  ⟨some 96,.load (some 3) (.t 95),none,4,[]⟩,
  ⟨some 97,.move (.t 0),none,5,[]⟩,
  ⟨some 98,.move (.t 16),none,6,[]⟩,
  ⟨some 99,.indexSl 3 (.t 97) (.t 98),none,7,[]⟩,
  ⟨some 100,.load (some 3) (.t 99),none,8,[]⟩,
  ⟨some 101,.callv (.t 92) [(.t 96),(.t 100)],none,9,[]⟩,
  ⟨some 102,.bin .lss (.t 101) (.c (.s (.int .i64 0))),none,10,[]⟩,
  ⟨some 103,.un .not (.t 102),none,11,[]⟩]) (RC.cond (.t 103) (RC.region 3 [
  ⟨some 104,.move (.t 16),none,0,[]⟩,
  ⟨some 105,.bin .add (.t 104) (.c (.s (.int .i64 1))),none,1,[]⟩,
  ⟨some 14,.move (.t 105),none,2,[]⟩]) (RC.region 2 [
  ⟨some 106,.move (.t 16),none,0,[]⟩,
  ⟨some 15,.move (.t 106),none,1,[]⟩])))))
def slices_symMergeCmpFunc_cyc_Fired_l5 : RC :=
  RC.seq (RC.seq (RC.region 3 [
  ⟨some 108,.move (.t 17),none,0,[]⟩,
  ⟨some 109,.move (.t 14),none,1,[]⟩,
  ⟨some 110,.bin .gtr (.t 108) (.t 109),none,2,[]⟩]) (RC.cond (.t 110) (RC.skip) (RC.exit 6))) (RC.seq (RC.block 7 (RC.region 18 [
  ⟨some 113,.move (.t 0),none,0,[]⟩,
  ⟨some 114,.move (.t 17),none,1,[]⟩,
  ⟨some 115,.move (.t 0),none,2,[]⟩,
  ⟨some 116,.move (.t 17),none,3,[]⟩,
  ⟨some 117,.bin .sub (.t 116) (.c (.s (.int .i64 1))),none,4,[]⟩,
  ⟨some 118,.move (.t 0),none,5,[]⟩,
  ⟨some 119,.move (.t 17),none,6,[]⟩,
  ⟨some 120,.bin .sub (.t 119) (.c (.s (.int .i64 1))),none,7,[]⟩,
  ⟨some 121,.indexSl 3 (.t 118) (.t 120),none,8,[]⟩,
  ⟨some 122,.load (some 3) (.t 121),none,9,[]⟩,
  ⟨some 123,.move (.t 0),none,10,[]⟩,
  ⟨some 124,.move (.t 17),none,11,[]⟩,
  ⟨some 125,.indexSl 3 (.t 123) (.t 124),none,12,[]⟩,
  ⟨some 126,.load (some 3) (.t 125),none,13,[]⟩,
  ⟨some 127,.indexSl 3 (.t 113) (.t 114),none,14,[]⟩,
  ⟨none,.store 3 (.t 127) (.t 122),none,15,[]⟩,
  ⟨some 128,.indexSl 3 (.t 115) (.t 117),none,16,[]⟩,
  ⟨none,.store 3 (.t 128) (.t 126),none,17,[]⟩])) (RC.region 3 [
  ⟨some 111,.move (.t 17),none,0,[]⟩,
  ⟨some 112,.bin .sub (.t 111) (.c (.s (.int .i64 1))),none,1,[]⟩,
  ⟨some 17,.move (.t 112),none,2,[]⟩]))
def slices_symMergeCmpFunc_cyc_Fired_s6 : RC :=
  RC.ret
def slices_symMergeCmpFunc_cyc_Fired_s7 : RC :=
  RC.seq (RC.seq (RC.region 2 [
  ⟨some 107,.move (.t 2),none,0,[]⟩,
  ⟨some 17,.move (.t 107),none,1,[]⟩]) (RC.block 6 (RC.loop R.slices_symMergeCmpFunc_cyc_Fired_l5))) R.slices_symMergeCmpFunc_cyc_Fired_s6
def slices_symMergeCmpFunc_cyc_Fired_l8 : RC :=
  RC.seq (RC.seq (RC.region 3 [
  ⟨some 149,.move (.t 20),none,0,[]⟩,
  ⟨some 150,.move (.t 21),none,1,[]⟩,
  ⟨some 151,.bin .lss (.t 149) (.t 150),none,2,[]⟩]) (RC.cond (.t 151) (RC.skip) (RC.exit 8))) (RC.block 9 (RC.seq (RC.region 7 [
  ⟨some 152,.move (.t 20),none,0,[]⟩,
  ⟨some 153,.move (.t 21),none,1,[]⟩,
  ⟨some 154,.bin .add (.t 152) (.t 153),none,2,[]⟩,
  ⟨some 155,.conv .u64 (.t 154),none,3,[]⟩,
  ⟨some 156,.bin .shr (.t 155) (.c (.s (.int .u64 1))),none,4,[]⟩,
  ⟨some 157,.conv .i64 (.t 156),none,5,[]⟩,
  ⟨some 23,.move (.t 157),none,6,[]⟩]) (RC.seq (RC.region 14 [
  ⟨some 158,.move (.t 4),none,0,[]⟩,
  ⟨some 159,.move (.t 0),none,1,[]⟩,
  ⟨some 160,.move (.t 22),none,2,[]⟩,
  ⟨some 161,.move (.t 23),none,3,[]⟩,
  ⟨some 162,.bin .sub (.t 160) (.t 161),none,4,[]⟩,
  ⟨some 163,.indexSl 3 (.t 159) (.t 162),none,5,[]⟩,
  ⟨some 164,.load (some 3) (.t 163),none,6,[]⟩,
  ⟨some 165,.move (.t 0),none,7,[]⟩,
  ⟨some 166,.move (.t 23),none,8,[]⟩,
  ⟨some 167,.indexSl 3 (.t 165) (.t 166),none,9,[]⟩,
  ⟨some 168,.load (some 3) (.t 167),none,10,[]⟩,
  ⟨some 169,.callv (.t 158) [(.t 164),(.t 168)],none,11,[]⟩,
  ⟨some 170,.bin .lss (.t 169) (.c (.s (.int .i64 0))),none,12,[]⟩,
  ⟨some 171,.un .not (.t 170),none,13,[]⟩]) (RC.cond (.t 171) (RC.region 3 [
  ⟨some 172,.move (.t 23),none,0,[]⟩,
  ⟨some 173,.bin .add (.t 172) (.c (.s (.int .i64 1))),none,1,[]⟩,
  ⟨some 20,.move (.t 173),none,2,[]⟩]) (RC.region 2 [
  ⟨some 174,.move (.t 23),none,0,[]⟩,
  ⟨some 21,.move (.t 174),none,1,[]⟩])))))
def slices_symMergeCmpFunc_cyc_Fired_s9 : RC :=
  RC.seq (RC.region 8 [
  ⟨some 206,.move (.t 18),none,0,[]⟩,
  ⟨some 207,.move (.t 24),none,1,[]⟩,
  ⟨some 208,.bin .lss (.t 206) (.t 207),none,2,[]⟩,
  ⟨some 209,.move (.t 208),none,3,[]⟩,
  ⟨some 210,.move (.t 24),(some (209,true)),4,[]⟩,
  ⟨some 211,.move (.t 3),(some (209,true)),5,[]⟩,
  ⟨some 212,.bin .lss (.t 210) (.t 211),(some (209,true)),6,[]⟩,
  ⟨some 213,.pick (.t 209) (.t 212) (.c (.s (.bool false))),none,7,[]⟩]) (RC.cond (.t 213) (RC.region 6 [
  ⟨some 214,.move (.t 0),none,0,[]⟩,
  ⟨some 215,.move (.t 18),none,1,[]⟩,
  ⟨some 216,.move (.t 24),none,2,[]⟩,
  ⟨some 217,.move (.t 3),none,3,[]⟩,
  ⟨some 218,.move (.t 4),none,4,[]⟩,
  ⟨some 219,.call F.slices_symMergeCmpFunc_cyc_Fired [(.t 214),(.t 215),(.t 216),(.t 217),(.t 218)],none,5,[]⟩]) (RC.skip))
def slices_symMergeCmpFunc_cyc_Fired_s10 : RC :=
  RC.seq (RC.seq (RC.region 8 [
  ⟨some 192,.move (.t 1),none,0,[]⟩,
  ⟨some 193,.move (.t 20),none,1,[]⟩,
  ⟨some 194,.bin .lss (.t 192) (.t 193),none,2,[]⟩,
  ⟨some 195,.move (.t 194),none,3,[]⟩,
  ⟨some 196,.move (.t 20),(some (195,true)),4,[]⟩,
  ⟨some 197,.move (.t 18),(some (195,true)),5,[]⟩,
  ⟨some 198,.bin .lss (.t 196) (.t 197),(some (195,true)),6,[]⟩,
  ⟨some 199,.pick (.t 195) (.t 198) (.c (.s (.bool false))),none,7,[]⟩]) (RC.cond (.t 199) (RC.region 6 [
  ⟨some 200,.move (.t 0),none,0,[]⟩,
  ⟨some 201,.move (.t 1),none,1,[]⟩,
  ⟨some 202,.move (.t 20),none,2,[]⟩,
  ⟨some 203,.move (.t 18),none,3,[]⟩,
  ⟨some 204,.move (.t 4),none,4,[]⟩,
  ⟨some 205,.call F.slices_symMergeCmpFunc_cyc_Fired [(.t 200),(.t 201),(.t 202),(.t 203),(.t 204)],none,5,[]⟩]) (RC.skip))) R.slices_symMergeCmpFunc_cyc_Fired_s9
def slices_symMergeCmpFunc_cyc_Fired_s11 : RC :=
  RC.seq (RC.region 4 [
  ⟨some 175,.move (.t 19),none,0,[]⟩,
  ⟨some 176,.move (.t 20),none,1,[]⟩,
  ⟨some 177,.bin .sub (.t 175) (.t 176),none,2,[]⟩,
  ⟨some 24,.move (.t 177),none,3,[]⟩]) (RC.seq (RC.seq (RC.region 8 [
  ⟨some 178,.move (.t 20),none,0,[]⟩,
  ⟨some 179,.move (.t 2),none,1,[]⟩,
  ⟨some 180,.bin .lss (.t 178) (.t 179),none,2,[]⟩,
  ⟨some 181,.move (.t 180),none,3,[]⟩,
  ⟨some 182,.move (.t 2),(some (181,true)),4,[]⟩,
  ⟨some 183,.move (.t 24),(some (181,true)),5,[]⟩,
  ⟨some 184,.bin .lss (.t 182) (.t 183),(some (181,true)),6,[]⟩,
  ⟨some 185,.pick (.t 181) (.t 184) (.c (.s (.bool false))),none,7,[]⟩]) (RC.cond (.t 185) (RC.region 6 [
  ⟨some 186,.move (.t 0),none,0,[]⟩,
  ⟨some 187,.move (.t 20),none,1,[]⟩,
  ⟨some 188,.move (.t 2),none,2,[]⟩,
  ⟨some 189,.move (.t 24),none,3,[]⟩,
  ⟨some 190,.move (.t 4),none,4,[]⟩,
  ⟨some 191,.call F.slices_rotateCmpFunc_cyc_Fired [(.t 186),(.t 187),(.t 188),(.t 189),(.t 190)],none,5,[]⟩]) (RC.skip))) R.slices_symMergeCmpFunc_cyc_Fired_s10)
def slices_symMergeCmpFunc_cyc_Fired_s12 : RC :=
  RC.seq (RC.region 3 [
  ⟨some 147,.move (.t 19),none,0,[]⟩,
  ⟨some 148,.bin .sub (.t 147) (.c (.s (.int .i64 1))),none,1,[]⟩,
  ⟨some 22,.move (.t 148),none,2,[]⟩]) (RC.seq (RC.block 8 (RC.loop R.slices_symMergeCmpFunc_cyc_Fired_l8)) R.slices_symMergeCmpFunc_cyc_Fired_s11)
def slices_symMergeCmpFunc_cyc_Fired_s13 : RC :=
  RC.seq (RC.region 7 [
  ⟨some 129,.move (.t 1),none,0,[]⟩,
  ⟨some 130,.move (.t 3),none,1,[]⟩,
  ⟨some 131,.bin .add (.t 129) (.t 130),none,2,[]⟩,
  ⟨some 132,.conv .u64 (.t 131),none,3,[]⟩,
  ⟨some 133,.bin .shr (.t 132) (.c (.s (.int .u64 1))),none,4,[]⟩,
  ⟨some 134,.conv .i64 (.t 133),none,5,[]⟩,
  ⟨some 18,.move (.t 134),none,6,[]⟩]) (RC.seq (RC.region 4 [
  ⟨some 135,.move (.t 18),none,0,[]⟩,
  ⟨some 136,.move (.t 2),none,1,[]⟩,
  ⟨some 137,.bin .add (.t 135) (.t 136),none,2,[]⟩,
  ⟨some 19,.move (.t 137),none,3,[]⟩]) (RC.seq (RC.region 2 [
  ⟨some 20,.move (.c (.s (.int .i64 0))),none,0,[]⟩,
  ⟨some 21,.move (.c (.s (.int .i64 0))),none,1,[]⟩]) (RC.seq (RC.seq (RC.region 3 [
  ⟨some 138,.move (.t 2),none,0,[]⟩,
  ⟨some 139,.move (.t 18),none,1,[]⟩,
  ⟨some 140,.bin .gtr (.t 138) (.t 139),none,2,[]⟩]) (RC.cond (.t 140) (RC.seq (RC.region 4 [
  ⟨some 141,.move (.t 19),none,0,[]⟩,
  ⟨some 142,.move (.t 3),none,1,[]⟩,
  ⟨some 143,.bin .sub (.t 141) (.t 142),none,2,[]⟩,
  ⟨some 20,.move (.t 143),none,3,[]⟩]) (RC.region 2 [
  ⟨some 144,.move (.t 18),none,0,[]⟩,
  ⟨some 21,.move (.t 144),none,1,[]⟩])) (RC.seq (RC.region 2 [
  ⟨some 145,.move (.t 1),none,0,[]⟩,
  ⟨some 20,.move (.t 145),none,1,[]⟩]) (RC.region 2 [
  ⟨some 146,.move (.t 2),none,0,[]⟩,
  ⟨some 21,.move (.t 146),none,1,[]⟩])))) R.slices_symMergeCmpFunc_cyc_Fired_s12)))
def slices_symMergeCmpFunc_cyc_Fired_s14 : RC :=
  RC.seq (RC.seq (RC.region 4 [
  ⟨some 77,.move (.t 3),none,0,[]⟩,
  ⟨some 78,.move (.t 2),none,1,[]⟩,
  ⟨some 79,.bin .sub (.t 77) (.t 78),none,2,[]⟩,
  ⟨some 80,.bin .eql (.t 79) (.c (.s (.int .i64 1))),none,3,[]⟩]) (RC.cond (.t 80) (RC.seq (RC.region 2 [
  ⟨some 81,.move (.t 1),none,0,[]⟩,
  ⟨some 14,.move (.t 81),none,1,[]⟩]) (RC.seq (RC.region 2 [
  ⟨some 82,.move (.t 2),none,0,[]⟩,
  ⟨some 15,.move (.t 82),none,1,[]⟩]) (RC.seq (RC.block 4 (RC.loop R.slices_symMergeCmpFunc_cyc_Fired_l4)) R.slices_symMergeCmpFunc_cyc_Fired_s7))) (RC.skip))) R.slices_symMergeCmpFunc_cyc_Fired_s13
def slices_symMergeCmpFunc_cyc_Fired : RFunc := RFunc.mk 220 [] (
  RC.seq (RC.seq (RC.region 4 [
  ⟨some 25,.move (.t 2),none,0,[]⟩,
  ⟨some 26,.move (.t 1),none,1,[]⟩,
  ⟨some 27,.bin .sub (.t 25) (.t 26),none,2,[]⟩,
  ⟨some 28,.bin .eql (.t 27) (.c (.s (.int .i64 1))),none,3,[]⟩]) (RC.cond (.t 28) (RC.seq (RC.region 2 [
  ⟨some 29,.move (.t 2),none,0,[]⟩,
  ⟨some 10,.move (.t 29),none,1,[]⟩]) (RC.seq (RC.region 2 [
  ⟨some 30,.move (.t 3),none,0,[]⟩,
  ⟨some 11,.move (.t 30),none,1,[]⟩]) (RC.seq (RC.block 0 (RC.loop R.slices_symMergeCmpFunc_cyc_Fired_l0)) R.slices_symMergeCmpFunc_cyc_Fired_s3))) (RC.skip))) R.slices_symMergeCmpFunc_cyc_Fired_s14)
theorem slices_symMergeCmpFunc_cyc_Fired_ok : chkFunc Go.Proofs.Tryz.prog [0] Go.Proofs.Tryz.f285 slices_symMergeCmpFunc_cyc_Fired = true := by kernel_rfl
def cmp_isNaN_uint64 : RFunc := RFunc.mk 6 [.tmp 2] (
  RC.seq (RC.region 1 [
  ⟨some 2,.move (.c (.s (.bool false))),none,0,[]⟩]) (RC.seq (RC.region 4 [
  ⟨some 3,.move (.t 0),none,0,[]⟩,
  ⟨some 4,.move (.t 0),none,1,[]⟩,
  ⟨some 5,.bin .neq (.t 3) (.t 4),none,2,[]⟩,
  ⟨some 2,.move (.t 5),none,3,[]⟩]) (RC.ret)))
theorem cmp_isNaN_uint64_ok : chkFunc Go.Proofs.Tryz.prog [0] Go.Proofs.Tryz.f286 cmp_isNaN_uint64 = true := by kernel_rfl
def cmp_isNaN_int : RFunc := RFunc.mk 6 [.tmp 2] (
  RC.seq (RC.region 1 [
  ⟨some 2,.move (.c (.s (.bool false))),none,0,[]⟩]) (RC.seq (RC.region 4 [
  ⟨some 3,.move (.t 0),none,0,[]⟩,
  ⟨some 4,.move (.t 0),none,1,[]⟩,
  ⟨some 5,.bin .neq (.t 3) (.t 4),none,2,[]⟩,
  ⟨some 2,.move (.t 5),none,3,[]⟩]) (RC.ret)))
theorem cmp_isNaN_int_ok : chkFunc Go.Proofs.Tryz.prog [0] Go.Proofs.Tryz.f287 cmp_isNaN_int = true := by kernel_rfl
def slices_IndexFunc__order_Item_order_Item_l0 : RC :=
  RC.seq (RC.region 1 [
  ⟨some 9,.bin .lss (.t 8) (.t 7),none,0,[]⟩]) (RC.seq (RC.cond (.t 9) (RC.skip) (RC.exit 0)) (RC.seq (RC.block 1 (RC.seq (RC.region 2 [
  ⟨some 10,.move (.t 8),none,0,[]⟩,
  ⟨some 5,.move (.t 10),none,1,[]⟩]) (RC.seq (RC.region 6 [
  ⟨some 11,.move (.t 1),none,0,[]⟩,
  ⟨some 12,.move (.t 0),none,1,[]⟩,
  ⟨some 13,.move (.t 5),none,2,[]⟩,
  ⟨some 14,.indexSl 2 (.t 12) (.t 13),none,3,[]⟩,
  ⟨some 15,.load (some 2) (.t 14),none,4,[]⟩,
  ⟨some 16,.callv (.t 11) [(.t 15)],none,5,[]⟩]) (RC.cond (.t 16) (RC.seq (RC.region 2 [
  ⟨some 17,.move (.t 5),none,0,[]⟩,
  ⟨some 4,.move (.t 17),none,1,[]⟩]) (RC.ret)) (RC.skip))))) (RC.region 2 [
  ⟨some 18,.bin .add (.t 8) (.c (.s (.int .i64 1))),none,0,[]⟩,
  ⟨some 8,.move (.t 18),none,1,[]⟩])))
def slices_IndexFunc__order_Item_order_Item_s1 : RC :=
  RC.seq (RC.region 1 [
  ⟨some 4,.move (.c (.s (.int .i64 (-1)))),none,0,[]⟩]) (RC.ret)
def slices_IndexFunc__order_Item_order_Item : RFunc := RFunc.mk 19 [.tmp 4] (
  RC.seq (RC.region 1 [
  ⟨some 4,.move (.c (.s (.int .i64 0))),none,0,[]⟩]) (RC.seq (RC.seq (RC.region 3 [
  ⟨some 6,.move (.t 0),none,0,[]⟩,
  ⟨some 7,.len (.t 6),none,1,[]⟩,
  ⟨some 8,.move (.c (.s (.int .i64 0))),none,2,[]⟩]) (RC.block 0 (RC.loop R.slices_IndexFunc__order_Item_order_Item_l0))) R.slices_IndexFunc__order_Item_order_Item_s1))
theorem slices_IndexFunc__order_Item_order_Item_ok : chkFunc Go.Proofs.Tryz.prog [0] Go.Proofs.Tryz.f288 slices_IndexFunc__order_Item_order_Item = true := by kernel_rfl
def order_Line_at_1 : RFunc := RFunc.mk 8 [.tmp 3] (
  RC.seq (RC.region 2 [
  ⟨some 2,.box (.t 0),none,0,[]⟩,
  ⟨some 3,.move (.c (.s (.bool false))),none,1,[]⟩]) (RC.seq (RC.region 5 [
  ⟨some 4,.fieldAddr 0 (.t 2),none,0,[]⟩,
  ⟨some 5,.load none (.t 4),none,1,[]⟩,
  ⟨some 6,.load none (.t 1),none,2,[]⟩,
  ⟨some 7,.bin .eql (.t 5) (.t 6),none,3,[]⟩,
  ⟨some 3,.move (.t 7),none,4,[]⟩]) (RC.ret)))
theorem order_Line_at_1_ok : chkFunc Go.Proofs.Tryz.prog [0] Go.Proofs.Tryz.f289 order_Line_at_1 = true := by kernel_rfl
def slices_IndexFunc__int_int_l0 : RC :=
  RC.seq (RC.region 1 [
  ⟨some 9,.bin .lss (.t 8) (.t 7),none,0,[]⟩]) (RC.seq (RC.cond (.t 9) (RC.skip) (RC.exit 0)) (RC.seq (RC.block 1 (RC.seq (RC.region 2 [
  ⟨some 10,.move (.t 8),none,0,[]⟩,
  ⟨some 5,.move (.t 10),none,1,[]⟩]) (RC.seq (RC.region 6 [
  ⟨some 11,.move (.t 1),none,0,[]⟩,
  ⟨some 12,.move (.t 0),none,1,[]⟩,
  ⟨some 13,.move (.t 5),none,2,[]⟩,
  ⟨some 14,.indexSl 1 (.t 12) (.t 13),none,3,[]⟩,
  ⟨some 15,.load none (.t 14),none,4,[]⟩,
  ⟨some 16,.callv (.t 11) [(.t 15)],none,5,[]⟩]) (RC.cond (.t 16) (RC.seq (RC.region 2 [
  ⟨some 17,.move (.t 5),none,0,[]⟩,
  ⟨some 4,.move (.t 17),none,1,[]⟩]) (RC.ret)) (RC.skip))))) (RC.region 2 [
  ⟨some 18,.bin .add (.t 8) (.c (.s (.int .i64 1))),none,0,[]⟩,
  ⟨some 8,.move (.t 18),none,1,[]⟩])))
def slices_IndexFunc__int_int_s1 : RC :=
  RC.seq (RC.region 1 [
  ⟨some 4,.move (.c (.s (.int .i64 (-1)))),none,0,[]⟩]) (RC.ret)
def slices_IndexFunc__int_int : RFunc := RFunc.mk 19 [.tmp 4] (
  RC.seq (RC.region 1 [
  ⟨some 4,.move (.c (.s (.int .i64 0))),none,0,[]⟩]) (RC.seq (RC.seq (RC.region 3 [
  ⟨some 6,.move (.t 0),none,0,[]⟩,
  ⟨some 7,.len (.t 6),none,1,[]⟩,
  ⟨some 8,.move (.c (.s (.int .i64 0))),none,2,[]⟩]) (RC.block 0 (RC.loop R.slices_IndexFunc__int_int_l0))) R.slices_IndexFunc__int_int_s1))
theorem slices_IndexFunc__int_int_ok : chkFunc Go.Proofs.Tryz.prog [0] Go.Proofs.Tryz.f290 slices_IndexFunc__int_int = true := by kernel_rfl
def bits_Map_Set_l0 : RC :=
  RC.seq (RC.region 1 [
  ⟨some 12,.bin .lss (.t 11) (.t 10),none,0,[]⟩]) (RC.seq (RC.cond (.t 12) (RC.skip) (RC.exit 0)) (RC.seq (RC.block 1 (RC.seq (RC.region 3 [
  ⟨some 13,.indexSl 1 (.t 9) (.t 11),none,0,[]⟩,
  ⟨some 14,.load none (.t 13),none,1,[]⟩,
  ⟨some 5,.move (.t 14),none,2,[]⟩]) (RC.seq (RC.region 9 [
  ⟨some 16,.move (.t 5),none,0,[]⟩,
  ⟨some 17,.call F.bits_place [(.t 16)],none,1,[]⟩,
  ⟨some 15,.move (.t 17),none,2,[]⟩,
  ⟨some 18,.extract 0 (.t 15),none,3,[]⟩,
  ⟨some 19,.extract 1 (.t 15),none,4,[]⟩,
  ⟨some 20,.extract 2 (.t 15),none,5,[]⟩,
  ⟨some 6,.move (.t 18),none,6,[]⟩,
  ⟨some 7,.move (.t 19),none,7,[]⟩,
  ⟨some 8,.move (.t 20),none,8,[]⟩]) (RC.seq (RC.region 1 [
  ⟨some 21,.move (.t 8),none,0,[]⟩]) (RC.cond (.t 21) (RC.region 12 [
  ⟨some 22,.move (.t 0),none,0,[]⟩,
  ⟨some 23,.move (.t 6),none,1,[]⟩,
  ⟨some 24,.nilCheck (.t 22),none,2,[]⟩,
  ⟨some 25,.fieldAddr 0 (.t 24),none,3,[]⟩,
  ⟨some 26,.indexArr 4 1 (.t 25) (.t 23),none,4,[]⟩,
  ⟨some 27,.load none (.t 26),none,5,[]⟩,
  ⟨some 28,.move (.t 7),none,6,[]⟩,
  ⟨some 29,.bin .or (.t 27) (.t 28),none,7,[]⟩,
  ⟨some 30,.nilCheck (.t 22),none,8,[]⟩,
  ⟨some 31,.fieldAddr 0 (.t 30),none,9,[]⟩,
  ⟨some 32,.indexArr 4 1 (.t 31) (.t 23),none,10,[]⟩,
  ⟨none,.store 1 (.t 32) (.t 29),none,11,[]⟩]) (RC.skip)))))) (RC.region 2 [
  ⟨some 33,.bin .add (.t 11) (.c (.s (.int .i64 1))),none,0,[]⟩,
  ⟨some 11,.move (.t 33),none,1,[]⟩])))
def bits_Map_Set : RFunc := RFunc.mk 34 [] (
  RC.seq (RC.region 3 [
  ⟨some 9,.move (.t 1),none,0,[]⟩,
  ⟨some 10,.len (.t 9),none,1,[]⟩,
  ⟨some 11,.move (.c (.s (.int .i64 0))),none,2,[]⟩]) (RC.block 0 (RC.loop R.bits_Map_Set_l0)))
theorem bits_Map_Set_ok : chkFunc Go.Proofs.Tryz.prog [0] Go.Proofs.Tryz.f291 bits_Map_Set = true := by kernel_rfl
def slices_Insert__order_Item_order_Item : RFunc := RFunc.mk 95 [.tmp 6] (
  RC.seq (RC.region 1 [
  ⟨some 6,.move (.c (.s (.slice none 0 0 1))),none,0,[]⟩]) (RC.seq (RC.region 3 [
  ⟨some 10,.move (.t 0),none,0,[]⟩,
  ⟨some 11,.move (.t 1),none,1,[]⟩,
  ⟨some 12,.slSl 2 (.t 10) (some (.t 11)) none none,none,2,[]⟩]) (RC.seq (RC.region 3 [
  ⟨some 13,.move (.t 2),none,0,[]⟩,
  ⟨some 14,.len (.t 13),none,1,[]⟩,
  ⟨some 7,.move (.t 14),none,2,[]⟩]) (RC.seq (RC.seq (RC.region 2 [
  ⟨some 15,.move (.t 7),none,0,[]⟩,
  ⟨some 16,.bin .eql (.t 15) (.c (.s (.int .i64 0))),none,1,[]⟩]) (RC.cond (.t 16) (RC.seq (RC.region 2 [
  ⟨some 17,.move (.t 0),none,0,[]⟩,
  ⟨some 6,.move (.t 17),none,1,[]⟩]) (RC.ret)) (RC.skip))) (RC.seq (RC.region 3 [
  ⟨some 18,.move (.t 0),none,0,[]⟩,
  ⟨some 19,.len (.t 18),none,1,[]⟩,
  ⟨some 8,.move (.t 19),none,2,[]⟩]) (RC.seq (RC.seq (RC.region 3 [
  ⟨some 20,.move (.t 1),none,0,[]⟩,
  ⟨some 21,.move (.t 8),none,1,[]⟩,
  ⟨some 22,.bin .eql (.t 20) (.t 21),none,2,[]⟩]) (RC.cond (.t 22) (RC.seq (RC.region 4 [
  ⟨some 23,.move (.t 0),none,0,[]⟩,
  ⟨some 24,.move (.t 2),none,1,[]⟩,
  ⟨some 25,.append 2 16 (.t 23) (.t 24),none,2,[]⟩,
  ⟨some 6,.move (.t 25),none,3,[]⟩]) (RC.ret)) (RC.skip))) (RC.seq (RC.seq (RC.region 6 [
  ⟨some 26,.move (.t 8),none,0,[]⟩,
  ⟨some 27,.move (.t 7),none,1,[]⟩,
  ⟨some 28,.bin .add (.t 26) (.t 27),none,2,[]⟩,
  ⟨some 29,.move (.t 0),none,3,[]⟩,
  ⟨some 30,.stuck,none,4,[]⟩,
  ⟨some 31,.bin .gtr (.t 28) (.t 30),none,5,[]⟩]) (RC.cond (.t 31) (RC.seq (RC.region 10 [
  ⟨some 32,.move (.t 0),none,0,[]⟩,
  ⟨some 33,.move (.t 1),none,1,[]⟩,
  ⟨some 34,.slSl 2 (.t 32) none (some (.t 33)) none,none,2,[]⟩,
  ⟨some 35,.move (.t 8),none,3,[]⟩,
  ⟨some 36,.move (.t 7),none,4,[]⟩,
  ⟨some 37,.bin .add (.t 35) (.t 36),none,5,[]⟩,
  ⟨some 38,.move (.t 1),none,6,[]⟩,
  ⟨some 39,.bin .sub (.t 37) (.t 38),none,7,[]⟩,
  ⟨some 40,.stuck,none,8,[]⟩,
  ⟨some 9,.move (.t 40),none,9,[]⟩]) (RC.seq (RC.region 5 [
  ⟨some 41,.move (.t 9),none,0,[]⟩,
  ⟨some 42,.move (.t 1),none,1,[]⟩,
  ⟨some 43,.slSl 2 (.t 41) (some (.t 42)) none none,none,2,[]⟩,
  ⟨some 44,.move (.t 2),none,3,[]⟩,
  ⟨some 45,.copy 2 (.t 43) (.t 44),none,4,[]⟩]) (RC.seq (RC.region 9 [
  ⟨some 46,.move (.t 9),none,0,[]⟩,
  ⟨some 47,.move (.t 1),none,1,[]⟩,
  ⟨some 48,.move (.t 7),none,2,[]⟩,
  ⟨some 49,.bin .add (.t 47) (.t 48),none,3,[]⟩,
  ⟨some 50,.slSl 2 (.t 46) (some (.t 49)) none none,none,4,[]⟩,
  ⟨some 51,.move (.t 0),none,5,[]⟩,
  ⟨some 52,.move (.t 1),none,6,[]⟩,
  ⟨some 53,.slSl 2 (.t 51) (some (.t 52)) none none,none,7,[]⟩,
  ⟨some 54,.copy 2 (.t 50) (.t 53),none,8,[]⟩]) (RC.seq (RC.region 2 [
  ⟨some 55,.move (.t 9),none,0,[]⟩,
  ⟨some 6,.move (.t 55),none,1,[]⟩]) (RC.ret))))) (RC.skip))) (RC.seq (RC.region 6 [
  ⟨some 56,.move (.t 0),none,0,[]⟩,
  ⟨some 57,.move (.t 8),none,1,[]⟩,
  ⟨some 58,.move (.t 7),none,2,[]⟩,
  ⟨some 59,.bin .add (.t 57) (.t 58),none,3,[]⟩,
  ⟨some 60,.slSl 2 (.t 56) none (some (.t 59)) none,none,4,[]⟩,
  ⟨some 0,.move (.t 60),none,5,[]⟩]) (RC.seq (RC.seq (RC.region 8 [
  ⟨some 61,.move (.t 2),none,0,[]⟩,
  ⟨some 62,.move (.t 0),none,1,[]⟩,
  ⟨some 63,.move (.t 1),none,2,[]⟩,
  ⟨some 64,.move (.t 7),none,3,[]⟩,
  ⟨some 65,.bin .add (.t 63) (.t 64),none,4,[]⟩,
  ⟨some 66,.slSl 2 (.t 62) (some (.t 65)) none none,none,5,[]⟩,
  ⟨some 67,.call F.slices_overlaps_order_Item [(.t 61),(.t 66)],none,6,[]⟩,
  ⟨some 68,.un .not (.t 67),none,7,[]⟩]) (RC.cond (.t 68) (RC.seq (RC.region 9 [
  ⟨some 69,.move (.t 0),none,0,[]⟩,
  ⟨some 70,.move (.t 1),none,1,[]⟩,
  ⟨some 71,.move (.t 7),none,2,[]⟩,
  ⟨some 72,.bin .add (.t 70) (.t 71),none,3,[]⟩,
  ⟨some 73,.slSl 2 (.t 69) (some (.t 72)) none none,none,4,[]⟩,
  ⟨some 74,.move (.t 0),none,5,[]⟩,
  ⟨some 75,.move (.t 1),none,6,[]⟩,
  ⟨some 76,.slSl 2 (.t 74) (some (.t 75)) none none,none,7,[]⟩,
  ⟨some 77,.copy 2 (.t 73) (.t 76),none,8,[]⟩]) (RC.seq (RC.region 5 [
  ⟨some 78,.move (.t 0),none,0,[]⟩,
  ⟨some 79,.move (.t 1),none,1,[]⟩,
  ⟨some 80,.slSl 2 (.t 78) (some (.t 79)) none none,none,2,[]⟩,
  ⟨some 81,.move (.t 2),none,3,[]⟩,
  ⟨some 82,.copy 2 (.t 80) (.t 81),none,4,[]⟩]) (RC.seq (RC.region 2 [
  ⟨some 83,.move (.t 0),none,0,[]⟩,
  ⟨some 6,.move (.t 83),none,1,[]⟩]) (RC.ret)))) (RC.skip))) (RC.seq (RC.region 5 [
  ⟨some 84,.move (.t 0),none,0,[]⟩,
  ⟨some 85,.move (.t 8),none,1,[]⟩,
  ⟨some 86,.slSl 2 (.t 84) (some (.t 85)) none none,none,2,[]⟩,
  ⟨some 87,.move (.t 2),none,3,[]⟩,
  ⟨some 88,.copy 2 (.t 86) (.t 87),none,4,[]⟩]) (RC.seq (RC.region 5 [
  ⟨some 89,.move (.t 0),none,0,[]⟩,
  ⟨some 90,.move (.t 1),none,1,[]⟩,
  ⟨some 91,.slSl 2 (.t 89) (some (.t 90)) none none,none,2,[]⟩,
  ⟨some 92,.move (.t 7),none,3,[]⟩,
  ⟨some 93,.call F.slices_rotateRight_order_Item [(.t 91),(.t 92)],none,4,[]⟩]) (RC.seq (RC.region 2 [
  ⟨some 94,.move (.t 0),none,0,[]⟩,
  ⟨some 6,.move (.t 94),none,1,[]⟩]) (RC.ret)))))))))))))
theorem slices_Insert__order_Item_order_Item_ok : chkFunc Go.Proofs.Tryz.prog [0] Go.Proofs.Tryz.f292 slices_Insert__order_Item_order_Item = true := by kernel_rfl
def mtx_All_leave_1 : RFunc := RFunc.mk 7 [.tmp 3] (
  RC.seq (RC.region 1 [
  ⟨some 3,.move (.c (.s (.bool false))),none,0,[]⟩]) (RC.seq (RC.region 4 [
  ⟨some 4,.move (.t 0),none,0,[]⟩,
  ⟨some 5,.load none (.t 1),none,1,[]⟩,
  ⟨some 6,.bin .eql (.t 4) (.t 5),none,2,[]⟩,
  ⟨some 3,.move (.t 6),none,3,[]⟩]) (RC.ret)))
theorem mtx_All_leave_1_ok : chkFunc Go.Proofs.Tryz.prog [0] Go.Proofs.Tryz.f296 mtx_All_leave_1 = true := by kernel_rfl
def heap_Timers_find : RFunc := RFunc.mk 11 [.tmp 4] (
  RC.seq (RC.region 2 [
  ⟨some 3,.box (.t 1),none,0,[]⟩,
  ⟨some 4,.move (.c (.s (.int .i64 0))),none,1,[]⟩]) (RC.seq (RC.region 7 [
  ⟨some 5,.move (.t 0),none,0,[]⟩,
  ⟨some 6,.nilCheck (.t 5),none,1,[]⟩,
  ⟨some 7,.fieldAddr 0 (.t 6),none,2,[]⟩,
  ⟨some 8,.load none (.t 7),none,3,[]⟩,
  ⟨some 9,.makeFunc F.heap_Timers_find_1 [(.t 3)],none,4,[]⟩,
  ⟨some 10,.call F.slices_IndexFunc_heap_row_heap_entry [(.t 8),(.t 9)],none,5,[]⟩,
  ⟨some 4,.move (.t 10),none,6,[]⟩]) (RC.ret)))
theorem heap_Timers_find_ok : chkFunc Go.Proofs.Tryz.prog [0] Go.Proofs.Tryz.f298 heap_Timers_find = true := by kernel_rfl
def bits_place : RFunc := RFunc.mk 18 [.tmp 2,.tmp 3,.tmp 4] (
  RC.seq (RC.region 3 [
  ⟨some 2,.move (.c (.s (.int .i64 0))),none,0,[]⟩,
  ⟨some 3,.move (.c (.s (.int .u64 0))),none,1,[]⟩,
  ⟨some 4,.move (.c (.s (.bool false))),none,2,[]⟩]) (RC.seq (RC.seq (RC.region 6 [
  ⟨some 5,.move (.t 0),none,0,[]⟩,
  ⟨some 6,.bin .lss (.t 5) (.c (.s (.int .i64 1))),none,1,[]⟩,
  ⟨some 7,.move (.t 6),none,2,[]⟩,
  ⟨some 8,.move (.t 0),(some (7,false)),3,[]⟩,
  ⟨some 9,.bin .gtr (.t 8) (.c (.s (.int .i64 256))),(some (7,false)),4,[]⟩,
  ⟨some 10,.pick (.t 7) (.c (.s (.bool true))) (.t 9),none,5,[]⟩]) (RC.cond (.t 10) (RC.seq (RC.region 3 [
  ⟨some 2,.move (.c (.s (.int .i64 0))),none,0,[]⟩,
  ⟨some 3,.move (.c (.s (.int .u64 0))),none,1,[]⟩,
  ⟨some 4,.move (.c (.s (.bool false))),none,2,[]⟩]) (RC.ret)) (RC.skip))) (RC.seq (RC.region 10 [
  ⟨some 11,.move (.t 0),none,0,[]⟩,
  ⟨some 12,.bin .sub (.t 11) (.c (.s (.int .i64 1))),none,1,[]⟩,
  ⟨some 13,.bin .quo (.t 12) (.c (.s (.int .i64 64))),none,2,[]⟩,
  ⟨some 14,.move (.t 0),none,3,[]⟩,
  ⟨some 15,.bin .sub (.t 14) (.c (.s (.int .i64 1))),none,4,[]⟩,
  ⟨some 16,.bin .rem (.t 15) (.c (.s (.int .i64 64))),none,5,[]⟩,
  ⟨some 17,.bin .shl (.c (.s (.int .u64 1))) (.t 16),none,6,[]⟩,
  ⟨some 2,.move (.t 13),none,7,[]⟩,
  ⟨some 3,.move (.t 17),none,8,[]⟩,
  ⟨some 4,.move (.c (.s (.bool true))),none,9,[]⟩]) (RC.ret))))
theorem bits_place_ok : chkFunc Go.Proofs.Tryz.prog [0] Go.Proofs.Tryz.f299 bits_place = true := by kernel_rfl
def heap_Timers_Insert : RFunc := RFunc.mk 52 [.tmp 6,.tmp 7] (
  RC.seq (RC.region 2 [
  ⟨some 6,.move (.c (.s (.int .i64 0))),none,0,[]⟩,
  ⟨some 7,.move (.c (.s (.int .i64 0))),none,1,[]⟩]) (RC.seq (RC.seq (RC.region 6 [
  ⟨some 8,.move (.t 0),none,0,[]⟩,
  ⟨some 9,.nilCheck (.t 8),none,1,[]⟩,
  ⟨some 10,.fieldAddr 0 (.t 9),none,2,[]⟩,
  ⟨some 11,.load none (.t 10),none,3,[]⟩,
  ⟨some 12,.len (.t 11),none,4,[]⟩,
  ⟨some 13,.bin .geq (.t 12) (.c (.s (.int .i64 256))),none,5,[]⟩]) (RC.cond (.t 13) (RC.seq (RC.region 2 [
  ⟨some 6,.move (.c (.s (.int .i64 0))),none,0,[]⟩,
  ⟨some 7,.move (.c (.s (.int .i64 (-33)))),none,1,[]⟩]) (RC.ret)) (RC.skip))) (RC.seq (RC.region 8 [
  ⟨some 14,.move (.t 0),none,0,[]⟩,
  ⟨some 15,.nilCheck (.t 14),none,1,[]⟩,
  ⟨some 16,.fieldAddr 1 (.t 15),none,2,[]⟩,
  ⟨some 17,.load none (.t 16),none,3,[]⟩,
  ⟨some 18,.bin .add (.t 17) (.c (.s (.int .i64 1))),none,4,[]⟩,
  ⟨some 19,.nilCheck (.t 14),none,5,[]⟩,
  ⟨some 20,.fieldAddr 1 (.t 19),none,6,[]⟩,
  ⟨none,.store 1 (.t 20) (.t 18),none,7,[]⟩]) (RC.seq (RC.region 17 [
  ⟨some 21,.move (.t 0),none,0,[]⟩,
  ⟨some 22,.move (.t 0),none,1,[]⟩,
  ⟨some 23,.nilCheck (.t 22),none,2,[]⟩,
  ⟨some 24,.fieldAddr 0 (.t 23),none,3,[]⟩,
  ⟨some 25,.load none (.t 24),none,4,[]⟩,
  ⟨some 26,.move (.t 1),none,5,[]⟩,
  ⟨some 27,.move (.t 0),none,6,[]⟩,
  ⟨some 28,.nilCheck (.t 27),none,7,[]⟩,
  ⟨some 29,.fieldAddr 1 (.t 28),none,8,[]⟩,
  ⟨some 30,.load none (.t 29),none,9,[]⟩,
  ⟨some 31,.move (.t 2),none,10,[]⟩,
  ⟨some 32,.build [.int .u64 0,.int .i64 0,.int .i64 0] [(0,1,(.t 26)),(1,1,(.t 30)),(2,1,(.t 31))],none,11,[]⟩,
  ⟨some 33,.buildSlice 3 1 [.int .u64 0,.int .i64 0,.int .i64 0] [(0,3,(.t 32))],none,12,[]⟩,
  ⟨some 34,.append 3 24 (.t 25) (.t 33),none,13,[]⟩,
  ⟨some 35,.nilCheck (.t 21),none,14,[]⟩,
  ⟨some 36,.fieldAddr 0 (.t 35),none,15,[]⟩,
  ⟨none,.store 1 (.t 36) (.t 34),none,16,[]⟩]) (RC.seq (RC.region 11 [
  ⟨some 37,.move (.t 0),none,0,[]⟩,
  ⟨some 38,.nilCheck (.t 37),none,1,[]⟩,
  ⟨some 39,.fieldAddr 0 (.t 38),none,2,[]⟩,
  ⟨some 40,.load none (.t 39),none,3,[]⟩,
  ⟨some 41,.move (.t 0),none,4,[]⟩,
  ⟨some 42,.nilCheck (.t 41),none,5,[]⟩,
  ⟨some 43,.fieldAddr 0 (.t 42),none,6,[]⟩,
  ⟨some 44,.load none (.t 43),none,7,[]⟩,
  ⟨some 45,.len (.t 44),none,8,[]⟩,
  ⟨some 46,.bin .sub (.t 45) (.c (.s (.int .i64 1))),none,9,[]⟩,
  ⟨some 47,.call F.heap_row_up [(.t 40),(.t 46)],none,10,[]⟩]) (RC.seq (RC.region 6 [
  ⟨some 48,.move (.t 0),none,0,[]⟩,
  ⟨some 49,.nilCheck (.t 48),none,1,[]⟩,
  ⟨some 50,.fieldAddr 1 (.t 49),none,2,[]⟩,
  ⟨some 51,.load none (.t 50),none,3,[]⟩,
  ⟨some 6,.move (.t 51),none,4,[]⟩,
  ⟨some 7,.move (.c (.s (.int .i64 0))),none,5,[]⟩]) (RC.ret)))))))
theorem heap_Timers_Insert_ok : chkFunc Go.Proofs.Tryz.prog [0] Go.Proofs.Tryz.f300 heap_Timers_Insert = true := by kernel_rfl
def slices_rotateLeft_int : RFunc := RFunc.mk 14 [] (
  RC.seq (RC.region 4 [
  ⟨some 4,.move (.t 0),none,0,[]⟩,
  ⟨some 5,.move (.t 1),none,1,[]⟩,
  ⟨some 6,.slSl 1 (.t 4) none (some (.t 5)) none,none,2,[]⟩,
  ⟨some 7,.call F.slices_Reverse__int_int [(.t 6)],none,3,[]⟩]) (RC.seq (RC.region 4 [
  ⟨some 8,.move (.t 0),none,0,[]⟩,
  ⟨some 9,.move (.t 1),none,1,[]⟩,
  ⟨some 10,.slSl 1 (.t 8) (some (.t 9)) none none,none,2,[]⟩,
  ⟨some 11,.call F.slices_Reverse__int_int [(.t 10)],none,3,[]⟩]) (RC.region 2 [
  ⟨some 12,.move (.t 0),none,0,[]⟩,
  ⟨some 13,.call F.slices_Reverse__int_int [(.t 12)],none,1,[]⟩])))
theorem slices_rotateLeft_int_ok : chkFunc Go.Proofs.Tryz.prog [0] Go.Proofs.Tryz.f301 slices_rotateLeft_int = true := by kernel_rfl
def math_bits_TrailingZeros64 : RFunc := RFunc.mk 14 [.tmp 2] (
  RC.seq (RC.region 1 [
  ⟨some 2,.move (.c (.s (.int .i64 0))),none,0,[]⟩]) (RC.seq (RC.seq (RC.region 2 [
  ⟨some 3,.move (.t 0),none,0,[]⟩,
  ⟨some 4,.bin .eql (.t 3) (.c (.s (.int .u64 0))),none,1,[]⟩]) (RC.cond (.t 4) (RC.seq (RC.region 1 [
  ⟨some 2,.move (.c (.s (.int .i64 64))),none,0,[]⟩]) (RC.ret)) (RC.skip))) (RC.seq (RC.region 10 [
  ⟨some 5,.move (.t 0),none,0,[]⟩,
  ⟨some 6,.move (.t 0),none,1,[]⟩,
  ⟨some 7,.un .neg (.t 6),none,2,[]⟩,
  ⟨some 8,.bin .and (.t 5) (.t 7),none,3,[]⟩,
  ⟨some 9,.bin .mul (.t 8) (.c (.s (.int .u64 285870213051353865))),none,4,[]⟩,
  ⟨some 10,.bin .shr (.t 9) (.c (.s (.int .u64 58))),none,5,[]⟩,
  ⟨some 11,.indexArr 64 1 (.g 0) (.t 10),none,6,[]⟩,
  ⟨some 12,.load none (.t 11),none,7,[]⟩,
  ⟨some 13,.conv .i64 (.t 12),none,8,[]⟩,
  ⟨some 2,.move (.t 13),none,9,[]⟩]) (RC.ret))))
theorem math_bits_TrailingZeros64_ok : chkFunc Go.Proofs.Tryz.prog [0] Go.Proofs.Tryz.f302 math_bits_TrailingZeros64 = true := by kernel_rfl
def heap_row_up_l0 : RC :=
  RC.seq (RC.seq (RC.region 10 [
  ⟨some 4,.move (.t 1),none,0,[]⟩,
  ⟨some 5,.bin .gtr (.t 4) (.c (.s (.int .i64 0))),none,1,[]⟩,
  ⟨some 6,.move (.t 5),none,2,[]⟩,
  ⟨some 7,.move (.t 0),(some (6,true)),3,[]⟩,
  ⟨some 8,.move (.t 1),(some (6,true)),4,[]⟩,
  ⟨some 9,.move (.t 1),(some (6,true)),5,[]⟩,
  ⟨some 10,.bin .sub (.t 9) (.c (.s (.int .i64 1))),(some (6,true)),6,[]⟩,
  ⟨some 11,.bin .quo (.t 10) (.c (.s (.int .i64 2))),(some (6,true)),7,[]⟩,
  ⟨some 12,.call F.heap_row_ahead [(.t 7),(.t 8),(.t 11)],(some (6,true)),8,[]⟩,
  ⟨some 13,.pick (.t 6) (.t 12) (.c (.s (.bool false))),none,9,[]⟩]) (RC.cond (.t 13) (RC.skip) (RC.exit 0))) (RC.block 1 (RC.seq (RC.region 20 [
  ⟨some 14,.move (.t 0),none,0,[]⟩,
  ⟨some 15,.move (.t 1),none,1,[]⟩,
  ⟨some 16,.move (.t 0),none,2,[]⟩,
  ⟨some 17,.move (.t 1),none,3,[]⟩,
  ⟨some 18,.bin .sub (.t 17) (.c (.s (.int .i64 1))),none,4,[]⟩,
  ⟨some 19,.bin .quo (.t 18) (.c (.s (.int .i64 2))),none,5,[]⟩,
  ⟨some 20,.move (.t 0),none,6,[]⟩,
  ⟨some 21,.move (.t 1),none,7,[]⟩,
  ⟨some 22,.bin .sub (.t 21) (.c (.s (.int .i64 1))),none,8,[]⟩,
  ⟨some 23,.bin .quo (.t 22) (.c (.s (.int .i64 2))),none,9,[]⟩,
  ⟨some 24,.indexSl 3 (.t 20) (.t 23),none,10,[]⟩,
  ⟨some 25,.load (some 3) (.t 24),none,11,[]⟩,
  ⟨some 26,.move (.t 0),none,12,[]⟩,
  ⟨some 27,.move (.t 1),none,13,[]⟩,
  ⟨some 28,.indexSl 3 (.t 26) (.t 27),none,14,[]⟩,
  ⟨some 29,.load (some 3) (.t 28),none,15,[]⟩,
  ⟨some 30,.indexSl 3 (.t 14) (.t 15),none,16,[]⟩,
  ⟨none,.store 3 (.t 30) (.t 25),none,17,[]⟩,
  ⟨some 31,.indexSl 3 (.t 16) (.t 19),none,18,[]⟩,
  ⟨none,.store 3 (.t 31) (.t 29),none,19,[]⟩]) (RC.region 4 [
  ⟨some 32,.move (.t 1),none,0,[]⟩,
  ⟨some 33,.bin .sub (.t 32) (.c (.s (.int .i64 1))),none,1,[]⟩,
  ⟨some 34,.bin .quo (.t 33) (.c (.s (.int .i64 2))),none,2,[]⟩,
  ⟨some 1,.move (.t 34),none,3,[]⟩])))
def heap_row_up : RFunc := RFunc.mk 35 [] (
  RC.block 0 (RC.loop R.heap_row_up_l0))
theorem heap_row_up_ok : chkFunc Go.Proofs.Tryz.prog [0] Go.Proofs.Tryz.f303 heap_row_up = true := by kernel_rfl
def heap_row_down_s0 : RC :=
  RC.seq (RC.seq (RC.region 11 [
  ⟨some 22,.move (.t 4),none,0,[]⟩,
  ⟨some 23,.move (.t 0),none,1,[]⟩,
  ⟨some 24,.len (.t 23),none,2,[]⟩,
  ⟨some 25,.bin .geq (.t 22) (.t 24),none,3,[]⟩,
  ⟨some 26,.move (.t 25),none,4,[]⟩,
  ⟨some 27,.move (.t 0),(some (26,false)),5,[]⟩,
  ⟨some 28,.move (.t 4),(some (26,false)),6,[]⟩,
  ⟨some 29,.move (.t 1),(some (26,false)),7,[]⟩,
  ⟨some 30,.call F.heap_row_ahead [(.t 27),(.t 28),(.t 29)],(some (26,false)),8,[]⟩,
  ⟨some 31,.un .not (.t 30),(some (26,false)),9,[]⟩,
  ⟨some 32,.pick (.t 26) (.c (.s (.bool true))) (.t 31),none,10,[]⟩]) (RC.cond (.t 32) (RC.ret) (RC.skip))) (RC.seq (RC.region 16 [
  ⟨some 33,.move (.t 0),none,0,[]⟩,
  ⟨some 34,.move (.t 1),none,1,[]⟩,
  ⟨some 35,.move (.t 0),none,2,[]⟩,
  ⟨some 36,.move (.t 4),none,3,[]⟩,
  ⟨some 37,.move (.t 0),none,4,[]⟩,
  ⟨some 38,.move (.t 4),none,5,[]⟩,
  ⟨some 39,.indexSl 3 (.t 37) (.t 38),none,6,[]⟩,
  ⟨some 40,.load (some 3) (.t 39),none,7,[]⟩,
  ⟨some 41,.move (.t 0),none,8,[]⟩,
  ⟨some 42,.move (.t 1),none,9,[]⟩,
  ⟨some 43,.indexSl 3 (.t 41) (.t 42),none,10,[]⟩,
  ⟨some 44,.load (some 3) (.t 43),none,11,[]⟩,
  ⟨some 45,.indexSl 3 (.t 33) (.t 34),none,12,[]⟩,
  ⟨none,.store 3 (.t 45) (.t 40),none,13,[]⟩,
  ⟨some 46,.indexSl 3 (.t 35) (.t 36),none,14,[]⟩,
  ⟨none,.store 3 (.t 46) (.t 44),none,15,[]⟩]) (RC.region 2 [
  ⟨some 47,.move (.t 4),none,0,[]⟩,
  ⟨some 1,.move (.t 47),none,1,[]⟩]))
def heap_row_down_l1 : RC :=
  RC.block 1 (RC.seq (RC.region 4 [
  ⟨some 5,.move (.t 1),none,0,[]⟩,
  ⟨some 6,.bin .mul (.c (.s (.int .i64 2))) (.t 5),none,1,[]⟩,
  ⟨some 7,.bin .add (.t 6) (.c (.s (.int .i64 1))),none,2,[]⟩,
  ⟨some 4,.move (.t 7),none,3,[]⟩]) (RC.seq (RC.seq (RC.region 12 [
  ⟨some 8,.move (.t 4),none,0,[]⟩,
  ⟨some 9,.bin .add (.t 8) (.c (.s (.int .i64 1))),none,1,[]⟩,
  ⟨some 10,.move (.t 0),none,2,[]⟩,
  ⟨some 11,.len (.t 10),none,3,[]⟩,
  ⟨some 12,.bin .lss (.t 9) (.t 11),none,4,[]⟩,
  ⟨some 13,.move (.t 12),none,5,[]⟩,
  ⟨some 14,.move (.t 0),(some (13,true)),6,[]⟩,
  ⟨some 15,.move (.t 4),(some (13,true)),7,[]⟩,
  ⟨some 16,.bin .add (.t 15) (.c (.s (.int .i64 1))),(some (13,true)),8,[]⟩,
  ⟨some 17,.move (.t 4),(some (13,true)),9,[]⟩,
  ⟨some 18,.call F.heap_row_ahead [(.t 14),(.t 16),(.t 17)],(some (13,true)),10,[]⟩,
  ⟨some 19,.pick (.t 13) (.t 18) (.c (.s (.bool false))),none,11,[]⟩]) (RC.cond (.t 19) (RC.region 3 [
  ⟨some 20,.move (.t 4),none,0,[]⟩,
  ⟨some 21,.bin .add (.t 20) (.c (.s (.int .i64 1))),none,1,[]⟩,
  ⟨some 4,.move (.t 21),none,2,[]⟩]) (RC.skip))) R.heap_row_down_s0))
def heap_row_down : RFunc := RFunc.mk 48 [] (
  RC.block 0 (RC.loop R.heap_row_down_l1))
theorem heap_row_down_ok : chkFunc Go.Proofs.Tryz.prog [0] Go.Proofs.Tryz.f304 heap_row_down = true := by kernel_rfl
def slices_rotateCmpFunc_cyc_Fired_l0 : RC :=
  RC.seq (RC.seq (RC.region 3 [
  ⟨some 18,.move (.t 10),none,0,[]⟩,
  ⟨some 19,.move (.t 11),none,1,[]⟩,
  ⟨some 20,.bin .neq (.t 18) (.t 19),none,2,[]⟩]) (RC.cond (.t 20) (RC.skip) (RC.exit 0))) (RC.block 1 (RC.seq (RC.region 3 [
  ⟨some 21,.move (.t 10),none,0,[]⟩,
  ⟨some 22,.move (.t 11),none,1,[]⟩,
  ⟨some 23,.bin .gtr (.t 21) (.t 22),none,2,[]⟩]) (RC.cond (.t 23) (RC.seq (RC.region 8 [
  ⟨some 24,.move (.t 0),none,0,[]⟩,
  ⟨some 25,.move (.t 2),none,1,[]⟩,
  ⟨some 26,.move (.t 10),none,2,[]⟩,
  ⟨some 27,.bin .sub (.t 25) (.t 26),none,3,[]⟩,
  ⟨some 28,.move (.t 2),none,4,[]⟩,
  ⟨some 29,.move (.t 11),none,5,[]⟩,
  ⟨some 30,.move (.t 4),none,6,[]⟩,
  ⟨some 31,.call F.slices_swapRangeCmpFunc_cyc_Fired [(.t 24),(.t 27),(.t 28),(.t 29),(.t 30)],none,7,[]⟩]) (RC.region 4 [
  ⟨some 32,.move (.t 10),none,0,[]⟩,
  ⟨some 33,.move (.t 11),none,1,[]⟩,
  ⟨some 34,.bin .sub (.t 32) (.t 33),none,2,[]⟩,
  ⟨some 10,.move (.t 34),none,3,[]⟩])) (RC.seq (RC.region 12 [
  ⟨some 35,.move (.t 0),none,0,[]⟩,
  ⟨some 36,.move (.t 2),none,1,[]⟩,
  ⟨some 37,.move (.t 10),none,2,[]⟩,
  ⟨some 38,.bin .sub (.t 36) (.t 37),none,3,[]⟩,
  ⟨some 39,.move (.t 2),none,4,[]⟩,
  ⟨some 40,.move (.t 11),none,5,[]⟩,
  ⟨some 41,.bin .add (.t 39) (.t 40),none,6,[]⟩,
  ⟨some 42,.move (.t 10),none,7,[]⟩,
  ⟨some 43,.bin .sub (.t 41) (.t 42),none,8,[]⟩,
  ⟨some 44,.move (.t 10),none,9,[]⟩,
  ⟨some 45,.move (.t 4),none,10,[]⟩,
  ⟨some 46,.call F.slices_swapRangeCmpFunc_cyc_Fired [(.t 35),(.t 38),(.t 43),(.t 44),(.t 45)],none,11,[]⟩]) (RC.region 4 [
  ⟨some 47,.move (.t 11),none,0,[]⟩,
  ⟨some 48,.move (.t 10),none,1,[]⟩,
  ⟨some 49,.bin .sub (.t 47) (.t 48),none,2,[]⟩,
  ⟨some 11,.move (.t 49),none,3,[]⟩])))))
def slices_rotateCmpFunc_cyc_Fired_s1 : RC :=
  RC.region 8 [
  ⟨some 50,.move (.t 0),none,0,[]⟩,
  ⟨some 51,.move (.t 2),none,1,[]⟩,
  ⟨some 52,.move (.t 10),none,2,[]⟩,
  ⟨some 53,.bin .sub (.t 51) (.t 52),none,3,[]⟩,
  ⟨some 54,.move (.t 2),none,4,[]⟩,
  ⟨some 55,.move (.t 10),none,5,[]⟩,
  ⟨some 56,.move (.t 4),none,6,[]⟩,
  ⟨some 57,.call F.slices_swapRangeCmpFunc_cyc_Fired [(.t 50),(.t 53),(.t 54),(.t 55),(.t 56)],none,7,[]⟩]
def slices_rotateCmpFunc_cyc_Fired : RFunc := RFunc.mk 58 [] (
  RC.seq (RC.region 4 [
  ⟨some 12,.move (.t 2),none,0,[]⟩,
  ⟨some 13,.move (.t 1),none,1,[]⟩,
  ⟨some 14,.bin .sub (.t 12) (.t 13),none,2,[]⟩,
  ⟨some 10,.move (.t 14),none,3,[]⟩]) (RC.seq (RC.region 4 [
  ⟨some 15,.move (.t 3),none,0,[]⟩,
  ⟨some 16,.move (.t 2),none,1,[]⟩,
  ⟨some 17,.bin .sub (.t 15) (.t 16),none,2,[]⟩,
  ⟨some 11,.move (.t 17),none,3,[]⟩]) (RC.seq (RC.block 0 (RC.loop R.slices_rotateCmpFunc_cyc_Fired_l0)) R.slices_rotateCmpFunc_cyc_Fired_s1)))
theorem slices_rotateCmpFunc_cyc_Fired_ok : chkFunc Go.Proofs.Tryz.prog [0] Go.Proofs.Tryz.f305 slices_rotateCmpFunc_cyc_Fired = true := by kernel_rfl
def slices_rotateRight_order_Item : RFunc := RFunc.mk 10 [] (
  RC.region 6 [
  ⟨some 4,.move (.t 0),none,0,[]⟩,
  ⟨some 5,.move (.t 0),none,1,[]⟩,
  ⟨some 6,.len (.t 5),none,2,[]⟩,
  ⟨some 7,.move (.t 1),none,3,[]⟩,
  ⟨some 8,.bin .sub (.t 6) (.t 7),none,4,[]⟩,
  ⟨some 9,.call F.slices_rotateLeft_order_Item [(.t 4),(.t 8)],none,5,[]⟩])
theorem slices_rotateRight_order_Item_ok : chkFunc Go.Proofs.Tryz.prog [0] Go.Proofs.Tryz.f307 slices_rotateRight_order_Item = true := by kernel_rfl
def slices_IndexFunc_heap_row_heap_entry_l0 : RC :=
  RC.seq (RC.region 1 [
  ⟨some 9,.bin .lss (.t 8) (.t 7),none,0,[]⟩]) (RC.seq (RC.cond (.t 9) (RC.skip) (RC.exit 0)) (RC.seq (RC.block 1 (RC.seq (RC.region 2 [
  ⟨some 10,.move (.t 8),none,0,[]⟩,
  ⟨some 5,.move (.t 10),none,1,[]⟩]) (RC.seq (RC.region 6 [
  ⟨some 11,.move (.t 1),none,0,[]⟩,
  ⟨some 12,.move (.t 0),none,1,[]⟩,
  ⟨some 13,.move (.t 5),none,2,[]⟩,
  ⟨some 14,.indexSl 3 (.t 12) (.t 13),none,3,[]⟩,
  ⟨some 15,.load (some 3) (.t 14),none,4,[]⟩,
  ⟨some 16,.callv (.t 11) [(.t 15)],none,5,[]⟩]) (RC.cond (.t 16) (RC.seq (RC.region 2 [
  ⟨some 17,.move (.t 5),none,0,[]⟩,
  ⟨some 4,.move (.t 17),none,1,[]⟩]) (RC.ret)) (RC.skip))))) (RC.region 2 [
  ⟨some 18,.bin .add (.t 8) (.c (.s (.int .i64 1))),none,0,[]⟩,
  ⟨some 8,.move (.t 18),none,1,[]⟩])))
def slices_IndexFunc_heap_row_heap_entry_s1 : RC :=
  RC.seq (RC.region 1 [
  ⟨some 4,.move (.c (.s (.int .i64 (-1)))),none,0,[]⟩]) (RC.ret)
def slices_IndexFunc_heap_row_heap_entry : RFunc := RFunc.mk 19 [.tmp 4] (
  RC.seq (RC.region 1 [
  ⟨some 4,.move (.c (.s (.int .i64 0))),none,0,[]⟩]) (RC.seq (RC.seq (RC.region 3 [
  ⟨some 6,.move (.t 0),none,0,[]⟩,
  ⟨some 7,.len (.t 6),none,1,[]⟩,
  ⟨some 8,.move (.c (.s (.int .i64 0))),none,2,[]⟩]) (RC.block 0 (RC.loop R.slices_IndexFunc_heap_row_heap_entry_l0))) R.slices_IndexFunc_heap_row_heap_entry_s1))
theorem slices_IndexFunc_heap_row_heap_entry_ok : chkFunc Go.Proofs.Tryz.prog [0] Go.Proofs.Tryz.f309 slices_IndexFunc_heap_row_heap_entry = true := by kernel_rfl
def heap_Timers_find_1 : RFunc := RFunc.mk 8 [.tmp 3] (
  RC.seq (RC.region 2 [
  ⟨some 2,.box (.t 0),none,0,[]⟩,
  ⟨some 3,.move (.c (.s (.bool false))),none,1,[]⟩]) (RC.seq (RC.region 5 [
  ⟨some 4,.fieldAddr 1 (.t 2),none,0,[]⟩,
  ⟨some 5,.load none (.t 4),none,1,[]⟩,
  ⟨some 6,.load none (.t 1),none,2,[]⟩,
  ⟨some 7,.bin .eql (.t 5) (.t 6),none,3,[]⟩,
  ⟨some 3,.move (.t 7),none,4,[]⟩]) (RC.ret)))
theorem heap_Timers_find_1_ok : chkFunc Go.Proofs.Tryz.prog [0] Go.Proofs.Tryz.f310 heap_Timers_find_1 = true := by kernel_rfl
def slices_Reverse__int_int_l0 : RC :=
  RC.seq (RC.seq (RC.region 3 [
  ⟨some 7,.move (.t 2),none,0,[]⟩,
  ⟨some 8,.move (.t 3),none,1,[]⟩,
  ⟨some 9,.bin .lss (.t 7) (.t 8),none,2,[]⟩]) (RC.cond (.t 9) (RC.skip) (RC.exit 0))) (RC.seq (RC.block 1 (RC.region 16 [
  ⟨some 14,.move (.t 0),none,0,[]⟩,
  ⟨some 15,.move (.t 2),none,1,[]⟩,
  ⟨some 16,.move (.t 0),none,2,[]⟩,
  ⟨some 17,.move (.t 3),none,3,[]⟩,
  ⟨some 18,.move (.t 0),none,4,[]⟩,
  ⟨some 19,.move (.t 3),none,5,[]⟩,
  ⟨some 20,.indexSl 1 (.t 18) (.t 19),none,6,[]⟩,
  ⟨some 21,.load none (.t 20),none,7,[]⟩,
  ⟨some 22,.move (.t 0),none,8,[]⟩,
  ⟨some 23,.move (.t 2),none,9,[]⟩,
  ⟨some 24,.indexSl 1 (.t 22) (.t 23),none,10,[]⟩,
  ⟨some 25,.load none (.t 24),none,11,[]⟩,
  ⟨some 26,.indexSl 1 (.t 14) (.t 15),none,12,[]⟩,
  ⟨none,.store 1 (.t 26) (.t 21),none,13,[]⟩,
  ⟨some 27,.indexSl 1 (.t 16) (.t 17),none,14,[]⟩,
  ⟨none,.store 1 (.t 27) (.t 25),none,15,[]⟩])) (RC.region 6 [
  ⟨some 10,.move (.t 2),none,0,[]⟩,
  ⟨some 11,.bin .add (.t 10) (.c (.s (.int .i64 1))),none,1,[]⟩,
  ⟨some 12,.move (.t 3),none,2,[]⟩,
  ⟨some 13,.bin .sub (.t 12) (.c (.s (.int .i64 1))),none,3,[]⟩,
  ⟨some 2,.move (.t 11),none,4,[]⟩,
  ⟨some 3,.move (.t 13),none,5,[]⟩]))
def slices_Reverse__int_int : RFunc := RFunc.mk 28 [] (
  RC.seq (RC.region 5 [
  ⟨some 4,.move (.t 0),none,0,[]⟩,
  ⟨some 5,.len (.t 4),none,1,[]⟩,
  ⟨some 6,.bin .sub (.t 5) (.c (.s (.int .i64 1))),none,2,[]⟩,
  ⟨some 2,.move (.c (.s (.int .i64 0))),none,3,[]⟩,
  ⟨some 3,.move (.t 6),none,4,[]⟩]) (RC.block 0 (RC.loop R.slices_Reverse__int_int_l0)))
theorem slices_Reverse__int_int_ok : chkFunc Go.Proofs.Tryz.prog [0] Go.Proofs.Tryz.f311 slices_Reverse__int_int = true := by kernel_rfl
def heap_row_ahead : RFunc := RFunc.mk 36 [.tmp 6] (
  RC.seq (RC.region 1 [
  ⟨some 6,.move (.c (.s (.bool false))),none,0,[]⟩]) (RC.seq (RC.region 12 [
  ⟨some 9,.move (.t 0),none,0,[]⟩,
  ⟨some 10,.move (.t 1),none,1,[]⟩,
  ⟨some 11,.indexSl 3 (.t 9) (.t 10),none,2,[]⟩,
  ⟨some 12,.load (some 3) (.t 11),none,3,[]⟩,
  ⟨some 13,.move (.t 0),none,4,[]⟩,
  ⟨some 14,.move (.t 2),none,5,[]⟩,
  ⟨some 15,.indexSl 3 (.t 13) (.t 14),none,6,[]⟩,
  ⟨some 16,.load (some 3) (.t 15),none,7,[]⟩,
  ⟨some 7,.newc [.int .u64 0,.int .i64 0,.int .i64 0],none,8,[]⟩,
  ⟨some 8,.newc [.int .u64 0,.int .i64 0,.int .i64 0],none,9,[]⟩,
  ⟨none,.store 3 (.t 7) (.t 12),none,10,[⟨16,(some 3),(.t 15),none⟩]⟩,
  ⟨none,.store 3 (.t 8) (.t 16),none,11,[]⟩]) (RC.seq (RC.region 20 [
  ⟨some 17,.fieldAddr 0 (.t 7),none,0,[]⟩,
  ⟨some 18,.load none (.t 17),none,1,[]⟩,
  ⟨some 19,.fieldAddr 0 (.t 8),none,2,[]⟩,
  ⟨some 20,.load none (.t 19),none,3,[]⟩,
  ⟨some 21,.bin .lss (.t 18) (.t 20),none,4,[]⟩,
  ⟨some 22,.move (.t 21),none,5,[]⟩,
  ⟨some 23,.fieldAddr 0 (.t 7),(some (22,false)),6,[]⟩,
  ⟨some 24,.load none (.t 23),(some (22,false)),7,[]⟩,
  ⟨some 25,.fieldAddr 0 (.t 8),(some (22,false)),8,[]⟩,
  ⟨some 26,.load none (.t 25),(some (22,false)),9,[]⟩,
  ⟨some 27,.bin .eql (.t 24) (.t 26),(some (22,false)),10,[]⟩,
  ⟨some 28,.move (.t 27),(some (22,false)),11,[]⟩,
  ⟨some 29,.fieldAddr 1 (.t 7),(some (28,true)),12,[]⟩,
  ⟨some 30,.load none (.t 29),(some (28,true)),13,[]⟩,
  ⟨some 31,.fieldAddr 1 (.t 8),(some (28,true)),14,[]⟩,
  ⟨some 32,.load none (.t 31),(some (28,true)),15,[]⟩,
  ⟨some 33,.bin .lss (.t 30) (.t 32),(some (28,true)),16,[]⟩,
  ⟨some 34,.pick (.t 28) (.t 33) (.c (.s (.bool false))),(some (22,false)),17,[]⟩,
  ⟨some 35,.pick (.t 22) (.c (.s (.bool true))) (.t 34),none,18,[]⟩,
  ⟨some 6,.move (.t 35),none,19,[]⟩]) (RC.ret))))
theorem heap_row_ahead_ok : chkFunc Go.Proofs.Tryz.prog [0] Go.Proofs.Tryz.f312 heap_row_ahead = true := by kernel_rfl
def slices_swapRangeCmpFunc_cyc_Fired_l0 : RC :=
  RC.seq (RC.seq (RC.region 3 [
  ⟨some 11,.move (.t 10),none,0,[]⟩,
  ⟨some 12,.move (.t 3),none,1,[]⟩,
  ⟨some 13,.bin .lss (.t 11) (.t 12),none,2,[]⟩]) (RC.cond (.t 13) (RC.skip) (RC.exit 0))) (RC.seq (RC.block 1 (RC.region 24 [
  ⟨some 16,.move (.t 0),none,0,[]⟩,
  ⟨some 17,.move (.t 1),none,1,[]⟩,
  ⟨some 18,.move (.t 10),none,2,[]⟩,
  ⟨some 19,.bin .add (.t 17) (.t 18),none,3,[]⟩,
  ⟨some 20,.move (.t 0),none,4,[]⟩,
  ⟨some 21,.move (.t 2),none,5,[]⟩,
  ⟨some 22,.move (.t 10),none,6,[]⟩,
  ⟨some 23,.bin .add (.t 21) (.t 22),none,7,[]⟩,
  ⟨some 24,.move (.t 0),none,8,[]⟩,
  ⟨some 25,.move (.t 2),none,9,[]⟩,
  ⟨some 26,.move (.t 10),none,10,[]⟩,
  ⟨some 27,.bin .add (.t 25) (.t 26),none,11,[]⟩,
  ⟨some 28,.indexSl 3 (.t 24) (.t 27),none,12,[]⟩,
  ⟨some 29,.load (some 3) (.t 28),none,13,[]⟩,
  ⟨some 30,.move (.t 0),none,14,[]⟩,
  ⟨some 31,.move (.t 1),none,15,[]⟩,
  ⟨some 32,.move (.t 10),none,16,[]⟩,
  ⟨some 33,.bin .add (.t 31) (.t 32),none,17,[]⟩,
  ⟨some 34,.indexSl 3 (.t 30) (.t 33),none,18,[]⟩,
  ⟨some 35,.load (some 3) (.t 34),none,19,[]⟩,
  ⟨some 36,.indexSl 3 (.t 16) (.t 19),none,20,[]⟩,
  ⟨none,.store 3 (.t 36) (.t 29),none,21,[]⟩,
  ⟨some 37,.indexSl 3 (.t 20) (.t 23),none,22,[]⟩,
  ⟨none,.store 3 (.t 37) (.t 35),none,23,[]⟩])) (RC.region 3 [
  ⟨some 14,.move (.t 10),none,0,[]⟩,
  ⟨some 15,.bin .add (.t 14) (.c (.s (.int .i64 1))),none,1,[]⟩,
  ⟨some 10,.move (.t 15),none,2,[]⟩]))
def slices_swapRangeCmpFunc_cyc_Fired : RFunc := RFunc.mk 38 [] (
  RC.seq (RC.region 1 [
  ⟨some 10,.move (.c (.s (.int .i64 0))),none,0,[]⟩]) (RC.block 0 (RC.loop R.slices_swapRangeCmpFunc_cyc_Fired_l0)))
theorem slices_swapRangeCmpFunc_cyc_Fired_ok : chkFunc Go.Proofs.Tryz.prog [0] Go.Proofs.Tryz.f313 slices_swapRangeCmpFunc_cyc_Fired = true := by kernel_rfl
def slices_rotateLeft_order_Item : RFunc := RFunc.mk 14 [] (
  RC.seq (RC.region 4 [
  ⟨some 4,.move (.t 0),none,0,[]⟩,
  ⟨some 5,.move (.t 1),none,1,[]⟩,
  ⟨some 6,.slSl 2 (.t 4) none (some (.t 5)) none,none,2,[]⟩,
  ⟨some 7,.call F.slices_Reverse__order_Item_order_Item [(.t 6)],none,3,[]⟩]) (RC.seq (RC.region 4 [
  ⟨some 8,.move (.t 0),none,0,[]⟩,
  ⟨some 9,.move (.t 1),none,1,[]⟩,
  ⟨some 10,.slSl 2 (.t 8) (some (.t 9)) none none,none,2,[]⟩,
  ⟨some 11,.call F.slices_Reverse__order_Item_order_Item [(.t 10)],none,3,[]⟩]) (RC.region 2 [
  ⟨some 12,.move (.t 0),none,0,[]⟩,
  ⟨some 13,.call F.slices_Reverse__order_Item_order_Item [(.t 12)],none,1,[]⟩])))
theorem slices_rotateLeft_order_Item_ok : chkFunc Go.Proofs.Tryz.prog [0] Go.Proofs.Tryz.f314 slices_rotateLeft_order_Item = true := by kernel_rfl
def slices_Reverse__order_Item_order_Item_l0 : RC :=
  RC.seq (RC.seq (RC.region 3 [
  ⟨some 7,.move (.t 2),none,0,[]⟩,
  ⟨some 8,.move (.t 3),none,1,[]⟩,
  ⟨some 9,.bin .lss (.t 7) (.t 8),none,2,[]⟩]) (RC.cond (.t 9) (RC.skip) (RC.exit 0))) (RC.seq (RC.block 1 (RC.region 16 [
  ⟨some 14,.move (.t 0),none,0,[]⟩,
  ⟨some 15,.move (.t 2),none,1,[]⟩,
  ⟨some 16,.move (.t 0),none,2,[]⟩,
  ⟨some 17,.move (.t 3),none,3,[]⟩,
  ⟨some 18,.move (.t 0),none,4,[]⟩,
  ⟨some 19,.move (.t 3),none,5,[]⟩,
  ⟨some 20,.indexSl 2 (.t 18) (.t 19),none,6,[]⟩,
  ⟨some 21,.load (some 2) (.t 20),none,7,[]⟩,
  ⟨some 22,.move (.t 0),none,8,[]⟩,
  ⟨some 23,.move (.t 2),none,9,[]⟩,
  ⟨some 24,.indexSl 2 (.t 22) (.t 23),none,10,[]⟩,
  ⟨some 25,.load (some 2) (.t 24),none,11,[]⟩,
  ⟨some 26,.indexSl 2 (.t 14) (.t 15),none,12,[]⟩,
  ⟨none,.store 2 (.t 26) (.t 21),none,13,[]⟩,
  ⟨some 27,.indexSl 2 (.t 16) (.t 17),none,14,[]⟩,
  ⟨none,.store 2 (.t 27) (.t 25),none,15,[]⟩])) (RC.region 6 [
  ⟨some 10,.move (.t 2),none,0,[]⟩,
  ⟨some 11,.bin .add (.t 10) (.c (.s (.int .i64 1))),none,1,[]⟩,
  ⟨some 12,.move (.t 3),none,2,[]⟩,
  ⟨some 13,.bin .sub (.t 12) (.c (.s (.int .i64 1))),none,3,[]⟩,
  ⟨some 2,.move (.t 11),none,4,[]⟩,
  ⟨some 3,.move (.t 13),none,5,[]⟩]))
def slices_Reverse__order_Item_order_Item : RFunc := RFunc.mk 28 [] (
  RC.seq (RC.region 5 [
  ⟨some 4,.move (.t 0),none,0,[]⟩,
  ⟨some 5,.len (.t 4),none,1,[]⟩,
  ⟨some 6,.bin .sub (.t 5) (.c (.s (.int .i64 1))),none,2,[]⟩,
  ⟨some 2,.move (.c (.s (.int .i64 0))),none,3,[]⟩,
  ⟨some 3,.move (.t 6),none,4,[]⟩]) (RC.block 0 (RC.loop R.slices_Reverse__order_Item_order_Item_l0)))
theorem slices_Reverse__order_Item_order_Item_ok : chkFunc Go.Proofs.Tryz.prog [0] Go.Proofs.Tryz.f315 slices_Reverse__order_Item_order_Item = true := by kernel_rfl
end Go.AM.R

/-
  The table of the functions' codes.
-/
set_option maxRecDepth 100000
namespace Go.AM
def tabL : List (Option RFunc) := [none, none, none, none, some R.detenttop_TopRounds, none, none, none, some R.detenttop_known, some R.detenttop_tasks, some R.detenttop_open, none, none, some R.detenttop_do, none, some R.kern_Kernel_Task, some R.kern_Kernel_Do, some R.calls_Make, some R.kern_Kernel_Tick, some R.kern_Kernel_Sem, some R.kern_Kernel_Pool, some R.kern_Kernel_Mtx, some R.tcb_Counts_Any, some R.kern_Kernel_Running, some R.detenttop_state, some R.kern_Kernel_Now, none, none, none, none, none, none, none, none, none, none, none, none, none, none, none, none, none, none, some R.kern_New, some R.conf_next, some R.order_New, none, none, some R.mtx_All_Pri, some R.mtx_All_Base, some R.calls_Known, some R.kern_say, some R.ctx_Place_May, some R.calls_Kind, some R.kern_Kernel_tasks, some R.kern_Kernel_sem, some R.kern_Kernel_flag, some R.kern_Kernel_data, some R.kern_Kernel_mutex, some R.kern_Kernel_block, some R.kern_Kernel_time, some R.kern_Kernel_state, some R.kern_Kernel_choose, some R.cyc_Hands_Pass, some R.kern_Kernel_leave, some R.kern_Kernel_wake, some R.kern_Kernel_settle, some R.kern_at__sem_Sem, some R.kern_ids, some R.kern_at__mpf_Pool, some R.mpf_Pool_Free, some R.mtx_All_Owner, some R.mtx_All_Waiting, some R.clock_Clock_Now, none, none, none, none, none, none, none, none, none, none, none, some R.slices_Clip__int_int, none, none, none, some R.order_Queue_Take, none, some R.order_Line_Len, none, none, none, none, some R.conf_Check, some R.ctx_New, some R.ready_New, some R.kern_objects_build, some R.cyc_NewHands, some R.cyc_Hands_Cyclic, some R.cyc_Hands_Alarm, some R.mtx_All_SetBase, some R.tcb_New, some R.kern_Kernel_act, some R.nums_Align, none, none, none, some R.mtx_is, some R.calls_of, some R.ctx_state_may, some R.kern_Kernel_named, some R.ctx_Place_Lock, some R.ctx_Place_Disable, some R.kern_Kernel_over, some R.kern_Kernel_rotate, some R.kern_Kernel_sleep, some R.kern_late, some R.nums_Rel, some R.kern_Kernel_stay, some R.kern_Kernel_change, some R.kern_Kernel_one, some R.kern_timeout, some R.sem_Sem_Signal, some R.kern_Kernel_woken, some R.sem_Sem_Poll, some R.sem_Sem_Wait, some R.kern_at__flag_Flag, some R.flag_Flag_Raise, some R.flag_Flag_Lower, some R.flag_Flag_Poll, some R.flag_Flag_Wait, some R.kern_at__dtq_Queue, some R.dtq_Queue_Force, some R.dtq_Queue_TrySend, some R.dtq_Queue_Send, some R.dtq_Queue_TryRecv, some R.dtq_Queue_Recv, some R.mtx_All_Unlock, some R.mtx_All_Lock, some R.mtx_All_TryLock, some R.mpf_Pool_Put, some R.mpf_Pool_Poll, some R.mpf_Pool_Get, some R.clock_Clock_Set, some R.cyc_Hands_Start, some R.cyc_Hands_Stop, some R.cyc_Hands_Set, some R.cyc_Hands_Clear, some R.kern_truth, some R.ctx_state_In, some R.ctx_state_Locked, some R.ctx_state_Disabled, some R.ctx_state_Dispatch, some R.ready_Queue_First, some R.clock_Clock_Tick, some R.clock_Clock_Up, some R.slices_SortStableFunc__cyc_Fired_cyc_Fired, some R.cyc_order, some R.slices_Clip__cyc_Fired_cyc_Fired, some R.order_Line_Remove, some R.flag_Flag_Drop, some R.dtq_Queue_Drop, some R.mtx_All_Drop, some R.tcb_Task_Release, some R.kern_Kernel_told, some R.ready_Queue_Change, some R.order_Queue_Change, some R.dtq_Queue_Change, some R.order_Line_Row, some R.mtx_All_in, some R.slices_Clone__int_int, some R.nums_Add, some R.order_Line_Has, none, none, none, some R.order_Queue_Add, none, none, none, none, none, some R.order_Line_First, none, none, none, none, none, none, none, none, some R.conf_first, some R.conf_Check_1, some R.conf_objects, some R.conf_Check_2, some R.sem_NewSem, some R.conf_fine, some R.conf_Check_3, some R.dtq_New, some R.conf_Check_4, some R.mtx_New, some R.conf_Check_5, some R.mpf_NewPool, some R.conf_Check_6, some R.flag_NewFlag, some R.conf_Layout, some R.clock_NewClock, some R.mtx_may, some R.mtx_All_settle, some R.tcb_Task_Act, some R.kern_Kernel_enter, none, none, some R.calls_table, some R.kern_Kernel_forget, some R.ready_Queue_Remove, some R.mtx_All_Free, some R.tcb_Task_Kill, some R.ready_Queue_Rotate, some R.tcb_Task_Sleep, some R.tcb_Task_Stay, some R.cyc_Hands_Wait, some R.tcb_Task_Is, some R.tcb_Task_CanAct, some R.tcb_Task_Wake, some R.tcb_Task_CanWake, some R.tcb_Task_Suspend, some R.tcb_Task_Resume, some R.calls_Arity, some R.flag_wish_met, some R.slices_Clip__flag_Woken_flag_Woken, some R.dtq_Queue_next, some R.slices_Delete__int_int, some R.mtx_All_over, some R.mtx_All_stand, some R.slices_BinarySearch__int_int, some R.slices_Insert__int_int, some R.cyc_Hands_cyc, some R.cyc_Hands_alarm, some R.bits_Map_First, some R.heap_Timers_Due, some R.slices_stableCmpFunc_cyc_Fired, some R.cmp_Compare_uint64, some R.cmp_Compare_int, some R.order_Line_at, some R.slices_Delete__order_Item_order_Item, some R.slices_DeleteFunc__int_int, some R.mtx_All_Drop_1, some R.ready_may, some R.ready_Queue_put, some R.order_may, some R.order_Queue_put, some R.slices_Clip__order_Item_order_Item, some R.slices_Clone__order_Item_order_Item, none, none, none, none, none, some R.mtx_Kind_right, some R.heap_New, some R.mtx_All_reckon, some R.mtx_All_leave, some R.mtx_All_rejoin, some R.ready_Queue_Add, none, some R.heap_Timers_Cancel, some R.ready_task, some R.slices_Index__int_int, some R.bits_Map_Clear, some R.mtx_All_Held, some R.tcb_Task_end, some R.clock_Clock_After, some R.slices_Contains__int_int, some R.cmp_Less_int, some R.slices_isNaN_int, none, some R.slices_rotateRight_int, some R.bits_Map_After, some R.heap_Timers_remove, some R.slices_insertionSortCmpFunc_cyc_Fired, some R.slices_symMergeCmpFunc_cyc_Fired, some R.cmp_isNaN_uint64, some R.cmp_isNaN_int, some R.slices_IndexFunc__order_Item_order_Item, some R.order_Line_at_1, some R.slices_IndexFunc__int_int, some R.bits_Map_Set, some R.slices_Insert__order_Item_order_Item, none, none, none, some R.mtx_All_leave_1, none, some R.heap_Timers_find, some R.bits_place, some R.heap_Timers_Insert, some R.slices_rotateLeft_int, some R.math_bits_TrailingZeros64, some R.heap_row_up, some R.heap_row_down, some R.slices_rotateCmpFunc_cyc_Fired, none, some R.slices_rotateRight_order_Item, none, some R.slices_IndexFunc_heap_row_heap_entry, some R.heap_Timers_find_1, some R.slices_Reverse__int_int, some R.heap_row_ahead, some R.slices_swapRangeCmpFunc_cyc_Fired, some R.slices_rotateLeft_order_Item, some R.slices_Reverse__order_Item_order_Item]
def tab (f : Nat) : Option RFunc := (tabL[f]?).join
theorem tab_ok : TabOk Go.Proofs.Tryz.prog [0] tab := tabOk_of (l := tabL) (⟨⟨_, Go.Proofs.Tryz.func4, R.detenttop_TopRounds_ok⟩, ⟨⟨_, Go.Proofs.Tryz.func8, R.detenttop_known_ok⟩, ⟨⟨_, Go.Proofs.Tryz.func9, R.detenttop_tasks_ok⟩, ⟨⟨_, Go.Proofs.Tryz.func10, R.detenttop_open_ok⟩, ⟨⟨_, Go.Proofs.Tryz.func13, R.detenttop_do_ok⟩, ⟨⟨_, Go.Proofs.Tryz.func15, R.kern_Kernel_Task_ok⟩, ⟨⟨_, Go.Proofs.Tryz.func16, R.kern_Kernel_Do_ok⟩, ⟨⟨_, Go.Proofs.Tryz.func17, R.calls_Make_ok⟩, ⟨⟨_, Go.Proofs.Tryz.func18, R.kern_Kernel_Tick_ok⟩, ⟨⟨_, Go.Proofs.Tryz.func19, R.kern_Kernel_Sem_ok⟩, ⟨⟨_, Go.Proofs.Tryz.func20, R.kern_Kernel_Pool_ok⟩, ⟨⟨_, Go.Proofs.Tryz.func21, R.kern_Kernel_Mtx_ok⟩, ⟨⟨_, Go.Proofs.Tryz.func22, R.tcb_Counts_Any_ok⟩, ⟨⟨_, Go.Proofs.Tryz.func23, R.kern_Kernel_Running_ok⟩, ⟨⟨_, Go.Proofs.Tryz.func24, R.detenttop_state_ok⟩, ⟨⟨_, Go.Proofs.Tryz.func25, R.kern_Kernel_Now_ok⟩, ⟨⟨_, Go.Proofs.Tryz.func44, R.kern_New_ok⟩, ⟨⟨_, Go.Proofs.Tryz.func45, R.conf_next_ok⟩, ⟨⟨_, Go.Proofs.Tryz.func46, R.order_New_ok⟩, ⟨⟨_, Go.Proofs.Tryz.func49, R.mtx_All_Pri_ok⟩, ⟨⟨_, Go.Proofs.Tryz.func50, R.mtx_All_Base_ok⟩, ⟨⟨_, Go.Proofs.Tryz.func51, R.calls_Known_ok⟩, ⟨⟨_, Go.Proofs.Tryz.func52, R.kern_say_ok⟩, ⟨⟨_, Go.Proofs.Tryz.func53, R.ctx_Place_May_ok⟩, ⟨⟨_, Go.Proofs.Tryz.func54, R.calls_Kind_ok⟩, ⟨⟨_, Go.Proofs.Tryz.func55, R.kern_Kernel_tasks_ok⟩, ⟨⟨_, Go.Proofs.Tryz.func56, R.kern_Kernel_sem_ok⟩, ⟨⟨_, Go.Proofs.Tryz.func57, R.kern_Kernel_flag_ok⟩, ⟨⟨_, Go.Proofs.Tryz.func58, R.kern_Kernel_data_ok⟩, ⟨⟨_, Go.Proofs.Tryz.func59, R.kern_Kernel_mutex_ok⟩, ⟨⟨_, Go.Proofs.Tryz.func60, R.kern_Kernel_block_ok⟩, ⟨⟨_, Go.Proofs.Tryz.func61, R.kern_Kernel_time_ok⟩, ⟨⟨_, Go.Proofs.Tryz.func62, R.kern_Kernel_state_ok⟩, ⟨⟨_, Go.Proofs.Tryz.func63, R.kern_Kernel_choose_ok⟩, ⟨⟨_, Go.Proofs.Tryz.func64, R.cyc_Hands_Pass_ok⟩, ⟨⟨_, Go.Proofs.Tryz.func65, R.kern_Kernel_leave_ok⟩, ⟨⟨_, Go.Proofs.Tryz.func66, R.kern_Kernel_wake_ok⟩, ⟨⟨_, Go.Proofs.Tryz.func67, R.kern_Kernel_settle_ok⟩, ⟨⟨_, Go.Proofs.Tryz.func68, R.kern_at__sem_Sem_ok⟩, ⟨⟨_, Go.Proofs.Tryz.func69, R.kern_ids_ok⟩, ⟨⟨_, Go.Proofs.Tryz.func70, R.kern_at__mpf_Pool_ok⟩, ⟨⟨_, Go.Proofs.Tryz.func71, R.mpf_Pool_Free_ok⟩, ⟨⟨_, Go.Proofs.Tryz.func72, R.mtx_All_Owner_ok⟩, ⟨⟨_, Go.Proofs.Tryz.func73, R.mtx_All_Waiting_ok⟩, ⟨⟨_, Go.Proofs.Tryz.func74, R.clock_Clock_Now_ok⟩, ⟨⟨_, Go.Proofs.Tryz.func86, R.slices_Clip__int_int_ok⟩, ⟨⟨_, Go.Proofs.Tryz.func90, R.order_Queue_Take_ok⟩, ⟨⟨_, Go.Proofs.Tryz.func92, R.order_Line_Len_ok⟩, ⟨⟨_, Go.Proofs.Tryz.func97, R.conf_Check_ok⟩, ⟨⟨_, Go.Proofs.Tryz.func98, R.ctx_New_ok⟩, ⟨⟨_, Go.Proofs.Tryz.func99, R.ready_New_ok⟩, ⟨⟨_, Go.Proofs.Tryz.func100, R.kern_objects_build_ok⟩, ⟨⟨_, Go.Proofs.Tryz.func101, R.cyc_NewHands_ok⟩, ⟨⟨_, Go.Proofs.Tryz.func102, R.cyc_Hands_Cyclic_ok⟩, ⟨⟨_, Go.Proofs.Tryz.func103, R.cyc_Hands_Alarm_ok⟩, ⟨⟨_, Go.Proofs.Tryz.func104, R.mtx_All_SetBase_ok⟩, ⟨⟨_, Go.Proofs.Tryz.func105, R.tcb_New_ok⟩, ⟨⟨_, Go.Proofs.Tryz.func106, R.kern_Kernel_act_ok⟩, ⟨⟨_, Go.Proofs.Tryz.func107, R.nums_Align_ok⟩, ⟨⟨_, Go.Proofs.Tryz.func111, R.mtx_is_ok⟩, ⟨⟨_, Go.Proofs.Tryz.func112, R.calls_of_ok⟩, ⟨⟨_, Go.Proofs.Tryz.func113, R.ctx_state_may_ok⟩, ⟨⟨_, Go.Proofs.Tryz.func114, R.kern_Kernel_named_ok⟩, ⟨⟨_, Go.Proofs.Tryz.func115, R.ctx_Place_Lock_ok⟩, ⟨⟨_, Go.Proofs.Tryz.func116, R.ctx_Place_Disable_ok⟩, ⟨⟨_, Go.Proofs.Tryz.func117, R.kern_Kernel_over_ok⟩, ⟨⟨_, Go.Proofs.Tryz.func118, R.kern_Kernel_rotate_ok⟩, ⟨⟨_, Go.Proofs.Tryz.func119, R.kern_Kernel_sleep_ok⟩, ⟨⟨_, Go.Proofs.Tryz.func120, R.kern_late_ok⟩, ⟨⟨_, Go.Proofs.Tryz.func121, R.nums_Rel_ok⟩, ⟨⟨_, Go.Proofs.Tryz.func122, R.kern_Kernel_stay_ok⟩, ⟨⟨_, Go.Proofs.Tryz.func123, R.kern_Kernel_change_ok⟩, ⟨⟨_, Go.Proofs.Tryz.func124, R.kern_Kernel_one_ok⟩, ⟨⟨_, Go.Proofs.Tryz.func125, R.kern_timeout_ok⟩, ⟨⟨_, Go.Proofs.Tryz.func126, R.sem_Sem_Signal_ok⟩, ⟨⟨_, Go.Proofs.Tryz.func127, R.kern_Kernel_woken_ok⟩, ⟨⟨_, Go.Proofs.Tryz.func128, R.sem_Sem_Poll_ok⟩, ⟨⟨_, Go.Proofs.Tryz.func129, R.sem_Sem_Wait_ok⟩, ⟨⟨_, Go.Proofs.Tryz.func130, R.kern_at__flag_Flag_ok⟩, ⟨⟨_, Go.Proofs.Tryz.func131, R.flag_Flag_Raise_ok⟩, ⟨⟨_, Go.Proofs.Tryz.func132, R.flag_Flag_Lower_ok⟩, ⟨⟨_, Go.Proofs.Tryz.func133, R.flag_Flag_Poll_ok⟩, ⟨⟨_, Go.Proofs.Tryz.func134, R.flag_Flag_Wait_ok⟩, ⟨⟨_, Go.Proofs.Tryz.func135, R.kern_at__dtq_Queue_ok⟩, ⟨⟨_, Go.Proofs.Tryz.func136, R.dtq_Queue_Force_ok⟩, ⟨⟨_, Go.Proofs.Tryz.func137, R.dtq_Queue_TrySend_ok⟩, ⟨⟨_, Go.Proofs.Tryz.func138, R.dtq_Queue_Send_ok⟩, ⟨⟨_, Go.Proofs.Tryz.func139, R.dtq_Queue_TryRecv_ok⟩, ⟨⟨_, Go.Proofs.Tryz.func140, R.dtq_Queue_Recv_ok⟩, ⟨⟨_, Go.Proofs.Tryz.func141, R.mtx_All_Unlock_ok⟩, ⟨⟨_, Go.Proofs.Tryz.func142, R.mtx_All_Lock_ok⟩, ⟨⟨_, Go.Proofs.Tryz.func143, R.mtx_All_TryLock_ok⟩, ⟨⟨_, Go.Proofs.Tryz.func144, R.mpf_Pool_Put_ok⟩, ⟨⟨_, Go.Proofs.Tryz.func145, R.mpf_Pool_Poll_ok⟩, ⟨⟨_, Go.Proofs.Tryz.func146, R.mpf_Pool_Get_ok⟩, ⟨⟨_, Go.Proofs.Tryz.func147, R.clock_Clock_Set_ok⟩, ⟨⟨_, Go.Proofs.Tryz.func148, R.cyc_Hands_Start_ok⟩, ⟨⟨_, Go.Proofs.Tryz.func149, R.cyc_Hands_Stop_ok⟩, ⟨⟨_, Go.Proofs.Tryz.func150, R.cyc_Hands_Set_ok⟩, ⟨⟨_, Go.Proofs.Tryz.func151, R.cyc_Hands_Clear_ok⟩, ⟨⟨_, Go.Proofs.Tryz.func152, R.kern_truth_ok⟩, ⟨⟨_, Go.Proofs.Tryz.func153, R.ctx_state_In_ok⟩, ⟨⟨_, Go.Proofs.Tryz.func154, R.ctx_state_Locked_ok⟩, ⟨⟨_, Go.Proofs.Tryz.func155, R.ctx_state_Disabled_ok⟩, ⟨⟨_, Go.Proofs.Tryz.func156, R.ctx_state_Dispatch_ok⟩, ⟨⟨_, Go.Proofs.Tryz.func157, R.ready_Queue_First_ok⟩, ⟨⟨_, Go.Proofs.Tryz.func158, R.clock_Clock_Tick_ok⟩, ⟨⟨_, Go.Proofs.Tryz.func159, R.clock_Clock_Up_ok⟩, ⟨⟨_, Go.Proofs.Tryz.func160, R.slices_SortStableFunc__cyc_Fired_cyc_Fired_ok⟩, ⟨⟨_, Go.Proofs.Tryz.func161, R.cyc_order_ok⟩, ⟨⟨_, Go.Proofs.Tryz.func162, R.slices_Clip__cyc_Fired_cyc_Fired_ok⟩, ⟨⟨_, Go.Proofs.Tryz.func163, R.order_Line_Remove_ok⟩, ⟨⟨_, Go.Proofs.Tryz.func164, R.flag_Flag_Drop_ok⟩, ⟨⟨_, Go.Proofs.Tryz.func165, R.dtq_Queue_Drop_ok⟩, ⟨⟨_, Go.Proofs.Tryz.func166, R.mtx_All_Drop_ok⟩, ⟨⟨_, Go.Proofs.Tryz.func167, R.tcb_Task_Release_ok⟩, ⟨⟨_, Go.Proofs.Tryz.func168, R.kern_Kernel_told_ok⟩, ⟨⟨_, Go.Proofs.Tryz.func169, R.ready_Queue_Change_ok⟩, ⟨⟨_, Go.Proofs.Tryz.func170, R.order_Queue_Change_ok⟩, ⟨⟨_, Go.Proofs.Tryz.func171, R.dtq_Queue_Change_ok⟩, ⟨⟨_, Go.Proofs.Tryz.func172, R.order_Line_Row_ok⟩, ⟨⟨_, Go.Proofs.Tryz.func173, R.mtx_All_in_ok⟩, ⟨⟨_, Go.Proofs.Tryz.func174, R.slices_Clone__int_int_ok⟩, ⟨⟨_, Go.Proofs.Tryz.func175, R.nums_Add_ok⟩, ⟨⟨_, Go.Proofs.Tryz.func176, R.order_Line_Has_ok⟩, ⟨⟨_, Go.Proofs.Tryz.func180, R.order_Queue_Add_ok⟩, ⟨⟨_, Go.Proofs.Tryz.func186, R.order_Line_First_ok⟩, ⟨⟨_, Go.Proofs.Tryz.func195, R.conf_first_ok⟩, ⟨⟨_, Go.Proofs.Tryz.func196, R.conf_Check_1_ok⟩, ⟨⟨_, Go.Proofs.Tryz.func197, R.conf_objects_ok⟩, ⟨⟨_, Go.Proofs.Tryz.func198, R.conf_Check_2_ok⟩, ⟨⟨_, Go.Proofs.Tryz.func199, R.sem_NewSem_ok⟩, ⟨⟨_, Go.Proofs.Tryz.func200, R.conf_fine_ok⟩, ⟨⟨_, Go.Proofs.Tryz.func201, R.conf_Check_3_ok⟩, ⟨⟨_, Go.Proofs.Tryz.func202, R.dtq_New_ok⟩, ⟨⟨_, Go.Proofs.Tryz.func203, R.conf_Check_4_ok⟩, ⟨⟨_, Go.Proofs.Tryz.func204, R.mtx_New_ok⟩, ⟨⟨_, Go.Proofs.Tryz.func205, R.conf_Check_5_ok⟩, ⟨⟨_, Go.Proofs.Tryz.func206, R.mpf_NewPool_ok⟩, ⟨⟨_, Go.Proofs.Tryz.func207, R.conf_Check_6_ok⟩, ⟨⟨_, Go.Proofs.Tryz.func208, R.flag_NewFlag_ok⟩, ⟨⟨_, Go.Proofs.Tryz.func209, R.conf_Layout_ok⟩, ⟨⟨_, Go.Proofs.Tryz.func210, R.clock_NewClock_ok⟩, ⟨⟨_, Go.Proofs.Tryz.func211, R.mtx_may_ok⟩, ⟨⟨_, Go.Proofs.Tryz.func212, R.mtx_All_settle_ok⟩, ⟨⟨_, Go.Proofs.Tryz.func213, R.tcb_Task_Act_ok⟩, ⟨⟨_, Go.Proofs.Tryz.func214, R.kern_Kernel_enter_ok⟩, ⟨⟨_, Go.Proofs.Tryz.func217, R.calls_table_ok⟩, ⟨⟨_, Go.Proofs.Tryz.func218, R.kern_Kernel_forget_ok⟩, ⟨⟨_, Go.Proofs.Tryz.func219, R.ready_Queue_Remove_ok⟩, ⟨⟨_, Go.Proofs.Tryz.func220, R.mtx_All_Free_ok⟩, ⟨⟨_, Go.Proofs.Tryz.func221, R.tcb_Task_Kill_ok⟩, ⟨⟨_, Go.Proofs.Tryz.func222, R.ready_Queue_Rotate_ok⟩, ⟨⟨_, Go.Proofs.Tryz.func223, R.tcb_Task_Sleep_ok⟩, ⟨⟨_, Go.Proofs.Tryz.func224, R.tcb_Task_Stay_ok⟩, ⟨⟨_, Go.Proofs.Tryz.func225, R.cyc_Hands_Wait_ok⟩, ⟨⟨_, Go.Proofs.Tryz.func226, R.tcb_Task_Is_ok⟩, ⟨⟨_, Go.Proofs.Tryz.func227, R.tcb_Task_CanAct_ok⟩, ⟨⟨_, Go.Proofs.Tryz.func228, R.tcb_Task_Wake_ok⟩, ⟨⟨_, Go.Proofs.Tryz.func229, R.tcb_Task_CanWake_ok⟩, ⟨⟨_, Go.Proofs.Tryz.func230, R.tcb_Task_Suspend_ok⟩, ⟨⟨_, Go.Proofs.Tryz.func231, R.tcb_Task_Resume_ok⟩, ⟨⟨_, Go.Proofs.Tryz.func232, R.calls_Arity_ok⟩, ⟨⟨_, Go.Proofs.Tryz.func233, R.flag_wish_met_ok⟩, ⟨⟨_, Go.Proofs.Tryz.func234, R.slices_Clip__flag_Woken_flag_Woken_ok⟩, ⟨⟨_, Go.Proofs.Tryz.func235, R.dtq_Queue_next_ok⟩, ⟨⟨_, Go.Proofs.Tryz.func236, R.slices_Delete__int_int_ok⟩, ⟨⟨_, Go.Proofs.Tryz.func237, R.mtx_All_over_ok⟩, ⟨⟨_, Go.Proofs.Tryz.func238, R.mtx_All_stand_ok⟩, ⟨⟨_, Go.Proofs.Tryz.func239, R.slices_BinarySearch__int_int_ok⟩, ⟨⟨_, Go.Proofs.Tryz.func240, R.slices_Insert__int_int_ok⟩, ⟨⟨_, Go.Proofs.Tryz.func241, R.cyc_Hands_cyc_ok⟩, ⟨⟨_, Go.Proofs.Tryz.func242, R.cyc_Hands_alarm_ok⟩, ⟨⟨_, Go.Proofs.Tryz.func243, R.bits_Map_First_ok⟩, ⟨⟨_, Go.Proofs.Tryz.func244, R.heap_Timers_Due_ok⟩, ⟨⟨_, Go.Proofs.Tryz.func245, R.slices_stableCmpFunc_cyc_Fired_ok⟩, ⟨⟨_, Go.Proofs.Tryz.func246, R.cmp_Compare_uint64_ok⟩, ⟨⟨_, Go.Proofs.Tryz.func247, R.cmp_Compare_int_ok⟩, ⟨⟨_, Go.Proofs.Tryz.func248, R.order_Line_at_ok⟩, ⟨⟨_, Go.Proofs.Tryz.func249, R.slices_Delete__order_Item_order_Item_ok⟩, ⟨⟨_, Go.Proofs.Tryz.func250, R.slices_DeleteFunc__int_int_ok⟩, ⟨⟨_, Go.Proofs.Tryz.func251, R.mtx_All_Drop_1_ok⟩, ⟨⟨_, Go.Proofs.Tryz.func252, R.ready_may_ok⟩, ⟨⟨_, Go.Proofs.Tryz.func253, R.ready_Queue_put_ok⟩, ⟨⟨_, Go.Proofs.Tryz.func254, R.order_may_ok⟩, ⟨⟨_, Go.Proofs.Tryz.func255, R.order_Queue_put_ok⟩, ⟨⟨_, Go.Proofs.Tryz.func256, R.slices_Clip__order_Item_order_Item_ok⟩, ⟨⟨_, Go.Proofs.Tryz.func257, R.slices_Clone__order_Item_order_Item_ok⟩, ⟨⟨_, Go.Proofs.Tryz.func263, R.mtx_Kind_right_ok⟩, ⟨⟨_, Go.Proofs.Tryz.func264, R.heap_New_ok⟩, ⟨⟨_, Go.Proofs.Tryz.func265, R.mtx_All_reckon_ok⟩, ⟨⟨_, Go.Proofs.Tryz.func266, R.mtx_All_leave_ok⟩, ⟨⟨_, Go.Proofs.Tryz.func267, R.mtx_All_rejoin_ok⟩, ⟨⟨_, Go.Proofs.Tryz.func268, R.ready_Queue_Add_ok⟩, ⟨⟨_, Go.Proofs.Tryz.func270, R.heap_Timers_Cancel_ok⟩, ⟨⟨_, Go.Proofs.Tryz.func271, R.ready_task_ok⟩, ⟨⟨_, Go.Proofs.Tryz.func272, R.slices_Index__int_int_ok⟩, ⟨⟨_, Go.Proofs.Tryz.func273, R.bits_Map_Clear_ok⟩, ⟨⟨_, Go.Proofs.Tryz.func274, R.mtx_All_Held_ok⟩, ⟨⟨_, Go.Proofs.Tryz.func275, R.tcb_Task_end_ok⟩, ⟨⟨_, Go.Proofs.Tryz.func276, R.clock_Clock_After_ok⟩, ⟨⟨_, Go.Proofs.Tryz.func277, R.slices_Contains__int_int_ok⟩, ⟨⟨_, Go.Proofs.Tryz.func278, R.cmp_Less_int_ok⟩, ⟨⟨_, Go.Proofs.Tryz.func279, R.slices_isNaN_int_ok⟩, ⟨⟨_, Go.Proofs.Tryz.func281, R.slices_rotateRight_int_ok⟩, ⟨⟨_, Go.Proofs.Tryz.func282, R.bits_Map_After_ok⟩, ⟨⟨_, Go.Proofs.Tryz.func283, R.heap_Timers_remove_ok⟩, ⟨⟨_, Go.Proofs.Tryz.func284, R.slices_insertionSortCmpFunc_cyc_Fired_ok⟩, ⟨⟨_, Go.Proofs.Tryz.func285, R.slices_symMergeCmpFunc_cyc_Fired_ok⟩, ⟨⟨_, Go.Proofs.Tryz.func286, R.cmp_isNaN_uint64_ok⟩, ⟨⟨_, Go.Proofs.Tryz.func287, R.cmp_isNaN_int_ok⟩, ⟨⟨_, Go.Proofs.Tryz.func288, R.slices_IndexFunc__order_Item_order_Item_ok⟩, ⟨⟨_, Go.Proofs.Tryz.func289, R.order_Line_at_1_ok⟩, ⟨⟨_, Go.Proofs.Tryz.func290, R.slices_IndexFunc__int_int_ok⟩, ⟨⟨_, Go.Proofs.Tryz.func291, R.bits_Map_Set_ok⟩, ⟨⟨_, Go.Proofs.Tryz.func292, R.slices_Insert__order_Item_order_Item_ok⟩, ⟨⟨_, Go.Proofs.Tryz.func296, R.mtx_All_leave_1_ok⟩, ⟨⟨_, Go.Proofs.Tryz.func298, R.heap_Timers_find_ok⟩, ⟨⟨_, Go.Proofs.Tryz.func299, R.bits_place_ok⟩, ⟨⟨_, Go.Proofs.Tryz.func300, R.heap_Timers_Insert_ok⟩, ⟨⟨_, Go.Proofs.Tryz.func301, R.slices_rotateLeft_int_ok⟩, ⟨⟨_, Go.Proofs.Tryz.func302, R.math_bits_TrailingZeros64_ok⟩, ⟨⟨_, Go.Proofs.Tryz.func303, R.heap_row_up_ok⟩, ⟨⟨_, Go.Proofs.Tryz.func304, R.heap_row_down_ok⟩, ⟨⟨_, Go.Proofs.Tryz.func305, R.slices_rotateCmpFunc_cyc_Fired_ok⟩, ⟨⟨_, Go.Proofs.Tryz.func307, R.slices_rotateRight_order_Item_ok⟩, ⟨⟨_, Go.Proofs.Tryz.func309, R.slices_IndexFunc_heap_row_heap_entry_ok⟩, ⟨⟨_, Go.Proofs.Tryz.func310, R.heap_Timers_find_1_ok⟩, ⟨⟨_, Go.Proofs.Tryz.func311, R.slices_Reverse__int_int_ok⟩, ⟨⟨_, Go.Proofs.Tryz.func312, R.heap_row_ahead_ok⟩, ⟨⟨_, Go.Proofs.Tryz.func313, R.slices_swapRangeCmpFunc_cyc_Fired_ok⟩, ⟨⟨_, Go.Proofs.Tryz.func314, R.slices_rotateLeft_order_Item_ok⟩, ⟨⟨_, Go.Proofs.Tryz.func315, R.slices_Reverse__order_Item_order_Item_ok⟩, trivial⟩⟩⟩⟩⟩⟩⟩⟩⟩⟩⟩⟩⟩⟩⟩⟩⟩⟩⟩⟩⟩⟩⟩⟩⟩⟩⟩⟩⟩⟩⟩⟩⟩⟩⟩⟩⟩⟩⟩⟩⟩⟩⟩⟩⟩⟩⟩⟩⟩⟩⟩⟩⟩⟩⟩⟩⟩⟩⟩⟩⟩⟩⟩⟩⟩⟩⟩⟩⟩⟩⟩⟩⟩⟩⟩⟩⟩⟩⟩⟩⟩⟩⟩⟩⟩⟩⟩⟩⟩⟩⟩⟩⟩⟩⟩⟩⟩⟩⟩⟩⟩⟩⟩⟩⟩⟩⟩⟩⟩⟩⟩⟩⟩⟩⟩⟩⟩⟩⟩⟩⟩⟩⟩⟩⟩⟩⟩⟩⟩⟩⟩⟩⟩⟩⟩⟩⟩⟩⟩⟩⟩⟩⟩⟩⟩⟩⟩⟩⟩⟩⟩⟩⟩⟩⟩⟩⟩⟩⟩⟩⟩⟩⟩⟩⟩⟩⟩⟩⟩⟩⟩⟩⟩⟩⟩⟩⟩⟩⟩⟩⟩⟩⟩⟩⟩⟩⟩⟩⟩⟩⟩⟩⟩⟩⟩⟩⟩⟩⟩⟩⟩⟩⟩⟩⟩⟩⟩⟩⟩⟩⟩⟩⟩⟩⟩⟩⟩⟩⟩⟩⟩⟩⟩⟩⟩⟩⟩⟩⟩⟩⟩⟩⟩)
theorem tab_wf : TabWf tab := tabWf_of (l := tabL) (by kernel_rfl)
theorem tab_detenttop_TopRounds : tab F.detenttop_TopRounds = some R.detenttop_TopRounds := rfl
end Go.AM

/-
  Rows of things behind slices, side by side with others: read, stored to, appended to.
-/
namespace Go.AM
abbrev i64 (n : Int) : AV := .s (.int .i64 n)
abbrev u64 (n : Int) : AV := .s (.int .u64 n)
abbrev bl (b : Bool) : AV := .s (.bool b)
abbrev ptr (p : Nat) : AV := .s (.ptr (some (p, 0)))
abbrev unit : AV := .tup []
section
variable {α : Type} (enc : α → List SV) (k : Nat)
def flat (r : List α) : List SV := r.flatMap enc
variable {enc k}
theorem flat_len (hk : ∀ e, (enc e).length = k) (r : List α) : (flat enc r).length = r.length * k := by
  induction r with
  | nil => simp [flat]
  | cons e r ih => simp only [flat, List.flatMap_cons, List.length_append, hk, List.length_cons] at ih ⊢; rw [ih, Nat.add_mul]; omega
theorem flat_split (hk : ∀ e, (enc e).length = k) (r : List α) (i : Nat) (hi : i < r.length) : flat enc r = flat enc (r.take i) ++ (enc r[i] ++ flat enc (r.drop (i + 1))) ∧ (flat enc (r.take i)).length = i * k := by
  refine ⟨?_, by rw [flat_len hk, List.length_take, Nat.min_eq_left (by omega)]⟩
  have h : r = r.take i ++ r[i] :: r.drop (i + 1) := by simp
  have h2 : flat enc (r.take i ++ r[i] :: r.drop (i + 1)) = flat enc (r.take i) ++ (enc r[i] ++ flat enc (r.drop (i + 1))) := by
    unfold flat; rw [List.flatMap_append, List.flatMap_cons]
  rw [← h2, ← h]
theorem flat_ldn (hk : ∀ e, (enc e).length = k) (r : List α) (j : List SV) (i : Nat) (hi : i < r.length) : ((flat enc r ++ j).drop (i * k)).take k = enc r[i] := by
  obtain ⟨h1, h2⟩ := flat_split hk r i hi
  rw [h1, List.append_assoc, ← h2, List.drop_left, List.append_assoc, ← hk r[i], List.take_left]
theorem flat_fit (hk : ∀ e, (enc e).length = k) (r : List α) (j : List SV) (i : Nat) (hi : i < r.length) : i * k + k ≤ (flat enc r ++ j).length := by
  rw [List.length_append, flat_len hk]
  have : (i + 1) * k ≤ r.length * k := Nat.mul_le_mul_right _ hi
  rw [Nat.add_mul] at this; omega
end
section
variable {α : Type} {enc : α → List SV} {k : Nat}
theorem flat_append (r r2 : List α) : flat enc (r ++ r2) = flat enc r ++ flat enc r2 := by simp [flat]
theorem flat_cell (hk : ∀ e, (enc e).length = k) {r : List α} {j : List SV} {i : Nat} {x : α} (hx : r[i]? = some x) (d : Nat) (hd : d < k) : (flat enc r ++ j)[i * k + d]? = (enc x)[d]? := by
  obtain ⟨hi, rfl⟩ := List.getElem?_eq_some_iff.1 hx
  have g1 := flat_ldn hk r j i hi
  rw [← g1, List.getElem?_take, if_pos hd, List.getElem?_drop]
variable (enc k)
def Row (s : SV) (r : List α) : Asr := ⟨fun _ f S => (∃ e, s = .slice none 0 0 e ∧ r = [] ∧ S = []) ∨ ∃ b c j, s = .slice (some (b, 0)) r.length c k ∧ S = [b] ∧ f b = some (.cells false (flat enc r ++ j)) ∧ c * k ≤ (flat enc r ++ j).length ∧ r.length ≤ c,
  fun hg h => h.elim .inl fun ⟨b, c, j, h1, h2, h3, h4⟩ => .inr ⟨b, c, j, h1, h2, by rw [hg b (by simp [h2])]; exact h3, h4⟩⟩
variable {enc k}
theorem Sat.frees {ρ : HF} {H : AH} {R : List Asr} (h : Sat ρ H R) (n : Nat) (l : List Nat) (hl : ∀ i ∈ l, i < n) (hn : l.Nodup) : Sat ρ (H.bump n) (l.map (fun i => Fre (H.next + i)) ++ R) := by
  obtain ⟨hw, S, h1, h2⟩ := h
  have key : ∀ l : List Nat, l.Nodup → SatL ρ H.blk (l.map (fun i => Fre (H.next + i)) ++ R) (l.map (fun i => H.next + i) ++ S) := by
    intro l hn
    induction l with
    | nil => exact h1
    | cons i l ih =>
      rw [List.nodup_cons] at hn
      refine SatL.cons (S := [H.next + i]) ⟨rfl, hw.1 _ (Nat.le_add_right _ _)⟩ (ih hn.2) ?_
      intro b hb hs
      simp at hb
      subst hb
      rcases List.mem_append.1 hs with hs | hs
      · obtain ⟨i', hi', he⟩ := List.mem_map.1 hs
        have : i' = i := by omega
        exact hn.1 (this ▸ hi')
      · have := h2 _ hs; omega
  refine ⟨⟨hw.1.bump _, hw.2⟩, _, key l hn, fun b hb => ?_⟩
  rcases List.mem_append.1 hb with hb | hb
  · obtain ⟨i, hi, rfl⟩ := List.mem_map.1 hb
    have := hl i hi
    simp; omega
  · have := h2 b hb
    simp; omega
variable {ρ : HF} {H : AH} {R : List Asr} {s : SV} {r : List α}
theorem Sat.rowInv (h : Sat ρ H (Row enc k s r :: R)) : (∃ e, s = .slice none 0 0 e ∧ r = [] ∧ Sat ρ H R) ∨ ∃ b c j, s = .slice (some (b, 0)) r.length c k ∧ Sat ρ H (Cel b (flat enc r ++ j) :: R) ∧ c * k ≤ (flat enc r ++ j).length ∧ r.length ≤ c := by
  obtain ⟨hw, S, h1, h2⟩ := h
  obtain ⟨S1, S2, rfl, k1, k2, k3⟩ := h1.cons_inv
  rcases k1 with ⟨e, rfl, rfl, rfl⟩ | ⟨b, c, j, rfl, rfl, h3, h4, h5⟩
  · exact .inl ⟨e, rfl, rfl, hw, S2, k2, by simpa using h2⟩
  · exact .inr ⟨b, c, j, rfl, ⟨hw, _, .cons (A := Cel b _) ⟨rfl, h3⟩ k2 k3, h2⟩, h4, h5⟩
theorem Sat.mkRow {b c : Nat} {j : List SV} (h : Sat ρ H (Cel b (flat enc r ++ j) :: R)) (h1 : c * k ≤ (flat enc r ++ j).length) (h2 : r.length ≤ c) : Sat ρ H (Row enc k (.slice (some (b, 0)) r.length c k) r :: R) :=
  Sat.imp (A := Cel b _) (B := Row enc k _ r) (fun _ _ ⟨h3, h4⟩ => .inr ⟨b, c, j, rfl, h3, h4, h1, h2⟩) h
theorem Sat.mkNil (h : Sat ρ H R) (e : Nat) : Sat ρ H (Row enc k (.slice none 0 0 e) [] :: R) := by
  obtain ⟨hw, S, h1, h2⟩ := h
  exact ⟨hw, [] ++ S, .cons (A := Row enc k _ _) (.inl ⟨e, rfl, rfl, rfl⟩) h1 (by simp), h2⟩
theorem Sat.rowLen (h : Sat ρ H (Row enc k s r :: R)) : lenA (.s s) = some (i64 r.length) := by
  rcases h.rowInv with ⟨e, rfl, rfl, _⟩ | ⟨b, c, j, rfl, _⟩ <;> rfl
theorem Sat.rowBlk (h : Sat ρ H (Row enc k s r :: R)) (hr : 0 < r.length) : ∃ b c j, s = .slice (some (b, 0)) r.length c k ∧ H.blk b = some (.cells false (flat enc r ++ j)) ∧ c * k ≤ (flat enc r ++ j).length ∧ r.length ≤ c := by
  rcases h.rowInv with ⟨e, rfl, rfl, _⟩ | ⟨b, c, j, h1, h2, h3⟩
  · simp at hr
  · exact ⟨b, c, j, h1, h2.cel, h3⟩
theorem Sat.append (hk : ∀ e, (enc e).length = k) {id _n bytes : Nat} {x : AV} {r2 : List α} (h : Sat ρ H (Row enc k s r :: Fre id :: R)) (hx : sliceCells k x r2.length H = some (flat enc r2)) (hn : slLen x = some r2.length) (hb : (r.length + r2.length) * bytes ≤ 70368744177664) :
    ∃ s' H', appendA k bytes id (.s s) x H = some (.s s', H') ∧ Sat ρ H' (Row enc k s' (r ++ r2) :: R) ∧ H'.next = H.next := by
  rcases h.rowInv with ⟨e, rfl, rfl, h1⟩ | ⟨b, c, j, rfl, h1, h2, h3⟩
  · by_cases h0 : r2.length = 0
    · have : r2 = [] := List.length_eq_zero_iff.1 h0
      subst this
      refine ⟨.slice none 0 0 k, H, ?_, h1.drop.mkNil k, rfl⟩
      simp only [appendA, hx, hn, Option.bind_some]
      rw [if_pos (by simp), if_pos h0]
    · refine ⟨.slice (some (id, 0)) r2.length r2.length k, H.set id (.cells false (flat enc r2)), ?_, ?_, rfl⟩
      · simp only [appendA, hx, hn, Option.bind_some]
        rw [if_pos (by simpa using hb), if_neg h0, new_of H h1.fre]
        rfl
      · have h4 := Sat.mk h1 (flat enc r2)
        rw [← List.append_nil (flat enc r2)] at h4
        simpa using h4.mkRow (by simp [flat_len hk]) (Nat.le_refl _)
  · have hfl := flat_len hk r
    have hfl2 := flat_len hk r2
    have hl2 : (r ++ r2).length = r.length + r2.length := by simp
    by_cases hc : r.length + r2.length ≤ c
    · have hle : (r.length + r2.length) * k ≤ c * k := Nat.mul_le_mul_right _ hc
      have hl : r.length * k + (flat enc r2).length ≤ (flat enc r ++ j).length := by rw [hfl2]; rw [Nat.add_mul] at hle; omega
      refine ⟨.slice (some (b, 0)) (r.length + r2.length) c k, H.set b (.cells false (splice (flat enc r ++ j) (r.length * k) (flat enc r2))), ?_, ?_, rfl⟩
      · simp only [appendA, hx, hn, Option.bind_some]
        rw [if_pos ⟨trivial, hb⟩, if_pos hc, Nat.zero_add, stn_of H h1.cel hl]
        rfl
      · have e : splice (flat enc r ++ j) (r.length * k) (flat enc r2) = flat enc (r ++ r2) ++ j.drop (flat enc r2).length := by
          unfold splice
          rw [← hfl, List.take_left, ← List.drop_drop, List.drop_left, flat_append, List.append_assoc]
        have h4 := (Sat.set h1 (splice (flat enc r ++ j) (r.length * k) (flat enc r2)))
        rw [e] at h4 ⊢
        rw [← hl2]
        have h5 : Sat ρ _ (Cel b (flat enc (r ++ r2) ++ j.drop (flat enc r2).length) :: R) := (h4.perm (List.Perm.swap _ _ _)).drop
        refine h5.mkRow ?_ (by rw [hl2]; exact hc)
        rw [flat_append]
        simp only [List.length_append, List.length_drop] at h2 hl ⊢
        omega
    · have hne : id ≠ b := fun he => by
        have h6 := (h1.perm (List.Perm.swap _ _ _)).fre
        rw [he, h1.cel] at h6; cases h6
      refine ⟨.slice (some (id, 0)) (r.length + r2.length) (r.length + r2.length) k, (H.set b .dead).set id (.cells false (flat enc r ++ flat enc r2)), ?_, ?_, rfl⟩
      · have hf := (h1.perm (List.Perm.swap _ _ _)).fre
        simp only [appendA, hx, hn, Option.bind_some]
        rw [if_pos ⟨trivial, hb⟩, if_neg hc, h1.cel]
        simp only [Nat.zero_add]
        rw [if_pos (by simp [hfl]), new_of _ (by rw [set_blk, if_neg hne]; exact hf)]
        simp only [List.drop_zero, ← hfl, List.take_left, Option.map_some]
      · have h4 := Sat.mk (Sat.kill h1) (flat enc r ++ flat enc r2)
        rw [← flat_append, ← List.append_nil (flat enc (r ++ r2))] at h4
        rw [← hl2, ← flat_append]
        simpa using h4.mkRow (by simp [flat_append, hfl, hfl2, Nat.add_mul]) (Nat.le_refl _)
theorem Sat.copy (hk : ∀ e, (enc e).length = k) {b1 b2 bytes : Nat} {x : AV} {r2 : List α} (h : Sat ρ H (Fre b1 :: Fre b2 :: R)) (hx : ∀ H', Sat ρ H' (Fre b2 :: R) → sliceCells k x r2.length H' = some (flat enc r2)) (hn : slLen x = some r2.length) (hb : r2.length * bytes ≤ 70368744177664) {K : AV × AH → Prop} (hK : ∀ s' H', H'.next = H.next → Sat ρ H' (Row enc k s' r2 :: R) → K (.s s', H')) :
    andThen (H.new b1 (.cells false [])) fun H1 => andThen (appendA k bytes b2 (.s (.slice (some (b1, 0)) 0 0 k)) x H1) K := by
  refine ⟨_, new_of H h.fre, ?_⟩
  have h1 := Sat.mk h []
  have h2 : Sat ρ _ (Row enc k (.slice (some (b1, 0)) 0 0 k) [] :: Fre b2 :: R) := Sat.mkRow (r := []) (j := []) (c := 0) h1 (by simp) (by simp)
  obtain ⟨s', H', e1, h3, e2⟩ := Sat.append hk (_n := 0) h2 (hx _ h1.drop) hn (by simpa using hb)
  exact ⟨_, e1, hK s' H' e2 h3⟩
theorem Tri.intro {tab : Nat → Option RFunc} {ext : Nat → List AV → AH → Option (AV × AH)} {f : Nat} {args : List AV} {P : List Asr} {Q : AV → List Asr → Prop}
    (h : ∀ (ρ : HF) (H : AH) (Rs : List Asr) (K : AV → AH → Prop), Sat ρ H (P ++ Rs) → (∀ v H' P', Q v P' → Sat ρ H' (P' ++ Rs) → K v H') → CallP tab ext f args H K) : Tri tab ext f args P Q :=
  fun ρ H Rs hs => h ρ H Rs _ hs fun _ _ P' hq hs => ⟨P', hq, hs⟩
theorem Sat.swap {A B : Asr} (h : Sat ρ H (A :: B :: R)) : Sat ρ H (B :: A :: R) := h.perm (List.Perm.swap _ _ _)
end
end Go.AM

/-
  Elements of slices that are arguments.
-/
namespace Go.AM
theorem R2_flat_get {α : Type} {R : α → List SV → Prop} {k : Nat} (hk : ∀ x l, R x l → l.length = k) : ∀ {xs : List α} {ls : List (List SV)} (j : List SV), R2 R xs ls → ∀ {i : Nat}, i < xs.length → ∃ x li, xs[i]? = some x ∧ R x li ∧ ((ls.flatten ++ j).drop (i * k)).take k = li ∧ i * k + k ≤ (ls.flatten ++ j).length
  | [], _, _, _, i, hi => by simp at hi
  | x :: xs, l :: ls, j, h, 0, _ => by
    have hl := hk _ _ h.1
    refine ⟨x, l, rfl, h.1, ?_, ?_⟩
    · rw [Nat.zero_mul, List.drop_zero, List.flatten_cons, List.append_assoc, ← hl, List.take_left]
    · simp [List.flatten_cons, hl]
  | x :: xs, l :: ls, j, h, i + 1, hi => by
    have hl := hk _ _ h.1
    obtain ⟨y, li, h1, h2, h3, h4⟩ := R2_flat_get hk j h.2 (i := i) (by simpa using hi)
    refine ⟨y, li, by simpa using h1, h2, ?_, ?_⟩
    · rw [← h3, Nat.add_mul, Nat.one_mul, Nat.add_comm (i * k) k, ← List.drop_drop, List.flatten_cons, List.append_assoc]
      congr 1
      conv => lhs; rw [← hl, List.drop_left]
      rw [hl]
    · simp only [List.flatten_cons, List.length_append, hl] at h4 ⊢
      rw [Nat.add_mul]; omega
  | _ :: _, [], _, h, _, _ => h.elim
section
variable {ρ : HF} {a : Ty} {xs : List a.den} {s : SV}
theorem At.slLen (h : At ρ (.slice a) xs [s]) : lenA (.s s) = some (i64 xs.length) := by
  obtain ⟨s', h1, h2⟩ := h
  cases h1
  rcases h2 with ⟨o, rfl, rfl⟩ | ⟨b, c, j, ls, rfl, _⟩ <;> rfl
theorem At.slGet (h : At ρ (.slice a) xs [s]) {i : Nat} (hi : i < xs.length) : ∃ b c l x li, s = .slice (some (b, 0)) xs.length c a.size ∧ ρ b = some (.cells true l) ∧ xs[i]? = some x ∧ At ρ a x li ∧ (l.drop (i * a.size)).take a.size = li ∧ i * a.size + a.size ≤ l.length := by
  obtain ⟨s', h1, h2⟩ := h
  cases h1
  rcases h2 with ⟨o, rfl, rfl⟩ | ⟨b, c, j, ls, rfl, hb, h3, h4, h5⟩
  · simp at hi
  · obtain ⟨x, li, k1, k2, k3, k4⟩ := R2_flat_get (fun _ _ h => At.len h) j h5 hi
    exact ⟨b, c, _, x, li, rfl, hb, k1, k2, k3, k4⟩
end
theorem ArgsAt.slice {f : HF} {a : Ty} {ts : List Ty} {l : List AV} (h : ArgsAt f (.slice a :: ts) l) : ∃ (xs : List a.den) (s : SV) (vs : List AV), l = .s s :: vs ∧ At f (.slice a) xs [s] ∧ ArgsAt f ts vs := by
  cases h with | cons h1 h2 => obtain ⟨s, rfl, h⟩ := h1; exact ⟨_, s, _, rfl, h, h2⟩
theorem ArgsAt.nil' {f : HF} {l : List AV} (h : ArgsAt f [] l) : l = [] := by cases h; rfl
theorem ArgsAt.int' {f : HF} {k : IntKind} {ts : List Ty} {l : List AV} (h : ArgsAt f (.int k :: ts) l) : ∃ (x : Int) (vs : List AV), l = .s (.int k x) :: vs ∧ (Lit.int k x).wf = true ∧ ArgsAt f ts vs := by
  cases h with | cons h1 h2 => obtain ⟨rfl, h⟩ := h1; exact ⟨_, _, rfl, h, h2⟩
end Go.AM

/-
  Laws of kernels, by the symbolic machine: what the heap is in the beginning.
-/
namespace Go.AM
def tzL : List SV := ([0, 1, 56, 2, 57, 49, 28, 3, 61, 58, 42, 50, 38, 29, 17, 4, 62, 47, 59, 36, 45, 43, 51, 22, 53, 39, 33, 30, 24, 18, 12, 5, 63, 55, 48, 27, 60, 41, 37, 16, 46, 35, 44, 21, 52, 32, 23, 11, 54, 26, 40, 15, 34, 20, 31, 10, 25, 14, 19, 9, 13, 8, 7, 6] : List Int).map fun n => SV.int .u8 n
def tzX : List XV := [.s (.int .u8 0), .s (.int .u8 1), .s (.int .u8 56), .s (.int .u8 2), .s (.int .u8 57), .s (.int .u8 49), .s (.int .u8 28), .s (.int .u8 3), .s (.int .u8 61), .s (.int .u8 58), .s (.int .u8 42), .s (.int .u8 50), .s (.int .u8 38), .s (.int .u8 29), .s (.int .u8 17), .s (.int .u8 4), .s (.int .u8 62), .s (.int .u8 47), .s (.int .u8 59), .s (.int .u8 36), .s (.int .u8 45), .s (.int .u8 43), .s (.int .u8 51), .s (.int .u8 22), .s (.int .u8 53), .s (.int .u8 39), .s (.int .u8 33), .s (.int .u8 30), .s (.int .u8 24), .s (.int .u8 18), .s (.int .u8 12), .s (.int .u8 5), .s (.int .u8 63), .s (.int .u8 55), .s (.int .u8 48), .s (.int .u8 27), .s (.int .u8 60), .s (.int .u8 41), .s (.int .u8 37), .s (.int .u8 16), .s (.int .u8 46), .s (.int .u8 35), .s (.int .u8 44), .s (.int .u8 21), .s (.int .u8 52), .s (.int .u8 32), .s (.int .u8 23), .s (.int .u8 11), .s (.int .u8 54), .s (.int .u8 26), .s (.int .u8 40), .s (.int .u8 15), .s (.int .u8 34), .s (.int .u8 20), .s (.int .u8 31), .s (.int .u8 10), .s (.int .u8 25), .s (.int .u8 14), .s (.int .u8 19), .s (.int .u8 9), .s (.int .u8 13), .s (.int .u8 8), .s (.int .u8 7), .s (.int .u8 6)]
def stC (facts : List Fact) : XS := ⟨.n (some (.cells true tzX)) .e .e, 1, facts, 0, 0⟩
def bFact (i : Nat) (lo hi : Int) : Fact := ⟨[(.v i, 1)], some lo, some hi⟩
theorem bFact_ok {ρ : Nat → Int} {i : Nat} {lo hi : Int} (h1 : lo ≤ ρ i) (h2 : ρ i ≤ hi) : (bFact i lo hi).ok ρ := by
  constructor
  · intro y hy
    have hy : lo = y := Option.some.inj hy
    subst hy
    simp only [bFact, Lin.ev, Atom.ev]; omega
  · intro y hy
    have hy : hi = y := Option.some.inj hy
    subst hy
    simp only [bFact, Lin.ev, Atom.ev]; omega
end Go.AM

/-
  THE SYMBOLIC MACHINE: what every law asks first is looked at once; of what it leaves nothing is told but the first table.
-/
namespace Go.AM
noncomputable def Tr.allB {α : Type} (n : Nat) (t : Tr α) : Nat → Nat → Bool :=
  Tr.rec (motive := fun _ => Nat → Nat → Bool) (fun _ _ => true) (fun v _ _ bl br a c => cond (Option.rec true (fun _ => Nat.blt c n) v) (cond (bl (Nat.mul 2 a) (Nat.add a c)) (br (Nat.mul 2 a) (Nat.add (Nat.mul 2 a) c)) false) false) t
noncomputable def xvSame : XV → XV → Bool
  | .s (.int k n), .s (.int k' m) => cond (decide (k = k')) (Int.eqb n m) false
  | .s (.bool a), .s (.bool b) => cond a b (cond b false true)
  | .y k n, .y k' m => cond (decide (k = k')) (SI.eqb n m) false
  | _, _ => false
noncomputable def xsSame : List XV → List XV → Bool
  | [], [] => true
  | x :: xs, y :: ys => cond (xvSame x y) (xsSame xs ys) false
  | _, _ => false
noncomputable def obSame : Option XBlk → Option XBlk → Bool
  | none, none => true
  | some (.cells true l), some (.cells true l') => xsSame l l'
  | some (.cells false l), some (.cells false l') => xsSame l l'
  | _, _ => false
noncomputable def trSame : Tr XBlk → Tr XBlk → Bool
  | .e, .e => true
  | .n v l r, .n v' l' r' => cond (obSame v v') (cond (trSame l l') (trSame r r') false) false
  | _, _ => false
noncomputable def sameTo (t u : Tr XBlk) : Nat → Bool :=
  Nat.rec true (fun i ih => cond (obSame (t.get i) (u.get i)) ih false)
noncomputable def known1 (h0 : Tr XBlk) (m n : Nat) : XK := fun v st => match isTrue v st with
  | false => false
  | true => match Nat.beq st.next n with
    | false => false
    | true => match st.h.allB n 1 0 with
      | false => false
      | true => match Nat.beq st.gc 0 with
        | false => false
        | true => sameTo st.h h0 m
noncomputable def callN (tab : Nat → Option RFunc) (K : Nat) (h0 : Tr XBlk) (m n fuel : Nat) : Nat → List XAV → XS → XK → Bool := fun f args st k => match Nat.beq f K with
  | false => runX tab fuel f args st k
  | true => match args with
    | [] => (match trSame st.h h0 with
      | false => false
      | true => match Nat.beq st.next m with
        | false => false
        | true => match Nat.beq st.gc 0 with
          | false => false
          | true => k (.s (.s (.bool true))) ⟨h0, n, st.facts, n, m⟩)
    | _ => false
end Go.AM

/-
  A run of the symbolic machine on a small heap is a contract.
-/
namespace Go.AM
abbrev XL := List (Nat × XBlk)
noncomputable def lkX : XL → Nat → Option XBlk
  | [], _ => none
  | (k, x) :: l, b => cond (Nat.beq b k) (some x) (lkX l b)
noncomputable def trL : XL → Option (Tr XBlk)
  | [] => some .e
  | (k, x) :: l => (trL l).bind fun t => t.set x k
theorem trL_get : ∀ (l : XL) (t : Tr XBlk), trL l = some t → ∀ b, t.get b = lkX l b
  | [], t, h, b => by cases h; rfl
  | (k, x) :: l, t, h, b => by
    simp only [trL, Option.bind_eq_some_iff] at h
    obtain ⟨u, h1, h2⟩ := h
    rw [Tr.get_set u k t h2 b, trL_get l u h1 b]
    show _ = cond (Nat.beq b k) (some x) (lkX l b)
    by_cases e : b = k
    · rw [if_pos e, beq_tt e]; rfl
    · rw [if_neg e, beq_ff e]; rfl
theorem lkX_mem : ∀ {l : XL} {b : Nat} {x : XBlk}, lkX l b = some x → (b, x) ∈ l
  | (k, y) :: l, b, x, h => by
    have h : cond (Nat.beq b k) (some y) (lkX l b) = some x := h
    by_cases e : b = k
    · rw [beq_tt e] at h
      cases h; subst e; exact List.mem_cons_self
    · rw [beq_ff e] at h
      exact List.mem_cons_of_mem _ (lkX_mem h)
theorem lkX_some : ∀ {l : XL} {b : Nat}, b ∈ l.map (·.1) → ∃ x, lkX l b = some x
  | (k, y) :: l, b, h => by
    show ∃ x, cond (Nat.beq b k) (some y) (lkX l b) = some x
    by_cases e : b = k
    · rw [beq_tt e]; exact ⟨y, rfl⟩
    · rw [beq_ff e]
      rcases List.mem_cons.1 h with h | h
      · exact absurd h e
      · exact lkX_some h
noncomputable def mapN (s : List (Nat × Nat)) (b : Nat) : Nat :=
  List.rec (motive := fun _ => Nat) b (fun p _ r => cond (Nat.beq b p.1) p.2 r) s
noncomputable def XV.rnx (σ : Nat → Nat) : XV → XV
  | .s x => .s (x.ren σ)
  | .y k n => .y k n
noncomputable def XPart.rnx (σ : Nat → Nat) : XPart → XPart
  | .s x => .s (x.rnx σ)
  | .agg l => .agg (l.map (XV.rnx σ))
noncomputable def XAV.rnx (σ : Nat → Nat) : XAV → XAV
  | .s x => .s (x.rnx σ)
  | .agg l => .agg (l.map (XV.rnx σ))
  | .tup l => .tup (l.map (XPart.rnx σ))
noncomputable def XBlk.rnx (σ : Nat → Nat) : XBlk → XBlk
  | .dead => .dead
  | .cells ro l => .cells ro (l.map (XV.rnx σ))
  | .map es => .map (es.map fun p => (p.1.ren σ, p.2.rnx σ))
section
variable {ρ : Nat → Int} {σ : Nat → Nat}
theorem xv_rn (x : XV) : (x.rnx σ).ev ρ = (x.ev ρ).ren σ := by cases x <;> rfl
theorem xl_rn (l : List XV) : (l.map (XV.rnx σ)).map (XV.ev ρ) = renL σ (l.map (XV.ev ρ)) := by
  rw [List.map_map]
  show _ = (l.map _).map _
  rw [List.map_map]
  exact List.map_congr_left fun x _ => xv_rn x
theorem xpart_rn (p : XPart) : (p.rnx σ).ev ρ = (p.ev ρ).ren σ := by
  cases p with
  | s x => show Part.s _ = Part.s _; rw [xv_rn]
  | agg l => show Part.agg _ = Part.agg _; rw [xl_rn]
theorem xav_rn (v : XAV) : (v.rnx σ).ev ρ = (v.ev ρ).ren σ := by
  cases v with
  | s x => show AV.s _ = AV.s _; rw [xv_rn]
  | agg l => show AV.agg _ = AV.agg _; rw [xl_rn]
  | tup l =>
    show AV.tup ((l.map _).map _) = AV.tup ((l.map _).map _)
    rw [List.map_map, List.map_map]
    congr 1
    exact List.map_congr_left fun p _ => xpart_rn p
theorem xblk_rn (x : XBlk) : (x.rnx σ).ev ρ = (x.ev ρ).ren σ := by
  cases x with
  | dead => rfl
  | cells ro l => show Blk.cells _ _ = Blk.cells _ _; rw [xl_rn]
  | map es =>
    show Blk.map ((es.map _).map _) = Blk.map ((es.map _).map _)
    rw [List.map_map, List.map_map]
    congr 1
    exact List.map_congr_left fun p _ => by
      show (p.1.ren σ, (p.2.rnx σ).ev ρ) = (p.1.ren σ, (p.2.ev ρ).ren σ)
      rw [xpart_rn]
end
def svBd (n : Nat) : SV → Bool
  | .ptr (some (b, _)) => Nat.blt b n
  | .slice (some (b, _)) _ _ _ => Nat.blt b n
  | .map (some r) => Nat.blt r n
  | .fn _ caps => caps.all fun p => Nat.blt p.1 n
  | .bfn _ a => Nat.blt a.1 n
  | _ => true
noncomputable def XV.bd (n : Nat) : XV → Bool
  | .s x => svBd n x
  | .y _ _ => true
noncomputable def XPart.bd (n : Nat) : XPart → Bool
  | .s x => x.bd n
  | .agg l => l.all (XV.bd n)
noncomputable def XAV.bd (n : Nat) : XAV → Bool
  | .s x => x.bd n
  | .agg l => l.all (XV.bd n)
  | .tup l => l.all (XPart.bd n)
noncomputable def XBlk.bd (n : Nat) : XBlk → Bool
  | .dead => true
  | .cells _ l => l.all (XV.bd n)
  | .map es => es.all fun p => svBd n p.1 && p.2.bd n
section
variable {ρ : Nat → Int} {n : Nat}
theorem sv_bd {x : SV} (h : svBd n x = true) : Bd n fun π => x.ren π := by
  intro π π' he
  have lt : ∀ {b}, Nat.blt b n = true → π b = π' b := fun {b} hb => he b (by simpa using hb)
  cases x with
  | ptr a => cases a with
    | none => rfl
    | some a => show SV.ptr (some (π a.1, a.2)) = SV.ptr (some (π' a.1, a.2)); rw [lt h]
  | slice a l c e => cases a with
    | none => rfl
    | some a => show SV.slice (some (π a.1, a.2)) l c e = SV.slice (some (π' a.1, a.2)) l c e; rw [lt h]
  | map a => cases a with
    | none => rfl
    | some a => show SV.map (some (π a)) = SV.map (some (π' a)); rw [lt h]
  | fn f caps =>
    show SV.fn f (caps.map _) = SV.fn f (caps.map _)
    congr 1
    exact List.map_congr_left fun p hp => by
      show (π p.1, p.2) = (π' p.1, p.2)
      rw [lt (List.all_eq_true.1 h p hp)]
  | bfn f a => show SV.bfn f (π a.1, a.2) = SV.bfn f (π' a.1, a.2); rw [lt h]
  | _ => rfl
theorem xv_bd {x : XV} (h : x.bd n = true) : Bd n fun π => (x.ev ρ).ren π := by
  cases x with
  | s x => exact sv_bd h
  | y k m => exact fun _ _ _ => rfl
theorem xl_bd {l : List XV} (h : l.all (XV.bd n) = true) : Bd n fun π => renL π (l.map (XV.ev ρ)) := by
  intro π π' he
  show (l.map _).map _ = (l.map _).map _
  rw [List.map_map, List.map_map]
  exact List.map_congr_left fun x hx => xv_bd (List.all_eq_true.1 h x hx) π π' he
theorem xpart_bd {p : XPart} (h : p.bd n = true) : Bd n fun π => (p.ev ρ).ren π := by
  cases p with
  | s x => exact fun π π' he => congrArg Part.s (xv_bd (ρ := ρ) h π π' he)
  | agg l => exact fun π π' he => congrArg Part.agg (xl_bd (ρ := ρ) h π π' he)
theorem xav_bd {v : XAV} (h : v.bd n = true) : Bd n fun π => (v.ev ρ).ren π := by
  cases v with
  | s x => exact fun π π' he => congrArg AV.s (xv_bd (ρ := ρ) h π π' he)
  | agg l => exact fun π π' he => congrArg AV.agg (xl_bd (ρ := ρ) h π π' he)
  | tup l =>
    intro π π' he
    show AV.tup ((l.map _).map _) = AV.tup ((l.map _).map _)
    rw [List.map_map, List.map_map]
    congr 1
    exact List.map_congr_left fun p hp => xpart_bd (List.all_eq_true.1 h p hp) π π' he
theorem xblk_bd {x : XBlk} (h : x.bd n = true) : Bd n fun π => (x.ev ρ).ren π := by
  cases x with
  | dead => exact fun _ _ _ => rfl
  | cells ro l => exact fun π π' he => congrArg (Blk.cells ro) (xl_bd (ρ := ρ) h π π' he)
  | map es =>
    intro π π' he
    show Blk.map ((es.map _).map _) = Blk.map ((es.map _).map _)
    rw [List.map_map, List.map_map]
    congr 1
    exact List.map_congr_left fun p hp => by
      have := List.all_eq_true.1 h p hp
      simp only [Bool.and_eq_true] at this
      show (p.1.ren π, (p.2.ev ρ).ren π) = (p.1.ren π', (p.2.ev ρ).ren π')
      exact Prod.ext (sv_bd this.1 π π' he) (xpart_bd (ρ := ρ) this.2 π π' he)
end
def nodupN : List Nat → Bool
  | [] => true
  | a :: l => l.all (fun b => !Nat.beq a b) && nodupN l
theorem nodupN_ok : ∀ {l : List Nat}, nodupN l = true → l.Nodup
  | [], _ => List.nodup_nil
  | a :: l, h => by
    simp only [nodupN, Bool.and_eq_true, List.all_eq_true] at h
    refine List.nodup_cons.2 ⟨fun hm => ?_, nodupN_ok h.2⟩
    have := h.1 a hm
    rw [beq_tt rfl] at this
    cases this
noncomputable def xpEqb : XPart → XPart → Bool
  | .s x, .s y => xvEqb x y
  | .agg l, .agg m => xlEqb l m
  | _, _ => false
theorem xpEqb_eq {a b : XPart} (h : xpEqb a b = true) : a = b := by
  unfold xpEqb at h
  split at h
  · rw [xvEqb_eq h]
  · rw [xlEqb_eq h]
  · cases h
noncomputable def xpsEqb : List XPart → List XPart → Bool
  | [], [] => true
  | x :: l, y :: m => xpEqb x y && xpsEqb l m
  | _, _ => false
theorem xpsEqb_eq : ∀ {l m : List XPart}, xpsEqb l m = true → l = m
  | [], [], _ => rfl
  | x :: l, y :: m, h => by
    simp only [xpsEqb, Bool.and_eq_true] at h
    rw [xpEqb_eq h.1, xpsEqb_eq h.2]
  | [], _ :: _, h => by cases h
  | _ :: _, [], h => by cases h
noncomputable def xtEqb : XAV → XAV → Bool
  | .tup l, .tup m => xpsEqb l m
  | a, b => xaEqb a b
theorem xtEqb_eq {a b : XAV} (h : xtEqb a b = true) : a = b := by
  unfold xtEqb at h
  split at h
  · rw [xpsEqb_eq h]
  · exact xaEqb_eq h
noncomputable def xesEqb : List (SV × XPart) → List (SV × XPart) → Bool
  | [], [] => true
  | x :: l, y :: m => (svEqb x.1 y.1 && xpEqb x.2 y.2) && xesEqb l m
  | _, _ => false
theorem xesEqb_eq : ∀ {l m : List (SV × XPart)}, xesEqb l m = true → l = m
  | [], [], _ => rfl
  | x :: l, y :: m, h => by
    simp only [xesEqb, Bool.and_eq_true] at h
    rw [xesEqb_eq h.2]
    congr 1
    exact Prod.ext (svEqb_eq h.1.1) (xpEqb_eq h.1.2)
  | [], _ :: _, h => by cases h
  | _ :: _, [], h => by cases h
noncomputable def obEqb : Option XBlk → XBlk → Bool
  | some .dead, .dead => true
  | some (.cells true l), .cells true m => xlEqb l m
  | some (.cells false l), .cells false m => xlEqb l m
  | some (.map l), .map m => xesEqb l m
  | _, _ => false
theorem obEqb_eq {a : Option XBlk} {b : XBlk} (h : obEqb a b = true) : a = some b := by
  unfold obEqb at h
  split at h
  · rfl
  · rw [xlEqb_eq h]
  · rw [xlEqb_eq h]
  · rw [xesEqb_eq h]
  · cases h
noncomputable def isoK (g : Nat) (keep : List Nat) (es : XL) (s : List (Nat × Nat)) (v2 : XAV) : XK := fun v st =>
  xtEqb v (v2.rnx (mapN s)) && (es.all (fun e => obEqb (st.h.get (mapN s e.1)) (e.2.rnx (mapN s)) && Nat.ble g (mapN s e.1)) && (nodupN (es.map fun e => mapN s e.1) && (keep.all (fun b => Nat.beq (mapN s b) b) && (List.range g).all fun b => Nat.beq (mapN s b) b)))
theorem beq_of {a b : Nat} (h : Nat.beq a b = true) : a = b := Nat.eq_of_beq_eq_true h
theorem isoK_ok {g : Nat} {keep : List Nat} {es : XL} {s : List (Nat × Nat)} {v2 v : XAV} {st : XS} {H : AH} {ρ : Nat → Int} (h : isoK g keep es s v2 v st = true) (hR : XRel ρ st H) (_ : (es.map (·.1)).Nodup) : Iso g keep (fun b => (lkX es b).map (XBlk.ev ρ)) (es.map (·.1)) (v2.ev ρ) (v.ev ρ) H := by
  simp only [isoK, Bool.and_eq_true, List.all_eq_true] at h
  obtain ⟨h1, h2, h3, h4, h5⟩ := h
  refine ⟨mapN s, fun b hb => beq_of (h4 b hb), fun b hb => beq_of (h5 b (List.mem_range.2 hb)), ?_, fun b hb => ?_, ?_⟩
  · rw [List.map_map]; exact nodupN_ok h3
  · obtain ⟨x, hx⟩ := lkX_some hb
    have h6 := h2 (b, x) (lkX_mem hx)
    refine ⟨Nat.le_of_ble_eq_true h6.2, x.ev ρ, by rw [hx]; rfl, ?_⟩
    rw [← xblk_rn]
    exact hR.has _ _ (obEqb_eq h6.1)
  · rw [← xav_rn, xtEqb_eq h1]
noncomputable def startOk (g n0 : Nat) (GX St : XL) (keep : List Nat) (xs : List XAV) : Bool :=
  Nat.ble g n0 && (GX.all (fun e => Nat.blt e.1 g && (match e.2 with | .cells true l => (match concL l with | some l => nnL l | none => false) | _ => false)) && (St.all (fun e => Nat.ble g e.1 && (Nat.blt e.1 n0 && (e.2.bd n0 && (match e.2 with | .cells true _ => false | _ => true)))) && (nodupN (St.map (·.1)) && (keep.all (fun b => Nat.blt b n0) && xs.all (XAV.bd n0)))))
noncomputable def gOf (GX : XL) : List (Nat × List SV) := GX.map fun e => (e.1, match e.2 with | .cells _ l => (concL l).getD [] | _ => [])
noncomputable def heapX (GX St : XL) : Tr XBlk := (trL (GX ++ St)).getD .e
noncomputable def ImgX (π : Nat → Nat) (St : XL) (ρ : Nat → Int) : Asr := Img π (fun b => (lkX St b).map (XBlk.ev ρ)) (St.map (·.1))
theorem lkX_app : ∀ (a b : XL) (k : Nat), lkX (a ++ b) k = (lkX a k).or (lkX b k)
  | [], b, k => by
    show lkX b k = (none : Option XBlk).or (lkX b k)
    rw [Option.none_or]
  | (j, x) :: a, b, k => by
    show cond (Nat.beq k j) (some x) (lkX (a ++ b) k) = (cond (Nat.beq k j) (some x) (lkX a k)).or _
    rw [lkX_app a b k]
    cases Nat.beq k j <;> rfl
theorem Img.congr {π : Nat → Nat} {L L' : Nat → Option Blk} {dom : List Nat} (h : ∀ b ∈ dom, L b = L' b) : Img π L dom = Img π L' dom := by
  unfold Img
  congr 1
  funext ρ f S
  refine propext ⟨fun ⟨h1, h2, h3⟩ => ⟨h1, h2, fun b hb => ?_⟩, fun ⟨h1, h2, h3⟩ => ⟨h1, h2, fun b hb => ?_⟩⟩
  · rw [← h b hb]; exact h3 b hb
  · rw [h b hb]; exact h3 b hb
section
variable {tab : Nat → Option RFunc}
theorem sx_tri {g n0 fuel f : Nat} {xs : List XAV} {GX St es : XL} {keep : List Nat} {s : List (Nat × Nat)} {v2 : XAV} {facts : List Fact} (ht : TabNN g tab) (hw : TabWf tab)
    (hs : (startOk g n0 GX St keep xs && (trL (GX ++ St)).isSome && nodupN (es.map (·.1))) = true)
    (hrun : runX tab fuel f xs ⟨heapX GX St, n0, facts, 0, 0⟩ (isoK g keep es s v2) = true) {ρ : Nat → Int} (hρ : FactsOk ρ facts) {π : Nat → Nat} (hπ : ∀ b, b < g → π b = b) :
    Tri tab noExt f ((xs.map (XAV.ev ρ)).map (AV.ren π)) [Glb (gOf GX), ImgX π St ρ] fun v P' => ∃ π', (∀ b ∈ keep, π' b = π b) ∧ (∀ b, b < g → π' b = b) ∧ v = (v2.ev ρ).ren π' ∧ P' = [Glb (gOf GX), ImgX π' es ρ] := by
  simp only [Bool.and_eq_true, startOk, List.all_eq_true] at hs
  obtain ⟨⟨⟨h1, h2, h3, h4, h5, h6⟩, h7⟩, h8⟩ := hs
  obtain ⟨t, ht0⟩ := Option.isSome_iff_exists.1 h7
  have hget : ∀ b, (heapX GX St).get b = lkX (GX ++ St) b := fun b => by
    unfold heapX
    rw [ht0]
    exact trL_get _ t ht0 b
  let L0 : AH := ⟨fun b => (lkX (GX ++ St) b).map (XBlk.ev ρ), n0⟩
  have hGlt : ∀ e ∈ GX, e.1 < g := fun e he => by simpa using (h2 e he).1
  have hSge : ∀ e ∈ St, g ≤ e.1 := fun e he => Nat.le_of_ble_eq_true (h3 e he).1
  have hSt : ∀ b, g ≤ b → lkX (GX ++ St) b = lkX St b := fun b hb => by
    rw [lkX_app]
    cases hx : lkX GX b with
    | none => rfl
    | some x => have := hGlt _ (lkX_mem hx); dsimp only at this; omega
  have hR : XRel ρ ⟨heapX GX St, n0, facts, 0, 0⟩ L0 := by
    refine ⟨fun b x h => ?_, fun b _ h => ?_, rfl, hρ⟩
    · have h : (heapX GX St).get b = some x := h
      rw [hget] at h
      show (lkX (GX ++ St) b).map _ = _
      rw [h]; rfl
    · have h : (heapX GX St).get b = none := h
      rw [hget] at h
      show (lkX (GX ++ St) b).map _ = _
      rw [h]; rfl
  have hc : CallP tab noExt f (xs.map (XAV.ev ρ)) L0 (Iso g keep (fun b => (lkX es b).map (XBlk.ev ρ)) (es.map (·.1)) (v2.ev ρ)) :=
    runX_ok (ρ := ρ) fuel f xs _ L0 _ _ hrun hR fun xv st' H' k1 k2 => isoK_ok k1 k2 (nodupN_ok h8)
  have e1 : ImgX π St ρ = Img π L0.blk (St.map (·.1)) := by
    refine Img.congr fun b hb => ?_
    obtain ⟨e, he, rfl⟩ := List.mem_map.1 hb
    show _ = (lkX (GX ++ St) e.1).map _
    rw [hSt _ (hSge e he)]
  rw [e1]
  have hb0 : ∀ b x, L0.blk b = some x → ∃ y, lkX (GX ++ St) b = some y ∧ x = y.ev ρ := fun b x hx => by
    have hx : (lkX (GX ++ St) b).map (XBlk.ev ρ) = some x := hx
    rw [Option.map_eq_some_iff] at hx
    obtain ⟨y, h1, h2⟩ := hx
    exact ⟨y, h1, h2.symm⟩
  have hmem : ∀ b y, lkX (GX ++ St) b = some y → g ≤ b → (b, y) ∈ St := fun b y hy hb => by
    rw [hSt b hb] at hy
    exact lkX_mem hy
  refine Tri.can (L0 := L0) (g := g) (G := gOf GX) (dom0 := St.map (·.1)) ht hw noExt_wf noExt_next noExt_ro (fun _ _ _ _ _ => noExt_em) (Nat.le_of_ble_eq_true h1) ?_ ?_ ?_ ?_ ?_ ?_ ?_ ?_ hc hπ
  · intro e he
    obtain ⟨e', he', rfl⟩ := List.mem_map.1 he
    refine ⟨hGlt e' he', ?_⟩
    have := (h2 e' he').2
    dsimp only
    split at this
    · rename_i l hl
      rw [hl]
      dsimp only
      split at this
      · rename_i l' hl'
        rw [hl']; exact this
      · cases this
    · cases this
  · intro b x hx hb
    obtain ⟨y, hy, rfl⟩ := hb0 b x hx
    have hy2 : (b, y) ∈ GX := by
      rcases List.mem_append.1 (lkX_mem hy) with h | h
      · exact h
      · have := hSge _ h; dsimp only at this; omega
    have := (h2 _ hy2).2
    dsimp only at this
    split at this
    · rename_i l
      split at this
      · rename_i l' hl'
        refine ⟨l', ?_, ?_⟩
        · show Blk.cells true (l.map _) = _
          rw [concL_ev hl']
        · refine List.mem_map.2 ⟨_, hy2, ?_⟩
          dsimp only
          rw [hl']; rfl
      · cases this
    · cases this
  · intro b hb
    obtain ⟨x, hx⟩ := Option.ne_none_iff_exists'.1 hb
    obtain ⟨y, hy, rfl⟩ := hb0 b x hx
    by_cases hg : g ≤ b
    · exact .inl (List.mem_map.2 ⟨_, hmem b y hy hg, rfl⟩)
    · exact .inr (by omega)
  · intro b hb
    obtain ⟨e, he, rfl⟩ := List.mem_map.1 hb
    exact ⟨hSge e he, by simpa using (h3 e he).2.1⟩
  · intro b hb l hl
    obtain ⟨e, he, rfl⟩ := List.mem_map.1 hb
    obtain ⟨y, hy, hy2⟩ := hb0 _ _ hl
    have := (h3 _ (hmem _ y hy (hSge e he))).2.2.2
    cases y with
    | cells ro l' => cases ro with
      | true => cases this
      | false => cases hy2
    | dead => cases hy2
    | map es => cases hy2
  · intro b hb
    simpa using h5 b hb
  · intro b hb x hx
    obtain ⟨e, he, rfl⟩ := List.mem_map.1 hb
    obtain ⟨y, hy, rfl⟩ := hb0 _ _ hx
    exact xblk_bd (h3 _ (hmem _ y hy (hSge e he))).2.2.1
  · intro v hv
    obtain ⟨x, hx, rfl⟩ := List.mem_map.1 hv
    exact xav_bd (h6 x hx)
end
end Go.AM

/-
  WALKS: a code is gone through by what its slots are known to hold and by the things that lie on the heap, each by itself; what lies beside stays.
-/
namespace Go.AM
abbrev Env := List (Nat × AV)
def look : Env → Nat → Option AV
  | [], _ => none
  | (j, v) :: E, i => bif Nat.beq j i then some v else look E i
def LvE (T : List AV) (E : Env) : Prop := ∀ i v, look E i = some v → sl T i = v
def evo (E : Env) : Opd → Option AV
  | .t n => look E n
  | .c v => some v
  | .g n => some (.s (.ptr (some (n, 0))))
def evl (E : Env) : List Opd → Option (List AV)
  | [] => some []
  | x :: xs => (evo E x).bind fun a => (evl E xs).bind fun ys => some (a :: ys)
def evp (E : Env) : List (Nat × Nat × Opd) → Option (List (Nat × Nat × AV))
  | [] => some []
  | (o, n, x) :: xs => (evo E x).bind fun a => (evp E xs).bind fun ys => some ((o, n, a) :: ys)
def evm (E : Env) : Option Opd → Option (Option AV)
  | none => some none
  | some x => (evo E x).bind fun a => some (some a)
def binE (op : BinOp) (x y : AV) : Option AV :=
  match op, x, y with
  | .eql, .s (.int k a), .s (.int k' b) => if k = k' then some (.s (.bool (decide (a = b)))) else none
  | .neq, .s (.int k a), .s (.int k' b) => if k = k' then some (.s (.bool (decide (¬ a = b)))) else none
  | op, x, y => binA op x y
theorem binE_ok {op : BinOp} {x y v : AV} (h : binE op x y = some v) : binA op x y = some v := by
  unfold binE at h
  split at h
  · split at h
    · rename_i hk; subst hk; cases h; exact binA_eql _ _ _
    · cases h
  · split at h
    · rename_i hk; subst hk; cases h; exact binA_neq _ _ _
    · cases h
  · exact h
def pureE (E : Env) : ROp → Option AV
  | .move x => evo E x
  | .pick c a b => (evo E c).bind fun c => (evo E a).bind fun a => (evo E b).bind fun b => pickA c a b
  | .nilCheck x => (evo E x).bind nilCheckA
  | .build z ps => (evp E ps).bind fun ps => buildA z ps
  | .fieldAddr off x => (evo E x).bind fun x => fieldAddrA off x
  | .field m off x => (evo E x).bind fun x => fieldA m off x
  | .indexSl esz x i => (evo E x).bind fun x => (evo E i).bind fun i => indexSlA esz x i
  | .indexArr len esz x i => (evo E x).bind fun x => (evo E i).bind fun i => indexArrA len esz x i
  | .index len esz m x i => (evo E x).bind fun x => (evo E i).bind fun i => indexA len esz m x i
  | .slSl esz x lo hi mx => (evo E x).bind fun x => (evm E lo).bind fun lo => (evm E hi).bind fun hi => (evm E mx).bind fun mx => slSlA esz x lo hi mx
  | .bin op x y => match op with
    | .add => none
    | .sub => none
    | op => (evo E x).bind fun x => (evo E y).bind fun y => binE op x y
  | .eqs k ng x y => (evo E x).bind fun x => (evo E y).bind fun y => eqsA k ng x y
  | .eqAgg ks ng x y => (evo E x).bind fun x => (evo E y).bind fun y => eqAggA ks ng x y
  | .un op x => (evo E x).bind fun x => unA op x
  | .conv k x => (evo E x).bind fun x => convA k x
  | .makeFunc f caps => (evl E caps).bind fun l => (capsA l).map fun c => .s (.fn f c)
  | .bindf f x => (evo E x).bind fun x => bindA f x
  | .extract i x => (evo E x).bind fun x => extractA i x
  | .len x => (evo E x).bind lenA
  | .lenArr n => some (.s (.int .i64 n))
  | .minmax mx x y => (evo E x).bind fun x => (evo E y).bind fun y => minmaxA mx x y
  | _ => none
section
variable {T : List AV} {E : Env}
theorem evo_ok (h : LvE T E) {x : Opd} {v : AV} (hv : evo E x = some v) : ev T x = v := by
  cases x with
  | t n => exact h n v hv
  | c u => exact Option.some.inj hv
  | g n => exact Option.some.inj hv
theorem evl_ok (h : LvE T E) : ∀ {l : List Opd} {vs : List AV}, evl E l = some vs → l.map (ev T) = vs
  | [], vs, hv => by simp only [evl, Option.some.injEq] at hv; subst hv; rfl
  | x :: l, vs, hv => by
    simp only [evl, Option.bind_eq_some_iff, Option.some.injEq] at hv
    obtain ⟨a, h1, b, h2, rfl⟩ := hv
    rw [List.map_cons, evo_ok h h1, evl_ok h h2]
theorem evp_ok (h : LvE T E) : ∀ {l : List (Nat × Nat × Opd)} {vs : List (Nat × Nat × AV)}, evp E l = some vs → (l.map fun p => (p.1, p.2.1, ev T p.2.2)) = vs
  | [], vs, hv => by simp only [evp, Option.some.injEq] at hv; subst hv; rfl
  | (o, n, x) :: l, vs, hv => by
    simp only [evp, Option.bind_eq_some_iff, Option.some.injEq] at hv
    obtain ⟨a, h1, b, h2, rfl⟩ := hv
    rw [List.map_cons, evp_ok h h2]
    simp only [evo_ok h h1]
theorem evm_ok (h : LvE T E) {x : Option Opd} {v : Option AV} (hv : evm E x = some v) : x.map (ev T) = v := by
  cases x with
  | none => exact Option.some.inj hv
  | some x =>
    simp only [evm, Option.bind_eq_some_iff, Option.some.injEq] at hv
    obtain ⟨a, h1, rfl⟩ := hv
    rw [Option.map_some, evo_ok h h1]
theorem pureE_ok (h : LvE T E) {o : ROp} {v : AV} (hv : pureE E o = some v) : pureA (ev T) o = some v ∧ o.kind = .pure := by
  cases o <;> simp only [pureE, Option.bind_eq_some_iff, reduceCtorEq] at hv <;> refine ⟨?_, rfl⟩ <;> simp only [pureA]
  case move x => rw [evo_ok h hv]
  case pick c a b => obtain ⟨_, h1, _, h2, _, h3, h4⟩ := hv; rw [evo_ok h h1, evo_ok h h2, evo_ok h h3, h4]
  case nilCheck x => obtain ⟨_, h1, h4⟩ := hv; rw [evo_ok h h1, h4]
  case build z ps => obtain ⟨_, h1, h4⟩ := hv; rw [evp_ok h h1, h4]
  case fieldAddr off x => obtain ⟨_, h1, h4⟩ := hv; rw [evo_ok h h1, h4]
  case field m off x => obtain ⟨_, h1, h4⟩ := hv; rw [evo_ok h h1, h4]
  case indexSl esz x i => obtain ⟨_, h1, _, h2, h4⟩ := hv; rw [evo_ok h h1, evo_ok h h2, h4]
  case indexArr len esz x i => obtain ⟨_, h1, _, h2, h4⟩ := hv; rw [evo_ok h h1, evo_ok h h2, h4]
  case index len esz m x i => obtain ⟨_, h1, _, h2, h4⟩ := hv; rw [evo_ok h h1, evo_ok h h2, h4]
  case slSl esz x lo hi mx => obtain ⟨_, h1, _, h2, _, h3, _, h5, h4⟩ := hv; rw [evo_ok h h1, evm_ok h h2, evm_ok h h3, evm_ok h h5, h4]
  case bin op x y =>
    split at hv
    · cases hv
    · cases hv
    · simp only [Option.bind_eq_some_iff] at hv
      obtain ⟨_, h1, _, h2, h4⟩ := hv; rw [evo_ok h h1, evo_ok h h2, binE_ok h4]
  case eqs k ng x y => obtain ⟨_, h1, _, h2, h4⟩ := hv; rw [evo_ok h h1, evo_ok h h2, h4]
  case eqAgg k ng x y => obtain ⟨_, h1, _, h2, h4⟩ := hv; rw [evo_ok h h1, evo_ok h h2, h4]
  case un op x => obtain ⟨_, h1, h4⟩ := hv; rw [evo_ok h h1, h4]
  case conv k x => obtain ⟨_, h1, h4⟩ := hv; rw [evo_ok h h1, h4]
  case makeFunc f caps => obtain ⟨_, h1, h4⟩ := hv; rw [evl_ok h h1, h4]
  case bindf f x => obtain ⟨_, h1, h4⟩ := hv; rw [evo_ok h h1, h4]
  case extract i x => obtain ⟨_, h1, h4⟩ := hv; rw [evo_ok h h1, h4]
  case len x => obtain ⟨_, h1, h4⟩ := hv; rw [evo_ok h h1, h4]
  case lenArr n => exact hv
  case minmax mx x y => obtain ⟨_, h1, _, h2, h4⟩ := hv; rw [evo_ok h h1, evo_ok h h2, h4]
theorem LvE.put {n d : Nat} (hT : T.length = n) (hd : Nat.blt d n = true) (h : LvE T E) (v : AV) : LvE (put T (some d) v) ((d, v) :: E) := by
  intro i x hx
  have hd' : d < T.length := by rw [hT]; simpa [Nat.blt_eq] using hd
  simp only [look] at hx
  by_cases e : d = i
  · subst e
    simp only [Nat.beq_refl, cond_true, Option.some.injEq] at hx
    subst hx
    simp [sl, Go.AM.put, List.getD_eq_getElem?_getD, hd']
  · have : Nat.beq d i = false := by cases hb : Nat.beq d i with
      | false => rfl
      | true => exact absurd (Nat.eq_of_beq_eq_true hb) e
    rw [this, cond_false] at hx
    have := h i x hx
    simp only [sl, Go.AM.put, List.getD_eq_getElem?_getD] at this ⊢
    rw [List.getElem?_set_ne e]; exact this
theorem put_len {n : Nat} (hT : T.length = n) (d : Option Nat) (v : AV) : (Go.AM.put T d v).length = n := by cases d <;> simp [Go.AM.put, hT]
end
inductive In1 : Asr → List Asr → List Asr → Prop
  | h {A : Asr} {L : List Asr} : In1 A (A :: L) L
  | n {A B : Asr} {L R : List Asr} : In1 A L R → In1 A (B :: L) (B :: R)
inductive Ins : List Asr → List Asr → List Asr → Prop
  | e {L : List Asr} : Ins [] L L
  | c {A : Asr} {P L L' R : List Asr} : In1 A L L' → Ins P L' R → Ins (A :: P) L R
theorem In1.perm {A : Asr} {L R : List Asr} (h : In1 A L R) : L.Perm (A :: R) := by
  induction h with
  | h => exact List.Perm.refl _
  | n _ ih => exact (List.Perm.cons _ ih).trans (List.Perm.swap _ _ _)
theorem Ins.perm {P L R : List Asr} (h : Ins P L R) : L.Perm (P ++ R) := by
  induction h with
  | e => exact List.Perm.refl _
  | c h1 _ ih => exact h1.perm.trans (List.Perm.cons _ ih)
section
variable {ρ : HF} {H : AH}
theorem Ins.sat {P L R X : List Asr} (h : Ins P L R) (hs : Sat ρ H (L ++ X)) : Sat ρ H (P ++ (R ++ X)) := by
  rw [← List.append_assoc]; exact hs.perm (h.perm.append_right X)
theorem Sat.mid {A B C : List Asr} (h : Sat ρ H (A ++ (B ++ C))) : Sat ρ H (B ++ (A ++ C)) := by
  refine h.perm ?_
  rw [← List.append_assoc, ← List.append_assoc]
  exact List.perm_append_comm.append_right C
end
def LEnt (L L' : List Asr) : Prop := ∀ (ρ : HF) (H : AH) (R : List Asr), Sat ρ H (L ++ R) → Sat ρ H (L' ++ R)
theorem LEnt.refl (L : List Asr) : LEnt L L := fun _ _ _ h => h
theorem LEnt.trans {L L' L'' : List Asr} (h : LEnt L L') (h' : LEnt L' L'') : LEnt L L'' := fun ρ H R hs => h' ρ H R (h ρ H R hs)
theorem LEnt.of {P L R : List Asr} (h : Ins P L R) : LEnt L P := fun _ _ _ hs => (h.sat hs).mid.drops
structure Ld (L : List Asr) (b o : Nat) (x : SV) : Prop where
  of : ∀ (ρ : HF) (H : AH) (R : List Asr), Sat ρ H (L ++ R) → H.ld b o = some x
structure Ldn (L : List Asr) (b o n : Nat) (l : List SV) : Prop where
  of : ∀ (ρ : HF) (H : AH) (R : List Asr), Sat ρ H (L ++ R) → H.ldn b o n = some l
structure Stw (L : List Asr) (b o : Nat) (vs : List SV) (L' : List Asr) : Prop where
  of : ∀ (ρ : HF) (H : AH) (R : List Asr), Sat ρ H (L ++ R) → ∃ H', H.stn b o vs = some H' ∧ Sat ρ H' (L' ++ R)
def sb : SV → Nat
  | .slice (some (b, _)) _ _ _ => b
  | _ => 0
def sc : SV → Nat
  | .slice _ _ c _ => c
  | _ => 0
section
variable {L : List Asr} {A : Asr} {b o : Nat} {x : SV} {l : List SV}
theorem Sat.swapA {ρ : HF} {H : AH} {R : List Asr} (h : Sat ρ H ((A :: L) ++ R)) : Sat ρ H (L ++ (A :: R)) := h.perm List.perm_middle.symm
theorem Sat.swapB {ρ : HF} {H : AH} {R : List Asr} (h : Sat ρ H (L ++ (A :: R))) : Sat ρ H ((A :: L) ++ R) := h.perm List.perm_middle
theorem Ld.n (h : Ld L b o x) : Ld (A :: L) b o x := ⟨fun ρ H _ hs => h.of ρ H _ hs.swapA⟩
theorem Ld.c (h : l[o]? = some x) : Ld (Cel b l :: L) b o x := ⟨fun ρ H R hs => by rw [ld_of H hs.cel]; exact h⟩
theorem Ld.r (h : l[o]? = some x) : Ld (Ro b l :: L) b o x := ⟨fun ρ H R hs => by rw [ld_of H hs.ro]; exact h⟩
theorem Ldn.n {m : Nat} {l' : List SV} (h : Ldn L b o m l') : Ldn (A :: L) b o m l' := ⟨fun ρ H _ hs => h.of ρ H _ hs.swapA⟩
theorem Ldn.c {m : Nat} {l' : List SV} (h : o + m ≤ l.length) (h' : (l.drop o).take m = l') : Ldn (Cel b l :: L) b o m l' := ⟨fun ρ H R hs => by
  have := hs.cel
  rw [ldn_of H this, if_pos h, h']⟩
theorem Ldn.r {m : Nat} {l' : List SV} (h : o + m ≤ l.length) (h' : (l.drop o).take m = l') : Ldn (Ro b l :: L) b o m l' := ⟨fun ρ H R hs => by rw [ldn_of H hs.ro, if_pos h, h']⟩
theorem Stw.n {L' : List Asr} {vs : List SV} (h : Stw L b o vs L') : Stw (A :: L) b o vs (A :: L') := ⟨fun ρ H R hs => by
  obtain ⟨H', h1, h2⟩ := h.of ρ H _ hs.swapA
  exact ⟨H', h1, h2.swapB⟩⟩
theorem Stw.c {vs l' : List SV} (h : o + vs.length ≤ l.length) (h' : splice l o vs = l') : Stw (Cel b l :: L) b o vs (Cel b l' :: L) := ⟨fun ρ H R hs => by
  subst h'
  exact ⟨_, stn_of H (Sat.cel hs) h, Sat.set hs _⟩⟩
theorem Ldn.cb {m : Nat} {l' : List SV} (h : Nat.ble (o + m) l.length = true) (h' : (l.drop o).take m = l') : Ldn (Cel b l :: L) b o m l' := Ldn.c (Nat.le_of_ble_eq_true h) h'
theorem Ldn.rb {m : Nat} {l' : List SV} (h : Nat.ble (o + m) l.length = true) (h' : (l.drop o).take m = l') : Ldn (Ro b l :: L) b o m l' := Ldn.r (Nat.le_of_ble_eq_true h) h'
theorem Stw.cb {vs l' : List SV} (h : Nat.ble (o + vs.length) l.length = true) (h' : splice l o vs = l') : Stw (Cel b l :: L) b o vs (Cel b l' :: L) := Stw.c (Nat.le_of_ble_eq_true h) h'
theorem splice_set1 {l : List SV} {o : Nat} {v : SV} (h : o < l.length) : splice l o [v] = l.set o v := by
  unfold splice
  rw [List.set_eq_take_append_cons_drop, if_pos h]
  simp
theorem Stw.c1 {v : SV} {l' : List SV} (h : Nat.blt o l.length = true) (h' : l.set o v = l') : Stw (Cel b l :: L) b o [v] (Cel b l' :: L) := by
  have h : o < l.length := by simpa [Nat.blt_eq] using h
  exact Stw.c (by simp only [List.length_singleton]; omega) (by rw [splice_set1 h, h'])
end
def ix (c i k d : Nat) : Nat := c + (i * k + d)
section
variable {α : Type} {enc : α → List SV} {k : Nat} {L : List Asr} {s : SV} {r : List α}
theorem Ld.w (hk : ∀ e, (enc e).length = k) {i d : Nat} {e : α} {x : SV} (hi : r[i]? = some e) (h : (enc e)[d]? = some x) : Ld (Row enc k s r :: L) (sb s) (ix 0 i k d) x := ⟨fun ρ H R hs => by
  have hlt := (List.getElem?_eq_some_iff.1 hi).1
  obtain ⟨b, c, j, rfl, hb, _⟩ := Sat.rowBlk hs (by omega)
  have hd : d < k := by rw [← hk e]; exact (List.getElem?_eq_some_iff.1 h).1
  show H.ld b _ = _
  rw [ld_of H hb, ix, Nat.zero_add, flat_cell hk hi d hd, h]⟩
theorem Ldn.w (hk : ∀ e, (enc e).length = k) {i : Nat} {e : α} (hi : r[i]? = some e) : Ldn (Row enc k s r :: L) (sb s) (ix 0 i k 0) k (enc e) := ⟨fun ρ H R hs => by
  have hlt := (List.getElem?_eq_some_iff.1 hi).1
  obtain ⟨b, c, j, rfl, hb, _⟩ := Sat.rowBlk hs (by omega)
  show H.ldn b _ _ = _
  obtain ⟨_, rfl⟩ := List.getElem?_eq_some_iff.1 hi
  rw [ldn_of H hb, ix, Nat.zero_add, Nat.add_zero, if_pos (flat_fit hk r j i hlt), flat_ldn hk r j i hlt]⟩
theorem flat_set1 (hk : ∀ e, (enc e).length = k) {r : List α} {j : List SV} {i d : Nat} {x y : α} {v : SV} (hi : r[i]? = some x) (hd : d < k) (hy : enc y = (enc x).set d v) : (flat enc r ++ j).set (i * k + d) v = flat enc (r.set i y) ++ j := by
  obtain ⟨hlt, rfl⟩ := List.getElem?_eq_some_iff.1 hi
  obtain ⟨g1, g2⟩ := flat_split hk r i hlt
  have g3 : flat enc (r.set i y) = flat enc (r.take i) ++ (enc y ++ flat enc (r.drop (i + 1))) := by
    rw [List.set_eq_take_append_cons_drop, if_pos hlt]
    simp [flat]
  rw [g1, g3, hy]
  have e : i * k + d = (flat enc (r.take i)).length + d := by rw [g2]
  rw [e, List.append_assoc, List.set_append_right _ _ (by omega), Nat.add_sub_cancel_left, List.append_assoc, List.set_append_left _ _ (by rw [hk]; exact hd), List.append_assoc, List.append_assoc]
theorem Stw.w (hk : ∀ e, (enc e).length = k) {i d : Nat} {x : α} (y : α) {v : SV} (hi : r[i]? = some x) (hd : Nat.blt d k = true) (hy : enc y = (enc x).set d v) : Stw (Row enc k s r :: L) (sb s) (ix 0 i k d) [v] (Row enc k s (r.set i y) :: L) := ⟨fun ρ H R hs => by
  obtain ⟨hlt, rfl⟩ := List.getElem?_eq_some_iff.1 hi
  have hd : d < k := by simpa [Nat.blt_eq] using hd
  rcases Sat.rowInv hs with ⟨e, h1, h2, _⟩ | ⟨b, c, j, rfl, hs1, h1, h2⟩
  · rw [h2] at hlt; simp at hlt
  have hb := hs1.cel
  have hf := flat_fit hk r j i hlt
  have e1 : splice (flat enc r ++ j) (ix 0 i k d) [v] = flat enc (r.set i y) ++ j := by
    rw [splice_set1 (by rw [ix]; omega), ix, Nat.zero_add, flat_set1 hk (by rw [List.getElem?_eq_getElem hlt]) hd hy]
  refine ⟨_, stn_of H hb (by simp only [List.length_singleton, ix]; omega), ?_⟩
  rw [e1]
  have h3 := Sat.set hs1 (flat enc (r.set i y) ++ j)
  have h4 := h3.mkRow (c := c) (by simpa [flat_len hk] using h1) (by simpa using h2)
  rwa [List.length_set] at h4⟩
theorem Ld.a {b c : Nat} {pre post : List SV} (hc : Nat.beq pre.length c = true) (hk : ∀ e, (enc e).length = k) {i d : Nat} {e : α} {x : SV} (hi : r[i]? = some e) (h : (enc e)[d]? = some x) : Ld (Cel b (pre ++ (flat enc r ++ post)) :: L) b (ix c i k d) x := ⟨fun ρ H R hs => by
  have hc := Nat.eq_of_beq_eq_true hc
  have hd : d < k := by rw [← hk e]; exact (List.getElem?_eq_some_iff.1 h).1
  subst hc
  rw [ld_of H hs.cel, ix, List.getElem?_append_right (by omega), Nat.add_sub_cancel_left, flat_cell hk hi d hd, h]⟩
theorem Stw.a {b c : Nat} {pre post : List SV} (hc : Nat.beq pre.length c = true) (hk : ∀ e, (enc e).length = k) {i d : Nat} {x : α} (y : α) {v : SV} (hi : r[i]? = some x) (hd : Nat.blt d k = true) (hy : enc y = (enc x).set d v) : Stw (Cel b (pre ++ (flat enc r ++ post)) :: L) b (ix c i k d) [v] (Cel b (pre ++ (flat enc (r.set i y) ++ post)) :: L) := by
  have hc := Nat.eq_of_beq_eq_true hc
  have hd : d < k := by simpa [Nat.blt_eq] using hd
  have hlt := (List.getElem?_eq_some_iff.1 hi).1
  have hf := flat_fit hk r post i hlt
  subst hc
  refine Stw.c (by simp only [List.length_singleton, ix, List.length_append] at hf ⊢; omega) ?_
  rw [splice_set1 (by simp only [ix, List.length_append] at hf ⊢; omega), ix, List.set_append_right _ _ (by omega), Nat.add_sub_cancel_left, flat_set1 hk hi hd hy]
end
structure RowIn {α : Type} (L : List Asr) (enc : α → List SV) (k : Nat) (s : SV) (r : List α) : Prop where
  of : ∀ (ρ : HF) (H : AH) (R : List Asr), Sat ρ H (L ++ R) → ∃ R', Sat ρ H (Row enc k s r :: R')
theorem RowIn.h {α : Type} {enc : α → List SV} {k : Nat} {L : List Asr} {s : SV} {r : List α} : RowIn (Row enc k s r :: L) enc k s r := ⟨fun _ _ _ h => ⟨_, h⟩⟩
theorem RowIn.n {α : Type} {enc : α → List SV} {k : Nat} {L : List Asr} {A : Asr} {s : SV} {r : List α} (h : RowIn L enc k s r) : RowIn (A :: L) enc k s r := ⟨fun ρ H _ hs => h.of ρ H _ hs.swapA⟩
structure RdIn {α : Type} (L : List Asr) (k : Nat) (s : SV) (r : List α) : Prop where
  of : ∀ (ρ : HF) (H : AH) (R : List Asr), Sat ρ H (L ++ R) → lenA (.s s) = some (i64 r.length) ∧ (0 < r.length → ∃ c, s = .slice (some (sb s, 0)) r.length c k)
theorem RowIn.rd {α : Type} {enc : α → List SV} {k : Nat} {L : List Asr} {s : SV} {r : List α} (h : RowIn L enc k s r) : RdIn L k s r := ⟨fun ρ H R hs => by
  obtain ⟨R', h1⟩ := h.of ρ H R hs
  refine ⟨h1.rowLen, fun h0 => ?_⟩
  obtain ⟨b, c, j, rfl, _⟩ := Sat.rowBlk h1 h0
  exact ⟨c, rfl⟩⟩
theorem RdIn.h {α : Type} {enc : α → List SV} {k : Nat} {L : List Asr} {s : SV} {r : List α} : RdIn (Row enc k s r :: L) k s r := RowIn.h.rd
theorem RdIn.n {α : Type} {k : Nat} {L : List Asr} {A : Asr} {s : SV} {r : List α} (h : RdIn L k s r) : RdIn (A :: L) k s r := ⟨fun ρ H _ hs => h.of ρ H _ hs.swapA⟩
section
variable (tab : Nat → Option RFunc) (ext : Nat → List AV → AH → Option (AV × AH))
abbrev Pst := Ex → Env → List Asr → Prop
def Sem (n : Nat) (ρ : HF) (Rs : List Asr) (K : Pst) : Ex → List AV → AH → Prop := fun e T H => ∃ E L, K e E L ∧ T.length = n ∧ LvE T E ∧ Sat ρ H (L ++ Rs)
def TC (n : Nat) (E : Env) (L : List Asr) (c : RC) (K : Pst) : Prop :=
  ∀ (ρ : HF) (Rs : List Asr) (T : List AV) (H : AH), T.length = n → LvE T E → Sat ρ H (L ++ Rs) → wpC tab ext c T H (Sem n ρ Rs K)
def fres (base : Nat) (ops : List ROper) : List Asr := ops.map fun o => Fre (base + o.idx)
def RP (n : Nat) (E : Env) (L : List Asr) (ops : List ROper) (K : Env → List Asr → Prop) : Prop :=
  ∀ (ρ : HF) (Rs : List Asr) (base : Nat) (T : List AV) (H : AH), T.length = n → LvE T E → Sat ρ H (fres base ops ++ (L ++ Rs)) →
    wpR tab ext base ops T H (fun T H => ∃ E L, K E L ∧ T.length = n ∧ LvE T E ∧ Sat ρ H (L ++ Rs))
def wOk (E : Env) (L : List Asr) (w : Watch) : Prop :=
  ∀ g, (match w.guard with | none => some (AV.s (.bool true)) | some p => look E p.1) = some g → (∀ p, w.guard = some p → gd g p.2 = true) →
    ∃ b o v, evo E w.a = some (.s (.ptr (some (b, o)))) ∧ look E w.dst = some v ∧ ((w.m = none ∧ ∃ x, v = .s x ∧ Ld L b o x) ∨ ∃ m l, w.m = some m ∧ v = .agg l ∧ Ldn L b o m l)
def WK (n : Nat) : List Watch → Env → Env → List Asr → List ROper → (Env → List Asr → Prop) → Prop
  | [], _, E, L, os, K => RP tab ext n E L os K
  | w :: ws, E0, E, L, os, K => (wOk E0 L w ∧ (∀ p, w.guard = some p → (look E0 p.1).isSome = true)) ∧ WK n ws E0 E L os K
def sq (n : Nat) (b : RC) (K : Pst) : Pst
  | .norm, E, L => TC tab ext n E L b K
  | .ret, E, L => K .ret E L
  | .out i, E, L => K (.out i) E L
def bk (id : Nat) (K : Pst) : Pst
  | .norm, E, L => K .norm E L
  | .ret, E, L => K .ret E L
  | .out i, E, L => bif Nat.beq i id then K .norm E L else K (.out i) E L
end
def ELe : Env → Env → Prop
  | [], _ => True
  | (i, v) :: E', E => look E i = some v ∧ ELe E' E
theorem ELe.lv {T : List AV} : ∀ {E' E : Env}, ELe E' E → LvE T E → LvE T E'
  | [], _, _, _ => fun i v h => by simp [look] at h
  | (j, u) :: E', E, h, hl => fun i v hv => by
    simp only [look] at hv
    cases hb : Nat.beq j i with
    | true =>
      rw [hb, cond_true] at hv
      cases hv
      have : j = i := Nat.eq_of_beq_eq_true hb
      subst this
      exact hl _ _ h.1
    | false => rw [hb, cond_false] at hv; exact ELe.lv h.2 hl i v hv
def lpK {α : Type} (m : α → Nat) (I : α → Prop) (Ei : α → Env) (Li : α → List Asr) (a : α) (K : Pst) : Pst
  | .norm, E, L => ∃ a', I a' ∧ m a' < m a ∧ ELe (Ei a') E ∧ LEnt L (Li a')
  | .ret, E, L => K .ret E L
  | .out i, E, L => K (.out i) E L
def mdx {α : Type} (I : α → Prop) (Ei : α → Env) (Li : α → List Asr) (K : Pst) : Pst
  | .norm, E, L => ∃ a, I a ∧ ELe (Ei a) E ∧ LEnt L (Li a)
  | .ret, E, L => K .ret E L
  | .out i, E, L => K (.out i) E L
def resE (E : Env) (L : List Asr) : List RRes → AV → Prop
  | [.tmp t], v => look E t = some v
  | [.cell t m], v => ∃ b o, look E t = some (.s (.ptr (some (b, o)))) ∧ ((m = none ∧ ∃ x, v = .s x ∧ Ld L b o x) ∨ ∃ n l, m = some n ∧ v = .agg l ∧ Ldn L b o n l)
  | rs, v => ∃ ps, v = .tup ps ∧ resL rs ps
where
  resL : List RRes → List Part → Prop
  | [], [] => True
  | .tmp t :: rs, p :: ps => look E t = some p.av ∧ resL rs ps
  | .cell t m :: rs, p :: ps => (∃ b o, look E t = some (.s (.ptr (some (b, o)))) ∧ ((m = none ∧ ∃ x, p = .s x ∧ Ld L b o x) ∨ ∃ n l, m = some n ∧ p = .agg l ∧ Ldn L b o n l)) ∧ resL rs ps
  | _, _ => False
def rt (rs : List RRes) (Q : AV → List Asr → Prop) : Pst
  | .out _, _, _ => False
  | _, E, L => ∃ v P', resE E L rs v ∧ Q v P' ∧ LEnt L P'
end Go.AM
