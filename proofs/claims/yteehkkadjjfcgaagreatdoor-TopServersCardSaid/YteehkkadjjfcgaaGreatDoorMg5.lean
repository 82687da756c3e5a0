/-
  The code of the functions,as the abstract machine has it; it is the program's.
-/
import Derived.Test.YteehkkadjjfcgaaGreatDoorMg1
import Derived.Test.YteehkkadjjfcgaaGreatDoorMg2
import Derived.Test.YteehkkadjjfcgaaGreatDoorProg
import Derived.KernelRfl
set_option maxRecDepth 100000
namespace Go.AM.R
open Go.AM
def kern_Kernel_named_s0 : RC :=
  RC.cond (.t 8) (RC.seq (RC.region 5 [
  ⟨some 17,.move (.t 0),none,0,[]⟩,
  ⟨some 18,.nilCheck (.t 17),none,1,[]⟩,
  ⟨some 19,.fieldAddr 12 (.t 18),none,2,[]⟩,
  ⟨some 20,.load none (.t 19),none,3,[]⟩,
  ⟨some 4,.move (.t 20),none,4,[]⟩]) (RC.ret)) (RC.skip)
def kern_Kernel_named_s1 : RC :=
  RC.seq (RC.seq (RC.region 9 [
  ⟨some 43,.fieldAddr 1 (.t 3),none,0,[]⟩,
  ⟨some 44,.indexArr 4 1 (.t 43) (.c (.s (.int .i64 0))),none,1,[]⟩,
  ⟨some 45,.load none (.t 44),none,2,[]⟩,
  ⟨some 46,.bin .eql (.t 45) (.c (.s (.int .i64 0))),none,3,[]⟩,
  ⟨some 47,.move (.t 46),none,4,[]⟩,
  ⟨some 48,.load (some 5) (.t 3),(some (47,true)),5,[]⟩,
  ⟨some 49,.call F.calls_Kind [(.t 48)],(some (47,true)),6,[]⟩,
  ⟨some 50,.bin .neq (.t 49) (.c (.s (.int .i64 3))),(some (47,true)),7,[]⟩,
  ⟨some 51,.pick (.t 47) (.t 50) (.c (.s (.bool false))),none,8,[]⟩]) (RC.cond (.t 51) (RC.seq (RC.region 5 [
  ⟨some 52,.move (.t 0),none,0,[]⟩,
  ⟨some 53,.nilCheck (.t 52),none,1,[]⟩,
  ⟨some 54,.fieldAddr 12 (.t 53),none,2,[]⟩,
  ⟨some 55,.load none (.t 54),none,3,[]⟩,
  ⟨some 4,.move (.t 55),none,4,[]⟩]) (RC.ret)) (RC.skip))) (RC.seq (RC.region 1 [
  ⟨some 4,.move (.c (.s (.int .i64 0))),none,0,[]⟩]) (RC.ret))
def kern_Kernel_named_s2 : RC :=
  RC.seq (RC.seq (RC.region 4 [
  ⟨some 21,.fieldAddr 1 (.t 3),none,0,[]⟩,
  ⟨some 22,.indexArr 4 1 (.t 21) (.c (.s (.int .i64 0))),none,1,[]⟩,
  ⟨some 23,.load none (.t 22),none,2,[]⟩,
  ⟨some 5,.move (.t 23),none,3,[]⟩]) (RC.seq (RC.region 11 [
  ⟨some 24,.move (.t 5),none,0,[]⟩,
  ⟨some 25,.bin .geq (.t 24) (.c (.s (.int .i64 1))),none,1,[]⟩,
  ⟨some 26,.move (.t 25),none,2,[]⟩,
  ⟨some 27,.move (.t 5),(some (26,true)),3,[]⟩,
  ⟨some 28,.move (.t 0),(some (26,true)),4,[]⟩,
  ⟨some 29,.nilCheck (.t 28),(some (26,true)),5,[]⟩,
  ⟨some 30,.fieldAddr 9 (.t 29),(some (26,true)),6,[]⟩,
  ⟨some 31,.load none (.t 30),(some (26,true)),7,[]⟩,
  ⟨some 32,.len (.t 31),(some (26,true)),8,[]⟩,
  ⟨some 33,.bin .lss (.t 27) (.t 32),(some (26,true)),9,[]⟩,
  ⟨some 34,.pick (.t 26) (.t 33) (.c (.s (.bool false))),none,10,[]⟩]) (RC.cond (.t 34) (RC.seq (RC.region 2 [
  ⟨some 35,.move (.t 5),none,0,[]⟩,
  ⟨some 4,.move (.t 35),none,1,[]⟩]) (RC.ret)) (RC.skip)))) (RC.seq (RC.seq (RC.region 2 [
  ⟨some 36,.fieldAddr 0 (.t 3),none,0,[]⟩,
  ⟨some 37,.load none (.t 36),none,1,[]⟩]) (RC.block 1 (RC.seq (RC.seq (RC.region 2 [
  ⟨some 39,.bin .eql (.t 37) (.c (.s (.int .i64 5))),none,0,[]⟩,
  ⟨some 38,.move (.t 39),none,1,[]⟩]) (RC.cond (.t 38) (RC.skip) (RC.seq (RC.region 2 [
  ⟨some 40,.bin .eql (.t 37) (.c (.s (.int .i64 17))),none,0,[]⟩,
  ⟨some 38,.move (.t 40),none,1,[]⟩]) (RC.cond (.t 38) (RC.skip) (RC.seq (RC.region 2 [
  ⟨some 41,.bin .eql (.t 37) (.c (.s (.int .i64 20))),none,0,[]⟩,
  ⟨some 38,.move (.t 41),none,1,[]⟩]) (RC.cond (.t 38) (RC.skip) (RC.region 2 [
  ⟨some 42,.bin .eql (.t 37) (.c (.s (.int .i64 21))),none,0,[]⟩,
  ⟨some 38,.move (.t 42),none,1,[]⟩]))))))) (RC.cond (.t 38) (RC.seq (RC.region 1 [
  ⟨some 4,.move (.c (.s (.int .i64 0))),none,0,[]⟩]) (RC.ret)) (RC.skip))))) R.kern_Kernel_named_s1)
def kern_Kernel_named : RFunc := RFunc.mk 56 [.tmp 4] (
  RC.seq (RC.region 2 [
  ⟨some 3,.box (.t 1),none,0,[]⟩,
  ⟨some 4,.move (.c (.s (.int .i64 0))),none,1,[]⟩]) (RC.seq (RC.seq (RC.region 2 [
  ⟨some 6,.fieldAddr 0 (.t 3),none,0,[]⟩,
  ⟨some 7,.load none (.t 6),none,1,[]⟩]) (RC.block 0 (RC.seq (RC.seq (RC.region 2 [
  ⟨some 9,.bin .eql (.t 7) (.c (.s (.int .i64 4))),none,0,[]⟩,
  ⟨some 8,.move (.t 9),none,1,[]⟩]) (RC.cond (.t 8) (RC.skip) (RC.seq (RC.region 2 [
  ⟨some 10,.bin .eql (.t 7) (.c (.s (.int .i64 8))),none,0,[]⟩,
  ⟨some 8,.move (.t 10),none,1,[]⟩]) (RC.cond (.t 8) (RC.skip) (RC.seq (RC.region 2 [
  ⟨some 11,.bin .eql (.t 7) (.c (.s (.int .i64 9))),none,0,[]⟩,
  ⟨some 8,.move (.t 11),none,1,[]⟩]) (RC.cond (.t 8) (RC.skip) (RC.seq (RC.region 2 [
  ⟨some 12,.bin .eql (.t 7) (.c (.s (.int .i64 10))),none,0,[]⟩,
  ⟨some 8,.move (.t 12),none,1,[]⟩]) (RC.cond (.t 8) (RC.skip) (RC.seq (RC.region 2 [
  ⟨some 13,.bin .eql (.t 7) (.c (.s (.int .i64 11))),none,0,[]⟩,
  ⟨some 8,.move (.t 13),none,1,[]⟩]) (RC.cond (.t 8) (RC.skip) (RC.seq (RC.region 2 [
  ⟨some 14,.bin .eql (.t 7) (.c (.s (.int .i64 12))),none,0,[]⟩,
  ⟨some 8,.move (.t 14),none,1,[]⟩]) (RC.cond (.t 8) (RC.skip) (RC.seq (RC.region 2 [
  ⟨some 15,.bin .eql (.t 7) (.c (.s (.int .i64 13))),none,0,[]⟩,
  ⟨some 8,.move (.t 15),none,1,[]⟩]) (RC.cond (.t 8) (RC.skip) (RC.region 2 [
  ⟨some 16,.bin .eql (.t 7) (.c (.s (.int .i64 22))),none,0,[]⟩,
  ⟨some 8,.move (.t 16),none,1,[]⟩]))))))))))))))) R.kern_Kernel_named_s0))) R.kern_Kernel_named_s2))
theorem kern_Kernel_named_ok : chkFunc Go.Proofs.Tryz.prog [0] Go.Proofs.Tryz.f114 kern_Kernel_named = true := by kernel_rfl
def ctx_Place_Lock : RFunc := RFunc.mk 9 [] (
  RC.region 6 [
  ⟨some 4,.move (.t 0),none,0,[]⟩,
  ⟨some 5,.move (.t 1),none,1,[]⟩,
  ⟨some 6,.nilCheck (.t 4),none,2,[]⟩,
  ⟨some 7,.fieldAddr 0 (.t 6),none,3,[]⟩,
  ⟨some 8,.fieldAddr 1 (.t 7),none,4,[]⟩,
  ⟨none,.store 1 (.t 8) (.t 5),none,5,[]⟩])
theorem ctx_Place_Lock_ok : chkFunc Go.Proofs.Tryz.prog [0] Go.Proofs.Tryz.f115 ctx_Place_Lock = true := by kernel_rfl
def ctx_Place_Disable : RFunc := RFunc.mk 9 [] (
  RC.region 6 [
  ⟨some 4,.move (.t 0),none,0,[]⟩,
  ⟨some 5,.move (.t 1),none,1,[]⟩,
  ⟨some 6,.nilCheck (.t 4),none,2,[]⟩,
  ⟨some 7,.fieldAddr 0 (.t 6),none,3,[]⟩,
  ⟨some 8,.fieldAddr 2 (.t 7),none,4,[]⟩,
  ⟨none,.store 1 (.t 8) (.t 5),none,5,[]⟩])
theorem ctx_Place_Disable_ok : chkFunc Go.Proofs.Tryz.prog [0] Go.Proofs.Tryz.f116 ctx_Place_Disable = true := by kernel_rfl
def kern_Kernel_over : RFunc := RFunc.mk 66 [] (
  RC.seq (RC.region 8 [
  ⟨some 8,.move (.t 0),none,0,[]⟩,
  ⟨some 9,.nilCheck (.t 8),none,1,[]⟩,
  ⟨some 10,.fieldAddr 9 (.t 9),none,2,[]⟩,
  ⟨some 11,.load none (.t 10),none,3,[]⟩,
  ⟨some 12,.move (.t 1),none,4,[]⟩,
  ⟨some 13,.indexSl 1 (.t 11) (.t 12),none,5,[]⟩,
  ⟨some 14,.load none (.t 13),none,6,[]⟩,
  ⟨some 4,.move (.t 14),none,7,[]⟩]) (RC.seq (RC.region 3 [
  ⟨some 15,.move (.t 0),none,0,[]⟩,
  ⟨some 16,.move (.t 1),none,1,[]⟩,
  ⟨some 17,.call F.kern_Kernel_leave [(.t 15),(.t 16)],none,2,[]⟩]) (RC.seq (RC.region 3 [
  ⟨some 18,.move (.t 0),none,0,[]⟩,
  ⟨some 19,.move (.t 1),none,1,[]⟩,
  ⟨some 20,.call F.kern_Kernel_forget [(.t 18),(.t 19)],none,2,[]⟩]) (RC.seq (RC.region 6 [
  ⟨some 21,.move (.t 0),none,0,[]⟩,
  ⟨some 22,.nilCheck (.t 21),none,1,[]⟩,
  ⟨some 23,.fieldAddr 8 (.t 22),none,2,[]⟩,
  ⟨some 24,.load none (.t 23),none,3,[]⟩,
  ⟨some 25,.move (.t 1),none,4,[]⟩,
  ⟨some 26,.call F.ready_Queue_Remove [(.t 24),(.t 25)],none,5,[]⟩]) (RC.seq (RC.region 8 [
  ⟨some 27,.move (.t 0),none,0,[]⟩,
  ⟨some 28,.nilCheck (.t 27),none,1,[]⟩,
  ⟨some 29,.fieldAddr 0 (.t 28),none,2,[]⟩,
  ⟨some 30,.fieldAddr 5 (.t 29),none,3,[]⟩,
  ⟨some 31,.load none (.t 30),none,4,[]⟩,
  ⟨some 32,.move (.t 1),none,5,[]⟩,
  ⟨some 33,.call F.mtx_All_Free [(.t 31),(.t 32)],none,6,[]⟩,
  ⟨some 5,.move (.t 33),none,7,[]⟩]) (RC.seq (RC.region 11 [
  ⟨some 34,.move (.t 0),none,0,[]⟩,
  ⟨some 35,.nilCheck (.t 34),none,1,[]⟩,
  ⟨some 36,.fieldAddr 0 (.t 35),none,2,[]⟩,
  ⟨some 37,.fieldAddr 5 (.t 36),none,3,[]⟩,
  ⟨some 38,.load none (.t 37),none,4,[]⟩,
  ⟨some 39,.move (.t 1),none,5,[]⟩,
  ⟨some 40,.move (.t 4),none,6,[]⟩,
  ⟨some 41,.nilCheck (.t 40),none,7,[]⟩,
  ⟨some 42,.fieldAddr 1 (.t 41),none,8,[]⟩,
  ⟨some 43,.load none (.t 42),none,9,[]⟩,
  ⟨some 44,.call F.mtx_All_SetBase [(.t 38),(.t 39),(.t 43)],none,10,[]⟩]) (RC.seq (RC.region 10 [
  ⟨some 46,.move (.t 4),none,0,[]⟩,
  ⟨some 47,.nilCheck (.t 46),none,1,[]⟩,
  ⟨some 48,.fieldAddr 0 (.t 47),none,2,[]⟩,
  ⟨some 49,.load none (.t 48),none,3,[]⟩,
  ⟨some 50,.call F.tcb_Task_Kill [(.t 49)],none,4,[]⟩,
  ⟨some 45,.move (.t 50),none,5,[]⟩,
  ⟨some 51,.extract 0 (.t 45),none,6,[]⟩,
  ⟨some 52,.extract 1 (.t 45),none,7,[]⟩,
  ⟨some 6,.move (.t 51),none,8,[]⟩,
  ⟨some 7,.move (.t 52),none,9,[]⟩]) (RC.seq (RC.region 3 [
  ⟨some 53,.move (.t 0),none,0,[]⟩,
  ⟨some 54,.move (.t 5),none,1,[]⟩,
  ⟨some 55,.call F.kern_Kernel_woken [(.t 53),(.c (.s (.int .i64 0))),(.t 54)],none,2,[]⟩]) (RC.seq (RC.seq (RC.region 1 [
  ⟨some 56,.move (.t 6),none,0,[]⟩]) (RC.cond (.t 56) (RC.seq (RC.region 5 [
  ⟨some 57,.move (.t 4),none,0,[]⟩,
  ⟨some 58,.build [.int .i64 0,.int .i64 0] [],none,1,[]⟩,
  ⟨some 59,.nilCheck (.t 57),none,2,[]⟩,
  ⟨some 60,.fieldAddr 6 (.t 59),none,3,[]⟩,
  ⟨none,.store 2 (.t 60) (.t 58),none,4,[]⟩]) (RC.region 3 [
  ⟨some 61,.move (.t 0),none,0,[]⟩,
  ⟨some 62,.move (.t 1),none,1,[]⟩,
  ⟨some 63,.call F.kern_Kernel_enter [(.t 61),(.t 62)],none,2,[]⟩])) (RC.skip))) (RC.region 2 [
  ⟨some 64,.move (.t 0),none,0,[]⟩,
  ⟨some 65,.call F.kern_Kernel_settle [(.t 64)],none,1,[]⟩]))))))))))
theorem kern_Kernel_over_ok : chkFunc Go.Proofs.Tryz.prog [0] Go.Proofs.Tryz.f117 kern_Kernel_over = true := by kernel_rfl
def kern_Kernel_rotate_s0 : RC :=
  RC.seq (RC.seq (RC.region 6 [
  ⟨some 26,.move (.t 5),none,0,[]⟩,
  ⟨some 27,.bin .lss (.t 26) (.c (.s (.int .i64 1))),none,1,[]⟩,
  ⟨some 28,.move (.t 27),none,2,[]⟩,
  ⟨some 29,.move (.t 5),(some (28,false)),3,[]⟩,
  ⟨some 30,.bin .gtr (.t 29) (.c (.s (.int .i64 16))),(some (28,false)),4,[]⟩,
  ⟨some 31,.pick (.t 28) (.c (.s (.bool true))) (.t 30),none,5,[]⟩]) (RC.cond (.t 31) (RC.seq (RC.region 2 [
  ⟨some 32,.call F.kern_say [(.c (.s (.int .i64 (-17)))),(.c (.s (.slice none 0 0 1)))],none,0,[]⟩,
  ⟨none,.store 2 (.t 4) (.t 32),none,1,[]⟩]) (RC.ret)) (RC.skip))) (RC.seq (RC.region 8 [
  ⟨some 33,.move (.t 0),none,0,[]⟩,
  ⟨some 34,.nilCheck (.t 33),none,1,[]⟩,
  ⟨some 35,.fieldAddr 8 (.t 34),none,2,[]⟩,
  ⟨some 36,.load none (.t 35),none,3,[]⟩,
  ⟨some 37,.move (.t 5),none,4,[]⟩,
  ⟨some 38,.call F.ready_Queue_Rotate [(.t 36),(.t 37)],none,5,[]⟩,
  ⟨some 39,.call F.kern_say [(.t 38),(.c (.s (.slice none 0 0 1)))],none,6,[]⟩,
  ⟨none,.store 2 (.t 4) (.t 39),none,7,[]⟩]) (RC.ret))
def kern_Kernel_rotate : RFunc := RFunc.mk 40 [.cell 4 (some 2)] (
  RC.seq (RC.region 2 [
  ⟨some 3,.box (.t 1),none,0,[]⟩,
  ⟨some 4,.newc [.int .i64 0,.int .i64 0],none,1,[]⟩]) (RC.seq (RC.region 4 [
  ⟨some 6,.fieldAddr 1 (.t 3),none,0,[]⟩,
  ⟨some 7,.indexArr 4 1 (.t 6) (.c (.s (.int .i64 0))),none,1,[]⟩,
  ⟨some 8,.load none (.t 7),none,2,[]⟩,
  ⟨some 5,.move (.t 8),none,3,[]⟩]) (RC.seq (RC.seq (RC.region 7 [
  ⟨some 9,.move (.t 5),none,0,[]⟩,
  ⟨some 10,.bin .eql (.t 9) (.c (.s (.int .i64 0))),none,1,[]⟩,
  ⟨some 11,.move (.t 10),none,2,[]⟩,
  ⟨some 12,.fieldAddr 0 (.t 3),(some (11,true)),3,[]⟩,
  ⟨some 13,.load none (.t 12),(some (11,true)),4,[]⟩,
  ⟨some 14,.bin .eql (.t 13) (.c (.s (.int .i64 8))),(some (11,true)),5,[]⟩,
  ⟨some 15,.pick (.t 11) (.t 14) (.c (.s (.bool false))),none,6,[]⟩]) (RC.cond (.t 15) (RC.region 11 [
  ⟨some 16,.move (.t 0),none,0,[]⟩,
  ⟨some 17,.nilCheck (.t 16),none,1,[]⟩,
  ⟨some 18,.fieldAddr 0 (.t 17),none,2,[]⟩,
  ⟨some 19,.fieldAddr 5 (.t 18),none,3,[]⟩,
  ⟨some 20,.load none (.t 19),none,4,[]⟩,
  ⟨some 21,.move (.t 0),none,5,[]⟩,
  ⟨some 22,.nilCheck (.t 21),none,6,[]⟩,
  ⟨some 23,.fieldAddr 12 (.t 22),none,7,[]⟩,
  ⟨some 24,.load none (.t 23),none,8,[]⟩,
  ⟨some 25,.call F.mtx_All_Pri [(.t 20),(.t 24)],none,9,[]⟩,
  ⟨some 5,.move (.t 25),none,10,[]⟩]) (RC.skip))) R.kern_Kernel_rotate_s0)))
theorem kern_Kernel_rotate_ok : chkFunc Go.Proofs.Tryz.prog [0] Go.Proofs.Tryz.f118 kern_Kernel_rotate = true := by kernel_rfl
def kern_Kernel_sleep : RFunc := RFunc.mk 47 [.cell 4 (some 2)] (
  RC.seq (RC.region 1 [
  ⟨some 4,.newc [.int .i64 0,.int .i64 0],none,0,[]⟩]) (RC.seq (RC.region 11 [
  ⟨some 8,.move (.t 0),none,0,[]⟩,
  ⟨some 9,.nilCheck (.t 8),none,1,[]⟩,
  ⟨some 10,.fieldAddr 9 (.t 9),none,2,[]⟩,
  ⟨some 11,.load none (.t 10),none,3,[]⟩,
  ⟨some 12,.move (.t 0),none,4,[]⟩,
  ⟨some 13,.nilCheck (.t 12),none,5,[]⟩,
  ⟨some 14,.fieldAddr 12 (.t 13),none,6,[]⟩,
  ⟨some 15,.load none (.t 14),none,7,[]⟩,
  ⟨some 16,.indexSl 1 (.t 11) (.t 15),none,8,[]⟩,
  ⟨some 17,.load none (.t 16),none,9,[]⟩,
  ⟨some 5,.move (.t 17),none,10,[]⟩]) (RC.seq (RC.seq (RC.region 13 [
  ⟨some 18,.move (.t 5),none,0,[]⟩,
  ⟨some 19,.nilCheck (.t 18),none,1,[]⟩,
  ⟨some 20,.fieldAddr 0 (.t 19),none,2,[]⟩,
  ⟨some 21,.load none (.t 20),none,3,[]⟩,
  ⟨some 22,.nilCheck (.t 21),none,4,[]⟩,
  ⟨some 23,.fieldAddr 0 (.t 22),none,5,[]⟩,
  ⟨some 24,.fieldAddr 1 (.t 23),none,6,[]⟩,
  ⟨some 25,.load none (.t 24),none,7,[]⟩,
  ⟨some 26,.bin .eql (.t 25) (.c (.s (.int .i64 0))),none,8,[]⟩,
  ⟨some 27,.move (.t 26),none,9,[]⟩,
  ⟨some 28,.move (.t 1),(some (27,true)),10,[]⟩,
  ⟨some 29,.bin .eql (.t 28) (.c (.s (.int .i64 0))),(some (27,true)),11,[]⟩,
  ⟨some 30,.pick (.t 27) (.t 29) (.c (.s (.bool false))),none,12,[]⟩]) (RC.cond (.t 30) (RC.seq (RC.region 2 [
  ⟨some 31,.call F.kern_say [(.c (.s (.int .i64 (-50)))),(.c (.s (.slice none 0 0 1)))],none,0,[]⟩,
  ⟨none,.store 2 (.t 4) (.t 31),none,1,[]⟩]) (RC.ret)) (RC.skip))) (RC.seq (RC.region 10 [
  ⟨some 33,.move (.t 5),none,0,[]⟩,
  ⟨some 34,.nilCheck (.t 33),none,1,[]⟩,
  ⟨some 35,.fieldAddr 0 (.t 34),none,2,[]⟩,
  ⟨some 36,.load none (.t 35),none,3,[]⟩,
  ⟨some 37,.call F.tcb_Task_Sleep [(.t 36)],none,4,[]⟩,
  ⟨some 32,.move (.t 37),none,5,[]⟩,
  ⟨some 38,.extract 0 (.t 32),none,6,[]⟩,
  ⟨some 39,.extract 1 (.t 32),none,7,[]⟩,
  ⟨some 6,.move (.t 38),none,8,[]⟩,
  ⟨some 7,.move (.t 39),none,9,[]⟩]) (RC.seq (RC.seq (RC.region 2 [
  ⟨some 40,.move (.t 6),none,0,[]⟩,
  ⟨some 41,.un .not (.t 40),none,1,[]⟩]) (RC.cond (.t 41) (RC.seq (RC.region 3 [
  ⟨some 42,.move (.t 7),none,0,[]⟩,
  ⟨some 43,.call F.kern_say [(.t 42),(.c (.s (.slice none 0 0 1)))],none,1,[]⟩,
  ⟨none,.store 2 (.t 4) (.t 43),none,2,[]⟩]) (RC.ret)) (RC.skip))) (RC.seq (RC.region 4 [
  ⟨some 44,.move (.t 0),none,0,[]⟩,
  ⟨some 45,.move (.t 1),none,1,[]⟩,
  ⟨some 46,.call F.kern_Kernel_stay [(.t 44),(.c (.s (.int .i64 1))),(.c (.s (.int .i64 0))),(.t 45)],none,2,[]⟩,
  ⟨none,.store 2 (.t 4) (.t 46),none,3,[]⟩]) (RC.ret)))))))
theorem kern_Kernel_sleep_ok : chkFunc Go.Proofs.Tryz.prog [0] Go.Proofs.Tryz.f119 kern_Kernel_sleep = true := by kernel_rfl
def kern_late : RFunc := RFunc.mk 9 [.tmp 2] (
  RC.seq (RC.region 1 [
  ⟨some 2,.move (.c (.s (.bool false))),none,0,[]⟩]) (RC.seq (RC.region 7 [
  ⟨some 3,.move (.t 0),none,0,[]⟩,
  ⟨some 4,.bin .geq (.t 3) (.c (.s (.int .i64 (-1)))),none,1,[]⟩,
  ⟨some 5,.move (.t 4),none,2,[]⟩,
  ⟨some 6,.move (.t 0),(some (5,true)),3,[]⟩,
  ⟨some 7,.bin .leq (.t 6) (.c (.s (.int .i64 2147483647))),(some (5,true)),4,[]⟩,
  ⟨some 8,.pick (.t 5) (.t 7) (.c (.s (.bool false))),none,5,[]⟩,
  ⟨some 2,.move (.t 8),none,6,[]⟩]) (RC.ret)))
theorem kern_late_ok : chkFunc Go.Proofs.Tryz.prog [0] Go.Proofs.Tryz.f120 kern_late = true := by kernel_rfl
def kern_Kernel_stay_s0 : RC :=
  RC.seq (RC.region 2 [
  ⟨some 62,.move (.t 0),none,0,[]⟩,
  ⟨some 63,.call F.kern_Kernel_settle [(.t 62)],none,1,[]⟩]) (RC.seq (RC.region 2 [
  ⟨some 64,.build [.int .i64 0,.int .i64 0] [(0,1,(.c (.s (.int .i64 1))))],none,0,[]⟩,
  ⟨none,.store 2 (.t 8) (.t 64),none,1,[]⟩]) (RC.ret))
def kern_Kernel_stay_s1 : RC :=
  RC.seq (RC.region 9 [
  ⟨some 27,.move (.t 0),none,0,[]⟩,
  ⟨some 28,.nilCheck (.t 27),none,1,[]⟩,
  ⟨some 29,.fieldAddr 8 (.t 28),none,2,[]⟩,
  ⟨some 30,.load none (.t 29),none,3,[]⟩,
  ⟨some 31,.move (.t 0),none,4,[]⟩,
  ⟨some 32,.nilCheck (.t 31),none,5,[]⟩,
  ⟨some 33,.fieldAddr 12 (.t 32),none,6,[]⟩,
  ⟨some 34,.load none (.t 33),none,7,[]⟩,
  ⟨some 35,.call F.ready_Queue_Remove [(.t 30),(.t 34)],none,8,[]⟩]) (RC.seq (RC.region 10 [
  ⟨some 36,.move (.t 9),none,0,[]⟩,
  ⟨some 37,.move (.t 9),none,1,[]⟩,
  ⟨some 38,.move (.t 1),none,2,[]⟩,
  ⟨some 39,.move (.t 2),none,3,[]⟩,
  ⟨some 40,.nilCheck (.t 36),none,4,[]⟩,
  ⟨some 41,.fieldAddr 3 (.t 40),none,5,[]⟩,
  ⟨none,.store 1 (.t 41) (.t 38),none,6,[]⟩,
  ⟨some 42,.nilCheck (.t 37),none,7,[]⟩,
  ⟨some 43,.fieldAddr 4 (.t 42),none,8,[]⟩,
  ⟨none,.store 1 (.t 43) (.t 39),none,9,[]⟩]) (RC.seq (RC.seq (RC.region 2 [
  ⟨some 44,.move (.t 3),none,0,[]⟩,
  ⟨some 45,.bin .geq (.t 44) (.c (.s (.int .i64 0))),none,1,[]⟩]) (RC.cond (.t 45) (RC.region 17 [
  ⟨some 47,.move (.t 9),none,0,[]⟩,
  ⟨some 48,.move (.t 0),none,1,[]⟩,
  ⟨some 49,.nilCheck (.t 48),none,2,[]⟩,
  ⟨some 50,.fieldAddr 7 (.t 49),none,3,[]⟩,
  ⟨some 51,.load none (.t 50),none,4,[]⟩,
  ⟨some 52,.move (.t 3),none,5,[]⟩,
  ⟨some 53,.move (.t 0),none,6,[]⟩,
  ⟨some 54,.nilCheck (.t 53),none,7,[]⟩,
  ⟨some 55,.fieldAddr 12 (.t 54),none,8,[]⟩,
  ⟨some 56,.load none (.t 55),none,9,[]⟩,
  ⟨some 57,.call F.cyc_Hands_Wait [(.t 51),(.t 52),(.t 56)],none,10,[]⟩,
  ⟨some 46,.move (.t 57),none,11,[]⟩,
  ⟨some 58,.extract 0 (.t 46),none,12,[]⟩,
  ⟨some 59,.extract 1 (.t 46),none,13,[]⟩,
  ⟨some 60,.nilCheck (.t 47),none,14,[]⟩,
  ⟨some 61,.fieldAddr 5 (.t 60),none,15,[]⟩,
  ⟨none,.store 1 (.t 61) (.t 58),none,16,[]⟩]) (RC.skip))) R.kern_Kernel_stay_s0))
def kern_Kernel_stay : RFunc := RFunc.mk 65 [.cell 8 (some 2)] (
  RC.seq (RC.region 1 [
  ⟨some 8,.newc [.int .i64 0,.int .i64 0],none,0,[]⟩]) (RC.seq (RC.region 11 [
  ⟨some 10,.move (.t 0),none,0,[]⟩,
  ⟨some 11,.nilCheck (.t 10),none,1,[]⟩,
  ⟨some 12,.fieldAddr 9 (.t 11),none,2,[]⟩,
  ⟨some 13,.load none (.t 12),none,3,[]⟩,
  ⟨some 14,.move (.t 0),none,4,[]⟩,
  ⟨some 15,.nilCheck (.t 14),none,5,[]⟩,
  ⟨some 16,.fieldAddr 12 (.t 15),none,6,[]⟩,
  ⟨some 17,.load none (.t 16),none,7,[]⟩,
  ⟨some 18,.indexSl 1 (.t 13) (.t 17),none,8,[]⟩,
  ⟨some 19,.load none (.t 18),none,9,[]⟩,
  ⟨some 9,.move (.t 19),none,10,[]⟩]) (RC.seq (RC.seq (RC.region 2 [
  ⟨some 20,.move (.t 1),none,0,[]⟩,
  ⟨some 21,.bin .neq (.t 20) (.c (.s (.int .i64 1))),none,1,[]⟩]) (RC.cond (.t 21) (RC.region 5 [
  ⟨some 22,.move (.t 9),none,0,[]⟩,
  ⟨some 23,.nilCheck (.t 22),none,1,[]⟩,
  ⟨some 24,.fieldAddr 0 (.t 23),none,2,[]⟩,
  ⟨some 25,.load none (.t 24),none,3,[]⟩,
  ⟨some 26,.call F.tcb_Task_Stay [(.t 25)],none,4,[]⟩]) (RC.skip))) R.kern_Kernel_stay_s1)))
theorem kern_Kernel_stay_ok : chkFunc Go.Proofs.Tryz.prog [0] Go.Proofs.Tryz.f122 kern_Kernel_stay = true := by kernel_rfl
def kern_Kernel_change_s0 : RC :=
  RC.seq (RC.seq (RC.region 9 [
  ⟨some 41,.move (.t 0),none,0,[]⟩,
  ⟨some 42,.nilCheck (.t 41),none,1,[]⟩,
  ⟨some 43,.fieldAddr 0 (.t 42),none,2,[]⟩,
  ⟨some 44,.fieldAddr 5 (.t 43),none,3,[]⟩,
  ⟨some 45,.load none (.t 44),none,4,[]⟩,
  ⟨some 46,.move (.t 1),none,5,[]⟩,
  ⟨some 47,.move (.t 2),none,6,[]⟩,
  ⟨some 48,.call F.mtx_All_SetBase [(.t 45),(.t 46),(.t 47)],none,7,[]⟩,
  ⟨some 7,.move (.t 48),none,8,[]⟩]) (RC.seq (RC.region 2 [
  ⟨some 49,.move (.t 7),none,0,[]⟩,
  ⟨some 50,.bin .neq (.t 49) (.c (.s (.int .i64 0))),none,1,[]⟩]) (RC.cond (.t 50) (RC.seq (RC.region 2 [
  ⟨some 51,.move (.t 7),none,0,[]⟩,
  ⟨some 6,.move (.t 51),none,1,[]⟩]) (RC.ret)) (RC.skip)))) (RC.seq (RC.region 2 [
  ⟨some 52,.move (.t 0),none,0,[]⟩,
  ⟨some 53,.call F.kern_Kernel_settle [(.t 52)],none,1,[]⟩]) (RC.seq (RC.region 13 [
  ⟨some 54,.move (.t 0),none,0,[]⟩,
  ⟨some 55,.nilCheck (.t 54),none,1,[]⟩,
  ⟨some 56,.fieldAddr 8 (.t 55),none,2,[]⟩,
  ⟨some 57,.load none (.t 56),none,3,[]⟩,
  ⟨some 58,.move (.t 1),none,4,[]⟩,
  ⟨some 59,.move (.t 0),none,5,[]⟩,
  ⟨some 60,.nilCheck (.t 59),none,6,[]⟩,
  ⟨some 61,.fieldAddr 0 (.t 60),none,7,[]⟩,
  ⟨some 62,.fieldAddr 5 (.t 61),none,8,[]⟩,
  ⟨some 63,.load none (.t 62),none,9,[]⟩,
  ⟨some 64,.move (.t 1),none,10,[]⟩,
  ⟨some 65,.call F.mtx_All_Pri [(.t 63),(.t 64)],none,11,[⟨57,none,(.t 56),none⟩]⟩,
  ⟨some 66,.call F.ready_Queue_Change [(.t 57),(.t 58),(.t 65)],none,12,[]⟩]) (RC.seq (RC.region 1 [
  ⟨some 6,.move (.c (.s (.int .i64 0))),none,0,[]⟩]) (RC.ret))))
def kern_Kernel_change : RFunc := RFunc.mk 67 [.tmp 6] (
  RC.seq (RC.region 1 [
  ⟨some 6,.move (.c (.s (.int .i64 0))),none,0,[]⟩]) (RC.seq (RC.block 0 (RC.seq (RC.region 7 [
  ⟨some 9,.move (.t 2),none,0,[]⟩,
  ⟨some 10,.bin .lss (.t 9) (.c (.s (.int .i64 0))),none,1,[]⟩,
  ⟨some 11,.move (.t 10),none,2,[]⟩,
  ⟨some 12,.move (.t 2),(some (11,false)),3,[]⟩,
  ⟨some 13,.bin .gtr (.t 12) (.c (.s (.int .i64 16))),(some (11,false)),4,[]⟩,
  ⟨some 14,.pick (.t 11) (.c (.s (.bool true))) (.t 13),none,5,[]⟩,
  ⟨some 8,.move (.t 14),none,6,[]⟩]) (RC.cond (.t 8) (RC.seq (RC.region 1 [
  ⟨some 6,.move (.c (.s (.int .i64 (-17)))),none,0,[]⟩]) (RC.ret)) (RC.seq (RC.region 13 [
  ⟨some 16,.move (.t 0),none,0,[]⟩,
  ⟨some 17,.nilCheck (.t 16),none,1,[]⟩,
  ⟨some 18,.fieldAddr 9 (.t 17),none,2,[]⟩,
  ⟨some 19,.load none (.t 18),none,3,[]⟩,
  ⟨some 20,.move (.t 1),none,4,[]⟩,
  ⟨some 21,.indexSl 1 (.t 19) (.t 20),none,5,[]⟩,
  ⟨some 22,.load none (.t 21),none,6,[]⟩,
  ⟨some 23,.nilCheck (.t 22),none,7,[]⟩,
  ⟨some 24,.fieldAddr 0 (.t 23),none,8,[]⟩,
  ⟨some 25,.load none (.t 24),none,9,[]⟩,
  ⟨some 26,.buildSlice 1 1 [.int .i64 0] [(0,1,(.c (.s (.int .i64 16))))],none,10,[]⟩,
  ⟨some 27,.call F.tcb_Task_Is [(.t 25),(.t 26)],none,11,[]⟩,
  ⟨some 15,.move (.t 27),none,12,[]⟩]) (RC.cond (.t 15) (RC.seq (RC.region 1 [
  ⟨some 6,.move (.c (.s (.int .i64 (-41)))),none,0,[]⟩]) (RC.ret)) (RC.seq (RC.region 3 [
  ⟨some 29,.move (.t 2),none,0,[]⟩,
  ⟨some 30,.bin .eql (.t 29) (.c (.s (.int .i64 0))),none,1,[]⟩,
  ⟨some 28,.move (.t 30),none,2,[]⟩]) (RC.cond (.t 28) (RC.region 11 [
  ⟨some 31,.move (.t 0),none,0,[]⟩,
  ⟨some 32,.nilCheck (.t 31),none,1,[]⟩,
  ⟨some 33,.fieldAddr 9 (.t 32),none,2,[]⟩,
  ⟨some 34,.load none (.t 33),none,3,[]⟩,
  ⟨some 35,.move (.t 1),none,4,[]⟩,
  ⟨some 36,.indexSl 1 (.t 34) (.t 35),none,5,[]⟩,
  ⟨some 37,.load none (.t 36),none,6,[]⟩,
  ⟨some 38,.nilCheck (.t 37),none,7,[]⟩,
  ⟨some 39,.fieldAddr 1 (.t 38),none,8,[]⟩,
  ⟨some 40,.load none (.t 39),none,9,[]⟩,
  ⟨some 2,.move (.t 40),none,10,[]⟩]) (RC.skip)))))))) R.kern_Kernel_change_s0))
theorem kern_Kernel_change_ok : chkFunc Go.Proofs.Tryz.prog [0] Go.Proofs.Tryz.f123 kern_Kernel_change = true := by kernel_rfl
def kern_Kernel_one_s0 : RC :=
  RC.seq (RC.region 3 [
  ⟨some 77,.move (.t 10),none,0,[]⟩,
  ⟨some 78,.call F.kern_say [(.t 77),(.c (.s (.slice none 0 0 1)))],none,1,[]⟩,
  ⟨none,.store 2 (.t 8) (.t 78),none,2,[]⟩]) (RC.ret)
def kern_Kernel_one_s1 : RC :=
  RC.seq (RC.region 3 [
  ⟨some 142,.move (.t 13),none,0,[]⟩,
  ⟨some 143,.call F.kern_say [(.t 142),(.c (.s (.slice none 0 0 1)))],none,1,[]⟩,
  ⟨none,.store 2 (.t 8) (.t 143),none,2,[]⟩]) (RC.ret)
def kern_Kernel_one_s2 : RC :=
  RC.seq (RC.region 3 [
  ⟨some 159,.move (.t 15),none,0,[]⟩,
  ⟨some 160,.call F.kern_say [(.t 159),(.c (.s (.slice none 0 0 1)))],none,1,[]⟩,
  ⟨none,.store 2 (.t 8) (.t 160),none,2,[]⟩]) (RC.ret)
def kern_Kernel_one_s3 : RC :=
  RC.cond (.t 144) (RC.seq (RC.region 10 [
  ⟨some 148,.move (.t 3),none,0,[]⟩,
  ⟨some 149,.fieldAddr 0 (.t 5),none,1,[]⟩,
  ⟨some 150,.load none (.t 149),none,2,[]⟩,
  ⟨some 151,.bin .eql (.t 150) (.c (.s (.int .i64 21))),none,3,[]⟩,
  ⟨some 152,.call F.tcb_Task_Resume [(.t 148),(.t 151)],none,4,[]⟩,
  ⟨some 147,.move (.t 152),none,5,[]⟩,
  ⟨some 153,.extract 0 (.t 147),none,6,[]⟩,
  ⟨some 154,.extract 1 (.t 147),none,7,[]⟩,
  ⟨some 14,.move (.t 153),none,8,[]⟩,
  ⟨some 15,.move (.t 154),none,9,[]⟩]) (RC.seq (RC.seq (RC.region 1 [
  ⟨some 155,.move (.t 14),none,0,[]⟩]) (RC.cond (.t 155) (RC.region 3 [
  ⟨some 156,.move (.t 0),none,0,[]⟩,
  ⟨some 157,.move (.t 2),none,1,[]⟩,
  ⟨some 158,.call F.kern_Kernel_enter [(.t 156),(.t 157)],none,2,[]⟩]) (RC.skip))) R.kern_Kernel_one_s2)) (RC.skip)
def kern_Kernel_one_s4 : RC :=
  RC.cond (.t 90) (RC.seq (RC.seq (RC.region 11 [
  ⟨some 93,.move (.t 0),none,0,[]⟩,
  ⟨some 94,.nilCheck (.t 93),none,1,[]⟩,
  ⟨some 95,.fieldAddr 9 (.t 94),none,2,[]⟩,
  ⟨some 96,.load none (.t 95),none,3,[]⟩,
  ⟨some 97,.move (.t 2),none,4,[]⟩,
  ⟨some 98,.indexSl 1 (.t 96) (.t 97),none,5,[]⟩,
  ⟨some 99,.load none (.t 98),none,6,[]⟩,
  ⟨some 100,.nilCheck (.t 99),none,7,[]⟩,
  ⟨some 101,.fieldAddr 3 (.t 100),none,8,[]⟩,
  ⟨some 102,.load none (.t 101),none,9,[]⟩,
  ⟨some 103,.bin .eql (.t 102) (.c (.s (.int .i64 0))),none,10,[]⟩]) (RC.cond (.t 103) (RC.seq (RC.region 2 [
  ⟨some 104,.call F.kern_say [(.c (.s (.int .i64 (-41)))),(.c (.s (.slice none 0 0 1)))],none,0,[]⟩,
  ⟨none,.store 2 (.t 8) (.t 104),none,1,[]⟩]) (RC.ret)) (RC.skip))) (RC.seq (RC.region 3 [
  ⟨some 105,.move (.t 0),none,0,[]⟩,
  ⟨some 106,.move (.t 2),none,1,[]⟩,
  ⟨some 107,.call F.kern_Kernel_leave [(.t 105),(.t 106)],none,2,[]⟩]) (RC.seq (RC.region 4 [
  ⟨some 108,.move (.t 0),none,0,[]⟩,
  ⟨some 109,.move (.t 2),none,1,[]⟩,
  ⟨some 110,.build [.int .i64 0,.int .i64 0] [(0,1,(.c (.s (.int .i64 (-49)))))],none,2,[]⟩,
  ⟨some 111,.call F.kern_Kernel_wake [(.t 108),(.t 109),(.t 110)],none,3,[]⟩]) (RC.region 2 [
  ⟨some 112,.move (.t 0),none,0,[]⟩,
  ⟨some 113,.call F.kern_Kernel_settle [(.t 112)],none,1,[]⟩])))) (RC.seq (RC.region 2 [
  ⟨some 115,.bin .eql (.t 17) (.c (.s (.int .i64 19))),none,0,[]⟩,
  ⟨some 114,.move (.t 115),none,1,[]⟩]) (RC.cond (.t 114) (RC.seq (RC.seq (RC.region 15 [
  ⟨some 116,.move (.t 2),none,0,[]⟩,
  ⟨some 117,.move (.t 0),none,1,[]⟩,
  ⟨some 118,.nilCheck (.t 117),none,2,[]⟩,
  ⟨some 119,.fieldAddr 12 (.t 118),none,3,[]⟩,
  ⟨some 120,.load none (.t 119),none,4,[]⟩,
  ⟨some 121,.bin .eql (.t 116) (.t 120),none,5,[]⟩,
  ⟨some 122,.move (.t 121),none,6,[]⟩,
  ⟨some 123,.move (.t 0),(some (122,true)),7,[]⟩,
  ⟨some 124,.nilCheck (.t 123),(some (122,true)),8,[]⟩,
  ⟨some 125,.fieldAddr 6 (.t 124),(some (122,true)),9,[]⟩,
  ⟨some 126,.load none (.t 125),(some (122,true)),10,[]⟩,
  ⟨some 127,.nilCheck (.t 126),(some (122,true)),11,[]⟩,
  ⟨some 128,.fieldAddr 0 (.t 127),(some (122,true)),12,[]⟩,
  ⟨some 129,.call F.ctx_state_Disabled [(.t 128)],(some (122,true)),13,[]⟩,
  ⟨some 130,.pick (.t 122) (.t 129) (.c (.s (.bool false))),none,14,[]⟩]) (RC.cond (.t 130) (RC.seq (RC.region 2 [
  ⟨some 131,.call F.kern_say [(.c (.s (.int .i64 (-25)))),(.c (.s (.slice none 0 0 1)))],none,0,[]⟩,
  ⟨none,.store 2 (.t 8) (.t 131),none,1,[]⟩]) (RC.ret)) (RC.skip))) (RC.seq (RC.region 3 [
  ⟨some 132,.move (.t 3),none,0,[]⟩,
  ⟨some 133,.call F.tcb_Task_Suspend [(.t 132)],none,1,[]⟩,
  ⟨some 13,.move (.t 133),none,2,[]⟩]) (RC.seq (RC.seq (RC.region 2 [
  ⟨some 134,.move (.t 13),none,0,[]⟩,
  ⟨some 135,.bin .eql (.t 134) (.c (.s (.int .i64 0))),none,1,[]⟩]) (RC.cond (.t 135) (RC.region 6 [
  ⟨some 136,.move (.t 0),none,0,[]⟩,
  ⟨some 137,.nilCheck (.t 136),none,1,[]⟩,
  ⟨some 138,.fieldAddr 8 (.t 137),none,2,[]⟩,
  ⟨some 139,.load none (.t 138),none,3,[]⟩,
  ⟨some 140,.move (.t 2),none,4,[]⟩,
  ⟨some 141,.call F.ready_Queue_Remove [(.t 139),(.t 140)],none,5,[]⟩]) (RC.skip))) R.kern_Kernel_one_s1))) (RC.seq (RC.seq (RC.region 2 [
  ⟨some 145,.bin .eql (.t 17) (.c (.s (.int .i64 20))),none,0,[]⟩,
  ⟨some 144,.move (.t 145),none,1,[]⟩]) (RC.cond (.t 144) (RC.skip) (RC.region 2 [
  ⟨some 146,.bin .eql (.t 17) (.c (.s (.int .i64 21))),none,0,[]⟩,
  ⟨some 144,.move (.t 146),none,1,[]⟩]))) R.kern_Kernel_one_s3)))
def kern_Kernel_one_s5 : RC :=
  RC.cond (.t 64) (RC.seq (RC.region 7 [
  ⟨some 68,.move (.t 3),none,0,[]⟩,
  ⟨some 69,.call F.tcb_Task_Wake [(.t 68)],none,1,[]⟩,
  ⟨some 67,.move (.t 69),none,2,[]⟩,
  ⟨some 70,.extract 0 (.t 67),none,3,[]⟩,
  ⟨some 71,.extract 1 (.t 67),none,4,[]⟩,
  ⟨some 9,.move (.t 70),none,5,[]⟩,
  ⟨some 10,.move (.t 71),none,6,[]⟩]) (RC.seq (RC.seq (RC.region 1 [
  ⟨some 72,.move (.t 9),none,0,[]⟩]) (RC.cond (.t 72) (RC.region 4 [
  ⟨some 73,.move (.t 0),none,0,[]⟩,
  ⟨some 74,.move (.t 2),none,1,[]⟩,
  ⟨some 75,.build [.int .i64 0,.int .i64 0] [],none,2,[]⟩,
  ⟨some 76,.call F.kern_Kernel_told [(.t 73),(.t 74),(.t 75)],none,3,[]⟩]) (RC.skip))) R.kern_Kernel_one_s0)) (RC.seq (RC.region 2 [
  ⟨some 80,.bin .eql (.t 17) (.c (.s (.int .i64 16))),none,0,[]⟩,
  ⟨some 79,.move (.t 80),none,1,[]⟩]) (RC.cond (.t 79) (RC.seq (RC.region 7 [
  ⟨some 82,.move (.t 3),none,0,[]⟩,
  ⟨some 83,.call F.tcb_Task_CanWake [(.t 82)],none,1,[]⟩,
  ⟨some 81,.move (.t 83),none,2,[]⟩,
  ⟨some 84,.extract 0 (.t 81),none,3,[]⟩,
  ⟨some 85,.extract 1 (.t 81),none,4,[]⟩,
  ⟨some 11,.move (.t 84),none,5,[]⟩,
  ⟨some 12,.move (.t 85),none,6,[]⟩]) (RC.seq (RC.region 5 [
  ⟨some 86,.move (.t 12),none,0,[]⟩,
  ⟨some 87,.move (.t 11),none,1,[]⟩,
  ⟨some 88,.buildSlice 1 1 [.int .i64 0] [(0,1,(.t 87))],none,2,[]⟩,
  ⟨some 89,.call F.kern_say [(.t 86),(.t 88)],none,3,[]⟩,
  ⟨none,.store 2 (.t 8) (.t 89),none,4,[]⟩]) (RC.ret))) (RC.seq (RC.seq (RC.region 2 [
  ⟨some 91,.bin .eql (.t 17) (.c (.s (.int .i64 17))),none,0,[]⟩,
  ⟨some 90,.move (.t 91),none,1,[]⟩]) (RC.cond (.t 90) (RC.skip) (RC.region 2 [
  ⟨some 92,.bin .eql (.t 17) (.c (.s (.int .i64 18))),none,0,[]⟩,
  ⟨some 90,.move (.t 92),none,1,[]⟩]))) R.kern_Kernel_one_s4)))
def kern_Kernel_one_s6 : RC :=
  RC.cond (.t 18) (RC.seq (RC.region 5 [
  ⟨some 21,.move (.t 0),none,0,[]⟩,
  ⟨some 22,.move (.t 2),none,1,[]⟩,
  ⟨some 23,.call F.kern_Kernel_act [(.t 21),(.t 22)],none,2,[]⟩,
  ⟨some 24,.call F.kern_say [(.t 23),(.c (.s (.slice none 0 0 1)))],none,3,[]⟩,
  ⟨none,.store 2 (.t 8) (.t 24),none,4,[]⟩]) (RC.ret)) (RC.seq (RC.region 2 [
  ⟨some 26,.bin .eql (.t 17) (.c (.s (.int .i64 3))),none,0,[]⟩,
  ⟨some 25,.move (.t 26),none,1,[]⟩]) (RC.cond (.t 25) (RC.seq (RC.region 5 [
  ⟨some 27,.move (.t 3),none,0,[]⟩,
  ⟨some 28,.call F.tcb_Task_CanAct [(.t 27)],none,1,[]⟩,
  ⟨some 29,.buildSlice 1 1 [.int .i64 0] [(0,1,(.t 28))],none,2,[]⟩,
  ⟨some 30,.call F.kern_say [(.c (.s (.int .i64 0))),(.t 29)],none,3,[]⟩,
  ⟨none,.store 2 (.t 8) (.t 30),none,4,[]⟩]) (RC.ret)) (RC.seq (RC.region 2 [
  ⟨some 32,.bin .eql (.t 17) (.c (.s (.int .i64 5))),none,0,[]⟩,
  ⟨some 31,.move (.t 32),none,1,[]⟩]) (RC.cond (.t 31) (RC.seq (RC.block 1 (RC.seq (RC.region 7 [
  ⟨some 34,.move (.t 2),none,0,[]⟩,
  ⟨some 35,.move (.t 0),none,1,[]⟩,
  ⟨some 36,.nilCheck (.t 35),none,2,[]⟩,
  ⟨some 37,.fieldAddr 12 (.t 36),none,3,[]⟩,
  ⟨some 38,.load none (.t 37),none,4,[]⟩,
  ⟨some 39,.bin .eql (.t 34) (.t 38),none,5,[]⟩,
  ⟨some 33,.move (.t 39),none,6,[]⟩]) (RC.cond (.t 33) (RC.seq (RC.region 2 [
  ⟨some 40,.call F.kern_say [(.c (.s (.int .i64 (-28)))),(.c (.s (.slice none 0 0 1)))],none,0,[]⟩,
  ⟨none,.store 2 (.t 8) (.t 40),none,1,[]⟩]) (RC.ret)) (RC.seq (RC.region 4 [
  ⟨some 42,.move (.t 3),none,0,[]⟩,
  ⟨some 43,.buildSlice 1 1 [.int .i64 0] [(0,1,(.c (.s (.int .i64 16))))],none,1,[]⟩,
  ⟨some 44,.call F.tcb_Task_Is [(.t 42),(.t 43)],none,2,[]⟩,
  ⟨some 41,.move (.t 44),none,3,[]⟩]) (RC.cond (.t 41) (RC.seq (RC.region 2 [
  ⟨some 45,.call F.kern_say [(.c (.s (.int .i64 (-41)))),(.c (.s (.slice none 0 0 1)))],none,0,[]⟩,
  ⟨none,.store 2 (.t 8) (.t 45),none,1,[]⟩]) (RC.ret)) (RC.skip)))))) (RC.region 3 [
  ⟨some 46,.move (.t 0),none,0,[]⟩,
  ⟨some 47,.move (.t 2),none,1,[]⟩,
  ⟨some 48,.call F.kern_Kernel_over [(.t 46),(.t 47)],none,2,[]⟩])) (RC.seq (RC.region 2 [
  ⟨some 50,.bin .eql (.t 17) (.c (.s (.int .i64 7))),none,0,[]⟩,
  ⟨some 49,.move (.t 50),none,1,[]⟩]) (RC.cond (.t 49) (RC.seq (RC.seq (RC.region 3 [
  ⟨some 51,.move (.t 3),none,0,[]⟩,
  ⟨some 52,.buildSlice 1 1 [.int .i64 0] [(0,1,(.c (.s (.int .i64 16))))],none,1,[]⟩,
  ⟨some 53,.call F.tcb_Task_Is [(.t 51),(.t 52)],none,2,[]⟩]) (RC.cond (.t 53) (RC.seq (RC.region 2 [
  ⟨some 54,.call F.kern_say [(.c (.s (.int .i64 (-41)))),(.c (.s (.slice none 0 0 1)))],none,0,[]⟩,
  ⟨none,.store 2 (.t 8) (.t 54),none,1,[]⟩]) (RC.ret)) (RC.skip))) (RC.seq (RC.region 10 [
  ⟨some 55,.move (.t 0),none,0,[]⟩,
  ⟨some 56,.nilCheck (.t 55),none,1,[]⟩,
  ⟨some 57,.fieldAddr 0 (.t 56),none,2,[]⟩,
  ⟨some 58,.fieldAddr 5 (.t 57),none,3,[]⟩,
  ⟨some 59,.load none (.t 58),none,4,[]⟩,
  ⟨some 60,.move (.t 2),none,5,[]⟩,
  ⟨some 61,.call F.mtx_All_Pri [(.t 59),(.t 60)],none,6,[]⟩,
  ⟨some 62,.buildSlice 1 1 [.int .i64 0] [(0,1,(.t 61))],none,7,[]⟩,
  ⟨some 63,.call F.kern_say [(.c (.s (.int .i64 0))),(.t 62)],none,8,[]⟩,
  ⟨none,.store 2 (.t 8) (.t 63),none,9,[]⟩]) (RC.ret))) (RC.seq (RC.seq (RC.region 2 [
  ⟨some 65,.bin .eql (.t 17) (.c (.s (.int .i64 14))),none,0,[]⟩,
  ⟨some 64,.move (.t 65),none,1,[]⟩]) (RC.cond (.t 64) (RC.skip) (RC.region 2 [
  ⟨some 66,.bin .eql (.t 17) (.c (.s (.int .i64 15))),none,0,[]⟩,
  ⟨some 64,.move (.t 66),none,1,[]⟩]))) R.kern_Kernel_one_s5)))))))
def kern_Kernel_one_s7 : RC :=
  RC.seq (RC.region 2 [
  ⟨some 161,.call F.kern_say [(.c (.s (.int .i64 0))),(.c (.s (.slice none 0 0 1)))],none,0,[]⟩,
  ⟨none,.store 2 (.t 8) (.t 161),none,1,[]⟩]) (RC.ret)
def kern_Kernel_one : RFunc := RFunc.mk 162 [.cell 8 (some 2)] (
  RC.seq (RC.region 2 [
  ⟨some 5,.box (.t 1),none,0,[]⟩,
  ⟨some 8,.newc [.int .i64 0,.int .i64 0],none,1,[]⟩]) (RC.seq (RC.seq (RC.region 2 [
  ⟨some 16,.fieldAddr 0 (.t 5),none,0,[]⟩,
  ⟨some 17,.load none (.t 16),none,1,[]⟩]) (RC.block 0 (RC.seq (RC.seq (RC.region 2 [
  ⟨some 19,.bin .eql (.t 17) (.c (.s (.int .i64 1))),none,0,[]⟩,
  ⟨some 18,.move (.t 19),none,1,[]⟩]) (RC.cond (.t 18) (RC.skip) (RC.region 2 [
  ⟨some 20,.bin .eql (.t 17) (.c (.s (.int .i64 2))),none,0,[]⟩,
  ⟨some 18,.move (.t 20),none,1,[]⟩]))) R.kern_Kernel_one_s6))) R.kern_Kernel_one_s7))
theorem kern_Kernel_one_ok : chkFunc Go.Proofs.Tryz.prog [0] Go.Proofs.Tryz.f124 kern_Kernel_one = true := by kernel_rfl
def kern_at__sem_Sem : RFunc := RFunc.mk 21 [.tmp 4,.tmp 5] (
  RC.seq (RC.region 2 [
  ⟨some 4,.move (.c (.s (.ptr none))),none,0,[]⟩,
  ⟨some 5,.move (.c (.s (.bool false))),none,1,[]⟩]) (RC.seq (RC.region 1 [
  ⟨some 6,.move (.c (.s (.ptr none))),none,0,[]⟩]) (RC.seq (RC.seq (RC.region 8 [
  ⟨some 7,.move (.t 1),none,0,[]⟩,
  ⟨some 8,.bin .lss (.t 7) (.c (.s (.int .i64 1))),none,1,[]⟩,
  ⟨some 9,.move (.t 8),none,2,[]⟩,
  ⟨some 10,.move (.t 1),(some (9,false)),3,[]⟩,
  ⟨some 11,.move (.t 0),(some (9,false)),4,[]⟩,
  ⟨some 12,.len (.t 11),(some (9,false)),5,[]⟩,
  ⟨some 13,.bin .gtr (.t 10) (.t 12),(some (9,false)),6,[]⟩,
  ⟨some 14,.pick (.t 9) (.c (.s (.bool true))) (.t 13),none,7,[]⟩]) (RC.cond (.t 14) (RC.seq (RC.region 3 [
  ⟨some 15,.move (.t 6),none,0,[]⟩,
  ⟨some 4,.move (.t 15),none,1,[]⟩,
  ⟨some 5,.move (.c (.s (.bool false))),none,2,[]⟩]) (RC.ret)) (RC.skip))) (RC.seq (RC.region 7 [
  ⟨some 16,.move (.t 0),none,0,[]⟩,
  ⟨some 17,.move (.t 1),none,1,[]⟩,
  ⟨some 18,.bin .sub (.t 17) (.c (.s (.int .i64 1))),none,2,[]⟩,
  ⟨some 19,.indexSl 1 (.t 16) (.t 18),none,3,[]⟩,
  ⟨some 20,.load none (.t 19),none,4,[]⟩,
  ⟨some 4,.move (.t 20),none,5,[]⟩,
  ⟨some 5,.move (.c (.s (.bool true))),none,6,[]⟩]) (RC.ret)))))
theorem kern_at__sem_Sem_ok : chkFunc Go.Proofs.Tryz.prog [0] Go.Proofs.Tryz.f68 kern_at__sem_Sem = true := by kernel_rfl
def kern_timeout : RFunc := RFunc.mk 22 [.tmp 6] (
  RC.seq (RC.region 2 [
  ⟨some 3,.box (.t 0),none,0,[]⟩,
  ⟨some 6,.move (.c (.s (.int .i64 0))),none,1,[]⟩]) (RC.seq (RC.seq (RC.region 2 [
  ⟨some 7,.fieldAddr 0 (.t 3),none,0,[]⟩,
  ⟨some 8,.load none (.t 7),none,1,[]⟩]) (RC.block 0 (RC.seq (RC.region 3 [
  ⟨some 10,.move (.t 1),none,0,[]⟩,
  ⟨some 11,.bin .eql (.t 8) (.t 10),none,1,[]⟩,
  ⟨some 9,.move (.t 11),none,2,[]⟩]) (RC.cond (.t 9) (RC.seq (RC.region 1 [
  ⟨some 6,.move (.c (.s (.int .i64 0))),none,0,[]⟩]) (RC.ret)) (RC.seq (RC.region 3 [
  ⟨some 13,.move (.t 2),none,0,[]⟩,
  ⟨some 14,.bin .eql (.t 8) (.t 13),none,1,[]⟩,
  ⟨some 12,.move (.t 14),none,2,[]⟩]) (RC.cond (.t 12) (RC.seq (RC.region 8 [
  ⟨some 15,.fieldAddr 0 (.t 3),none,0,[]⟩,
  ⟨some 16,.load none (.t 15),none,1,[]⟩,
  ⟨some 17,.call F.calls_Arity [(.t 16)],none,2,[]⟩,
  ⟨some 18,.bin .sub (.t 17) (.c (.s (.int .i64 1))),none,3,[]⟩,
  ⟨some 19,.fieldAddr 1 (.t 3),none,4,[]⟩,
  ⟨some 20,.indexArr 4 1 (.t 19) (.t 18),none,5,[]⟩,
  ⟨some 21,.load none (.t 20),none,6,[]⟩,
  ⟨some 6,.move (.t 21),none,7,[]⟩]) (RC.ret)) (RC.skip))))))) (RC.seq (RC.region 1 [
  ⟨some 6,.move (.c (.s (.int .i64 (-1)))),none,0,[]⟩]) (RC.ret))))
theorem kern_timeout_ok : chkFunc Go.Proofs.Tryz.prog [0] Go.Proofs.Tryz.f125 kern_timeout = true := by kernel_rfl
def sem_Sem_Signal : RFunc := RFunc.mk 33 [.tmp 2,.tmp 3] (
  RC.seq (RC.region 2 [
  ⟨some 2,.move (.c (.s (.int .i64 0))),none,0,[]⟩,
  ⟨some 3,.move (.c (.s (.int .i64 0))),none,1,[]⟩]) (RC.seq (RC.seq (RC.region 11 [
  ⟨some 7,.move (.t 0),none,0,[]⟩,
  ⟨some 8,.nilCheck (.t 7),none,1,[]⟩,
  ⟨some 9,.fieldAddr 0 (.t 8),none,2,[]⟩,
  ⟨some 10,.load none (.t 9),none,3,[]⟩,
  ⟨some 11,.call F.order_Queue_Take [(.t 10)],none,4,[]⟩,
  ⟨some 6,.move (.t 11),none,5,[]⟩,
  ⟨some 12,.extract 0 (.t 6),none,6,[]⟩,
  ⟨some 13,.extract 1 (.t 6),none,7,[]⟩,
  ⟨some 4,.newc [.int .i64 0,.int .i64 0],none,8,[]⟩,
  ⟨none,.store 2 (.t 4) (.t 12),none,9,[]⟩,
  ⟨some 5,.move (.t 13),none,10,[]⟩]) (RC.seq (RC.region 1 [
  ⟨some 14,.move (.t 5),none,0,[]⟩]) (RC.cond (.t 14) (RC.seq (RC.region 4 [
  ⟨some 15,.fieldAddr 0 (.t 4),none,0,[]⟩,
  ⟨some 16,.load none (.t 15),none,1,[]⟩,
  ⟨some 2,.move (.t 16),none,2,[]⟩,
  ⟨some 3,.move (.c (.s (.int .i64 0))),none,3,[]⟩]) (RC.ret)) (RC.skip)))) (RC.seq (RC.seq (RC.region 9 [
  ⟨some 17,.move (.t 0),none,0,[]⟩,
  ⟨some 18,.nilCheck (.t 17),none,1,[]⟩,
  ⟨some 19,.fieldAddr 1 (.t 18),none,2,[]⟩,
  ⟨some 20,.load none (.t 19),none,3,[]⟩,
  ⟨some 21,.move (.t 0),none,4,[]⟩,
  ⟨some 22,.nilCheck (.t 21),none,5,[]⟩,
  ⟨some 23,.fieldAddr 2 (.t 22),none,6,[]⟩,
  ⟨some 24,.load none (.t 23),none,7,[]⟩,
  ⟨some 25,.bin .geq (.t 20) (.t 24),none,8,[]⟩]) (RC.cond (.t 25) (RC.seq (RC.region 2 [
  ⟨some 2,.move (.c (.s (.int .i64 0))),none,0,[]⟩,
  ⟨some 3,.move (.c (.s (.int .i64 (-43)))),none,1,[]⟩]) (RC.ret)) (RC.skip))) (RC.seq (RC.region 8 [
  ⟨some 26,.move (.t 0),none,0,[]⟩,
  ⟨some 27,.nilCheck (.t 26),none,1,[]⟩,
  ⟨some 28,.fieldAddr 1 (.t 27),none,2,[]⟩,
  ⟨some 29,.load none (.t 28),none,3,[]⟩,
  ⟨some 30,.bin .add (.t 29) (.c (.s (.int .i64 1))),none,4,[]⟩,
  ⟨some 31,.nilCheck (.t 26),none,5,[]⟩,
  ⟨some 32,.fieldAddr 1 (.t 31),none,6,[]⟩,
  ⟨none,.store 1 (.t 32) (.t 30),none,7,[]⟩]) (RC.seq (RC.region 2 [
  ⟨some 2,.move (.c (.s (.int .i64 0))),none,0,[]⟩,
  ⟨some 3,.move (.c (.s (.int .i64 0))),none,1,[]⟩]) (RC.ret))))))
theorem sem_Sem_Signal_ok : chkFunc Go.Proofs.Tryz.prog [0] Go.Proofs.Tryz.f126 sem_Sem_Signal = true := by kernel_rfl
def kern_Kernel_woken_l0 : RC :=
  RC.seq (RC.region 1 [
  ⟨some 11,.bin .lss (.t 10) (.t 9),none,0,[]⟩]) (RC.seq (RC.cond (.t 11) (RC.skip) (RC.exit 0)) (RC.seq (RC.block 1 (RC.seq (RC.region 3 [
  ⟨some 12,.indexSl 1 (.t 8) (.t 10),none,0,[]⟩,
  ⟨some 13,.load none (.t 12),none,1,[]⟩,
  ⟨some 7,.move (.t 13),none,2,[]⟩]) (RC.seq (RC.region 2 [
  ⟨some 14,.move (.t 7),none,0,[]⟩,
  ⟨some 15,.bin .gtr (.t 14) (.c (.s (.int .i64 0))),none,1,[]⟩]) (RC.cond (.t 15) (RC.region 5 [
  ⟨some 16,.move (.t 0),none,0,[]⟩,
  ⟨some 17,.move (.t 7),none,1,[]⟩,
  ⟨some 18,.move (.t 1),none,2,[]⟩,
  ⟨some 19,.build [.int .i64 0,.int .i64 0] [(0,1,(.c (.s (.int .i64 0)))),(1,1,(.t 18))],none,3,[]⟩,
  ⟨some 20,.call F.kern_Kernel_wake [(.t 16),(.t 17),(.t 19)],none,4,[]⟩]) (RC.skip))))) (RC.region 2 [
  ⟨some 21,.bin .add (.t 10) (.c (.s (.int .i64 1))),none,0,[]⟩,
  ⟨some 10,.move (.t 21),none,1,[]⟩])))
def kern_Kernel_woken : RFunc := RFunc.mk 22 [] (
  RC.seq (RC.region 3 [
  ⟨some 8,.move (.t 2),none,0,[]⟩,
  ⟨some 9,.len (.t 8),none,1,[]⟩,
  ⟨some 10,.move (.c (.s (.int .i64 0))),none,2,[]⟩]) (RC.block 0 (RC.loop R.kern_Kernel_woken_l0)))
theorem kern_Kernel_woken_ok : chkFunc Go.Proofs.Tryz.prog [0] Go.Proofs.Tryz.f127 kern_Kernel_woken = true := by kernel_rfl
def sem_Sem_Poll : RFunc := RFunc.mk 15 [.tmp 2] (
  RC.seq (RC.region 1 [
  ⟨some 2,.move (.c (.s (.bool false))),none,0,[]⟩]) (RC.seq (RC.seq (RC.region 5 [
  ⟨some 3,.move (.t 0),none,0,[]⟩,
  ⟨some 4,.nilCheck (.t 3),none,1,[]⟩,
  ⟨some 5,.fieldAddr 1 (.t 4),none,2,[]⟩,
  ⟨some 6,.load none (.t 5),none,3,[]⟩,
  ⟨some 7,.bin .leq (.t 6) (.c (.s (.int .i64 0))),none,4,[]⟩]) (RC.cond (.t 7) (RC.seq (RC.region 1 [
  ⟨some 2,.move (.c (.s (.bool false))),none,0,[]⟩]) (RC.ret)) (RC.skip))) (RC.seq (RC.region 8 [
  ⟨some 8,.move (.t 0),none,0,[]⟩,
  ⟨some 9,.nilCheck (.t 8),none,1,[]⟩,
  ⟨some 10,.fieldAddr 1 (.t 9),none,2,[]⟩,
  ⟨some 11,.load none (.t 10),none,3,[]⟩,
  ⟨some 12,.bin .sub (.t 11) (.c (.s (.int .i64 1))),none,4,[]⟩,
  ⟨some 13,.nilCheck (.t 8),none,5,[]⟩,
  ⟨some 14,.fieldAddr 1 (.t 13),none,6,[]⟩,
  ⟨none,.store 1 (.t 14) (.t 12),none,7,[]⟩]) (RC.seq (RC.region 1 [
  ⟨some 2,.move (.c (.s (.bool true))),none,0,[]⟩]) (RC.ret)))))
theorem sem_Sem_Poll_ok : chkFunc Go.Proofs.Tryz.prog [0] Go.Proofs.Tryz.f128 sem_Sem_Poll = true := by kernel_rfl
def sem_Sem_Wait : RFunc := RFunc.mk 17 [.tmp 6,.tmp 7] (
  RC.seq (RC.region 2 [
  ⟨some 6,.move (.c (.s (.bool false))),none,0,[]⟩,
  ⟨some 7,.move (.c (.s (.int .i64 0))),none,1,[]⟩]) (RC.seq (RC.seq (RC.region 2 [
  ⟨some 8,.move (.t 0),none,0,[]⟩,
  ⟨some 9,.call F.sem_Sem_Poll [(.t 8)],none,1,[]⟩]) (RC.cond (.t 9) (RC.seq (RC.region 2 [
  ⟨some 6,.move (.c (.s (.bool true))),none,0,[]⟩,
  ⟨some 7,.move (.c (.s (.int .i64 0))),none,1,[]⟩]) (RC.ret)) (RC.skip))) (RC.seq (RC.region 9 [
  ⟨some 10,.move (.t 0),none,0,[]⟩,
  ⟨some 11,.nilCheck (.t 10),none,1,[]⟩,
  ⟨some 12,.fieldAddr 0 (.t 11),none,2,[]⟩,
  ⟨some 13,.load none (.t 12),none,3,[]⟩,
  ⟨some 14,.move (.t 1),none,4,[]⟩,
  ⟨some 15,.move (.t 2),none,5,[]⟩,
  ⟨some 16,.call F.order_Queue_Add [(.t 13),(.t 14),(.t 15)],none,6,[]⟩,
  ⟨some 6,.move (.c (.s (.bool false))),none,7,[]⟩,
  ⟨some 7,.move (.t 16),none,8,[]⟩]) (RC.ret))))
theorem sem_Sem_Wait_ok : chkFunc Go.Proofs.Tryz.prog [0] Go.Proofs.Tryz.f129 sem_Sem_Wait = true := by kernel_rfl
def kern_at__flag_Flag : RFunc := RFunc.mk 21 [.tmp 4,.tmp 5] (
  RC.seq (RC.region 2 [
  ⟨some 4,.move (.c (.s (.ptr none))),none,0,[]⟩,
  ⟨some 5,.move (.c (.s (.bool false))),none,1,[]⟩]) (RC.seq (RC.region 1 [
  ⟨some 6,.move (.c (.s (.ptr none))),none,0,[]⟩]) (RC.seq (RC.seq (RC.region 8 [
  ⟨some 7,.move (.t 1),none,0,[]⟩,
  ⟨some 8,.bin .lss (.t 7) (.c (.s (.int .i64 1))),none,1,[]⟩,
  ⟨some 9,.move (.t 8),none,2,[]⟩,
  ⟨some 10,.move (.t 1),(some (9,false)),3,[]⟩,
  ⟨some 11,.move (.t 0),(some (9,false)),4,[]⟩,
  ⟨some 12,.len (.t 11),(some (9,false)),5,[]⟩,
  ⟨some 13,.bin .gtr (.t 10) (.t 12),(some (9,false)),6,[]⟩,
  ⟨some 14,.pick (.t 9) (.c (.s (.bool true))) (.t 13),none,7,[]⟩]) (RC.cond (.t 14) (RC.seq (RC.region 3 [
  ⟨some 15,.move (.t 6),none,0,[]⟩,
  ⟨some 4,.move (.t 15),none,1,[]⟩,
  ⟨some 5,.move (.c (.s (.bool false))),none,2,[]⟩]) (RC.ret)) (RC.skip))) (RC.seq (RC.region 7 [
  ⟨some 16,.move (.t 0),none,0,[]⟩,
  ⟨some 17,.move (.t 1),none,1,[]⟩,
  ⟨some 18,.bin .sub (.t 17) (.c (.s (.int .i64 1))),none,2,[]⟩,
  ⟨some 19,.indexSl 1 (.t 16) (.t 18),none,3,[]⟩,
  ⟨some 20,.load none (.t 19),none,4,[]⟩,
  ⟨some 4,.move (.t 20),none,5,[]⟩,
  ⟨some 5,.move (.c (.s (.bool true))),none,6,[]⟩]) (RC.ret)))))
theorem kern_at__flag_Flag_ok : chkFunc Go.Proofs.Tryz.prog [0] Go.Proofs.Tryz.f130 kern_at__flag_Flag = true := by kernel_rfl
def flag_Flag_Raise_l0 : RC :=
  RC.seq (RC.region 1 [
  ⟨some 13,.bin .lss (.t 12) (.t 11),none,0,[]⟩]) (RC.seq (RC.cond (.t 13) (RC.skip) (RC.exit 0)) (RC.seq (RC.block 1 (RC.seq (RC.region 3 [
  ⟨some 14,.indexSl 1 (.t 10) (.t 12),none,0,[]⟩,
  ⟨some 15,.load none (.t 14),none,1,[]⟩,
  ⟨some 6,.move (.t 15),none,2,[]⟩]) (RC.region 9 [
  ⟨some 16,.move (.t 0),none,0,[]⟩,
  ⟨some 17,.nilCheck (.t 16),none,1,[]⟩,
  ⟨some 18,.fieldAddr 1 (.t 17),none,2,[]⟩,
  ⟨some 19,.load none (.t 18),none,3,[]⟩,
  ⟨some 20,.move (.t 6),none,4,[]⟩,
  ⟨some 21,.bin .or (.t 19) (.t 20),none,5,[]⟩,
  ⟨some 22,.nilCheck (.t 16),none,6,[]⟩,
  ⟨some 23,.fieldAddr 1 (.t 22),none,7,[]⟩,
  ⟨none,.store 1 (.t 23) (.t 21),none,8,[]⟩]))) (RC.region 2 [
  ⟨some 24,.bin .add (.t 12) (.c (.s (.int .i64 1))),none,0,[]⟩,
  ⟨some 12,.move (.t 24),none,1,[]⟩])))
def flag_Flag_Raise_l1 : RC :=
  RC.seq (RC.region 1 [
  ⟨some 34,.bin .lss (.t 33) (.t 32),none,0,[]⟩]) (RC.seq (RC.cond (.t 34) (RC.skip) (RC.exit 2)) (RC.seq (RC.block 3 (RC.seq (RC.region 4 [
  ⟨some 35,.indexSl 2 (.t 31) (.t 33),none,0,[]⟩,
  ⟨some 36,.load (some 2) (.t 35),none,1,[]⟩,
  ⟨some 9,.newc [.int .i64 0,.int .i64 0],none,2,[]⟩,
  ⟨none,.store 2 (.t 9) (.t 36),none,3,[]⟩]) (RC.seq (RC.seq (RC.region 13 [
  ⟨some 37,.move (.t 0),none,0,[]⟩,
  ⟨some 38,.nilCheck (.t 37),none,1,[]⟩,
  ⟨some 39,.fieldAddr 4 (.t 38),none,2,[]⟩,
  ⟨some 40,.load none (.t 39),none,3,[]⟩,
  ⟨some 41,.fieldAddr 0 (.t 9),none,4,[]⟩,
  ⟨some 42,.load none (.t 41),none,5,[]⟩,
  ⟨some 44,.move (.t 0),none,7,[]⟩,
  ⟨some 45,.nilCheck (.t 44),none,8,[]⟩,
  ⟨some 46,.fieldAddr 1 (.t 45),none,9,[]⟩,
  ⟨some 47,.load none (.t 46),none,10,[]⟩,
  ⟨some 43,.hop (.lookup false) [(.t 40),(.t 42)],none,6,[⟨47,none,(.t 46),none⟩]⟩,
  ⟨some 48,.call F.flag_wish_met [(.t 43),(.t 47)],none,11,[]⟩,
  ⟨some 49,.un .not (.t 48),none,12,[]⟩]) (RC.cond (.t 49) (RC.exit 3) (RC.skip))) (RC.seq (RC.region 4 [
  ⟨some 50,.move (.t 0),none,0,[]⟩,
  ⟨some 51,.fieldAddr 0 (.t 9),none,1,[]⟩,
  ⟨some 52,.load none (.t 51),none,2,[]⟩,
  ⟨some 53,.call F.flag_Flag_Drop [(.t 50),(.t 52)],none,3,[]⟩]) (RC.seq (RC.region 11 [
  ⟨some 54,.move (.t 7),none,0,[]⟩,
  ⟨some 55,.fieldAddr 0 (.t 9),none,1,[]⟩,
  ⟨some 56,.load none (.t 55),none,2,[]⟩,
  ⟨some 57,.move (.t 0),none,3,[]⟩,
  ⟨some 58,.nilCheck (.t 57),none,4,[]⟩,
  ⟨some 59,.fieldAddr 1 (.t 58),none,5,[]⟩,
  ⟨some 60,.load none (.t 59),none,6,[]⟩,
  ⟨some 61,.build [.int .i64 0,.int .u32 0] [(0,1,(.t 56)),(1,1,(.t 60))],none,7,[]⟩,
  ⟨some 62,.buildSlice 2 1 [.int .i64 0,.int .u32 0] [(0,2,(.t 61))],none,8,[]⟩,
  ⟨some 63,.append 2 16 (.t 54) (.t 62),none,9,[]⟩,
  ⟨some 7,.move (.t 63),none,10,[]⟩]) (RC.seq (RC.region 4 [
  ⟨some 64,.move (.t 0),none,0,[]⟩,
  ⟨some 65,.nilCheck (.t 64),none,1,[]⟩,
  ⟨some 66,.fieldAddr 3 (.t 65),none,2,[]⟩,
  ⟨some 67,.load none (.t 66),none,3,[]⟩]) (RC.cond (.t 67) (RC.seq (RC.region 4 [
  ⟨some 68,.move (.t 0),none,0,[]⟩,
  ⟨some 69,.nilCheck (.t 68),none,1,[]⟩,
  ⟨some 70,.fieldAddr 1 (.t 69),none,2,[]⟩,
  ⟨none,.store 1 (.t 70) (.c (.s (.int .u32 0))),none,3,[]⟩]) (RC.exit 2)) (RC.skip)))))))) (RC.region 2 [
  ⟨some 71,.bin .add (.t 33) (.c (.s (.int .i64 1))),none,0,[]⟩,
  ⟨some 33,.move (.t 71),none,1,[]⟩])))
def flag_Flag_Raise_s2 : RC :=
  RC.seq (RC.region 3 [
  ⟨some 72,.move (.t 7),none,0,[]⟩,
  ⟨some 73,.call F.slices_Clip__flag_Woken_flag_Woken [(.t 72)],none,1,[]⟩,
  ⟨some 4,.move (.t 73),none,2,[]⟩]) (RC.ret)
def flag_Flag_Raise_s3 : RC :=
  RC.seq (RC.region 1 [
  ⟨some 7,.move (.c (.s (.slice none 0 0 1))),none,0,[]⟩]) (RC.seq (RC.seq (RC.region 9 [
  ⟨some 25,.move (.t 0),none,0,[]⟩,
  ⟨some 26,.nilCheck (.t 25),none,1,[]⟩,
  ⟨some 27,.fieldAddr 0 (.t 26),none,2,[]⟩,
  ⟨some 28,.load none (.t 27),none,3,[]⟩,
  ⟨some 29,.nilCheck (.t 28),none,4,[]⟩,
  ⟨some 30,.fieldAddr 0 (.t 29),none,5,[]⟩,
  ⟨some 31,.call F.order_Line_Row [(.t 30)],none,6,[]⟩,
  ⟨some 32,.len (.t 31),none,7,[]⟩,
  ⟨some 33,.move (.c (.s (.int .i64 0))),none,8,[]⟩]) (RC.block 2 (RC.loop R.flag_Flag_Raise_l1))) R.flag_Flag_Raise_s2)
def flag_Flag_Raise : RFunc := RFunc.mk 74 [.tmp 4] (
  RC.seq (RC.region 1 [
  ⟨some 4,.move (.c (.s (.slice none 0 0 1))),none,0,[]⟩]) (RC.seq (RC.seq (RC.region 3 [
  ⟨some 10,.move (.t 1),none,0,[]⟩,
  ⟨some 11,.len (.t 10),none,1,[]⟩,
  ⟨some 12,.move (.c (.s (.int .i64 0))),none,2,[]⟩]) (RC.block 0 (RC.loop R.flag_Flag_Raise_l0))) R.flag_Flag_Raise_s3))
theorem flag_Flag_Raise_ok : chkFunc Go.Proofs.Tryz.prog [0] Go.Proofs.Tryz.f131 flag_Flag_Raise = true := by kernel_rfl
def flag_Flag_Lower : RFunc := RFunc.mk 12 [] (
  RC.region 9 [
  ⟨some 4,.move (.t 0),none,0,[]⟩,
  ⟨some 5,.nilCheck (.t 4),none,1,[]⟩,
  ⟨some 6,.fieldAddr 1 (.t 5),none,2,[]⟩,
  ⟨some 7,.load none (.t 6),none,3,[]⟩,
  ⟨some 8,.move (.t 1),none,4,[]⟩,
  ⟨some 9,.bin .and (.t 7) (.t 8),none,5,[]⟩,
  ⟨some 10,.nilCheck (.t 4),none,6,[]⟩,
  ⟨some 11,.fieldAddr 1 (.t 10),none,7,[]⟩,
  ⟨none,.store 1 (.t 11) (.t 9),none,8,[]⟩])
theorem flag_Flag_Lower_ok : chkFunc Go.Proofs.Tryz.prog [0] Go.Proofs.Tryz.f132 flag_Flag_Lower = true := by kernel_rfl
def flag_Flag_Poll : RFunc := RFunc.mk 59 [.tmp 6,.tmp 7,.tmp 8] (
  RC.seq (RC.region 3 [
  ⟨some 6,.move (.c (.s (.int .u32 0))),none,0,[]⟩,
  ⟨some 7,.move (.c (.s (.bool false))),none,1,[]⟩,
  ⟨some 8,.move (.c (.s (.int .i64 0))),none,2,[]⟩]) (RC.seq (RC.block 0 (RC.seq (RC.region 11 [
  ⟨some 11,.move (.t 1),none,0,[]⟩,
  ⟨some 12,.bin .eql (.t 11) (.c (.s (.int .u32 0))),none,1,[]⟩,
  ⟨some 13,.move (.t 12),none,2,[]⟩,
  ⟨some 14,.move (.t 2),(some (13,false)),3,[]⟩,
  ⟨some 15,.bin .neq (.t 14) (.c (.s (.int .i64 0))),(some (13,false)),4,[]⟩,
  ⟨some 16,.move (.t 15),(some (13,false)),5,[]⟩,
  ⟨some 17,.move (.t 2),(some (16,true)),6,[]⟩,
  ⟨some 18,.bin .neq (.t 17) (.c (.s (.int .i64 1))),(some (16,true)),7,[]⟩,
  ⟨some 19,.pick (.t 16) (.t 18) (.c (.s (.bool false))),(some (13,false)),8,[]⟩,
  ⟨some 20,.pick (.t 13) (.c (.s (.bool true))) (.t 19),none,9,[]⟩,
  ⟨some 10,.move (.t 20),none,10,[]⟩]) (RC.cond (.t 10) (RC.seq (RC.region 3 [
  ⟨some 6,.move (.c (.s (.int .u32 0))),none,0,[]⟩,
  ⟨some 7,.move (.c (.s (.bool false))),none,1,[]⟩,
  ⟨some 8,.move (.c (.s (.int .i64 (-17)))),none,2,[]⟩]) (RC.ret)) (RC.seq (RC.region 16 [
  ⟨some 22,.move (.t 0),none,0,[]⟩,
  ⟨some 23,.nilCheck (.t 22),none,1,[]⟩,
  ⟨some 24,.fieldAddr 2 (.t 23),none,2,[]⟩,
  ⟨some 25,.load none (.t 24),none,3,[]⟩,
  ⟨some 26,.un .not (.t 25),none,4,[]⟩,
  ⟨some 27,.move (.t 26),none,5,[]⟩,
  ⟨some 28,.move (.t 0),(some (27,true)),6,[]⟩,
  ⟨some 29,.nilCheck (.t 28),(some (27,true)),7,[]⟩,
  ⟨some 30,.fieldAddr 0 (.t 29),(some (27,true)),8,[]⟩,
  ⟨some 31,.load none (.t 30),(some (27,true)),9,[]⟩,
  ⟨some 32,.nilCheck (.t 31),(some (27,true)),10,[]⟩,
  ⟨some 33,.fieldAddr 0 (.t 32),(some (27,true)),11,[]⟩,
  ⟨some 34,.call F.order_Line_Len [(.t 33)],(some (27,true)),12,[]⟩,
  ⟨some 35,.bin .gtr (.t 34) (.c (.s (.int .i64 0))),(some (27,true)),13,[]⟩,
  ⟨some 36,.pick (.t 27) (.t 35) (.c (.s (.bool false))),none,14,[]⟩,
  ⟨some 21,.move (.t 36),none,15,[]⟩]) (RC.cond (.t 21) (RC.seq (RC.region 3 [
  ⟨some 6,.move (.c (.s (.int .u32 0))),none,0,[]⟩,
  ⟨some 7,.move (.c (.s (.bool false))),none,1,[]⟩,
  ⟨some 8,.move (.c (.s (.int .i64 (-28)))),none,2,[]⟩]) (RC.ret)) (RC.seq (RC.region 10 [
  ⟨some 38,.move (.t 1),none,0,[]⟩,
  ⟨some 39,.move (.t 2),none,1,[]⟩,
  ⟨some 40,.build [.int .u32 0,.int .i64 0] [(0,1,(.t 38)),(1,1,(.t 39))],none,2,[]⟩,
  ⟨some 41,.move (.t 0),none,3,[]⟩,
  ⟨some 42,.nilCheck (.t 41),none,4,[]⟩,
  ⟨some 43,.fieldAddr 1 (.t 42),none,5,[]⟩,
  ⟨some 44,.load none (.t 43),none,6,[]⟩,
  ⟨some 45,.call F.flag_wish_met [(.t 40),(.t 44)],none,7,[]⟩,
  ⟨some 46,.un .not (.t 45),none,8,[]⟩,
  ⟨some 37,.move (.t 46),none,9,[]⟩]) (RC.cond (.t 37) (RC.seq (RC.region 3 [
  ⟨some 6,.move (.c (.s (.int .u32 0))),none,0,[]⟩,
  ⟨some 7,.move (.c (.s (.bool false))),none,1,[]⟩,
  ⟨some 8,.move (.c (.s (.int .i64 0))),none,2,[]⟩]) (RC.ret)) (RC.skip)))))))) (RC.seq (RC.region 5 [
  ⟨some 47,.move (.t 0),none,0,[]⟩,
  ⟨some 48,.nilCheck (.t 47),none,1,[]⟩,
  ⟨some 49,.fieldAddr 1 (.t 48),none,2,[]⟩,
  ⟨some 50,.load none (.t 49),none,3,[]⟩,
  ⟨some 9,.move (.t 50),none,4,[]⟩]) (RC.seq (RC.seq (RC.region 4 [
  ⟨some 51,.move (.t 0),none,0,[]⟩,
  ⟨some 52,.nilCheck (.t 51),none,1,[]⟩,
  ⟨some 53,.fieldAddr 3 (.t 52),none,2,[]⟩,
  ⟨some 54,.load none (.t 53),none,3,[]⟩]) (RC.cond (.t 54) (RC.region 4 [
  ⟨some 55,.move (.t 0),none,0,[]⟩,
  ⟨some 56,.nilCheck (.t 55),none,1,[]⟩,
  ⟨some 57,.fieldAddr 1 (.t 56),none,2,[]⟩,
  ⟨none,.store 1 (.t 57) (.c (.s (.int .u32 0))),none,3,[]⟩]) (RC.skip))) (RC.seq (RC.region 4 [
  ⟨some 58,.move (.t 9),none,0,[]⟩,
  ⟨some 6,.move (.t 58),none,1,[]⟩,
  ⟨some 7,.move (.c (.s (.bool true))),none,2,[]⟩,
  ⟨some 8,.move (.c (.s (.int .i64 0))),none,3,[]⟩]) (RC.ret))))))
theorem flag_Flag_Poll_ok : chkFunc Go.Proofs.Tryz.prog [0] Go.Proofs.Tryz.f133 flag_Flag_Poll = true := by kernel_rfl
def flag_Flag_Wait : RFunc := RFunc.mk 51 [.tmp 10,.tmp 11,.tmp 12] (
  RC.seq (RC.region 3 [
  ⟨some 10,.move (.c (.s (.int .u32 0))),none,0,[]⟩,
  ⟨some 11,.move (.c (.s (.bool false))),none,1,[]⟩,
  ⟨some 12,.move (.c (.s (.int .i64 0))),none,2,[]⟩]) (RC.seq (RC.region 11 [
  ⟨some 18,.move (.t 0),none,0,[]⟩,
  ⟨some 19,.move (.t 3),none,1,[]⟩,
  ⟨some 20,.move (.t 4),none,2,[]⟩,
  ⟨some 21,.call F.flag_Flag_Poll [(.t 18),(.t 19),(.t 20)],none,3,[]⟩,
  ⟨some 17,.move (.t 21),none,4,[]⟩,
  ⟨some 22,.extract 0 (.t 17),none,5,[]⟩,
  ⟨some 23,.extract 1 (.t 17),none,6,[]⟩,
  ⟨some 24,.extract 2 (.t 17),none,7,[]⟩,
  ⟨some 13,.move (.t 22),none,8,[]⟩,
  ⟨some 14,.move (.t 23),none,9,[]⟩,
  ⟨some 15,.move (.t 24),none,10,[]⟩]) (RC.seq (RC.seq (RC.region 5 [
  ⟨some 25,.move (.t 14),none,0,[]⟩,
  ⟨some 26,.move (.t 25),none,1,[]⟩,
  ⟨some 27,.move (.t 15),(some (26,false)),2,[]⟩,
  ⟨some 28,.bin .neq (.t 27) (.c (.s (.int .i64 0))),(some (26,false)),3,[]⟩,
  ⟨some 29,.pick (.t 26) (.c (.s (.bool true))) (.t 28),none,4,[]⟩]) (RC.cond (.t 29) (RC.seq (RC.region 6 [
  ⟨some 30,.move (.t 13),none,0,[]⟩,
  ⟨some 31,.move (.t 14),none,1,[]⟩,
  ⟨some 32,.move (.t 15),none,2,[]⟩,
  ⟨some 10,.move (.t 30),none,3,[]⟩,
  ⟨some 11,.move (.t 31),none,4,[]⟩,
  ⟨some 12,.move (.t 32),none,5,[]⟩]) (RC.ret)) (RC.skip))) (RC.seq (RC.seq (RC.region 8 [
  ⟨some 33,.move (.t 0),none,0,[]⟩,
  ⟨some 34,.nilCheck (.t 33),none,1,[]⟩,
  ⟨some 35,.fieldAddr 0 (.t 34),none,2,[]⟩,
  ⟨some 36,.load none (.t 35),none,3,[]⟩,
  ⟨some 37,.move (.t 1),none,4,[]⟩,
  ⟨some 38,.move (.t 2),none,5,[]⟩,
  ⟨some 39,.call F.order_Queue_Add [(.t 36),(.t 37),(.t 38)],none,6,[]⟩,
  ⟨some 16,.move (.t 39),none,7,[]⟩]) (RC.seq (RC.region 2 [
  ⟨some 40,.move (.t 16),none,0,[]⟩,
  ⟨some 41,.bin .neq (.t 40) (.c (.s (.int .i64 0))),none,1,[]⟩]) (RC.cond (.t 41) (RC.seq (RC.region 4 [
  ⟨some 42,.move (.t 16),none,0,[]⟩,
  ⟨some 10,.move (.c (.s (.int .u32 0))),none,1,[]⟩,
  ⟨some 11,.move (.c (.s (.bool false))),none,2,[]⟩,
  ⟨some 12,.move (.t 42),none,3,[]⟩]) (RC.ret)) (RC.skip)))) (RC.seq (RC.region 9 [
  ⟨some 43,.move (.t 0),none,0,[]⟩,
  ⟨some 44,.nilCheck (.t 43),none,1,[]⟩,
  ⟨some 45,.fieldAddr 4 (.t 44),none,2,[]⟩,
  ⟨some 46,.load none (.t 45),none,3,[]⟩,
  ⟨some 47,.move (.t 1),none,4,[]⟩,
  ⟨some 48,.move (.t 3),none,5,[]⟩,
  ⟨some 49,.move (.t 4),none,6,[]⟩,
  ⟨some 50,.build [.int .u32 0,.int .i64 0] [(0,1,(.t 48)),(1,1,(.t 49))],none,7,[]⟩,
  ⟨none,.hop .update [(.t 46),(.t 47),(.t 50)],none,8,[]⟩]) (RC.seq (RC.region 3 [
  ⟨some 10,.move (.c (.s (.int .u32 0))),none,0,[]⟩,
  ⟨some 11,.move (.c (.s (.bool false))),none,1,[]⟩,
  ⟨some 12,.move (.c (.s (.int .i64 0))),none,2,[]⟩]) (RC.ret)))))))
theorem flag_Flag_Wait_ok : chkFunc Go.Proofs.Tryz.prog [0] Go.Proofs.Tryz.f134 flag_Flag_Wait = true := by kernel_rfl
def kern_at__dtq_Queue : RFunc := RFunc.mk 21 [.tmp 4,.tmp 5] (
  RC.seq (RC.region 2 [
  ⟨some 4,.move (.c (.s (.ptr none))),none,0,[]⟩,
  ⟨some 5,.move (.c (.s (.bool false))),none,1,[]⟩]) (RC.seq (RC.region 1 [
  ⟨some 6,.move (.c (.s (.ptr none))),none,0,[]⟩]) (RC.seq (RC.seq (RC.region 8 [
  ⟨some 7,.move (.t 1),none,0,[]⟩,
  ⟨some 8,.bin .lss (.t 7) (.c (.s (.int .i64 1))),none,1,[]⟩,
  ⟨some 9,.move (.t 8),none,2,[]⟩,
  ⟨some 10,.move (.t 1),(some (9,false)),3,[]⟩,
  ⟨some 11,.move (.t 0),(some (9,false)),4,[]⟩,
  ⟨some 12,.len (.t 11),(some (9,false)),5,[]⟩,
  ⟨some 13,.bin .gtr (.t 10) (.t 12),(some (9,false)),6,[]⟩,
  ⟨some 14,.pick (.t 9) (.c (.s (.bool true))) (.t 13),none,7,[]⟩]) (RC.cond (.t 14) (RC.seq (RC.region 3 [
  ⟨some 15,.move (.t 6),none,0,[]⟩,
  ⟨some 4,.move (.t 15),none,1,[]⟩,
  ⟨some 5,.move (.c (.s (.bool false))),none,2,[]⟩]) (RC.ret)) (RC.skip))) (RC.seq (RC.region 7 [
  ⟨some 16,.move (.t 0),none,0,[]⟩,
  ⟨some 17,.move (.t 1),none,1,[]⟩,
  ⟨some 18,.bin .sub (.t 17) (.c (.s (.int .i64 1))),none,2,[]⟩,
  ⟨some 19,.indexSl 1 (.t 16) (.t 18),none,3,[]⟩,
  ⟨some 20,.load none (.t 19),none,4,[]⟩,
  ⟨some 4,.move (.t 20),none,5,[]⟩,
  ⟨some 5,.move (.c (.s (.bool true))),none,6,[]⟩]) (RC.ret)))))
theorem kern_at__dtq_Queue_ok : chkFunc Go.Proofs.Tryz.prog [0] Go.Proofs.Tryz.f135 kern_at__dtq_Queue = true := by kernel_rfl
def dtq_Queue_Force : RFunc := RFunc.mk 33 [.tmp 4,.tmp 5] (
  RC.seq (RC.region 2 [
  ⟨some 4,.move (.c (.s (.int .i64 0))),none,0,[]⟩,
  ⟨some 5,.move (.c (.s (.int .i64 0))),none,1,[]⟩]) (RC.seq (RC.seq (RC.region 5 [
  ⟨some 8,.move (.t 0),none,0,[]⟩,
  ⟨some 9,.nilCheck (.t 8),none,1,[]⟩,
  ⟨some 10,.fieldAddr 2 (.t 9),none,2,[]⟩,
  ⟨some 11,.load none (.t 10),none,3,[]⟩,
  ⟨some 12,.bin .eql (.t 11) (.c (.s (.int .i64 0))),none,4,[]⟩]) (RC.cond (.t 12) (RC.seq (RC.region 2 [
  ⟨some 4,.move (.c (.s (.int .i64 0))),none,0,[]⟩,
  ⟨some 5,.move (.c (.s (.int .i64 (-28)))),none,1,[]⟩]) (RC.ret)) (RC.skip))) (RC.seq (RC.seq (RC.region 8 [
  ⟨some 14,.move (.t 0),none,0,[]⟩,
  ⟨some 15,.move (.t 1),none,1,[]⟩,
  ⟨some 16,.call F.dtq_Queue_TrySend [(.t 14),(.t 15)],none,2,[]⟩,
  ⟨some 13,.move (.t 16),none,3,[]⟩,
  ⟨some 17,.extract 0 (.t 13),none,4,[]⟩,
  ⟨some 18,.extract 1 (.t 13),none,5,[]⟩,
  ⟨some 6,.move (.t 17),none,6,[]⟩,
  ⟨some 7,.move (.t 18),none,7,[]⟩]) (RC.seq (RC.region 1 [
  ⟨some 19,.move (.t 6),none,0,[]⟩]) (RC.cond (.t 19) (RC.seq (RC.region 3 [
  ⟨some 20,.move (.t 7),none,0,[]⟩,
  ⟨some 4,.move (.t 20),none,1,[]⟩,
  ⟨some 5,.move (.c (.s (.int .i64 0))),none,2,[]⟩]) (RC.ret)) (RC.skip)))) (RC.seq (RC.region 13 [
  ⟨some 21,.move (.t 0),none,0,[]⟩,
  ⟨some 22,.move (.t 0),none,1,[]⟩,
  ⟨some 23,.nilCheck (.t 22),none,2,[]⟩,
  ⟨some 24,.fieldAddr 3 (.t 23),none,3,[]⟩,
  ⟨some 25,.load none (.t 24),none,4,[]⟩,
  ⟨some 26,.slSl 1 (.t 25) (some (.c (.s (.int .i64 1)))) none none,none,5,[]⟩,
  ⟨some 27,.call F.slices_Clone__int_int [(.t 26)],none,6,[]⟩,
  ⟨some 28,.move (.t 1),none,7,[]⟩,
  ⟨some 29,.buildSlice 1 1 [.int .i64 0] [(0,1,(.t 28))],none,8,[]⟩,
  ⟨some 30,.append 1 8 (.t 27) (.t 29),none,9,[]⟩,
  ⟨some 31,.nilCheck (.t 21),none,10,[]⟩,
  ⟨some 32,.fieldAddr 3 (.t 31),none,11,[]⟩,
  ⟨none,.store 1 (.t 32) (.t 30),none,12,[]⟩]) (RC.seq (RC.region 2 [
  ⟨some 4,.move (.c (.s (.int .i64 0))),none,0,[]⟩,
  ⟨some 5,.move (.c (.s (.int .i64 0))),none,1,[]⟩]) (RC.ret))))))
theorem dtq_Queue_Force_ok : chkFunc Go.Proofs.Tryz.prog [0] Go.Proofs.Tryz.f136 dtq_Queue_Force = true := by kernel_rfl
def dtq_Queue_TrySend : RFunc := RFunc.mk 40 [.tmp 4,.tmp 5] (
  RC.seq (RC.region 2 [
  ⟨some 4,.move (.c (.s (.bool false))),none,0,[]⟩,
  ⟨some 5,.move (.c (.s (.int .i64 0))),none,1,[]⟩]) (RC.seq (RC.seq (RC.region 12 [
  ⟨some 9,.move (.t 0),none,0,[]⟩,
  ⟨some 10,.nilCheck (.t 9),none,1,[]⟩,
  ⟨some 11,.fieldAddr 1 (.t 10),none,2,[]⟩,
  ⟨some 12,.fieldAddr 0 (.t 11),none,3,[]⟩,
  ⟨some 13,.load none (.t 12),none,4,[]⟩,
  ⟨some 14,.call F.order_Queue_Take [(.t 13)],none,5,[]⟩,
  ⟨some 8,.move (.t 14),none,6,[]⟩,
  ⟨some 15,.extract 0 (.t 8),none,7,[]⟩,
  ⟨some 16,.extract 1 (.t 8),none,8,[]⟩,
  ⟨some 6,.newc [.int .i64 0,.int .i64 0],none,9,[]⟩,
  ⟨none,.store 2 (.t 6) (.t 15),none,10,[]⟩,
  ⟨some 7,.move (.t 16),none,11,[]⟩]) (RC.seq (RC.region 1 [
  ⟨some 17,.move (.t 7),none,0,[]⟩]) (RC.cond (.t 17) (RC.seq (RC.region 4 [
  ⟨some 18,.fieldAddr 0 (.t 6),none,0,[]⟩,
  ⟨some 19,.load none (.t 18),none,1,[]⟩,
  ⟨some 4,.move (.c (.s (.bool true))),none,2,[]⟩,
  ⟨some 5,.move (.t 19),none,3,[]⟩]) (RC.ret)) (RC.skip)))) (RC.seq (RC.seq (RC.region 10 [
  ⟨some 20,.move (.t 0),none,0,[]⟩,
  ⟨some 21,.nilCheck (.t 20),none,1,[]⟩,
  ⟨some 22,.fieldAddr 3 (.t 21),none,2,[]⟩,
  ⟨some 23,.load none (.t 22),none,3,[]⟩,
  ⟨some 24,.len (.t 23),none,4,[]⟩,
  ⟨some 25,.move (.t 0),none,5,[]⟩,
  ⟨some 26,.nilCheck (.t 25),none,6,[]⟩,
  ⟨some 27,.fieldAddr 2 (.t 26),none,7,[]⟩,
  ⟨some 28,.load none (.t 27),none,8,[]⟩,
  ⟨some 29,.bin .geq (.t 24) (.t 28),none,9,[]⟩]) (RC.cond (.t 29) (RC.seq (RC.region 2 [
  ⟨some 4,.move (.c (.s (.bool false))),none,0,[]⟩,
  ⟨some 5,.move (.c (.s (.int .i64 0))),none,1,[]⟩]) (RC.ret)) (RC.skip))) (RC.seq (RC.region 11 [
  ⟨some 30,.move (.t 0),none,0,[]⟩,
  ⟨some 31,.move (.t 0),none,1,[]⟩,
  ⟨some 32,.nilCheck (.t 31),none,2,[]⟩,
  ⟨some 33,.fieldAddr 3 (.t 32),none,3,[]⟩,
  ⟨some 34,.load none (.t 33),none,4,[]⟩,
  ⟨some 35,.move (.t 1),none,5,[]⟩,
  ⟨some 36,.buildSlice 1 1 [.int .i64 0] [(0,1,(.t 35))],none,6,[]⟩,
  ⟨some 37,.append 1 8 (.t 34) (.t 36),none,7,[]⟩,
  ⟨some 38,.nilCheck (.t 30),none,8,[]⟩,
  ⟨some 39,.fieldAddr 3 (.t 38),none,9,[]⟩,
  ⟨none,.store 1 (.t 39) (.t 37),none,10,[]⟩]) (RC.seq (RC.region 2 [
  ⟨some 4,.move (.c (.s (.bool true))),none,0,[]⟩,
  ⟨some 5,.move (.c (.s (.int .i64 0))),none,1,[]⟩]) (RC.ret))))))
theorem dtq_Queue_TrySend_ok : chkFunc Go.Proofs.Tryz.prog [0] Go.Proofs.Tryz.f137 dtq_Queue_TrySend = true := by kernel_rfl
def dtq_Queue_Send : RFunc := RFunc.mk 48 [.tmp 8,.tmp 9,.tmp 10] (
  RC.seq (RC.region 3 [
  ⟨some 8,.move (.c (.s (.bool false))),none,0,[]⟩,
  ⟨some 9,.move (.c (.s (.int .i64 0))),none,1,[]⟩,
  ⟨some 10,.move (.c (.s (.int .i64 0))),none,2,[]⟩]) (RC.seq (RC.seq (RC.region 8 [
  ⟨some 15,.move (.t 0),none,0,[]⟩,
  ⟨some 16,.move (.t 3),none,1,[]⟩,
  ⟨some 17,.call F.dtq_Queue_TrySend [(.t 15),(.t 16)],none,2,[]⟩,
  ⟨some 14,.move (.t 17),none,3,[]⟩,
  ⟨some 18,.extract 0 (.t 14),none,4,[]⟩,
  ⟨some 19,.extract 1 (.t 14),none,5,[]⟩,
  ⟨some 11,.move (.t 18),none,6,[]⟩,
  ⟨some 12,.move (.t 19),none,7,[]⟩]) (RC.seq (RC.region 1 [
  ⟨some 20,.move (.t 11),none,0,[]⟩]) (RC.cond (.t 20) (RC.seq (RC.region 4 [
  ⟨some 21,.move (.t 12),none,0,[]⟩,
  ⟨some 8,.move (.c (.s (.bool true))),none,1,[]⟩,
  ⟨some 9,.move (.t 21),none,2,[]⟩,
  ⟨some 10,.move (.c (.s (.int .i64 0))),none,3,[]⟩]) (RC.ret)) (RC.skip)))) (RC.seq (RC.seq (RC.region 9 [
  ⟨some 22,.move (.t 0),none,0,[]⟩,
  ⟨some 23,.nilCheck (.t 22),none,1,[]⟩,
  ⟨some 24,.fieldAddr 1 (.t 23),none,2,[]⟩,
  ⟨some 25,.fieldAddr 0 (.t 24),none,3,[]⟩,
  ⟨some 26,.load none (.t 25),none,4,[]⟩,
  ⟨some 27,.nilCheck (.t 26),none,5,[]⟩,
  ⟨some 28,.fieldAddr 0 (.t 27),none,6,[]⟩,
  ⟨some 29,.move (.t 1),none,7,[]⟩,
  ⟨some 30,.call F.order_Line_Has [(.t 28),(.t 29)],none,8,[]⟩]) (RC.cond (.t 30) (RC.seq (RC.region 3 [
  ⟨some 8,.move (.c (.s (.bool false))),none,0,[]⟩,
  ⟨some 9,.move (.c (.s (.int .i64 0))),none,1,[]⟩,
  ⟨some 10,.move (.c (.s (.int .i64 (-41)))),none,2,[]⟩]) (RC.ret)) (RC.skip))) (RC.seq (RC.seq (RC.region 9 [
  ⟨some 31,.move (.t 0),none,0,[]⟩,
  ⟨some 32,.nilCheck (.t 31),none,1,[]⟩,
  ⟨some 33,.fieldAddr 0 (.t 32),none,2,[]⟩,
  ⟨some 34,.fieldAddr 0 (.t 33),none,3,[]⟩,
  ⟨some 35,.load none (.t 34),none,4,[]⟩,
  ⟨some 36,.move (.t 1),none,5,[]⟩,
  ⟨some 37,.move (.t 2),none,6,[]⟩,
  ⟨some 38,.call F.order_Queue_Add [(.t 35),(.t 36),(.t 37)],none,7,[]⟩,
  ⟨some 13,.move (.t 38),none,8,[]⟩]) (RC.seq (RC.region 2 [
  ⟨some 39,.move (.t 13),none,0,[]⟩,
  ⟨some 40,.bin .neq (.t 39) (.c (.s (.int .i64 0))),none,1,[]⟩]) (RC.cond (.t 40) (RC.seq (RC.region 4 [
  ⟨some 41,.move (.t 13),none,0,[]⟩,
  ⟨some 8,.move (.c (.s (.bool false))),none,1,[]⟩,
  ⟨some 9,.move (.c (.s (.int .i64 0))),none,2,[]⟩,
  ⟨some 10,.move (.t 41),none,3,[]⟩]) (RC.ret)) (RC.skip)))) (RC.seq (RC.region 7 [
  ⟨some 42,.move (.t 0),none,0,[]⟩,
  ⟨some 43,.nilCheck (.t 42),none,1,[]⟩,
  ⟨some 44,.fieldAddr 4 (.t 43),none,2,[]⟩,
  ⟨some 45,.load none (.t 44),none,3,[]⟩,
  ⟨some 46,.move (.t 1),none,4,[]⟩,
  ⟨some 47,.move (.t 3),none,5,[]⟩,
  ⟨none,.hop .update [(.t 45),(.t 46),(.t 47)],none,6,[]⟩]) (RC.seq (RC.region 3 [
  ⟨some 8,.move (.c (.s (.bool false))),none,0,[]⟩,
  ⟨some 9,.move (.c (.s (.int .i64 0))),none,1,[]⟩,
  ⟨some 10,.move (.c (.s (.int .i64 0))),none,2,[]⟩]) (RC.ret)))))))
theorem dtq_Queue_Send_ok : chkFunc Go.Proofs.Tryz.prog [0] Go.Proofs.Tryz.f138 dtq_Queue_Send = true := by kernel_rfl
def dtq_Queue_TryRecv_s0 : RC :=
  RC.seq (RC.region 2 [
  ⟨some 61,.load (some 3) (.t 6),none,0,[]⟩,
  ⟨none,.store 3 (.t 2) (.t 61),none,1,[]⟩]) (RC.ret)
def dtq_Queue_TryRecv : RFunc := RFunc.mk 62 [.cell 2 (some 3)] (
  RC.seq (RC.region 1 [
  ⟨some 2,.newc [.int .i64 0,.bool false,.int .i64 0],none,0,[]⟩]) (RC.seq (RC.seq (RC.region 6 [
  ⟨some 10,.move (.t 0),none,0,[]⟩,
  ⟨some 11,.nilCheck (.t 10),none,1,[]⟩,
  ⟨some 12,.fieldAddr 3 (.t 11),none,2,[]⟩,
  ⟨some 13,.load none (.t 12),none,3,[]⟩,
  ⟨some 14,.len (.t 13),none,4,[]⟩,
  ⟨some 15,.bin .eql (.t 14) (.c (.s (.int .i64 0))),none,5,[]⟩]) (RC.cond (.t 15) (RC.seq (RC.region 9 [
  ⟨some 17,.move (.t 0),none,0,[]⟩,
  ⟨some 18,.call F.dtq_Queue_next [(.t 17)],none,1,[]⟩,
  ⟨some 16,.move (.t 18),none,2,[]⟩,
  ⟨some 19,.extract 0 (.t 16),none,3,[]⟩,
  ⟨some 20,.extract 1 (.t 16),none,4,[]⟩,
  ⟨some 21,.extract 2 (.t 16),none,5,[]⟩,
  ⟨some 3,.move (.t 19),none,6,[]⟩,
  ⟨some 4,.move (.t 20),none,7,[]⟩,
  ⟨some 5,.move (.t 21),none,8,[]⟩]) (RC.seq (RC.region 5 [
  ⟨some 22,.move (.t 3),none,0,[]⟩,
  ⟨some 23,.move (.t 5),none,1,[]⟩,
  ⟨some 24,.move (.t 4),none,2,[]⟩,
  ⟨some 25,.build [.int .i64 0,.bool false,.int .i64 0] [(0,1,(.t 22)),(1,1,(.t 23)),(2,1,(.t 24))],none,3,[]⟩,
  ⟨none,.store 3 (.t 2) (.t 25),none,4,[]⟩]) (RC.ret))) (RC.skip))) (RC.seq (RC.region 9 [
  ⟨some 26,.move (.t 0),none,0,[]⟩,
  ⟨some 27,.nilCheck (.t 26),none,1,[]⟩,
  ⟨some 28,.fieldAddr 3 (.t 27),none,2,[]⟩,
  ⟨some 29,.load none (.t 28),none,3,[]⟩,
  ⟨some 30,.indexSl 1 (.t 29) (.c (.s (.int .i64 0))),none,4,[]⟩,
  ⟨some 31,.load none (.t 30),none,5,[]⟩,
  ⟨some 32,.build [.int .i64 0,.bool false,.int .i64 0] [(0,1,(.t 31)),(1,1,(.c (.s (.bool true))))],none,6,[]⟩,
  ⟨some 6,.newc [.int .i64 0,.bool false,.int .i64 0],none,7,[]⟩,
  ⟨none,.store 3 (.t 6) (.t 32),none,8,[]⟩]) (RC.seq (RC.region 10 [
  ⟨some 33,.move (.t 0),none,0,[]⟩,
  ⟨some 34,.move (.t 0),none,1,[]⟩,
  ⟨some 35,.nilCheck (.t 34),none,2,[]⟩,
  ⟨some 36,.fieldAddr 3 (.t 35),none,3,[]⟩,
  ⟨some 37,.load none (.t 36),none,4,[]⟩,
  ⟨some 38,.slSl 1 (.t 37) (some (.c (.s (.int .i64 1)))) none none,none,5,[]⟩,
  ⟨some 39,.call F.slices_Clone__int_int [(.t 38)],none,6,[]⟩,
  ⟨some 40,.nilCheck (.t 33),none,7,[]⟩,
  ⟨some 41,.fieldAddr 3 (.t 40),none,8,[]⟩,
  ⟨none,.store 1 (.t 41) (.t 39),none,9,[]⟩]) (RC.seq (RC.seq (RC.region 9 [
  ⟨some 43,.move (.t 0),none,0,[]⟩,
  ⟨some 44,.call F.dtq_Queue_next [(.t 43)],none,1,[]⟩,
  ⟨some 42,.move (.t 44),none,2,[]⟩,
  ⟨some 45,.extract 0 (.t 42),none,3,[]⟩,
  ⟨some 46,.extract 1 (.t 42),none,4,[]⟩,
  ⟨some 47,.extract 2 (.t 42),none,5,[]⟩,
  ⟨some 7,.move (.t 45),none,6,[]⟩,
  ⟨some 8,.move (.t 46),none,7,[]⟩,
  ⟨some 9,.move (.t 47),none,8,[]⟩]) (RC.seq (RC.region 1 [
  ⟨some 48,.move (.t 9),none,0,[]⟩]) (RC.cond (.t 48) (RC.seq (RC.region 11 [
  ⟨some 49,.move (.t 0),none,0,[]⟩,
  ⟨some 50,.move (.t 0),none,1,[]⟩,
  ⟨some 51,.nilCheck (.t 50),none,2,[]⟩,
  ⟨some 52,.fieldAddr 3 (.t 51),none,3,[]⟩,
  ⟨some 53,.load none (.t 52),none,4,[]⟩,
  ⟨some 54,.move (.t 7),none,5,[]⟩,
  ⟨some 55,.buildSlice 1 1 [.int .i64 0] [(0,1,(.t 54))],none,6,[]⟩,
  ⟨some 56,.append 1 8 (.t 53) (.t 55),none,7,[]⟩,
  ⟨some 57,.nilCheck (.t 49),none,8,[]⟩,
  ⟨some 58,.fieldAddr 3 (.t 57),none,9,[]⟩,
  ⟨none,.store 1 (.t 58) (.t 56),none,10,[]⟩]) (RC.region 3 [
  ⟨some 59,.move (.t 8),none,0,[]⟩,
  ⟨some 60,.fieldAddr 2 (.t 6),none,1,[]⟩,
  ⟨none,.store 1 (.t 60) (.t 59),none,2,[]⟩])) (RC.skip)))) R.dtq_Queue_TryRecv_s0)))))
theorem dtq_Queue_TryRecv_ok : chkFunc Go.Proofs.Tryz.prog [0] Go.Proofs.Tryz.f139 dtq_Queue_TryRecv = true := by kernel_rfl
def dtq_Queue_Recv : RFunc := RFunc.mk 23 [.cell 6 (some 3),.tmp 7] (
  RC.seq (RC.region 2 [
  ⟨some 6,.newc [.int .i64 0,.bool false,.int .i64 0],none,0,[]⟩,
  ⟨some 7,.move (.c (.s (.int .i64 0))),none,1,[]⟩]) (RC.seq (RC.seq (RC.region 4 [
  ⟨some 9,.move (.t 0),none,0,[]⟩,
  ⟨some 10,.call F.dtq_Queue_TryRecv [(.t 9)],none,1,[]⟩,
  ⟨some 8,.newc [.int .i64 0,.bool false,.int .i64 0],none,2,[]⟩,
  ⟨none,.store 3 (.t 8) (.t 10),none,3,[]⟩]) (RC.seq (RC.region 2 [
  ⟨some 11,.fieldAddr 1 (.t 8),none,0,[]⟩,
  ⟨some 12,.load none (.t 11),none,1,[]⟩]) (RC.cond (.t 12) (RC.seq (RC.region 3 [
  ⟨some 13,.load (some 3) (.t 8),none,0,[]⟩,
  ⟨none,.store 3 (.t 6) (.t 13),none,1,[]⟩,
  ⟨some 7,.move (.c (.s (.int .i64 0))),none,2,[]⟩]) (RC.ret)) (RC.skip)))) (RC.seq (RC.region 11 [
  ⟨some 14,.build [.int .i64 0,.bool false,.int .i64 0] [],none,0,[]⟩,
  ⟨some 15,.move (.t 0),none,1,[]⟩,
  ⟨some 16,.nilCheck (.t 15),none,2,[]⟩,
  ⟨some 17,.fieldAddr 1 (.t 16),none,3,[]⟩,
  ⟨some 18,.fieldAddr 0 (.t 17),none,4,[]⟩,
  ⟨some 19,.load none (.t 18),none,5,[]⟩,
  ⟨some 20,.move (.t 1),none,6,[]⟩,
  ⟨some 21,.move (.t 2),none,7,[]⟩,
  ⟨some 22,.call F.order_Queue_Add [(.t 19),(.t 20),(.t 21)],none,8,[]⟩,
  ⟨none,.store 3 (.t 6) (.t 14),none,9,[]⟩,
  ⟨some 7,.move (.t 22),none,10,[]⟩]) (RC.ret))))
theorem dtq_Queue_Recv_ok : chkFunc Go.Proofs.Tryz.prog [0] Go.Proofs.Tryz.f140 dtq_Queue_Recv = true := by kernel_rfl
def mtx_All_Unlock_s0 : RC :=
  RC.seq (RC.region 2 [
  ⟨some 65,.move (.t 0),none,0,[]⟩,
  ⟨some 66,.call F.mtx_All_settle [(.t 65)],none,1,[]⟩]) (RC.seq (RC.region 10 [
  ⟨some 67,.move (.t 0),none,0,[]⟩,
  ⟨some 68,.nilCheck (.t 67),none,1,[]⟩,
  ⟨some 69,.fieldAddr 0 (.t 68),none,2,[]⟩,
  ⟨some 70,.load none (.t 69),none,3,[]⟩,
  ⟨some 71,.move (.t 1),none,4,[]⟩,
  ⟨some 72,.indexSl 4 (.t 70) (.t 71),none,5,[]⟩,
  ⟨some 73,.fieldAddr 2 (.t 72),none,6,[]⟩,
  ⟨some 74,.load none (.t 73),none,7,[]⟩,
  ⟨some 6,.move (.t 74),none,8,[]⟩,
  ⟨some 7,.move (.c (.s (.int .i64 0))),none,9,[]⟩]) (RC.ret))
def mtx_All_Unlock : RFunc := RFunc.mk 75 [.tmp 6,.tmp 7] (
  RC.seq (RC.region 2 [
  ⟨some 6,.move (.c (.s (.int .i64 0))),none,0,[]⟩,
  ⟨some 7,.move (.c (.s (.int .i64 0))),none,1,[]⟩]) (RC.seq (RC.seq (RC.region 9 [
  ⟨some 9,.move (.t 0),none,0,[]⟩,
  ⟨some 10,.move (.t 1),none,1,[]⟩,
  ⟨some 11,.call F.mtx_All_in [(.t 9),(.t 10)],none,2,[]⟩,
  ⟨some 12,.un .not (.t 11),none,3,[]⟩,
  ⟨some 13,.move (.t 12),none,4,[]⟩,
  ⟨some 14,.move (.t 2),(some (13,false)),5,[]⟩,
  ⟨some 15,.call F.mtx_is [(.t 14)],(some (13,false)),6,[]⟩,
  ⟨some 16,.un .not (.t 15),(some (13,false)),7,[]⟩,
  ⟨some 17,.pick (.t 13) (.c (.s (.bool true))) (.t 16),none,8,[]⟩]) (RC.cond (.t 17) (RC.seq (RC.region 2 [
  ⟨some 6,.move (.c (.s (.int .i64 0))),none,0,[]⟩,
  ⟨some 7,.move (.c (.s (.int .i64 (-18)))),none,1,[]⟩]) (RC.ret)) (RC.skip))) (RC.seq (RC.region 7 [
  ⟨some 18,.move (.t 0),none,0,[]⟩,
  ⟨some 19,.nilCheck (.t 18),none,1,[]⟩,
  ⟨some 20,.fieldAddr 0 (.t 19),none,2,[]⟩,
  ⟨some 21,.load none (.t 20),none,3,[]⟩,
  ⟨some 22,.move (.t 1),none,4,[]⟩,
  ⟨some 23,.indexSl 4 (.t 21) (.t 22),none,5,[]⟩,
  ⟨some 8,.move (.t 23),none,6,[]⟩]) (RC.seq (RC.seq (RC.region 6 [
  ⟨some 24,.move (.t 8),none,0,[]⟩,
  ⟨some 25,.nilCheck (.t 24),none,1,[]⟩,
  ⟨some 26,.fieldAddr 2 (.t 25),none,2,[]⟩,
  ⟨some 27,.load none (.t 26),none,3,[]⟩,
  ⟨some 28,.move (.t 2),none,4,[]⟩,
  ⟨some 29,.bin .neq (.t 27) (.t 28),none,5,[]⟩]) (RC.cond (.t 29) (RC.seq (RC.region 2 [
  ⟨some 6,.move (.c (.s (.int .i64 0))),none,0,[]⟩,
  ⟨some 7,.move (.c (.s (.int .i64 (-28)))),none,1,[]⟩]) (RC.ret)) (RC.skip))) (RC.seq (RC.region 4 [
  ⟨some 30,.move (.t 8),none,0,[]⟩,
  ⟨some 31,.nilCheck (.t 30),none,1,[]⟩,
  ⟨some 32,.fieldAddr 2 (.t 31),none,2,[]⟩,
  ⟨none,.store 1 (.t 32) (.c (.s (.int .i64 0))),none,3,[]⟩]) (RC.seq (RC.seq (RC.region 6 [
  ⟨some 33,.move (.t 8),none,0,[]⟩,
  ⟨some 34,.nilCheck (.t 33),none,1,[]⟩,
  ⟨some 35,.fieldAddr 3 (.t 34),none,2,[]⟩,
  ⟨some 36,.load none (.t 35),none,3,[]⟩,
  ⟨some 37,.len (.t 36),none,4,[]⟩,
  ⟨some 38,.bin .gtr (.t 37) (.c (.s (.int .i64 0))),none,5,[]⟩]) (RC.cond (.t 38) (RC.seq (RC.region 10 [
  ⟨some 39,.move (.t 8),none,0,[]⟩,
  ⟨some 40,.move (.t 8),none,1,[]⟩,
  ⟨some 41,.nilCheck (.t 40),none,2,[]⟩,
  ⟨some 42,.fieldAddr 3 (.t 41),none,3,[]⟩,
  ⟨some 43,.load none (.t 42),none,4,[]⟩,
  ⟨some 44,.indexSl 1 (.t 43) (.c (.s (.int .i64 0))),none,5,[]⟩,
  ⟨some 45,.load none (.t 44),none,6,[]⟩,
  ⟨some 46,.nilCheck (.t 39),none,7,[]⟩,
  ⟨some 47,.fieldAddr 2 (.t 46),none,8,[]⟩,
  ⟨none,.store 1 (.t 47) (.t 45),none,9,[]⟩]) (RC.seq (RC.region 9 [
  ⟨some 48,.move (.t 8),none,0,[]⟩,
  ⟨some 49,.move (.t 8),none,1,[]⟩,
  ⟨some 50,.nilCheck (.t 49),none,2,[]⟩,
  ⟨some 51,.fieldAddr 3 (.t 50),none,3,[]⟩,
  ⟨some 52,.load none (.t 51),none,4,[]⟩,
  ⟨some 53,.call F.slices_Delete__int_int [(.t 52),(.c (.s (.int .i64 0))),(.c (.s (.int .i64 1)))],none,5,[]⟩,
  ⟨some 54,.nilCheck (.t 48),none,6,[]⟩,
  ⟨some 55,.fieldAddr 3 (.t 54),none,7,[]⟩,
  ⟨none,.store 1 (.t 55) (.t 53),none,8,[]⟩]) (RC.region 10 [
  ⟨some 56,.move (.t 0),none,0,[]⟩,
  ⟨some 57,.move (.t 8),none,1,[]⟩,
  ⟨some 58,.nilCheck (.t 57),none,2,[]⟩,
  ⟨some 59,.fieldAddr 2 (.t 58),none,3,[]⟩,
  ⟨some 60,.load none (.t 59),none,4,[]⟩,
  ⟨some 61,.nilCheck (.t 56),none,5,[]⟩,
  ⟨some 62,.fieldAddr 1 (.t 61),none,6,[]⟩,
  ⟨some 63,.indexArr 17 3 (.t 62) (.t 60),none,7,[]⟩,
  ⟨some 64,.fieldAddr 2 (.t 63),none,8,[]⟩,
  ⟨none,.store 1 (.t 64) (.c (.s (.int .i64 0))),none,9,[]⟩]))) (RC.skip))) R.mtx_All_Unlock_s0))))))
theorem mtx_All_Unlock_ok : chkFunc Go.Proofs.Tryz.prog [0] Go.Proofs.Tryz.f141 mtx_All_Unlock = true := by kernel_rfl
def mtx_All_Lock : RFunc := RFunc.mk 48 [.tmp 6,.tmp 7] (
  RC.seq (RC.region 2 [
  ⟨some 6,.move (.c (.s (.bool false))),none,0,[]⟩,
  ⟨some 7,.move (.c (.s (.int .i64 0))),none,1,[]⟩]) (RC.seq (RC.region 9 [
  ⟨some 11,.move (.t 0),none,0,[]⟩,
  ⟨some 12,.move (.t 1),none,1,[]⟩,
  ⟨some 13,.move (.t 2),none,2,[]⟩,
  ⟨some 14,.call F.mtx_All_TryLock [(.t 11),(.t 12),(.t 13)],none,3,[]⟩,
  ⟨some 10,.move (.t 14),none,4,[]⟩,
  ⟨some 15,.extract 0 (.t 10),none,5,[]⟩,
  ⟨some 16,.extract 1 (.t 10),none,6,[]⟩,
  ⟨some 8,.move (.t 15),none,7,[]⟩,
  ⟨some 9,.move (.t 16),none,8,[]⟩]) (RC.seq (RC.seq (RC.region 5 [
  ⟨some 17,.move (.t 8),none,0,[]⟩,
  ⟨some 18,.move (.t 17),none,1,[]⟩,
  ⟨some 19,.move (.t 9),(some (18,false)),2,[]⟩,
  ⟨some 20,.bin .neq (.t 19) (.c (.s (.int .i64 0))),(some (18,false)),3,[]⟩,
  ⟨some 21,.pick (.t 18) (.c (.s (.bool true))) (.t 20),none,4,[]⟩]) (RC.cond (.t 21) (RC.seq (RC.region 4 [
  ⟨some 22,.move (.t 8),none,0,[]⟩,
  ⟨some 23,.move (.t 9),none,1,[]⟩,
  ⟨some 6,.move (.t 22),none,2,[]⟩,
  ⟨some 7,.move (.t 23),none,3,[]⟩]) (RC.ret)) (RC.skip))) (RC.seq (RC.seq (RC.region 11 [
  ⟨some 24,.move (.t 0),none,0,[]⟩,
  ⟨some 25,.move (.t 0),none,1,[]⟩,
  ⟨some 26,.nilCheck (.t 25),none,2,[]⟩,
  ⟨some 27,.fieldAddr 0 (.t 26),none,3,[]⟩,
  ⟨some 28,.load none (.t 27),none,4,[]⟩,
  ⟨some 29,.move (.t 1),none,5,[]⟩,
  ⟨some 30,.indexSl 4 (.t 28) (.t 29),none,6,[]⟩,
  ⟨some 31,.fieldAddr 2 (.t 30),none,7,[]⟩,
  ⟨some 32,.load none (.t 31),none,8,[]⟩,
  ⟨some 33,.move (.t 2),none,9,[]⟩,
  ⟨some 34,.call F.mtx_All_over [(.t 24),(.t 32),(.t 33)],none,10,[]⟩]) (RC.cond (.t 34) (RC.seq (RC.region 2 [
  ⟨some 6,.move (.c (.s (.bool false))),none,0,[]⟩,
  ⟨some 7,.move (.c (.s (.int .i64 (-28)))),none,1,[]⟩]) (RC.ret)) (RC.skip))) (RC.seq (RC.region 4 [
  ⟨some 35,.move (.t 0),none,0,[]⟩,
  ⟨some 36,.move (.t 1),none,1,[]⟩,
  ⟨some 37,.move (.t 2),none,2,[]⟩,
  ⟨some 38,.call F.mtx_All_stand [(.t 35),(.t 36),(.t 37)],none,3,[]⟩]) (RC.seq (RC.region 8 [
  ⟨some 39,.move (.t 0),none,0,[]⟩,
  ⟨some 40,.move (.t 2),none,1,[]⟩,
  ⟨some 41,.move (.t 1),none,2,[]⟩,
  ⟨some 42,.nilCheck (.t 39),none,3,[]⟩,
  ⟨some 43,.fieldAddr 1 (.t 42),none,4,[]⟩,
  ⟨some 44,.indexArr 17 3 (.t 43) (.t 40),none,5,[]⟩,
  ⟨some 45,.fieldAddr 2 (.t 44),none,6,[]⟩,
  ⟨none,.store 1 (.t 45) (.t 41),none,7,[]⟩]) (RC.seq (RC.region 2 [
  ⟨some 46,.move (.t 0),none,0,[]⟩,
  ⟨some 47,.call F.mtx_All_settle [(.t 46)],none,1,[]⟩]) (RC.seq (RC.region 2 [
  ⟨some 6,.move (.c (.s (.bool false))),none,0,[]⟩,
  ⟨some 7,.move (.c (.s (.int .i64 0))),none,1,[]⟩]) (RC.ret)))))))))
theorem mtx_All_Lock_ok : chkFunc Go.Proofs.Tryz.prog [0] Go.Proofs.Tryz.f142 mtx_All_Lock = true := by kernel_rfl
def mtx_All_TryLock_s0 : RC :=
  RC.cond (.t 24) (RC.seq (RC.region 2 [
  ⟨some 6,.move (.c (.s (.bool false))),none,0,[]⟩,
  ⟨some 7,.move (.c (.s (.int .i64 (-28)))),none,1,[]⟩]) (RC.ret)) (RC.seq (RC.region 9 [
  ⟨some 53,.move (.t 0),none,0,[]⟩,
  ⟨some 54,.move (.t 2),none,1,[]⟩,
  ⟨some 55,.nilCheck (.t 53),none,2,[]⟩,
  ⟨some 56,.fieldAddr 1 (.t 55),none,3,[]⟩,
  ⟨some 57,.indexArr 17 3 (.t 56) (.t 54),none,4,[]⟩,
  ⟨some 58,.fieldAddr 2 (.t 57),none,5,[]⟩,
  ⟨some 59,.load none (.t 58),none,6,[]⟩,
  ⟨some 60,.bin .gtr (.t 59) (.c (.s (.int .i64 0))),none,7,[]⟩,
  ⟨some 52,.move (.t 60),none,8,[]⟩]) (RC.cond (.t 52) (RC.seq (RC.region 2 [
  ⟨some 6,.move (.c (.s (.bool false))),none,0,[]⟩,
  ⟨some 7,.move (.c (.s (.int .i64 (-41)))),none,1,[]⟩]) (RC.ret)) (RC.seq (RC.region 6 [
  ⟨some 62,.move (.t 8),none,0,[]⟩,
  ⟨some 63,.nilCheck (.t 62),none,1,[]⟩,
  ⟨some 64,.fieldAddr 2 (.t 63),none,2,[]⟩,
  ⟨some 65,.load none (.t 64),none,3,[]⟩,
  ⟨some 66,.bin .eql (.t 65) (.c (.s (.int .i64 0))),none,4,[]⟩,
  ⟨some 61,.move (.t 66),none,5,[]⟩]) (RC.cond (.t 61) (RC.seq (RC.region 5 [
  ⟨some 67,.move (.t 8),none,0,[]⟩,
  ⟨some 68,.move (.t 2),none,1,[]⟩,
  ⟨some 69,.nilCheck (.t 67),none,2,[]⟩,
  ⟨some 70,.fieldAddr 2 (.t 69),none,3,[]⟩,
  ⟨none,.store 1 (.t 70) (.t 68),none,4,[]⟩]) (RC.seq (RC.region 2 [
  ⟨some 71,.move (.t 0),none,0,[]⟩,
  ⟨some 72,.call F.mtx_All_settle [(.t 71)],none,1,[]⟩]) (RC.seq (RC.region 2 [
  ⟨some 6,.move (.c (.s (.bool true))),none,0,[]⟩,
  ⟨some 7,.move (.c (.s (.int .i64 0))),none,1,[]⟩]) (RC.ret)))) (RC.skip)))))
def mtx_All_TryLock_s1 : RC :=
  RC.seq (RC.region 2 [
  ⟨some 6,.move (.c (.s (.bool false))),none,0,[]⟩,
  ⟨some 7,.move (.c (.s (.int .i64 0))),none,1,[]⟩]) (RC.ret)
def mtx_All_TryLock : RFunc := RFunc.mk 73 [.tmp 6,.tmp 7] (
  RC.seq (RC.region 2 [
  ⟨some 6,.move (.c (.s (.bool false))),none,0,[]⟩,
  ⟨some 7,.move (.c (.s (.int .i64 0))),none,1,[]⟩]) (RC.seq (RC.seq (RC.region 9 [
  ⟨some 9,.move (.t 0),none,0,[]⟩,
  ⟨some 10,.move (.t 1),none,1,[]⟩,
  ⟨some 11,.call F.mtx_All_in [(.t 9),(.t 10)],none,2,[]⟩,
  ⟨some 12,.un .not (.t 11),none,3,[]⟩,
  ⟨some 13,.move (.t 12),none,4,[]⟩,
  ⟨some 14,.move (.t 2),(some (13,false)),5,[]⟩,
  ⟨some 15,.call F.mtx_is [(.t 14)],(some (13,false)),6,[]⟩,
  ⟨some 16,.un .not (.t 15),(some (13,false)),7,[]⟩,
  ⟨some 17,.pick (.t 13) (.c (.s (.bool true))) (.t 16),none,8,[]⟩]) (RC.cond (.t 17) (RC.seq (RC.region 2 [
  ⟨some 6,.move (.c (.s (.bool false))),none,0,[]⟩,
  ⟨some 7,.move (.c (.s (.int .i64 (-18)))),none,1,[]⟩]) (RC.ret)) (RC.skip))) (RC.seq (RC.region 7 [
  ⟨some 18,.move (.t 0),none,0,[]⟩,
  ⟨some 19,.nilCheck (.t 18),none,1,[]⟩,
  ⟨some 20,.fieldAddr 0 (.t 19),none,2,[]⟩,
  ⟨some 21,.load none (.t 20),none,3,[]⟩,
  ⟨some 22,.move (.t 1),none,4,[]⟩,
  ⟨some 23,.indexSl 4 (.t 21) (.t 22),none,5,[]⟩,
  ⟨some 8,.move (.t 23),none,6,[]⟩]) (RC.seq (RC.block 0 (RC.seq (RC.seq (RC.region 7 [
  ⟨some 25,.move (.t 8),none,0,[]⟩,
  ⟨some 26,.nilCheck (.t 25),none,1,[]⟩,
  ⟨some 27,.fieldAddr 2 (.t 26),none,2,[]⟩,
  ⟨some 28,.load none (.t 27),none,3,[]⟩,
  ⟨some 29,.move (.t 2),none,4,[]⟩,
  ⟨some 30,.bin .eql (.t 28) (.t 29),none,5,[]⟩,
  ⟨some 24,.move (.t 30),none,6,[]⟩]) (RC.cond (.t 24) (RC.skip) (RC.region 22 [
  ⟨some 31,.move (.t 8),none,0,[]⟩,
  ⟨some 32,.nilCheck (.t 31),none,1,[]⟩,
  ⟨some 33,.fieldAddr 0 (.t 32),none,2,[]⟩,
  ⟨some 34,.fieldAddr 0 (.t 33),none,3,[]⟩,
  ⟨some 35,.load none (.t 34),none,4,[]⟩,
  ⟨some 36,.bin .eql (.t 35) (.c (.s (.int .i64 3))),none,5,[]⟩,
  ⟨some 37,.move (.t 36),none,6,[]⟩,
  ⟨some 38,.move (.t 0),(some (37,true)),7,[]⟩,
  ⟨some 39,.move (.t 2),(some (37,true)),8,[]⟩,
  ⟨some 40,.nilCheck (.t 38),(some (37,true)),9,[]⟩,
  ⟨some 41,.fieldAddr 1 (.t 40),(some (37,true)),10,[]⟩,
  ⟨some 42,.indexArr 17 3 (.t 41) (.t 39),(some (37,true)),11,[]⟩,
  ⟨some 43,.fieldAddr 0 (.t 42),(some (37,true)),12,[]⟩,
  ⟨some 44,.load none (.t 43),(some (37,true)),13,[]⟩,
  ⟨some 45,.move (.t 8),(some (37,true)),14,[]⟩,
  ⟨some 46,.nilCheck (.t 45),(some (37,true)),15,[]⟩,
  ⟨some 47,.fieldAddr 0 (.t 46),(some (37,true)),16,[]⟩,
  ⟨some 48,.fieldAddr 1 (.t 47),(some (37,true)),17,[]⟩,
  ⟨some 49,.load none (.t 48),(some (37,true)),18,[]⟩,
  ⟨some 50,.bin .lss (.t 44) (.t 49),(some (37,true)),19,[]⟩,
  ⟨some 51,.pick (.t 37) (.t 50) (.c (.s (.bool false))),none,20,[]⟩,
  ⟨some 24,.move (.t 51),none,21,[]⟩]))) R.mtx_All_TryLock_s0)) R.mtx_All_TryLock_s1))))
theorem mtx_All_TryLock_ok : chkFunc Go.Proofs.Tryz.prog [0] Go.Proofs.Tryz.f143 mtx_All_TryLock = true := by kernel_rfl
def kern_at__mpf_Pool : RFunc := RFunc.mk 21 [.tmp 4,.tmp 5] (
  RC.seq (RC.region 2 [
  ⟨some 4,.move (.c (.s (.ptr none))),none,0,[]⟩,
  ⟨some 5,.move (.c (.s (.bool false))),none,1,[]⟩]) (RC.seq (RC.region 1 [
  ⟨some 6,.move (.c (.s (.ptr none))),none,0,[]⟩]) (RC.seq (RC.seq (RC.region 8 [
  ⟨some 7,.move (.t 1),none,0,[]⟩,
  ⟨some 8,.bin .lss (.t 7) (.c (.s (.int .i64 1))),none,1,[]⟩,
  ⟨some 9,.move (.t 8),none,2,[]⟩,
  ⟨some 10,.move (.t 1),(some (9,false)),3,[]⟩,
  ⟨some 11,.move (.t 0),(some (9,false)),4,[]⟩,
  ⟨some 12,.len (.t 11),(some (9,false)),5,[]⟩,
  ⟨some 13,.bin .gtr (.t 10) (.t 12),(some (9,false)),6,[]⟩,
  ⟨some 14,.pick (.t 9) (.c (.s (.bool true))) (.t 13),none,7,[]⟩]) (RC.cond (.t 14) (RC.seq (RC.region 3 [
  ⟨some 15,.move (.t 6),none,0,[]⟩,
  ⟨some 4,.move (.t 15),none,1,[]⟩,
  ⟨some 5,.move (.c (.s (.bool false))),none,2,[]⟩]) (RC.ret)) (RC.skip))) (RC.seq (RC.region 7 [
  ⟨some 16,.move (.t 0),none,0,[]⟩,
  ⟨some 17,.move (.t 1),none,1,[]⟩,
  ⟨some 18,.bin .sub (.t 17) (.c (.s (.int .i64 1))),none,2,[]⟩,
  ⟨some 19,.indexSl 1 (.t 16) (.t 18),none,3,[]⟩,
  ⟨some 20,.load none (.t 19),none,4,[]⟩,
  ⟨some 4,.move (.t 20),none,5,[]⟩,
  ⟨some 5,.move (.c (.s (.bool true))),none,6,[]⟩]) (RC.ret)))))
theorem kern_at__mpf_Pool_ok : chkFunc Go.Proofs.Tryz.prog [0] Go.Proofs.Tryz.f70 kern_at__mpf_Pool = true := by kernel_rfl
def mpf_Pool_Put : RFunc := RFunc.mk 53 [.tmp 4,.tmp 5] (
  RC.seq (RC.region 2 [
  ⟨some 4,.move (.c (.s (.int .i64 0))),none,0,[]⟩,
  ⟨some 5,.move (.c (.s (.int .i64 0))),none,1,[]⟩]) (RC.seq (RC.region 11 [
  ⟨some 11,.move (.t 0),none,0,[]⟩,
  ⟨some 12,.nilCheck (.t 11),none,1,[]⟩,
  ⟨some 13,.fieldAddr 6 (.t 12),none,2,[]⟩,
  ⟨some 14,.load none (.t 13),none,3,[]⟩,
  ⟨some 15,.move (.t 1),none,4,[]⟩,
  ⟨some 16,.call F.slices_BinarySearch__int_int [(.t 14),(.t 15)],none,5,[]⟩,
  ⟨some 10,.move (.t 16),none,6,[]⟩,
  ⟨some 17,.extract 0 (.t 10),none,7,[]⟩,
  ⟨some 18,.extract 1 (.t 10),none,8,[]⟩,
  ⟨some 6,.move (.t 17),none,9,[]⟩,
  ⟨some 7,.move (.t 18),none,10,[]⟩]) (RC.seq (RC.seq (RC.region 2 [
  ⟨some 19,.move (.t 7),none,0,[]⟩,
  ⟨some 20,.un .not (.t 19),none,1,[]⟩]) (RC.cond (.t 20) (RC.seq (RC.region 2 [
  ⟨some 4,.move (.c (.s (.int .i64 0))),none,0,[]⟩,
  ⟨some 5,.move (.c (.s (.int .i64 (-17)))),none,1,[]⟩]) (RC.ret)) (RC.skip))) (RC.seq (RC.seq (RC.region 11 [
  ⟨some 22,.move (.t 0),none,0,[]⟩,
  ⟨some 23,.nilCheck (.t 22),none,1,[]⟩,
  ⟨some 24,.fieldAddr 0 (.t 23),none,2,[]⟩,
  ⟨some 25,.load none (.t 24),none,3,[]⟩,
  ⟨some 26,.call F.order_Queue_Take [(.t 25)],none,4,[]⟩,
  ⟨some 21,.move (.t 26),none,5,[]⟩,
  ⟨some 27,.extract 0 (.t 21),none,6,[]⟩,
  ⟨some 28,.extract 1 (.t 21),none,7,[]⟩,
  ⟨some 8,.newc [.int .i64 0,.int .i64 0],none,8,[]⟩,
  ⟨none,.store 2 (.t 8) (.t 27),none,9,[]⟩,
  ⟨some 9,.move (.t 28),none,10,[]⟩]) (RC.seq (RC.region 1 [
  ⟨some 29,.move (.t 9),none,0,[]⟩]) (RC.cond (.t 29) (RC.seq (RC.region 4 [
  ⟨some 30,.fieldAddr 0 (.t 8),none,0,[]⟩,
  ⟨some 31,.load none (.t 30),none,1,[]⟩,
  ⟨some 4,.move (.t 31),none,2,[]⟩,
  ⟨some 5,.move (.c (.s (.int .i64 0))),none,3,[]⟩]) (RC.ret)) (RC.skip)))) (RC.seq (RC.region 12 [
  ⟨some 32,.move (.t 0),none,0,[]⟩,
  ⟨some 33,.move (.t 0),none,1,[]⟩,
  ⟨some 34,.nilCheck (.t 33),none,2,[]⟩,
  ⟨some 35,.fieldAddr 6 (.t 34),none,3,[]⟩,
  ⟨some 36,.load none (.t 35),none,4,[]⟩,
  ⟨some 37,.move (.t 6),none,5,[]⟩,
  ⟨some 38,.move (.t 6),none,6,[]⟩,
  ⟨some 39,.bin .add (.t 38) (.c (.s (.int .i64 1))),none,7,[]⟩,
  ⟨some 40,.call F.slices_Delete__int_int [(.t 36),(.t 37),(.t 39)],none,8,[]⟩,
  ⟨some 41,.nilCheck (.t 32),none,9,[]⟩,
  ⟨some 42,.fieldAddr 6 (.t 41),none,10,[]⟩,
  ⟨none,.store 1 (.t 42) (.t 40),none,11,[]⟩]) (RC.seq (RC.region 11 [
  ⟨some 43,.move (.t 0),none,0,[]⟩,
  ⟨some 44,.move (.t 0),none,1,[]⟩,
  ⟨some 45,.nilCheck (.t 44),none,2,[]⟩,
  ⟨some 46,.fieldAddr 5 (.t 45),none,3,[]⟩,
  ⟨some 47,.load none (.t 46),none,4,[]⟩,
  ⟨some 48,.move (.t 1),none,5,[]⟩,
  ⟨some 49,.buildSlice 1 1 [.int .i64 0] [(0,1,(.t 48))],none,6,[]⟩,
  ⟨some 50,.append 1 8 (.t 47) (.t 49),none,7,[]⟩,
  ⟨some 51,.nilCheck (.t 43),none,8,[]⟩,
  ⟨some 52,.fieldAddr 5 (.t 51),none,9,[]⟩,
  ⟨none,.store 1 (.t 52) (.t 50),none,10,[]⟩]) (RC.seq (RC.region 2 [
  ⟨some 4,.move (.c (.s (.int .i64 0))),none,0,[]⟩,
  ⟨some 5,.move (.c (.s (.int .i64 0))),none,1,[]⟩]) (RC.ret))))))))
theorem mpf_Pool_Put_ok : chkFunc Go.Proofs.Tryz.prog [0] Go.Proofs.Tryz.f144 mpf_Pool_Put = true := by kernel_rfl
def mpf_Pool_Poll_s0 : RC :=
  RC.seq (RC.region 11 [
  ⟨some 67,.move (.t 0),none,0,[]⟩,
  ⟨some 68,.nilCheck (.t 67),none,1,[]⟩,
  ⟨some 69,.fieldAddr 6 (.t 68),none,2,[]⟩,
  ⟨some 70,.load none (.t 69),none,3,[]⟩,
  ⟨some 71,.move (.t 4),none,4,[]⟩,
  ⟨some 72,.call F.slices_BinarySearch__int_int [(.t 70),(.t 71)],none,5,[]⟩,
  ⟨some 66,.move (.t 72),none,6,[]⟩,
  ⟨some 73,.extract 0 (.t 66),none,7,[]⟩,
  ⟨some 74,.extract 1 (.t 66),none,8,[]⟩,
  ⟨some 6,.move (.t 73),none,9,[]⟩,
  ⟨some 7,.move (.t 74),none,10,[]⟩]) (RC.seq (RC.region 12 [
  ⟨some 75,.move (.t 0),none,0,[]⟩,
  ⟨some 76,.move (.t 0),none,1,[]⟩,
  ⟨some 77,.nilCheck (.t 76),none,2,[]⟩,
  ⟨some 78,.fieldAddr 6 (.t 77),none,3,[]⟩,
  ⟨some 79,.load none (.t 78),none,4,[]⟩,
  ⟨some 80,.move (.t 6),none,5,[]⟩,
  ⟨some 81,.move (.t 4),none,6,[]⟩,
  ⟨some 82,.buildSlice 1 1 [.int .i64 0] [(0,1,(.t 81))],none,7,[]⟩,
  ⟨some 83,.call F.slices_Insert__int_int [(.t 79),(.t 80),(.t 82)],none,8,[]⟩,
  ⟨some 84,.nilCheck (.t 75),none,9,[]⟩,
  ⟨some 85,.fieldAddr 6 (.t 84),none,10,[]⟩,
  ⟨none,.store 1 (.t 85) (.t 83),none,11,[]⟩]) (RC.seq (RC.region 3 [
  ⟨some 86,.move (.t 4),none,0,[]⟩,
  ⟨some 2,.move (.t 86),none,1,[]⟩,
  ⟨some 3,.move (.c (.s (.bool true))),none,2,[]⟩]) (RC.ret)))
def mpf_Pool_Poll : RFunc := RFunc.mk 87 [.tmp 2,.tmp 3] (
  RC.seq (RC.region 2 [
  ⟨some 2,.move (.c (.s (.int .i64 0))),none,0,[]⟩,
  ⟨some 3,.move (.c (.s (.bool false))),none,1,[]⟩]) (RC.seq (RC.region 1 [
  ⟨some 4,.move (.c (.s (.int .i64 0))),none,0,[]⟩]) (RC.seq (RC.seq (RC.region 6 [
  ⟨some 8,.move (.t 0),none,0,[]⟩,
  ⟨some 9,.nilCheck (.t 8),none,1,[]⟩,
  ⟨some 10,.fieldAddr 5 (.t 9),none,2,[]⟩,
  ⟨some 11,.load none (.t 10),none,3,[]⟩,
  ⟨some 12,.len (.t 11),none,4,[]⟩,
  ⟨some 5,.move (.t 12),none,5,[]⟩]) (RC.block 0 (RC.seq (RC.region 3 [
  ⟨some 14,.move (.t 5),none,0,[]⟩,
  ⟨some 15,.bin .gtr (.t 14) (.c (.s (.int .i64 0))),none,1,[]⟩,
  ⟨some 13,.move (.t 15),none,2,[]⟩]) (RC.cond (.t 13) (RC.seq (RC.region 9 [
  ⟨some 16,.move (.t 0),none,0,[]⟩,
  ⟨some 17,.nilCheck (.t 16),none,1,[]⟩,
  ⟨some 18,.fieldAddr 5 (.t 17),none,2,[]⟩,
  ⟨some 19,.load none (.t 18),none,3,[]⟩,
  ⟨some 20,.move (.t 5),none,4,[]⟩,
  ⟨some 21,.bin .sub (.t 20) (.c (.s (.int .i64 1))),none,5,[]⟩,
  ⟨some 22,.indexSl 1 (.t 19) (.t 21),none,6,[]⟩,
  ⟨some 23,.load none (.t 22),none,7,[]⟩,
  ⟨some 4,.move (.t 23),none,8,[]⟩]) (RC.region 11 [
  ⟨some 24,.move (.t 0),none,0,[]⟩,
  ⟨some 25,.move (.t 0),none,1,[]⟩,
  ⟨some 26,.nilCheck (.t 25),none,2,[]⟩,
  ⟨some 27,.fieldAddr 5 (.t 26),none,3,[]⟩,
  ⟨some 28,.load none (.t 27),none,4,[]⟩,
  ⟨some 29,.move (.t 5),none,5,[]⟩,
  ⟨some 30,.bin .sub (.t 29) (.c (.s (.int .i64 1))),none,6,[]⟩,
  ⟨some 31,.slSl 1 (.t 28) none (some (.t 30)) none,none,7,[]⟩,
  ⟨some 32,.nilCheck (.t 24),none,8,[]⟩,
  ⟨some 33,.fieldAddr 5 (.t 32),none,9,[]⟩,
  ⟨none,.store 1 (.t 33) (.t 31),none,10,[]⟩])) (RC.seq (RC.region 10 [
  ⟨some 35,.move (.t 0),none,0,[]⟩,
  ⟨some 36,.nilCheck (.t 35),none,1,[]⟩,
  ⟨some 37,.fieldAddr 4 (.t 36),none,2,[]⟩,
  ⟨some 38,.load none (.t 37),none,3,[]⟩,
  ⟨some 39,.move (.t 0),none,4,[]⟩,
  ⟨some 40,.nilCheck (.t 39),none,5,[]⟩,
  ⟨some 41,.fieldAddr 2 (.t 40),none,6,[]⟩,
  ⟨some 42,.load none (.t 41),none,7,[]⟩,
  ⟨some 43,.bin .lss (.t 38) (.t 42),none,8,[]⟩,
  ⟨some 34,.move (.t 43),none,9,[]⟩]) (RC.cond (.t 34) (RC.seq (RC.region 16 [
  ⟨some 44,.move (.t 0),none,0,[]⟩,
  ⟨some 45,.nilCheck (.t 44),none,1,[]⟩,
  ⟨some 46,.fieldAddr 1 (.t 45),none,2,[]⟩,
  ⟨some 47,.load none (.t 46),none,3,[]⟩,
  ⟨some 48,.move (.t 0),none,4,[]⟩,
  ⟨some 49,.nilCheck (.t 48),none,5,[]⟩,
  ⟨some 50,.fieldAddr 4 (.t 49),none,6,[]⟩,
  ⟨some 51,.load none (.t 50),none,7,[]⟩,
  ⟨some 52,.move (.t 0),none,8,[]⟩,
  ⟨some 53,.nilCheck (.t 52),none,9,[]⟩,
  ⟨some 54,.fieldAddr 3 (.t 53),none,10,[]⟩,
  ⟨some 55,.load none (.t 54),none,11,[]⟩,
  ⟨some 56,.call F.nums_Align [(.t 55),(.c (.s (.int .i64 4)))],none,12,[⟨47,none,(.t 46),none⟩,⟨51,none,(.t 50),none⟩]⟩,
  ⟨some 57,.bin .mul (.t 51) (.t 56),none,13,[]⟩,
  ⟨some 58,.bin .add (.t 47) (.t 57),none,14,[]⟩,
  ⟨some 4,.move (.t 58),none,15,[]⟩]) (RC.region 8 [
  ⟨some 59,.move (.t 0),none,0,[]⟩,
  ⟨some 60,.nilCheck (.t 59),none,1,[]⟩,
  ⟨some 61,.fieldAddr 4 (.t 60),none,2,[]⟩,
  ⟨some 62,.load none (.t 61),none,3,[]⟩,
  ⟨some 63,.bin .add (.t 62) (.c (.s (.int .i64 1))),none,4,[]⟩,
  ⟨some 64,.nilCheck (.t 59),none,5,[]⟩,
  ⟨some 65,.fieldAddr 4 (.t 64),none,6,[]⟩,
  ⟨none,.store 1 (.t 65) (.t 63),none,7,[]⟩])) (RC.seq (RC.region 2 [
  ⟨some 2,.move (.c (.s (.int .i64 0))),none,0,[]⟩,
  ⟨some 3,.move (.c (.s (.bool false))),none,1,[]⟩]) (RC.ret)))))))) R.mpf_Pool_Poll_s0)))
theorem mpf_Pool_Poll_ok : chkFunc Go.Proofs.Tryz.prog [0] Go.Proofs.Tryz.f145 mpf_Pool_Poll = true := by kernel_rfl
def mpf_Pool_Get : RFunc := RFunc.mk 25 [.tmp 6,.tmp 7,.tmp 8] (
  RC.seq (RC.region 3 [
  ⟨some 6,.move (.c (.s (.int .i64 0))),none,0,[]⟩,
  ⟨some 7,.move (.c (.s (.bool false))),none,1,[]⟩,
  ⟨some 8,.move (.c (.s (.int .i64 0))),none,2,[]⟩]) (RC.seq (RC.seq (RC.region 7 [
  ⟨some 12,.move (.t 0),none,0,[]⟩,
  ⟨some 13,.call F.mpf_Pool_Poll [(.t 12)],none,1,[]⟩,
  ⟨some 11,.move (.t 13),none,2,[]⟩,
  ⟨some 14,.extract 0 (.t 11),none,3,[]⟩,
  ⟨some 15,.extract 1 (.t 11),none,4,[]⟩,
  ⟨some 9,.move (.t 14),none,5,[]⟩,
  ⟨some 10,.move (.t 15),none,6,[]⟩]) (RC.seq (RC.region 1 [
  ⟨some 16,.move (.t 10),none,0,[]⟩]) (RC.cond (.t 16) (RC.seq (RC.region 4 [
  ⟨some 17,.move (.t 9),none,0,[]⟩,
  ⟨some 6,.move (.t 17),none,1,[]⟩,
  ⟨some 7,.move (.c (.s (.bool true))),none,2,[]⟩,
  ⟨some 8,.move (.c (.s (.int .i64 0))),none,3,[]⟩]) (RC.ret)) (RC.skip)))) (RC.seq (RC.region 10 [
  ⟨some 18,.move (.t 0),none,0,[]⟩,
  ⟨some 19,.nilCheck (.t 18),none,1,[]⟩,
  ⟨some 20,.fieldAddr 0 (.t 19),none,2,[]⟩,
  ⟨some 21,.load none (.t 20),none,3,[]⟩,
  ⟨some 22,.move (.t 1),none,4,[]⟩,
  ⟨some 23,.move (.t 2),none,5,[]⟩,
  ⟨some 24,.call F.order_Queue_Add [(.t 21),(.t 22),(.t 23)],none,6,[]⟩,
  ⟨some 6,.move (.c (.s (.int .i64 0))),none,7,[]⟩,
  ⟨some 7,.move (.c (.s (.bool false))),none,8,[]⟩,
  ⟨some 8,.move (.t 24),none,9,[]⟩]) (RC.ret))))
theorem mpf_Pool_Get_ok : chkFunc Go.Proofs.Tryz.prog [0] Go.Proofs.Tryz.f146 mpf_Pool_Get = true := by kernel_rfl
def clock_Clock_Now : RFunc := RFunc.mk 12 [.tmp 2] (
  RC.seq (RC.region 1 [
  ⟨some 2,.move (.c (.s (.int .u64 0))),none,0,[]⟩]) (RC.seq (RC.region 10 [
  ⟨some 3,.move (.t 0),none,0,[]⟩,
  ⟨some 4,.nilCheck (.t 3),none,1,[]⟩,
  ⟨some 5,.fieldAddr 3 (.t 4),none,2,[]⟩,
  ⟨some 6,.load none (.t 5),none,3,[]⟩,
  ⟨some 7,.move (.t 0),none,4,[]⟩,
  ⟨some 8,.nilCheck (.t 7),none,5,[]⟩,
  ⟨some 9,.fieldAddr 2 (.t 8),none,6,[]⟩,
  ⟨some 10,.load none (.t 9),none,7,[]⟩,
  ⟨some 11,.call F.nums_Add [(.t 6),(.t 10)],none,8,[]⟩,
  ⟨some 2,.move (.t 11),none,9,[]⟩]) (RC.ret)))
theorem clock_Clock_Now_ok : chkFunc Go.Proofs.Tryz.prog [0] Go.Proofs.Tryz.f74 clock_Clock_Now = true := by kernel_rfl
def clock_Clock_Set : RFunc := RFunc.mk 14 [] (
  RC.region 11 [
  ⟨some 4,.move (.t 0),none,0,[]⟩,
  ⟨some 5,.move (.t 1),none,1,[]⟩,
  ⟨some 6,.move (.t 0),none,2,[]⟩,
  ⟨some 7,.nilCheck (.t 6),none,3,[]⟩,
  ⟨some 8,.fieldAddr 2 (.t 7),none,4,[]⟩,
  ⟨some 9,.load none (.t 8),none,5,[]⟩,
  ⟨some 10,.un .neg (.t 9),none,6,[]⟩,
  ⟨some 11,.call F.nums_Add [(.t 5),(.t 10)],none,7,[]⟩,
  ⟨some 12,.nilCheck (.t 4),none,8,[]⟩,
  ⟨some 13,.fieldAddr 3 (.t 12),none,9,[]⟩,
  ⟨none,.store 1 (.t 13) (.t 11),none,10,[]⟩])
theorem clock_Clock_Set_ok : chkFunc Go.Proofs.Tryz.prog [0] Go.Proofs.Tryz.f147 clock_Clock_Set = true := by kernel_rfl
def cyc_Hands_Start : RFunc := RFunc.mk 74 [.tmp 4] (
  RC.seq (RC.region 1 [
  ⟨some 4,.move (.c (.s (.int .i64 0))),none,0,[]⟩]) (RC.seq (RC.region 4 [
  ⟨some 7,.move (.t 0),none,0,[]⟩,
  ⟨some 8,.move (.t 1),none,1,[]⟩,
  ⟨some 9,.call F.cyc_Hands_cyc [(.t 7),(.t 8)],none,2,[]⟩,
  ⟨some 5,.move (.t 9),none,3,[]⟩]) (RC.seq (RC.seq (RC.region 2 [
  ⟨some 10,.move (.t 5),none,0,[]⟩,
  ⟨some 11,.eqs .ptr false (.t 10) (.c (.s (.ptr none))),none,1,[]⟩]) (RC.cond (.t 11) (RC.seq (RC.region 1 [
  ⟨some 4,.move (.c (.s (.int .i64 (-18)))),none,0,[]⟩]) (RC.ret)) (RC.skip))) (RC.seq (RC.region 4 [
  ⟨some 12,.move (.t 5),none,0,[]⟩,
  ⟨some 13,.nilCheck (.t 12),none,1,[]⟩,
  ⟨some 14,.fieldAddr 3 (.t 13),none,2,[]⟩,
  ⟨none,.store 1 (.t 14) (.c (.s (.bool true))),none,3,[]⟩]) (RC.seq (RC.seq (RC.region 6 [
  ⟨some 15,.move (.t 0),none,0,[]⟩,
  ⟨some 16,.nilCheck (.t 15),none,1,[]⟩,
  ⟨some 17,.fieldAddr 0 (.t 16),none,2,[]⟩,
  ⟨some 18,.load none (.t 17),none,3,[]⟩,
  ⟨some 19,.call F.clock_Clock_Up [(.t 18)],none,4,[]⟩,
  ⟨some 6,.move (.t 19),none,5,[]⟩]) (RC.block 0 (RC.seq (RC.region 6 [
  ⟨some 46,.move (.t 5),none,0,[]⟩,
  ⟨some 47,.nilCheck (.t 46),none,1,[]⟩,
  ⟨some 48,.fieldAddr 4 (.t 47),none,2,[]⟩,
  ⟨some 49,.load none (.t 48),none,3,[]⟩,
  ⟨some 50,.un .not (.t 49),none,4,[]⟩,
  ⟨some 45,.move (.t 50),none,5,[]⟩]) (RC.cond (.t 45) (RC.region 10 [
  ⟨some 51,.move (.t 5),none,0,[]⟩,
  ⟨some 52,.move (.t 6),none,1,[]⟩,
  ⟨some 53,.move (.t 5),none,2,[]⟩,
  ⟨some 54,.nilCheck (.t 53),none,3,[]⟩,
  ⟨some 55,.fieldAddr 2 (.t 54),none,4,[]⟩,
  ⟨some 56,.load none (.t 55),none,5,[]⟩,
  ⟨some 57,.bin .add (.t 52) (.t 56),none,6,[]⟩,
  ⟨some 58,.nilCheck (.t 51),none,7,[]⟩,
  ⟨some 59,.fieldAddr 1 (.t 58),none,8,[]⟩,
  ⟨none,.store 1 (.t 59) (.t 57),none,9,[]⟩]) (RC.seq (RC.region 7 [
  ⟨some 61,.move (.t 5),none,0,[]⟩,
  ⟨some 62,.nilCheck (.t 61),none,1,[]⟩,
  ⟨some 63,.fieldAddr 0 (.t 62),none,2,[]⟩,
  ⟨some 64,.load none (.t 63),none,3,[]⟩,
  ⟨some 65,.move (.t 6),none,4,[]⟩,
  ⟨some 66,.bin .gtr (.t 64) (.t 65),none,5,[]⟩,
  ⟨some 60,.move (.t 66),none,6,[]⟩]) (RC.cond (.t 60) (RC.region 8 [
  ⟨some 67,.move (.t 5),none,0,[]⟩,
  ⟨some 68,.move (.t 5),none,1,[]⟩,
  ⟨some 69,.nilCheck (.t 68),none,2,[]⟩,
  ⟨some 70,.fieldAddr 0 (.t 69),none,3,[]⟩,
  ⟨some 71,.load none (.t 70),none,4,[]⟩,
  ⟨some 72,.nilCheck (.t 67),none,5,[]⟩,
  ⟨some 73,.fieldAddr 1 (.t 72),none,6,[]⟩,
  ⟨none,.store 1 (.t 73) (.t 71),none,7,[]⟩]) (RC.region 26 [
  ⟨some 20,.move (.t 5),none,0,[]⟩,
  ⟨some 21,.move (.t 5),none,1,[]⟩,
  ⟨some 22,.nilCheck (.t 21),none,2,[]⟩,
  ⟨some 23,.fieldAddr 0 (.t 22),none,3,[]⟩,
  ⟨some 24,.load none (.t 23),none,4,[]⟩,
  ⟨some 25,.move (.t 6),none,5,[]⟩,
  ⟨some 26,.move (.t 5),none,6,[]⟩,
  ⟨some 27,.nilCheck (.t 26),none,7,[]⟩,
  ⟨some 28,.fieldAddr 0 (.t 27),none,8,[]⟩,
  ⟨some 29,.load none (.t 28),none,9,[]⟩,
  ⟨some 30,.bin .sub (.t 25) (.t 29),none,10,[]⟩,
  ⟨some 31,.move (.t 5),none,11,[]⟩,
  ⟨some 32,.nilCheck (.t 31),none,12,[]⟩,
  ⟨some 33,.fieldAddr 2 (.t 32),none,13,[]⟩,
  ⟨some 34,.load none (.t 33),none,14,[]⟩,
  ⟨some 35,.bin .quo (.t 30) (.t 34),none,15,[]⟩,
  ⟨some 36,.bin .add (.t 35) (.c (.s (.int .u64 1))),none,16,[]⟩,
  ⟨some 37,.move (.t 5),none,17,[]⟩,
  ⟨some 38,.nilCheck (.t 37),none,18,[]⟩,
  ⟨some 39,.fieldAddr 2 (.t 38),none,19,[]⟩,
  ⟨some 40,.load none (.t 39),none,20,[]⟩,
  ⟨some 41,.bin .mul (.t 36) (.t 40),none,21,[]⟩,
  ⟨some 42,.bin .add (.t 24) (.t 41),none,22,[]⟩,
  ⟨some 43,.nilCheck (.t 20),none,23,[]⟩,
  ⟨some 44,.fieldAddr 1 (.t 43),none,24,[]⟩,
  ⟨none,.store 1 (.t 44) (.t 42),none,25,[]⟩]))))))) (RC.seq (RC.region 1 [
  ⟨some 4,.move (.c (.s (.int .i64 0))),none,0,[]⟩]) (RC.ret)))))))
theorem cyc_Hands_Start_ok : chkFunc Go.Proofs.Tryz.prog [0] Go.Proofs.Tryz.f148 cyc_Hands_Start = true := by kernel_rfl
def cyc_Hands_Stop : RFunc := RFunc.mk 14 [.tmp 4] (
  RC.seq (RC.region 1 [
  ⟨some 4,.move (.c (.s (.int .i64 0))),none,0,[]⟩]) (RC.seq (RC.region 4 [
  ⟨some 6,.move (.t 0),none,0,[]⟩,
  ⟨some 7,.move (.t 1),none,1,[]⟩,
  ⟨some 8,.call F.cyc_Hands_cyc [(.t 6),(.t 7)],none,2,[]⟩,
  ⟨some 5,.move (.t 8),none,3,[]⟩]) (RC.seq (RC.seq (RC.region 2 [
  ⟨some 9,.move (.t 5),none,0,[]⟩,
  ⟨some 10,.eqs .ptr false (.t 9) (.c (.s (.ptr none))),none,1,[]⟩]) (RC.cond (.t 10) (RC.seq (RC.region 1 [
  ⟨some 4,.move (.c (.s (.int .i64 (-18)))),none,0,[]⟩]) (RC.ret)) (RC.skip))) (RC.seq (RC.region 4 [
  ⟨some 11,.move (.t 5),none,0,[]⟩,
  ⟨some 12,.nilCheck (.t 11),none,1,[]⟩,
  ⟨some 13,.fieldAddr 3 (.t 12),none,2,[]⟩,
  ⟨none,.store 1 (.t 13) (.c (.s (.bool false))),none,3,[]⟩]) (RC.seq (RC.region 1 [
  ⟨some 4,.move (.c (.s (.int .i64 0))),none,0,[]⟩]) (RC.ret))))))
theorem cyc_Hands_Stop_ok : chkFunc Go.Proofs.Tryz.prog [0] Go.Proofs.Tryz.f149 cyc_Hands_Stop = true := by kernel_rfl
def cyc_Hands_Set : RFunc := RFunc.mk 38 [.tmp 6] (
  RC.seq (RC.region 1 [
  ⟨some 6,.move (.c (.s (.int .i64 0))),none,0,[]⟩]) (RC.seq (RC.region 4 [
  ⟨some 10,.move (.t 0),none,0,[]⟩,
  ⟨some 11,.move (.t 1),none,1,[]⟩,
  ⟨some 12,.call F.cyc_Hands_alarm [(.t 10),(.t 11)],none,2,[]⟩,
  ⟨some 7,.move (.t 12),none,3,[]⟩]) (RC.seq (RC.seq (RC.region 2 [
  ⟨some 13,.move (.t 7),none,0,[]⟩,
  ⟨some 14,.eqs .ptr false (.t 13) (.c (.s (.ptr none))),none,1,[]⟩]) (RC.cond (.t 14) (RC.seq (RC.region 1 [
  ⟨some 6,.move (.c (.s (.int .i64 (-18)))),none,0,[]⟩]) (RC.ret)) (RC.skip))) (RC.seq (RC.region 7 [
  ⟨some 16,.move (.t 2),none,0,[]⟩,
  ⟨some 17,.call F.nums_Rel [(.t 16)],none,1,[]⟩,
  ⟨some 15,.move (.t 17),none,2,[]⟩,
  ⟨some 18,.extract 0 (.t 15),none,3,[]⟩,
  ⟨some 19,.extract 1 (.t 15),none,4,[]⟩,
  ⟨some 8,.move (.t 18),none,5,[]⟩,
  ⟨some 9,.move (.t 19),none,6,[]⟩]) (RC.seq (RC.seq (RC.region 2 [
  ⟨some 20,.move (.t 9),none,0,[]⟩,
  ⟨some 21,.bin .neq (.t 20) (.c (.s (.int .i64 0))),none,1,[]⟩]) (RC.cond (.t 21) (RC.seq (RC.region 2 [
  ⟨some 22,.move (.t 9),none,0,[]⟩,
  ⟨some 6,.move (.t 22),none,1,[]⟩]) (RC.ret)) (RC.skip))) (RC.seq (RC.region 16 [
  ⟨some 23,.move (.t 7),none,0,[]⟩,
  ⟨some 24,.move (.t 0),none,1,[]⟩,
  ⟨some 25,.nilCheck (.t 24),none,2,[]⟩,
  ⟨some 26,.fieldAddr 0 (.t 25),none,3,[]⟩,
  ⟨some 27,.load none (.t 26),none,4,[]⟩,
  ⟨some 29,.move (.t 8),none,6,[]⟩,
  ⟨some 31,.move (.t 0),none,8,[]⟩,
  ⟨some 32,.nilCheck (.t 31),none,9,[]⟩,
  ⟨some 33,.fieldAddr 1 (.t 32),none,10,[]⟩,
  ⟨some 34,.load none (.t 33),none,11,[]⟩,
  ⟨some 28,.call F.clock_Clock_Up [(.t 27)],none,5,[⟨34,none,(.t 33),none⟩]⟩,
  ⟨some 30,.bin .add (.t 28) (.t 29),none,7,[]⟩,
  ⟨some 35,.bin .add (.t 30) (.t 34),none,12,[]⟩,
  ⟨some 36,.build [.bool false,.int .u64 0] [(0,1,(.c (.s (.bool true)))),(1,1,(.t 35))],none,13,[]⟩,
  ⟨some 37,.nilCheck (.t 23),none,14,[]⟩,
  ⟨none,.store 2 (.t 37) (.t 36),none,15,[]⟩]) (RC.seq (RC.region 1 [
  ⟨some 6,.move (.c (.s (.int .i64 0))),none,0,[]⟩]) (RC.ret))))))))
theorem cyc_Hands_Set_ok : chkFunc Go.Proofs.Tryz.prog [0] Go.Proofs.Tryz.f150 cyc_Hands_Set = true := by kernel_rfl
def cyc_Hands_Clear : RFunc := RFunc.mk 14 [.tmp 4] (
  RC.seq (RC.region 1 [
  ⟨some 4,.move (.c (.s (.int .i64 0))),none,0,[]⟩]) (RC.seq (RC.region 4 [
  ⟨some 6,.move (.t 0),none,0,[]⟩,
  ⟨some 7,.move (.t 1),none,1,[]⟩,
  ⟨some 8,.call F.cyc_Hands_alarm [(.t 6),(.t 7)],none,2,[]⟩,
  ⟨some 5,.move (.t 8),none,3,[]⟩]) (RC.seq (RC.seq (RC.region 2 [
  ⟨some 9,.move (.t 5),none,0,[]⟩,
  ⟨some 10,.eqs .ptr false (.t 9) (.c (.s (.ptr none))),none,1,[]⟩]) (RC.cond (.t 10) (RC.seq (RC.region 1 [
  ⟨some 4,.move (.c (.s (.int .i64 (-18)))),none,0,[]⟩]) (RC.ret)) (RC.skip))) (RC.seq (RC.region 4 [
  ⟨some 11,.move (.t 5),none,0,[]⟩,
  ⟨some 12,.build [.bool false,.int .u64 0] [],none,1,[]⟩,
  ⟨some 13,.nilCheck (.t 11),none,2,[]⟩,
  ⟨none,.store 2 (.t 13) (.t 12),none,3,[]⟩]) (RC.seq (RC.region 1 [
  ⟨some 4,.move (.c (.s (.int .i64 0))),none,0,[]⟩]) (RC.ret))))))
theorem cyc_Hands_Clear_ok : chkFunc Go.Proofs.Tryz.prog [0] Go.Proofs.Tryz.f151 cyc_Hands_Clear = true := by kernel_rfl
def kern_truth : RFunc := RFunc.mk 7 [.cell 2 (some 2)] (
  RC.seq (RC.region 1 [
  ⟨some 2,.newc [.int .i64 0,.int .i64 0],none,0,[]⟩]) (RC.seq (RC.seq (RC.region 1 [
  ⟨some 3,.move (.t 0),none,0,[]⟩]) (RC.cond (.t 3) (RC.seq (RC.region 3 [
  ⟨some 4,.buildSlice 1 1 [.int .i64 0] [(0,1,(.c (.s (.int .i64 1))))],none,0,[]⟩,
  ⟨some 5,.call F.kern_say [(.c (.s (.int .i64 0))),(.t 4)],none,1,[]⟩,
  ⟨none,.store 2 (.t 2) (.t 5),none,2,[]⟩]) (RC.ret)) (RC.skip))) (RC.seq (RC.region 2 [
  ⟨some 6,.call F.kern_say [(.c (.s (.int .i64 0))),(.c (.s (.slice none 0 0 1)))],none,0,[]⟩,
  ⟨none,.store 2 (.t 2) (.t 6),none,1,[]⟩]) (RC.ret))))
theorem kern_truth_ok : chkFunc Go.Proofs.Tryz.prog [0] Go.Proofs.Tryz.f152 kern_truth = true := by kernel_rfl
def ctx_state_In : RFunc := RFunc.mk 9 [.tmp 2] (
  RC.seq (RC.region 1 [
  ⟨some 2,.move (.c (.s (.bool false))),none,0,[]⟩]) (RC.seq (RC.region 7 [
  ⟨some 3,.move (.t 0),none,0,[]⟩,
  ⟨some 4,.nilCheck (.t 3),none,1,[]⟩,
  ⟨some 5,.fieldAddr 0 (.t 4),none,2,[]⟩,
  ⟨some 6,.load none (.t 5),none,3,[]⟩,
  ⟨some 7,.len (.t 6),none,4,[]⟩,
  ⟨some 8,.bin .gtr (.t 7) (.c (.s (.int .i64 0))),none,5,[]⟩,
  ⟨some 2,.move (.t 8),none,6,[]⟩]) (RC.ret)))
theorem ctx_state_In_ok : chkFunc Go.Proofs.Tryz.prog [0] Go.Proofs.Tryz.f153 ctx_state_In = true := by kernel_rfl
def ctx_state_Locked : RFunc := RFunc.mk 7 [.tmp 2] (
  RC.seq (RC.region 1 [
  ⟨some 2,.move (.c (.s (.bool false))),none,0,[]⟩]) (RC.seq (RC.region 5 [
  ⟨some 3,.move (.t 0),none,0,[]⟩,
  ⟨some 4,.nilCheck (.t 3),none,1,[]⟩,
  ⟨some 5,.fieldAddr 1 (.t 4),none,2,[]⟩,
  ⟨some 6,.load none (.t 5),none,3,[]⟩,
  ⟨some 2,.move (.t 6),none,4,[]⟩]) (RC.ret)))
theorem ctx_state_Locked_ok : chkFunc Go.Proofs.Tryz.prog [0] Go.Proofs.Tryz.f154 ctx_state_Locked = true := by kernel_rfl
def ctx_state_Disabled : RFunc := RFunc.mk 7 [.tmp 2] (
  RC.seq (RC.region 1 [
  ⟨some 2,.move (.c (.s (.bool false))),none,0,[]⟩]) (RC.seq (RC.region 5 [
  ⟨some 3,.move (.t 0),none,0,[]⟩,
  ⟨some 4,.nilCheck (.t 3),none,1,[]⟩,
  ⟨some 5,.fieldAddr 2 (.t 4),none,2,[]⟩,
  ⟨some 6,.load none (.t 5),none,3,[]⟩,
  ⟨some 2,.move (.t 6),none,4,[]⟩]) (RC.ret)))
theorem ctx_state_Disabled_ok : chkFunc Go.Proofs.Tryz.prog [0] Go.Proofs.Tryz.f155 ctx_state_Disabled = true := by kernel_rfl
def bits_Map_First : RFunc := RFunc.mk 8 [.tmp 2,.tmp 3] (
  RC.seq (RC.region 2 [
  ⟨some 2,.move (.c (.s (.int .i64 0))),none,0,[]⟩,
  ⟨some 3,.move (.c (.s (.bool false))),none,1,[]⟩]) (RC.seq (RC.region 6 [
  ⟨some 4,.move (.t 0),none,0,[]⟩,
  ⟨some 5,.call F.bits_Map_After [(.t 4),(.c (.s (.int .i64 0)))],none,1,[]⟩,
  ⟨some 6,.extract 0 (.t 5),none,2,[]⟩,
  ⟨some 7,.extract 1 (.t 5),none,3,[]⟩,
  ⟨some 2,.move (.t 6),none,4,[]⟩,
  ⟨some 3,.move (.t 7),none,5,[]⟩]) (RC.ret)))
theorem bits_Map_First_ok : chkFunc Go.Proofs.Tryz.prog [0] Go.Proofs.Tryz.f243 bits_Map_First = true := by kernel_rfl
def heap_Timers_Due_l0 : RC :=
  RC.seq (RC.seq (RC.region 17 [
  ⟨some 6,.move (.t 0),none,0,[]⟩,
  ⟨some 7,.nilCheck (.t 6),none,1,[]⟩,
  ⟨some 8,.fieldAddr 0 (.t 7),none,2,[]⟩,
  ⟨some 9,.load none (.t 8),none,3,[]⟩,
  ⟨some 10,.len (.t 9),none,4,[]⟩,
  ⟨some 11,.bin .gtr (.t 10) (.c (.s (.int .i64 0))),none,5,[]⟩,
  ⟨some 12,.move (.t 11),none,6,[]⟩,
  ⟨some 13,.move (.t 0),(some (12,true)),7,[]⟩,
  ⟨some 14,.nilCheck (.t 13),(some (12,true)),8,[]⟩,
  ⟨some 15,.fieldAddr 0 (.t 14),(some (12,true)),9,[]⟩,
  ⟨some 16,.load none (.t 15),(some (12,true)),10,[]⟩,
  ⟨some 17,.indexSl 3 (.t 16) (.c (.s (.int .i64 0))),(some (12,true)),11,[]⟩,
  ⟨some 18,.fieldAddr 0 (.t 17),(some (12,true)),12,[]⟩,
  ⟨some 19,.load none (.t 18),(some (12,true)),13,[]⟩,
  ⟨some 20,.move (.t 1),(some (12,true)),14,[]⟩,
  ⟨some 21,.bin .leq (.t 19) (.t 20),(some (12,true)),15,[]⟩,
  ⟨some 22,.pick (.t 12) (.t 21) (.c (.s (.bool false))),none,16,[]⟩]) (RC.cond (.t 22) (RC.skip) (RC.exit 0))) (RC.block 1 (RC.seq (RC.region 11 [
  ⟨some 23,.move (.t 5),none,0,[]⟩,
  ⟨some 24,.move (.t 0),none,1,[]⟩,
  ⟨some 25,.nilCheck (.t 24),none,2,[]⟩,
  ⟨some 26,.fieldAddr 0 (.t 25),none,3,[]⟩,
  ⟨some 27,.load none (.t 26),none,4,[]⟩,
  ⟨some 28,.indexSl 3 (.t 27) (.c (.s (.int .i64 0))),none,5,[]⟩,
  ⟨some 29,.fieldAddr 2 (.t 28),none,6,[]⟩,
  ⟨some 30,.load none (.t 29),none,7,[]⟩,
  ⟨some 31,.buildSlice 1 1 [.int .i64 0] [(0,1,(.t 30))],none,8,[]⟩,
  ⟨some 32,.append 1 8 (.t 23) (.t 31),none,9,[]⟩,
  ⟨some 5,.move (.t 32),none,10,[]⟩]) (RC.region 2 [
  ⟨some 33,.move (.t 0),none,0,[]⟩,
  ⟨some 34,.call F.heap_Timers_remove [(.t 33),(.c (.s (.int .i64 0)))],none,1,[]⟩])))
def heap_Timers_Due_s1 : RC :=
  RC.seq (RC.region 2 [
  ⟨some 35,.move (.t 5),none,0,[]⟩,
  ⟨some 4,.move (.t 35),none,1,[]⟩]) (RC.ret)
def heap_Timers_Due : RFunc := RFunc.mk 36 [.tmp 4] (
  RC.seq (RC.region 1 [
  ⟨some 4,.move (.c (.s (.slice none 0 0 1))),none,0,[]⟩]) (RC.seq (RC.region 1 [
  ⟨some 5,.move (.c (.s (.slice none 0 0 1))),none,0,[]⟩]) (RC.seq (RC.block 0 (RC.loop R.heap_Timers_Due_l0)) R.heap_Timers_Due_s1)))
theorem heap_Timers_Due_ok : chkFunc Go.Proofs.Tryz.prog [0] Go.Proofs.Tryz.f244 heap_Timers_Due = true := by kernel_rfl
def slices_stableCmpFunc_cyc_Fired_l0 : RC :=
  RC.seq (RC.seq (RC.region 3 [
  ⟨some 11,.move (.t 8),none,0,[]⟩,
  ⟨some 12,.move (.t 1),none,1,[]⟩,
  ⟨some 13,.bin .leq (.t 11) (.t 12),none,2,[]⟩]) (RC.cond (.t 13) (RC.skip) (RC.exit 0))) (RC.block 1 (RC.seq (RC.region 5 [
  ⟨some 14,.move (.t 0),none,0,[]⟩,
  ⟨some 15,.move (.t 7),none,1,[]⟩,
  ⟨some 16,.move (.t 8),none,2,[]⟩,
  ⟨some 17,.move (.t 2),none,3,[]⟩,
  ⟨some 18,.call F.slices_insertionSortCmpFunc_cyc_Fired [(.t 14),(.t 15),(.t 16),(.t 17)],none,4,[]⟩]) (RC.seq (RC.region 2 [
  ⟨some 19,.move (.t 8),none,0,[]⟩,
  ⟨some 7,.move (.t 19),none,1,[]⟩]) (RC.region 4 [
  ⟨some 20,.move (.t 8),none,0,[]⟩,
  ⟨some 21,.move (.t 6),none,1,[]⟩,
  ⟨some 22,.bin .add (.t 20) (.t 21),none,2,[]⟩,
  ⟨some 8,.move (.t 22),none,3,[]⟩]))))
def slices_stableCmpFunc_cyc_Fired_l1 : RC :=
  RC.seq (RC.seq (RC.region 3 [
  ⟨some 33,.move (.t 8),none,0,[]⟩,
  ⟨some 34,.move (.t 1),none,1,[]⟩,
  ⟨some 35,.bin .leq (.t 33) (.t 34),none,2,[]⟩]) (RC.cond (.t 35) (RC.skip) (RC.exit 4))) (RC.block 5 (RC.seq (RC.region 8 [
  ⟨some 36,.move (.t 0),none,0,[]⟩,
  ⟨some 37,.move (.t 7),none,1,[]⟩,
  ⟨some 38,.move (.t 7),none,2,[]⟩,
  ⟨some 39,.move (.t 6),none,3,[]⟩,
  ⟨some 40,.bin .add (.t 38) (.t 39),none,4,[]⟩,
  ⟨some 41,.move (.t 8),none,5,[]⟩,
  ⟨some 42,.move (.t 2),none,6,[]⟩,
  ⟨some 43,.call F.slices_symMergeCmpFunc_cyc_Fired [(.t 36),(.t 37),(.t 40),(.t 41),(.t 42)],none,7,[]⟩]) (RC.seq (RC.region 2 [
  ⟨some 44,.move (.t 8),none,0,[]⟩,
  ⟨some 7,.move (.t 44),none,1,[]⟩]) (RC.region 5 [
  ⟨some 45,.move (.t 8),none,0,[]⟩,
  ⟨some 46,.move (.t 6),none,1,[]⟩,
  ⟨some 47,.bin .mul (.c (.s (.int .i64 2))) (.t 46),none,2,[]⟩,
  ⟨some 48,.bin .add (.t 45) (.t 47),none,3,[]⟩,
  ⟨some 8,.move (.t 48),none,4,[]⟩]))))
def slices_stableCmpFunc_cyc_Fired_s2 : RC :=
  RC.seq (RC.seq (RC.region 4 [
  ⟨some 49,.move (.t 7),none,0,[]⟩,
  ⟨some 50,.move (.t 6),none,1,[]⟩,
  ⟨some 51,.bin .add (.t 49) (.t 50),none,2,[]⟩,
  ⟨some 9,.move (.t 51),none,3,[]⟩]) (RC.seq (RC.region 3 [
  ⟨some 52,.move (.t 9),none,0,[]⟩,
  ⟨some 53,.move (.t 1),none,1,[]⟩,
  ⟨some 54,.bin .lss (.t 52) (.t 53),none,2,[]⟩]) (RC.cond (.t 54) (RC.region 6 [
  ⟨some 55,.move (.t 0),none,0,[]⟩,
  ⟨some 56,.move (.t 7),none,1,[]⟩,
  ⟨some 57,.move (.t 9),none,2,[]⟩,
  ⟨some 58,.move (.t 1),none,3,[]⟩,
  ⟨some 59,.move (.t 2),none,4,[]⟩,
  ⟨some 60,.call F.slices_symMergeCmpFunc_cyc_Fired [(.t 55),(.t 56),(.t 57),(.t 58),(.t 59)],none,5,[]⟩]) (RC.skip)))) (RC.region 3 [
  ⟨some 61,.move (.t 6),none,0,[]⟩,
  ⟨some 62,.bin .mul (.t 61) (.c (.s (.int .i64 2))),none,1,[]⟩,
  ⟨some 6,.move (.t 62),none,2,[]⟩])
def slices_stableCmpFunc_cyc_Fired_l3 : RC :=
  RC.seq (RC.seq (RC.region 3 [
  ⟨some 28,.move (.t 6),none,0,[]⟩,
  ⟨some 29,.move (.t 1),none,1,[]⟩,
  ⟨some 30,.bin .lss (.t 28) (.t 29),none,2,[]⟩]) (RC.cond (.t 30) (RC.skip) (RC.exit 2))) (RC.block 3 (RC.seq (RC.region 4 [
  ⟨some 31,.move (.t 6),none,0,[]⟩,
  ⟨some 32,.bin .mul (.c (.s (.int .i64 2))) (.t 31),none,1,[]⟩,
  ⟨some 7,.move (.c (.s (.int .i64 0))),none,2,[]⟩,
  ⟨some 8,.move (.t 32),none,3,[]⟩]) (RC.seq (RC.block 4 (RC.loop R.slices_stableCmpFunc_cyc_Fired_l1)) R.slices_stableCmpFunc_cyc_Fired_s2)))
def slices_stableCmpFunc_cyc_Fired_s4 : RC :=
  RC.seq (RC.region 5 [
  ⟨some 23,.move (.t 0),none,0,[]⟩,
  ⟨some 24,.move (.t 7),none,1,[]⟩,
  ⟨some 25,.move (.t 1),none,2,[]⟩,
  ⟨some 26,.move (.t 2),none,3,[]⟩,
  ⟨some 27,.call F.slices_insertionSortCmpFunc_cyc_Fired [(.t 23),(.t 24),(.t 25),(.t 26)],none,4,[]⟩]) (RC.block 2 (RC.loop R.slices_stableCmpFunc_cyc_Fired_l3))
def slices_stableCmpFunc_cyc_Fired : RFunc := RFunc.mk 63 [] (
  RC.seq (RC.region 1 [
  ⟨some 6,.move (.c (.s (.int .i64 20))),none,0,[]⟩]) (RC.seq (RC.region 3 [
  ⟨some 10,.move (.t 6),none,0,[]⟩,
  ⟨some 7,.move (.c (.s (.int .i64 0))),none,1,[]⟩,
  ⟨some 8,.move (.t 10),none,2,[]⟩]) (RC.seq (RC.block 0 (RC.loop R.slices_stableCmpFunc_cyc_Fired_l0)) R.slices_stableCmpFunc_cyc_Fired_s4)))
theorem slices_stableCmpFunc_cyc_Fired_ok : chkFunc Go.Proofs.Tryz.prog [0] Go.Proofs.Tryz.f245 slices_stableCmpFunc_cyc_Fired = true := by kernel_rfl
def cmp_Compare_uint64 : RFunc := RFunc.mk 20 [.tmp 4] (
  RC.seq (RC.region 1 [
  ⟨some 4,.move (.c (.s (.int .i64 0))),none,0,[]⟩]) (RC.seq (RC.region 3 [
  ⟨some 7,.move (.t 0),none,0,[]⟩,
  ⟨some 8,.call F.cmp_isNaN_uint64 [(.t 7)],none,1,[]⟩,
  ⟨some 5,.move (.t 8),none,2,[]⟩]) (RC.seq (RC.region 3 [
  ⟨some 9,.move (.t 1),none,0,[]⟩,
  ⟨some 10,.call F.cmp_isNaN_uint64 [(.t 9)],none,1,[]⟩,
  ⟨some 6,.move (.t 10),none,2,[]⟩]) (RC.seq (RC.seq (RC.region 1 [
  ⟨some 11,.move (.t 5),none,0,[]⟩]) (RC.cond (.t 11) (RC.seq (RC.seq (RC.region 1 [
  ⟨some 12,.move (.t 6),none,0,[]⟩]) (RC.cond (.t 12) (RC.seq (RC.region 1 [
  ⟨some 4,.move (.c (.s (.int .i64 0))),none,0,[]⟩]) (RC.ret)) (RC.skip))) (RC.seq (RC.region 1 [
  ⟨some 4,.move (.c (.s (.int .i64 (-1)))),none,0,[]⟩]) (RC.ret))) (RC.skip))) (RC.seq (RC.seq (RC.region 1 [
  ⟨some 13,.move (.t 6),none,0,[]⟩]) (RC.cond (.t 13) (RC.seq (RC.region 1 [
  ⟨some 4,.move (.c (.s (.int .i64 1))),none,0,[]⟩]) (RC.ret)) (RC.skip))) (RC.seq (RC.seq (RC.region 3 [
  ⟨some 14,.move (.t 0),none,0,[]⟩,
  ⟨some 15,.move (.t 1),none,1,[]⟩,
  ⟨some 16,.bin .lss (.t 14) (.t 15),none,2,[]⟩]) (RC.cond (.t 16) (RC.seq (RC.region 1 [
  ⟨some 4,.move (.c (.s (.int .i64 (-1)))),none,0,[]⟩]) (RC.ret)) (RC.skip))) (RC.seq (RC.seq (RC.region 3 [
  ⟨some 17,.move (.t 0),none,0,[]⟩,
  ⟨some 18,.move (.t 1),none,1,[]⟩,
  ⟨some 19,.bin .gtr (.t 17) (.t 18),none,2,[]⟩]) (RC.cond (.t 19) (RC.seq (RC.region 1 [
  ⟨some 4,.move (.c (.s (.int .i64 1))),none,0,[]⟩]) (RC.ret)) (RC.skip))) (RC.seq (RC.region 1 [
  ⟨some 4,.move (.c (.s (.int .i64 0))),none,0,[]⟩]) (RC.ret)))))))))
theorem cmp_Compare_uint64_ok : chkFunc Go.Proofs.Tryz.prog [0] Go.Proofs.Tryz.f246 cmp_Compare_uint64 = true := by kernel_rfl
def cmp_Compare_int : RFunc := RFunc.mk 20 [.tmp 4] (
  RC.seq (RC.region 1 [
  ⟨some 4,.move (.c (.s (.int .i64 0))),none,0,[]⟩]) (RC.seq (RC.region 3 [
  ⟨some 7,.move (.t 0),none,0,[]⟩,
  ⟨some 8,.call F.cmp_isNaN_int [(.t 7)],none,1,[]⟩,
  ⟨some 5,.move (.t 8),none,2,[]⟩]) (RC.seq (RC.region 3 [
  ⟨some 9,.move (.t 1),none,0,[]⟩,
  ⟨some 10,.call F.cmp_isNaN_int [(.t 9)],none,1,[]⟩,
  ⟨some 6,.move (.t 10),none,2,[]⟩]) (RC.seq (RC.seq (RC.region 1 [
  ⟨some 11,.move (.t 5),none,0,[]⟩]) (RC.cond (.t 11) (RC.seq (RC.seq (RC.region 1 [
  ⟨some 12,.move (.t 6),none,0,[]⟩]) (RC.cond (.t 12) (RC.seq (RC.region 1 [
  ⟨some 4,.move (.c (.s (.int .i64 0))),none,0,[]⟩]) (RC.ret)) (RC.skip))) (RC.seq (RC.region 1 [
  ⟨some 4,.move (.c (.s (.int .i64 (-1)))),none,0,[]⟩]) (RC.ret))) (RC.skip))) (RC.seq (RC.seq (RC.region 1 [
  ⟨some 13,.move (.t 6),none,0,[]⟩]) (RC.cond (.t 13) (RC.seq (RC.region 1 [
  ⟨some 4,.move (.c (.s (.int .i64 1))),none,0,[]⟩]) (RC.ret)) (RC.skip))) (RC.seq (RC.seq (RC.region 3 [
  ⟨some 14,.move (.t 0),none,0,[]⟩,
  ⟨some 15,.move (.t 1),none,1,[]⟩,
  ⟨some 16,.bin .lss (.t 14) (.t 15),none,2,[]⟩]) (RC.cond (.t 16) (RC.seq (RC.region 1 [
  ⟨some 4,.move (.c (.s (.int .i64 (-1)))),none,0,[]⟩]) (RC.ret)) (RC.skip))) (RC.seq (RC.seq (RC.region 3 [
  ⟨some 17,.move (.t 0),none,0,[]⟩,
  ⟨some 18,.move (.t 1),none,1,[]⟩,
  ⟨some 19,.bin .gtr (.t 17) (.t 18),none,2,[]⟩]) (RC.cond (.t 19) (RC.seq (RC.region 1 [
  ⟨some 4,.move (.c (.s (.int .i64 1))),none,0,[]⟩]) (RC.ret)) (RC.skip))) (RC.seq (RC.region 1 [
  ⟨some 4,.move (.c (.s (.int .i64 0))),none,0,[]⟩]) (RC.ret)))))))))
theorem cmp_Compare_int_ok : chkFunc Go.Proofs.Tryz.prog [0] Go.Proofs.Tryz.f247 cmp_Compare_int = true := by kernel_rfl
def slices_Delete__order_Item_order_Item : RFunc := RFunc.mk 33 [.tmp 6] (
  RC.seq (RC.region 1 [
  ⟨some 6,.move (.c (.s (.slice none 0 0 1))),none,0,[]⟩]) (RC.seq (RC.region 6 [
  ⟨some 8,.move (.t 0),none,0,[]⟩,
  ⟨some 9,.move (.t 1),none,1,[]⟩,
  ⟨some 10,.move (.t 2),none,2,[]⟩,
  ⟨some 11,.move (.t 0),none,3,[]⟩,
  ⟨some 12,.len (.t 11),none,4,[]⟩,
  ⟨some 13,.slSl 2 (.t 8) (some (.t 9)) (some (.t 10)) (some (.t 12)),none,5,[]⟩]) (RC.seq (RC.seq (RC.region 3 [
  ⟨some 14,.move (.t 1),none,0,[]⟩,
  ⟨some 15,.move (.t 2),none,1,[]⟩,
  ⟨some 16,.bin .eql (.t 14) (.t 15),none,2,[]⟩]) (RC.cond (.t 16) (RC.seq (RC.region 2 [
  ⟨some 17,.move (.t 0),none,0,[]⟩,
  ⟨some 6,.move (.t 17),none,1,[]⟩]) (RC.ret)) (RC.skip))) (RC.seq (RC.region 3 [
  ⟨some 18,.move (.t 0),none,0,[]⟩,
  ⟨some 19,.len (.t 18),none,1,[]⟩,
  ⟨some 7,.move (.t 19),none,2,[]⟩]) (RC.seq (RC.region 8 [
  ⟨some 20,.move (.t 0),none,0,[]⟩,
  ⟨some 21,.move (.t 1),none,1,[]⟩,
  ⟨some 22,.slSl 2 (.t 20) none (some (.t 21)) none,none,2,[]⟩,
  ⟨some 23,.move (.t 0),none,3,[]⟩,
  ⟨some 24,.move (.t 2),none,4,[]⟩,
  ⟨some 25,.slSl 2 (.t 23) (some (.t 24)) none none,none,5,[]⟩,
  ⟨some 26,.append 2 16 (.t 22) (.t 25),none,6,[]⟩,
  ⟨some 0,.move (.t 26),none,7,[]⟩]) (RC.seq (RC.region 6 [
  ⟨some 27,.move (.t 0),none,0,[]⟩,
  ⟨some 28,.move (.t 0),none,1,[]⟩,
  ⟨some 29,.len (.t 28),none,2,[]⟩,
  ⟨some 30,.move (.t 7),none,3,[]⟩,
  ⟨some 31,.slSl 2 (.t 27) (some (.t 29)) (some (.t 30)) none,none,4,[]⟩,
  ⟨none,.clear 2 [.int .i64 0,.int .i64 0] (.t 31),none,5,[]⟩]) (RC.seq (RC.region 2 [
  ⟨some 32,.move (.t 0),none,0,[]⟩,
  ⟨some 6,.move (.t 32),none,1,[]⟩]) (RC.ret))))))))
theorem slices_Delete__order_Item_order_Item_ok : chkFunc Go.Proofs.Tryz.prog [0] Go.Proofs.Tryz.f249 slices_Delete__order_Item_order_Item = true := by kernel_rfl
def slices_DeleteFunc__int_int_l0 : RC :=
  RC.seq (RC.seq (RC.region 4 [
  ⟨some 16,.move (.t 6),none,0,[]⟩,
  ⟨some 17,.move (.t 0),none,1,[]⟩,
  ⟨some 18,.len (.t 17),none,2,[]⟩,
  ⟨some 19,.bin .lss (.t 16) (.t 18),none,3,[]⟩]) (RC.cond (.t 19) (RC.skip) (RC.exit 0))) (RC.seq (RC.block 1 (RC.seq (RC.region 5 [
  ⟨some 22,.move (.t 0),none,0,[]⟩,
  ⟨some 23,.move (.t 6),none,1,[]⟩,
  ⟨some 24,.indexSl 1 (.t 22) (.t 23),none,2,[]⟩,
  ⟨some 25,.load none (.t 24),none,3,[]⟩,
  ⟨some 7,.move (.t 25),none,4,[]⟩]) (RC.seq (RC.region 4 [
  ⟨some 26,.move (.t 1),none,0,[]⟩,
  ⟨some 27,.move (.t 7),none,1,[]⟩,
  ⟨some 28,.callv (.t 26) [(.t 27)],none,2,[]⟩,
  ⟨some 29,.un .not (.t 28),none,3,[]⟩]) (RC.cond (.t 29) (RC.seq (RC.region 5 [
  ⟨some 30,.move (.t 0),none,0,[]⟩,
  ⟨some 31,.move (.t 5),none,1,[]⟩,
  ⟨some 32,.move (.t 7),none,2,[]⟩,
  ⟨some 33,.indexSl 1 (.t 30) (.t 31),none,3,[]⟩,
  ⟨none,.store 1 (.t 33) (.t 32),none,4,[]⟩]) (RC.region 3 [
  ⟨some 34,.move (.t 5),none,0,[]⟩,
  ⟨some 35,.bin .add (.t 34) (.c (.s (.int .i64 1))),none,1,[]⟩,
  ⟨some 5,.move (.t 35),none,2,[]⟩])) (RC.skip))))) (RC.region 3 [
  ⟨some 20,.move (.t 6),none,0,[]⟩,
  ⟨some 21,.bin .add (.t 20) (.c (.s (.int .i64 1))),none,1,[]⟩,
  ⟨some 6,.move (.t 21),none,2,[]⟩]))
def slices_DeleteFunc__int_int_s1 : RC :=
  RC.seq (RC.region 4 [
  ⟨some 36,.move (.t 0),none,0,[]⟩,
  ⟨some 37,.move (.t 5),none,1,[]⟩,
  ⟨some 38,.slSl 1 (.t 36) (some (.t 37)) none none,none,2,[]⟩,
  ⟨none,.clear 1 [.int .i64 0] (.t 38),none,3,[]⟩]) (RC.seq (RC.region 4 [
  ⟨some 39,.move (.t 0),none,0,[]⟩,
  ⟨some 40,.move (.t 5),none,1,[]⟩,
  ⟨some 41,.slSl 1 (.t 39) none (some (.t 40)) none,none,2,[]⟩,
  ⟨some 4,.move (.t 41),none,3,[]⟩]) (RC.ret))
def slices_DeleteFunc__int_int : RFunc := RFunc.mk 42 [.tmp 4] (
  RC.seq (RC.region 1 [
  ⟨some 4,.move (.c (.s (.slice none 0 0 1))),none,0,[]⟩]) (RC.seq (RC.region 4 [
  ⟨some 8,.move (.t 0),none,0,[]⟩,
  ⟨some 9,.move (.t 1),none,1,[]⟩,
  ⟨some 10,.call F.slices_IndexFunc__int_int [(.t 8),(.t 9)],none,2,[]⟩,
  ⟨some 5,.move (.t 10),none,3,[]⟩]) (RC.seq (RC.seq (RC.region 2 [
  ⟨some 11,.move (.t 5),none,0,[]⟩,
  ⟨some 12,.bin .eql (.t 11) (.c (.s (.int .i64 (-1)))),none,1,[]⟩]) (RC.cond (.t 12) (RC.seq (RC.region 2 [
  ⟨some 13,.move (.t 0),none,0,[]⟩,
  ⟨some 4,.move (.t 13),none,1,[]⟩]) (RC.ret)) (RC.skip))) (RC.seq (RC.seq (RC.region 3 [
  ⟨some 14,.move (.t 5),none,0,[]⟩,
  ⟨some 15,.bin .add (.t 14) (.c (.s (.int .i64 1))),none,1,[]⟩,
  ⟨some 6,.move (.t 15),none,2,[]⟩]) (RC.block 0 (RC.loop R.slices_DeleteFunc__int_int_l0))) R.slices_DeleteFunc__int_int_s1))))
theorem slices_DeleteFunc__int_int_ok : chkFunc Go.Proofs.Tryz.prog [0] Go.Proofs.Tryz.f250 slices_DeleteFunc__int_int = true := by kernel_rfl
def mtx_All_Drop_1 : RFunc := RFunc.mk 7 [.tmp 3] (
  RC.seq (RC.region 1 [
  ⟨some 3,.move (.c (.s (.bool false))),none,0,[]⟩]) (RC.seq (RC.region 4 [
  ⟨some 4,.move (.t 0),none,0,[]⟩,
  ⟨some 5,.load none (.t 1),none,1,[]⟩,
  ⟨some 6,.bin .eql (.t 4) (.t 5),none,2,[]⟩,
  ⟨some 3,.move (.t 6),none,3,[]⟩]) (RC.ret)))
theorem mtx_All_Drop_1_ok : chkFunc Go.Proofs.Tryz.prog [0] Go.Proofs.Tryz.f251 mtx_All_Drop_1 = true := by kernel_rfl
def kern_Kernel_forget : RFunc := RFunc.mk 36 [] (
  RC.seq (RC.region 8 [
  ⟨some 5,.move (.t 0),none,0,[]⟩,
  ⟨some 6,.nilCheck (.t 5),none,1,[]⟩,
  ⟨some 7,.fieldAddr 9 (.t 6),none,2,[]⟩,
  ⟨some 8,.load none (.t 7),none,3,[]⟩,
  ⟨some 9,.move (.t 1),none,4,[]⟩,
  ⟨some 10,.indexSl 1 (.t 8) (.t 9),none,5,[]⟩,
  ⟨some 11,.load none (.t 10),none,6,[]⟩,
  ⟨some 4,.move (.t 11),none,7,[]⟩]) (RC.seq (RC.region 15 [
  ⟨some 12,.move (.t 0),none,0,[]⟩,
  ⟨some 13,.nilCheck (.t 12),none,1,[]⟩,
  ⟨some 14,.fieldAddr 7 (.t 13),none,2,[]⟩,
  ⟨some 15,.load none (.t 14),none,3,[]⟩,
  ⟨some 16,.nilCheck (.t 15),none,4,[]⟩,
  ⟨some 17,.fieldAddr 0 (.t 16),none,5,[]⟩,
  ⟨some 18,.load none (.t 17),none,6,[]⟩,
  ⟨some 19,.nilCheck (.t 18),none,7,[]⟩,
  ⟨some 20,.fieldAddr 0 (.t 19),none,8,[]⟩,
  ⟨some 21,.load none (.t 20),none,9,[]⟩,
  ⟨some 22,.move (.t 4),none,10,[]⟩,
  ⟨some 23,.nilCheck (.t 22),none,11,[]⟩,
  ⟨some 24,.fieldAddr 5 (.t 23),none,12,[]⟩,
  ⟨some 25,.load none (.t 24),none,13,[]⟩,
  ⟨some 26,.call F.heap_Timers_Cancel [(.t 21),(.t 25)],none,14,[]⟩]) (RC.region 12 [
  ⟨some 27,.move (.t 4),none,0,[]⟩,
  ⟨some 28,.move (.t 4),none,1,[]⟩,
  ⟨some 29,.move (.t 4),none,2,[]⟩,
  ⟨some 30,.nilCheck (.t 27),none,3,[]⟩,
  ⟨some 31,.fieldAddr 3 (.t 30),none,4,[]⟩,
  ⟨none,.store 1 (.t 31) (.c (.s (.int .i64 0))),none,5,[]⟩,
  ⟨some 32,.nilCheck (.t 28),none,6,[]⟩,
  ⟨some 33,.fieldAddr 4 (.t 32),none,7,[]⟩,
  ⟨none,.store 1 (.t 33) (.c (.s (.int .i64 0))),none,8,[]⟩,
  ⟨some 34,.nilCheck (.t 29),none,9,[]⟩,
  ⟨some 35,.fieldAddr 5 (.t 34),none,10,[]⟩,
  ⟨none,.store 1 (.t 35) (.c (.s (.int .i64 0))),none,11,[]⟩])))
theorem kern_Kernel_forget_ok : chkFunc Go.Proofs.Tryz.prog [0] Go.Proofs.Tryz.f218 kern_Kernel_forget = true := by kernel_rfl
def ready_Queue_Remove : RFunc := RFunc.mk 67 [.tmp 4] (
  RC.seq (RC.region 1 [
  ⟨some 4,.move (.c (.s (.bool false))),none,0,[]⟩]) (RC.seq (RC.seq (RC.region 12 [
  ⟨some 7,.move (.t 1),none,0,[]⟩,
  ⟨some 8,.call F.ready_task [(.t 7)],none,1,[]⟩,
  ⟨some 9,.un .not (.t 8),none,2,[]⟩,
  ⟨some 10,.move (.t 9),none,3,[]⟩,
  ⟨some 11,.move (.t 0),(some (10,false)),4,[]⟩,
  ⟨some 12,.move (.t 1),(some (10,false)),5,[]⟩,
  ⟨some 13,.nilCheck (.t 11),(some (10,false)),6,[]⟩,
  ⟨some 14,.fieldAddr 21 (.t 13),(some (10,false)),7,[]⟩,
  ⟨some 15,.indexArr 17 1 (.t 14) (.t 12),(some (10,false)),8,[]⟩,
  ⟨some 16,.load none (.t 15),(some (10,false)),9,[]⟩,
  ⟨some 17,.bin .eql (.t 16) (.c (.s (.int .i64 0))),(some (10,false)),10,[]⟩,
  ⟨some 18,.pick (.t 10) (.c (.s (.bool true))) (.t 17),none,11,[]⟩]) (RC.cond (.t 18) (RC.seq (RC.region 1 [
  ⟨some 4,.move (.c (.s (.bool false))),none,0,[]⟩]) (RC.ret)) (RC.skip))) (RC.seq (RC.region 7 [
  ⟨some 19,.move (.t 0),none,0,[]⟩,
  ⟨some 20,.move (.t 1),none,1,[]⟩,
  ⟨some 21,.nilCheck (.t 19),none,2,[]⟩,
  ⟨some 22,.fieldAddr 21 (.t 21),none,3,[]⟩,
  ⟨some 23,.indexArr 17 1 (.t 22) (.t 20),none,4,[]⟩,
  ⟨some 24,.load none (.t 23),none,5,[]⟩,
  ⟨some 5,.move (.t 24),none,6,[]⟩]) (RC.seq (RC.region 9 [
  ⟨some 25,.move (.t 0),none,0,[]⟩,
  ⟨some 26,.move (.t 5),none,1,[]⟩,
  ⟨some 27,.nilCheck (.t 25),none,2,[]⟩,
  ⟨some 28,.fieldAddr 4 (.t 27),none,3,[]⟩,
  ⟨some 29,.indexArr 17 1 (.t 28) (.t 26),none,4,[]⟩,
  ⟨some 30,.load none (.t 29),none,5,[]⟩,
  ⟨some 31,.move (.t 1),none,6,[]⟩,
  ⟨some 32,.call F.slices_Index__int_int [(.t 30),(.t 31)],none,7,[]⟩,
  ⟨some 6,.move (.t 32),none,8,[]⟩]) (RC.seq (RC.region 16 [
  ⟨some 33,.move (.t 0),none,0,[]⟩,
  ⟨some 34,.move (.t 5),none,1,[]⟩,
  ⟨some 35,.move (.t 0),none,2,[]⟩,
  ⟨some 36,.move (.t 5),none,3,[]⟩,
  ⟨some 37,.nilCheck (.t 35),none,4,[]⟩,
  ⟨some 38,.fieldAddr 4 (.t 37),none,5,[]⟩,
  ⟨some 39,.indexArr 17 1 (.t 38) (.t 36),none,6,[]⟩,
  ⟨some 40,.load none (.t 39),none,7,[]⟩,
  ⟨some 41,.move (.t 6),none,8,[]⟩,
  ⟨some 42,.move (.t 6),none,9,[]⟩,
  ⟨some 43,.bin .add (.t 42) (.c (.s (.int .i64 1))),none,10,[]⟩,
  ⟨some 45,.nilCheck (.t 33),none,12,[]⟩,
  ⟨some 46,.fieldAddr 4 (.t 45),none,13,[]⟩,
  ⟨some 44,.call F.slices_Delete__int_int [(.t 40),(.t 41),(.t 43)],none,11,[]⟩,
  ⟨some 47,.indexArr 17 1 (.t 46) (.t 34),none,14,[]⟩,
  ⟨none,.store 1 (.t 47) (.t 44),none,15,[]⟩]) (RC.seq (RC.region 6 [
  ⟨some 48,.move (.t 0),none,0,[]⟩,
  ⟨some 49,.move (.t 1),none,1,[]⟩,
  ⟨some 50,.nilCheck (.t 48),none,2,[]⟩,
  ⟨some 51,.fieldAddr 21 (.t 50),none,3,[]⟩,
  ⟨some 52,.indexArr 17 1 (.t 51) (.t 49),none,4,[]⟩,
  ⟨none,.store 1 (.t 52) (.c (.s (.int .i64 0))),none,5,[]⟩]) (RC.seq (RC.seq (RC.region 8 [
  ⟨some 53,.move (.t 0),none,0,[]⟩,
  ⟨some 54,.move (.t 5),none,1,[]⟩,
  ⟨some 55,.nilCheck (.t 53),none,2,[]⟩,
  ⟨some 56,.fieldAddr 4 (.t 55),none,3,[]⟩,
  ⟨some 57,.indexArr 17 1 (.t 56) (.t 54),none,4,[]⟩,
  ⟨some 58,.load none (.t 57),none,5,[]⟩,
  ⟨some 59,.len (.t 58),none,6,[]⟩,
  ⟨some 60,.bin .eql (.t 59) (.c (.s (.int .i64 0))),none,7,[]⟩]) (RC.cond (.t 60) (RC.region 6 [
  ⟨some 61,.move (.t 0),none,0,[]⟩,
  ⟨some 62,.nilCheck (.t 61),none,1,[]⟩,
  ⟨some 63,.fieldAddr 0 (.t 62),none,2,[]⟩,
  ⟨some 64,.move (.t 5),none,3,[]⟩,
  ⟨some 65,.buildSlice 1 1 [.int .i64 0] [(0,1,(.t 64))],none,4,[]⟩,
  ⟨some 66,.call F.bits_Map_Clear [(.t 63),(.t 65)],none,5,[]⟩]) (RC.skip))) (RC.seq (RC.region 1 [
  ⟨some 4,.move (.c (.s (.bool true))),none,0,[]⟩]) (RC.ret)))))))))
theorem ready_Queue_Remove_ok : chkFunc Go.Proofs.Tryz.prog [0] Go.Proofs.Tryz.f219 ready_Queue_Remove = true := by kernel_rfl
def ready_may : RFunc := RFunc.mk 9 [.tmp 2] (
  RC.seq (RC.region 1 [
  ⟨some 2,.move (.c (.s (.bool false))),none,0,[]⟩]) (RC.seq (RC.region 7 [
  ⟨some 3,.move (.t 0),none,0,[]⟩,
  ⟨some 4,.bin .geq (.t 3) (.c (.s (.int .i64 1))),none,1,[]⟩,
  ⟨some 5,.move (.t 4),none,2,[]⟩,
  ⟨some 6,.move (.t 0),(some (5,true)),3,[]⟩,
  ⟨some 7,.bin .leq (.t 6) (.c (.s (.int .i64 16))),(some (5,true)),4,[]⟩,
  ⟨some 8,.pick (.t 5) (.t 7) (.c (.s (.bool false))),none,5,[]⟩,
  ⟨some 2,.move (.t 8),none,6,[]⟩]) (RC.ret)))
theorem ready_may_ok : chkFunc Go.Proofs.Tryz.prog [0] Go.Proofs.Tryz.f252 ready_may = true := by kernel_rfl
def ready_Queue_put : RFunc := RFunc.mk 32 [] (
  RC.seq (RC.region 15 [
  ⟨some 6,.move (.t 0),none,0,[]⟩,
  ⟨some 7,.move (.t 2),none,1,[]⟩,
  ⟨some 8,.move (.t 0),none,2,[]⟩,
  ⟨some 9,.move (.t 2),none,3,[]⟩,
  ⟨some 10,.nilCheck (.t 8),none,4,[]⟩,
  ⟨some 11,.fieldAddr 4 (.t 10),none,5,[]⟩,
  ⟨some 12,.indexArr 17 1 (.t 11) (.t 9),none,6,[]⟩,
  ⟨some 13,.load none (.t 12),none,7,[]⟩,
  ⟨some 14,.move (.t 1),none,8,[]⟩,
  ⟨some 17,.nilCheck (.t 6),none,11,[]⟩,
  ⟨some 18,.fieldAddr 4 (.t 17),none,12,[]⟩,
  ⟨some 15,.buildSlice 1 1 [.int .i64 0] [(0,1,(.t 14))],none,9,[]⟩,
  ⟨some 16,.append 1 8 (.t 13) (.t 15),none,10,[]⟩,
  ⟨some 19,.indexArr 17 1 (.t 18) (.t 7),none,13,[]⟩,
  ⟨none,.store 1 (.t 19) (.t 16),none,14,[]⟩]) (RC.seq (RC.region 7 [
  ⟨some 20,.move (.t 0),none,0,[]⟩,
  ⟨some 21,.move (.t 1),none,1,[]⟩,
  ⟨some 22,.move (.t 2),none,2,[]⟩,
  ⟨some 23,.nilCheck (.t 20),none,3,[]⟩,
  ⟨some 24,.fieldAddr 21 (.t 23),none,4,[]⟩,
  ⟨some 25,.indexArr 17 1 (.t 24) (.t 21),none,5,[]⟩,
  ⟨none,.store 1 (.t 25) (.t 22),none,6,[]⟩]) (RC.region 6 [
  ⟨some 26,.move (.t 0),none,0,[]⟩,
  ⟨some 27,.nilCheck (.t 26),none,1,[]⟩,
  ⟨some 28,.fieldAddr 0 (.t 27),none,2,[]⟩,
  ⟨some 29,.move (.t 2),none,3,[]⟩,
  ⟨some 30,.buildSlice 1 1 [.int .i64 0] [(0,1,(.t 29))],none,4,[]⟩,
  ⟨some 31,.call F.bits_Map_Set [(.t 28),(.t 30)],none,5,[]⟩])))
theorem ready_Queue_put_ok : chkFunc Go.Proofs.Tryz.prog [0] Go.Proofs.Tryz.f253 ready_Queue_put = true := by kernel_rfl
def slices_IndexFunc__order_Item_order_Item_l0 : RC :=
  RC.seq (RC.region 1 [
  ⟨some 9,.bin .lss (.t 8) (.t 7),none,0,[]⟩]) (RC.seq (RC.cond (.t 9) (RC.skip) (RC.exit 0)) (RC.seq (RC.block 1 (RC.seq (RC.region 2 [
  ⟨some 10,.move (.t 8),none,0,[]⟩,
  ⟨some 5,.move (.t 10),none,1,[]⟩]) (RC.seq (RC.region 6 [
  ⟨some 11,.move (.t 1),none,0,[]⟩,
  ⟨some 12,.move (.t 0),none,1,[]⟩,
  ⟨some 13,.move (.t 5),none,2,[]⟩,
  ⟨some 14,.indexSl 2 (.t 12) (.t 13),none,3,[]⟩,
  ⟨some 15,.load (some 2) (.t 14),none,4,[]⟩,
  ⟨some 16,.callv (.t 11) [(.t 15)],none,5,[]⟩]) (RC.cond (.t 16) (RC.seq (RC.region 2 [
  ⟨some 17,.move (.t 5),none,0,[]⟩,
  ⟨some 4,.move (.t 17),none,1,[]⟩]) (RC.ret)) (RC.skip))))) (RC.region 2 [
  ⟨some 18,.bin .add (.t 8) (.c (.s (.int .i64 1))),none,0,[]⟩,
  ⟨some 8,.move (.t 18),none,1,[]⟩])))
def slices_IndexFunc__order_Item_order_Item_s1 : RC :=
  RC.seq (RC.region 1 [
  ⟨some 4,.move (.c (.s (.int .i64 (-1)))),none,0,[]⟩]) (RC.ret)
def slices_IndexFunc__order_Item_order_Item : RFunc := RFunc.mk 19 [.tmp 4] (
  RC.seq (RC.region 1 [
  ⟨some 4,.move (.c (.s (.int .i64 0))),none,0,[]⟩]) (RC.seq (RC.seq (RC.region 3 [
  ⟨some 6,.move (.t 0),none,0,[]⟩,
  ⟨some 7,.len (.t 6),none,1,[]⟩,
  ⟨some 8,.move (.c (.s (.int .i64 0))),none,2,[]⟩]) (RC.block 0 (RC.loop R.slices_IndexFunc__order_Item_order_Item_l0))) R.slices_IndexFunc__order_Item_order_Item_s1))
theorem slices_IndexFunc__order_Item_order_Item_ok : chkFunc Go.Proofs.Tryz.prog [0] Go.Proofs.Tryz.f288 slices_IndexFunc__order_Item_order_Item = true := by kernel_rfl
def order_Line_at_1 : RFunc := RFunc.mk 8 [.tmp 3] (
  RC.seq (RC.region 2 [
  ⟨some 2,.box (.t 0),none,0,[]⟩,
  ⟨some 3,.move (.c (.s (.bool false))),none,1,[]⟩]) (RC.seq (RC.region 5 [
  ⟨some 4,.fieldAddr 0 (.t 2),none,0,[]⟩,
  ⟨some 5,.load none (.t 4),none,1,[]⟩,
  ⟨some 6,.load none (.t 1),none,2,[]⟩,
  ⟨some 7,.bin .eql (.t 5) (.t 6),none,3,[]⟩,
  ⟨some 3,.move (.t 7),none,4,[]⟩]) (RC.ret)))
theorem order_Line_at_1_ok : chkFunc Go.Proofs.Tryz.prog [0] Go.Proofs.Tryz.f289 order_Line_at_1 = true := by kernel_rfl
def conf_next : RFunc := RFunc.mk 37 [.tmp 4,.tmp 5] (
  RC.seq (RC.region 3 [
  ⟨some 3,.box (.t 1),none,0,[]⟩,
  ⟨some 4,.move (.c (.s (.int .i64 0))),none,1,[]⟩,
  ⟨some 5,.move (.c (.s (.int .i64 0))),none,2,[]⟩]) (RC.seq (RC.region 3 [
  ⟨some 6,.move (.t 0),none,0,[]⟩,
  ⟨some 7,.call F.nums_Align [(.t 6),(.c (.s (.int .i64 4)))],none,1,[]⟩,
  ⟨some 0,.move (.t 7),none,2,[]⟩]) (RC.seq (RC.seq (RC.region 18 [
  ⟨some 8,.fieldAddr 1 (.t 3),none,0,[]⟩,
  ⟨some 9,.load none (.t 8),none,1,[]⟩,
  ⟨some 10,.bin .lss (.t 9) (.c (.s (.int .i64 0))),none,2,[]⟩,
  ⟨some 11,.move (.t 10),none,3,[]⟩,
  ⟨some 12,.fieldAddr 1 (.t 3),(some (11,false)),4,[]⟩,
  ⟨some 13,.load none (.t 12),(some (11,false)),5,[]⟩,
  ⟨some 14,.bin .gtr (.t 13) (.c (.s (.int .i64 65536))),(some (11,false)),6,[]⟩,
  ⟨some 15,.pick (.t 11) (.c (.s (.bool true))) (.t 14),none,7,[]⟩,
  ⟨some 16,.move (.t 15),none,8,[]⟩,
  ⟨some 17,.fieldAddr 2 (.t 3),(some (16,false)),9,[]⟩,
  ⟨some 18,.load none (.t 17),(some (16,false)),10,[]⟩,
  ⟨some 19,.bin .lss (.t 18) (.c (.s (.int .i64 0))),(some (16,false)),11,[]⟩,
  ⟨some 20,.pick (.t 16) (.c (.s (.bool true))) (.t 19),none,12,[]⟩,
  ⟨some 21,.move (.t 20),none,13,[]⟩,
  ⟨some 22,.fieldAddr 2 (.t 3),(some (21,false)),14,[]⟩,
  ⟨some 23,.load none (.t 22),(some (21,false)),15,[]⟩,
  ⟨some 24,.bin .gtr (.t 23) (.c (.s (.int .i64 65536))),(some (21,false)),16,[]⟩,
  ⟨some 25,.pick (.t 21) (.c (.s (.bool true))) (.t 24),none,17,[]⟩]) (RC.cond (.t 25) (RC.seq (RC.region 4 [
  ⟨some 26,.move (.t 0),none,0,[]⟩,
  ⟨some 27,.move (.t 0),none,1,[]⟩,
  ⟨some 4,.move (.t 26),none,2,[]⟩,
  ⟨some 5,.move (.t 27),none,3,[]⟩]) (RC.ret)) (RC.skip))) (RC.seq (RC.region 11 [
  ⟨some 28,.move (.t 0),none,0,[]⟩,
  ⟨some 29,.move (.t 0),none,1,[]⟩,
  ⟨some 30,.fieldAddr 1 (.t 3),none,2,[]⟩,
  ⟨some 31,.load none (.t 30),none,3,[]⟩,
  ⟨some 32,.fieldAddr 2 (.t 3),none,4,[]⟩,
  ⟨some 33,.load none (.t 32),none,5,[]⟩,
  ⟨some 34,.call F.nums_Align [(.t 33),(.c (.s (.int .i64 4)))],none,6,[⟨31,none,(.t 30),none⟩]⟩,
  ⟨some 35,.bin .mul (.t 31) (.t 34),none,7,[]⟩,
  ⟨some 36,.bin .add (.t 29) (.t 35),none,8,[]⟩,
  ⟨some 4,.move (.t 28),none,9,[]⟩,
  ⟨some 5,.move (.t 36),none,10,[]⟩]) (RC.ret)))))
theorem conf_next_ok : chkFunc Go.Proofs.Tryz.prog [0] Go.Proofs.Tryz.f45 conf_next = true := by kernel_rfl
end Go.AM.R
