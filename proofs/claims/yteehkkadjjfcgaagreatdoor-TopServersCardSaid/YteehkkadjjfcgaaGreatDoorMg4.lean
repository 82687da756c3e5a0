/-
  The code of the functions,as the abstract machine has it; it is the program's.
-/
import Derived.Test.YteehkkadjjfcgaaGreatDoorMg1
import Derived.Test.YteehkkadjjfcgaaGreatDoorMg2
import Derived.Test.YteehkkadjjfcgaaGreatDoorProg
import Derived.KernelRfl
set_option maxRecDepth 100000
namespace Go.AM.R
open Go.AM
def kern_say_l0 : RC :=
  RC.seq (RC.region 1 [
  ⟨some 13,.bin .lss (.t 12) (.t 11),none,0,[]⟩]) (RC.seq (RC.cond (.t 13) (RC.skip) (RC.exit 0)) (RC.seq (RC.block 1 (RC.seq (RC.region 3 [
  ⟨some 14,.indexSl 1 (.t 10) (.t 12),none,0,[]⟩,
  ⟨some 15,.load none (.t 14),none,1,[]⟩,
  ⟨some 7,.move (.t 15),none,2,[]⟩]) (RC.region 3 [
  ⟨some 16,.move (.t 7),none,0,[]⟩,
  ⟨some 17,.fieldAddr 1 (.t 5),none,1,[]⟩,
  ⟨none,.store 1 (.t 17) (.t 16),none,2,[]⟩]))) (RC.region 2 [
  ⟨some 18,.bin .add (.t 12) (.c (.s (.int .i64 1))),none,0,[]⟩,
  ⟨some 12,.move (.t 18),none,1,[]⟩])))
def kern_say_s1 : RC :=
  RC.seq (RC.region 2 [
  ⟨some 22,.load (some 2) (.t 5),none,0,[]⟩,
  ⟨none,.store 2 (.t 4) (.t 22),none,1,[]⟩]) (RC.ret)
def kern_say_s2 : RC :=
  RC.seq (RC.seq (RC.region 2 [
  ⟨some 19,.move (.t 0),none,0,[]⟩,
  ⟨some 20,.bin .neq (.t 19) (.c (.s (.int .i64 0))),none,1,[]⟩]) (RC.cond (.t 20) (RC.region 2 [
  ⟨some 21,.fieldAddr 1 (.t 5),none,0,[]⟩,
  ⟨none,.store 1 (.t 21) (.c (.s (.int .i64 0))),none,1,[]⟩]) (RC.skip))) R.kern_say_s1
def kern_say : RFunc := RFunc.mk 23 [.cell 4 (some 2)] (
  RC.seq (RC.region 1 [
  ⟨some 4,.newc [.int .i64 0,.int .i64 0],none,0,[]⟩]) (RC.seq (RC.region 4 [
  ⟨some 8,.move (.t 0),none,0,[]⟩,
  ⟨some 9,.build [.int .i64 0,.int .i64 0] [(0,1,(.t 8))],none,1,[]⟩,
  ⟨some 5,.newc [.int .i64 0,.int .i64 0],none,2,[]⟩,
  ⟨none,.store 2 (.t 5) (.t 9),none,3,[]⟩]) (RC.seq (RC.seq (RC.region 3 [
  ⟨some 10,.move (.t 1),none,0,[]⟩,
  ⟨some 11,.len (.t 10),none,1,[]⟩,
  ⟨some 12,.move (.c (.s (.int .i64 0))),none,2,[]⟩]) (RC.block 0 (RC.loop R.kern_say_l0))) R.kern_say_s2)))
theorem kern_say_ok : chkFunc Go.Proofs.Tryz.prog [0] Go.Proofs.Tryz.f52 kern_say = true := by kernel_rfl
def ctx_Place_May : RFunc := RFunc.mk 14 [.tmp 6] (
  RC.seq (RC.region 1 [
  ⟨some 6,.move (.c (.s (.int .i64 0))),none,0,[]⟩]) (RC.seq (RC.seq (RC.region 7 [
  ⟨some 7,.move (.t 0),none,0,[]⟩,
  ⟨some 8,.nilCheck (.t 7),none,1,[]⟩,
  ⟨some 9,.fieldAddr 0 (.t 8),none,2,[]⟩,
  ⟨some 10,.move (.t 1),none,3,[]⟩,
  ⟨some 11,.move (.t 2),none,4,[]⟩,
  ⟨some 12,.call F.ctx_state_may [(.t 9),(.t 10),(.t 11)],none,5,[]⟩,
  ⟨some 13,.un .not (.t 12),none,6,[]⟩]) (RC.cond (.t 13) (RC.seq (RC.region 1 [
  ⟨some 6,.move (.c (.s (.int .i64 (-25)))),none,0,[]⟩]) (RC.ret)) (RC.skip))) (RC.seq (RC.region 1 [
  ⟨some 6,.move (.c (.s (.int .i64 0))),none,0,[]⟩]) (RC.ret))))
theorem ctx_Place_May_ok : chkFunc Go.Proofs.Tryz.prog [0] Go.Proofs.Tryz.f53 ctx_Place_May = true := by kernel_rfl
def calls_Kind : RFunc := RFunc.mk 7 [.tmp 2] (
  RC.seq (RC.region 2 [
  ⟨some 1,.box (.t 0),none,0,[]⟩,
  ⟨some 2,.move (.c (.s (.int .i64 0))),none,1,[]⟩]) (RC.seq (RC.region 5 [
  ⟨some 3,.fieldAddr 0 (.t 1),none,0,[]⟩,
  ⟨some 4,.load none (.t 3),none,1,[]⟩,
  ⟨some 5,.call F.calls_of [(.t 4)],none,2,[]⟩,
  ⟨some 6,.field none 2 (.t 5),none,3,[]⟩,
  ⟨some 2,.move (.t 6),none,4,[]⟩]) (RC.ret)))
theorem calls_Kind_ok : chkFunc Go.Proofs.Tryz.prog [0] Go.Proofs.Tryz.f54 calls_Kind = true := by kernel_rfl
def kern_Kernel_tasks_s0 : RC :=
  RC.cond (.t 48) (RC.seq (RC.region 7 [
  ⟨some 51,.move (.t 0),none,0,[]⟩,
  ⟨some 52,.nilCheck (.t 51),none,1,[]⟩,
  ⟨some 53,.fieldAddr 12 (.t 52),none,2,[]⟩,
  ⟨some 54,.load none (.t 53),none,3,[]⟩,
  ⟨some 55,.buildSlice 1 1 [.int .i64 0] [(0,1,(.t 54))],none,4,[]⟩,
  ⟨some 56,.call F.kern_say [(.c (.s (.int .i64 0))),(.t 55)],none,5,[]⟩,
  ⟨none,.store 2 (.t 4) (.t 56),none,6,[]⟩]) (RC.ret)) (RC.seq (RC.region 2 [
  ⟨some 58,.bin .eql (.t 25) (.c (.s (.int .i64 12))),none,0,[]⟩,
  ⟨some 57,.move (.t 58),none,1,[]⟩]) (RC.cond (.t 57) (RC.seq (RC.region 3 [
  ⟨some 59,.move (.t 0),none,0,[]⟩,
  ⟨some 60,.call F.kern_Kernel_sleep [(.t 59),(.c (.s (.int .i64 (-1))))],none,1,[]⟩,
  ⟨none,.store 2 (.t 4) (.t 60),none,2,[]⟩]) (RC.ret)) (RC.seq (RC.region 2 [
  ⟨some 62,.bin .eql (.t 25) (.c (.s (.int .i64 13))),none,0,[]⟩,
  ⟨some 61,.move (.t 62),none,1,[]⟩]) (RC.cond (.t 61) (RC.seq (RC.seq (RC.region 5 [
  ⟨some 63,.fieldAddr 1 (.t 3),none,0,[]⟩,
  ⟨some 64,.indexArr 4 1 (.t 63) (.c (.s (.int .i64 0))),none,1,[]⟩,
  ⟨some 65,.load none (.t 64),none,2,[]⟩,
  ⟨some 66,.call F.kern_late [(.t 65)],none,3,[]⟩,
  ⟨some 67,.un .not (.t 66),none,4,[]⟩]) (RC.cond (.t 67) (RC.seq (RC.region 2 [
  ⟨some 68,.call F.kern_say [(.c (.s (.int .i64 (-17)))),(.c (.s (.slice none 0 0 1)))],none,0,[]⟩,
  ⟨none,.store 2 (.t 4) (.t 68),none,1,[]⟩]) (RC.ret)) (RC.skip))) (RC.seq (RC.region 6 [
  ⟨some 69,.move (.t 0),none,0,[]⟩,
  ⟨some 70,.fieldAddr 1 (.t 3),none,1,[]⟩,
  ⟨some 71,.indexArr 4 1 (.t 70) (.c (.s (.int .i64 0))),none,2,[]⟩,
  ⟨some 72,.load none (.t 71),none,3,[]⟩,
  ⟨some 73,.call F.kern_Kernel_sleep [(.t 69),(.t 72)],none,4,[]⟩,
  ⟨none,.store 2 (.t 4) (.t 73),none,5,[]⟩]) (RC.ret))) (RC.seq (RC.region 2 [
  ⟨some 75,.bin .eql (.t 25) (.c (.s (.int .i64 22))),none,0,[]⟩,
  ⟨some 74,.move (.t 75),none,1,[]⟩]) (RC.cond (.t 74) (RC.seq (RC.seq (RC.region 9 [
  ⟨some 77,.fieldAddr 1 (.t 3),none,0,[]⟩,
  ⟨some 78,.indexArr 4 1 (.t 77) (.c (.s (.int .i64 0))),none,1,[]⟩,
  ⟨some 79,.load none (.t 78),none,2,[]⟩,
  ⟨some 80,.call F.nums_Rel [(.t 79)],none,3,[]⟩,
  ⟨some 76,.move (.t 80),none,4,[]⟩,
  ⟨some 81,.extract 0 (.t 76),none,5,[]⟩,
  ⟨some 82,.extract 1 (.t 76),none,6,[]⟩,
  ⟨some 6,.move (.t 81),none,7,[]⟩,
  ⟨some 7,.move (.t 82),none,8,[]⟩]) (RC.seq (RC.region 2 [
  ⟨some 83,.move (.t 7),none,0,[]⟩,
  ⟨some 84,.bin .neq (.t 83) (.c (.s (.int .i64 0))),none,1,[]⟩]) (RC.cond (.t 84) (RC.seq (RC.region 3 [
  ⟨some 85,.move (.t 7),none,0,[]⟩,
  ⟨some 86,.call F.kern_say [(.t 85),(.c (.s (.slice none 0 0 1)))],none,1,[]⟩,
  ⟨none,.store 2 (.t 4) (.t 86),none,2,[]⟩]) (RC.ret)) (RC.skip)))) (RC.seq (RC.region 6 [
  ⟨some 87,.move (.t 0),none,0,[]⟩,
  ⟨some 88,.fieldAddr 1 (.t 3),none,1,[]⟩,
  ⟨some 89,.indexArr 4 1 (.t 88) (.c (.s (.int .i64 0))),none,2,[]⟩,
  ⟨some 90,.load none (.t 89),none,3,[]⟩,
  ⟨some 91,.call F.kern_Kernel_stay [(.t 87),(.c (.s (.int .i64 2))),(.c (.s (.int .i64 0))),(.t 90)],none,4,[]⟩,
  ⟨none,.store 2 (.t 4) (.t 91),none,5,[]⟩]) (RC.ret))) (RC.seq (RC.region 2 [
  ⟨some 93,.bin .eql (.t 25) (.c (.s (.int .i64 6))),none,0,[]⟩,
  ⟨some 92,.move (.t 93),none,1,[]⟩]) (RC.cond (.t 92) (RC.seq (RC.region 8 [
  ⟨some 94,.move (.t 0),none,0,[]⟩,
  ⟨some 95,.move (.t 5),none,1,[]⟩,
  ⟨some 96,.fieldAddr 1 (.t 3),none,2,[]⟩,
  ⟨some 97,.indexArr 4 1 (.t 96) (.c (.s (.int .i64 1))),none,3,[]⟩,
  ⟨some 98,.load none (.t 97),none,4,[]⟩,
  ⟨some 99,.call F.kern_Kernel_change [(.t 94),(.t 95),(.t 98)],none,5,[]⟩,
  ⟨some 100,.call F.kern_say [(.t 99),(.c (.s (.slice none 0 0 1)))],none,6,[]⟩,
  ⟨none,.store 2 (.t 4) (.t 100),none,7,[]⟩]) (RC.ret)) (RC.skip)))))))))
def kern_Kernel_tasks_s1 : RC :=
  RC.cond (.t 42) (RC.seq (RC.region 4 [
  ⟨some 45,.move (.t 0),none,0,[]⟩,
  ⟨some 46,.load (some 5) (.t 3),none,1,[]⟩,
  ⟨some 47,.call F.kern_Kernel_rotate [(.t 45),(.t 46)],none,2,[]⟩,
  ⟨none,.store 2 (.t 4) (.t 47),none,3,[]⟩]) (RC.ret)) (RC.seq (RC.seq (RC.region 2 [
  ⟨some 49,.bin .eql (.t 25) (.c (.s (.int .i64 10))),none,0,[]⟩,
  ⟨some 48,.move (.t 49),none,1,[]⟩]) (RC.cond (.t 48) (RC.skip) (RC.region 2 [
  ⟨some 50,.bin .eql (.t 25) (.c (.s (.int .i64 11))),none,0,[]⟩,
  ⟨some 48,.move (.t 50),none,1,[]⟩]))) R.kern_Kernel_tasks_s0)
def kern_Kernel_tasks_s2 : RC :=
  RC.seq (RC.region 15 [
  ⟨some 101,.move (.t 0),none,0,[]⟩,
  ⟨some 102,.load (some 5) (.t 3),none,1,[]⟩,
  ⟨some 103,.move (.t 5),none,2,[]⟩,
  ⟨some 104,.move (.t 0),none,3,[]⟩,
  ⟨some 105,.nilCheck (.t 104),none,4,[]⟩,
  ⟨some 106,.fieldAddr 9 (.t 105),none,5,[]⟩,
  ⟨some 107,.load none (.t 106),none,6,[]⟩,
  ⟨some 108,.move (.t 5),none,7,[]⟩,
  ⟨some 109,.indexSl 1 (.t 107) (.t 108),none,8,[]⟩,
  ⟨some 110,.load none (.t 109),none,9,[]⟩,
  ⟨some 111,.nilCheck (.t 110),none,10,[]⟩,
  ⟨some 112,.fieldAddr 0 (.t 111),none,11,[]⟩,
  ⟨some 113,.load none (.t 112),none,12,[]⟩,
  ⟨some 114,.call F.kern_Kernel_one [(.t 101),(.t 102),(.t 103),(.t 113)],none,13,[]⟩,
  ⟨none,.store 2 (.t 4) (.t 114),none,14,[]⟩]) (RC.ret)
def kern_Kernel_tasks : RFunc := RFunc.mk 115 [.cell 4 (some 2)] (
  RC.seq (RC.region 2 [
  ⟨some 3,.box (.t 1),none,0,[]⟩,
  ⟨some 4,.newc [.int .i64 0,.int .i64 0],none,1,[]⟩]) (RC.seq (RC.region 4 [
  ⟨some 8,.move (.t 0),none,0,[]⟩,
  ⟨some 9,.load (some 5) (.t 3),none,1,[]⟩,
  ⟨some 10,.call F.kern_Kernel_named [(.t 8),(.t 9)],none,2,[]⟩,
  ⟨some 5,.move (.t 10),none,3,[]⟩]) (RC.seq (RC.seq (RC.region 12 [
  ⟨some 11,.move (.t 5),none,0,[]⟩,
  ⟨some 12,.bin .eql (.t 11) (.c (.s (.int .i64 0))),none,1,[]⟩,
  ⟨some 13,.move (.t 12),none,2,[]⟩,
  ⟨some 14,.fieldAddr 0 (.t 3),(some (13,true)),3,[]⟩,
  ⟨some 15,.load none (.t 14),(some (13,true)),4,[]⟩,
  ⟨some 16,.bin .neq (.t 15) (.c (.s (.int .i64 9))),(some (13,true)),5,[]⟩,
  ⟨some 17,.pick (.t 13) (.t 16) (.c (.s (.bool false))),none,6,[]⟩,
  ⟨some 18,.move (.t 17),none,7,[]⟩,
  ⟨some 19,.fieldAddr 0 (.t 3),(some (18,true)),8,[]⟩,
  ⟨some 20,.load none (.t 19),(some (18,true)),9,[]⟩,
  ⟨some 21,.bin .neq (.t 20) (.c (.s (.int .i64 11))),(some (18,true)),10,[]⟩,
  ⟨some 22,.pick (.t 18) (.t 21) (.c (.s (.bool false))),none,11,[]⟩]) (RC.cond (.t 22) (RC.seq (RC.region 2 [
  ⟨some 23,.call F.kern_say [(.c (.s (.int .i64 (-18)))),(.c (.s (.slice none 0 0 1)))],none,0,[]⟩,
  ⟨none,.store 2 (.t 4) (.t 23),none,1,[]⟩]) (RC.ret)) (RC.skip))) (RC.seq (RC.seq (RC.region 2 [
  ⟨some 24,.fieldAddr 0 (.t 3),none,0,[]⟩,
  ⟨some 25,.load none (.t 24),none,1,[]⟩]) (RC.block 0 (RC.seq (RC.region 2 [
  ⟨some 27,.bin .eql (.t 25) (.c (.s (.int .i64 4))),none,0,[]⟩,
  ⟨some 26,.move (.t 27),none,1,[]⟩]) (RC.cond (.t 26) (RC.seq (RC.region 5 [
  ⟨some 28,.move (.t 0),none,0,[]⟩,
  ⟨some 29,.nilCheck (.t 28),none,1,[]⟩,
  ⟨some 30,.fieldAddr 6 (.t 29),none,2,[]⟩,
  ⟨some 31,.load none (.t 30),none,3,[]⟩,
  ⟨some 32,.call F.ctx_Place_Lock [(.t 31),(.c (.s (.bool false)))],none,4,[]⟩]) (RC.seq (RC.region 5 [
  ⟨some 33,.move (.t 0),none,0,[]⟩,
  ⟨some 34,.nilCheck (.t 33),none,1,[]⟩,
  ⟨some 35,.fieldAddr 6 (.t 34),none,2,[]⟩,
  ⟨some 36,.load none (.t 35),none,3,[]⟩,
  ⟨some 37,.call F.ctx_Place_Disable [(.t 36),(.c (.s (.bool false)))],none,4,[]⟩]) (RC.seq (RC.region 3 [
  ⟨some 38,.move (.t 0),none,0,[]⟩,
  ⟨some 39,.move (.t 5),none,1,[]⟩,
  ⟨some 40,.call F.kern_Kernel_over [(.t 38),(.t 39)],none,2,[]⟩]) (RC.seq (RC.region 2 [
  ⟨some 41,.call F.kern_say [(.c (.s (.int .i64 0))),(.c (.s (.slice none 0 0 1)))],none,0,[]⟩,
  ⟨none,.store 2 (.t 4) (.t 41),none,1,[]⟩]) (RC.ret))))) (RC.seq (RC.seq (RC.region 2 [
  ⟨some 43,.bin .eql (.t 25) (.c (.s (.int .i64 8))),none,0,[]⟩,
  ⟨some 42,.move (.t 43),none,1,[]⟩]) (RC.cond (.t 42) (RC.skip) (RC.region 2 [
  ⟨some 44,.bin .eql (.t 25) (.c (.s (.int .i64 9))),none,0,[]⟩,
  ⟨some 42,.move (.t 44),none,1,[]⟩]))) R.kern_Kernel_tasks_s1))))) R.kern_Kernel_tasks_s2))))
theorem kern_Kernel_tasks_ok : chkFunc Go.Proofs.Tryz.prog [0] Go.Proofs.Tryz.f55 kern_Kernel_tasks = true := by kernel_rfl
def kern_Kernel_sem : RFunc := RFunc.mk 85 [.cell 4 (some 2)] (
  RC.seq (RC.region 2 [
  ⟨some 3,.box (.t 1),none,0,[]⟩,
  ⟨some 4,.newc [.int .i64 0,.int .i64 0],none,1,[]⟩]) (RC.seq (RC.region 6 [
  ⟨some 11,.fieldAddr 1 (.t 3),none,0,[]⟩,
  ⟨some 12,.indexArr 4 1 (.t 11) (.c (.s (.int .i64 0))),none,1,[]⟩,
  ⟨some 13,.load none (.t 12),none,2,[]⟩,
  ⟨some 14,.minmax false (.t 13) (.c (.s (.int .i64 9))),none,3,[]⟩,
  ⟨some 15,.minmax true (.t 14) (.c (.s (.int .i64 0))),none,4,[]⟩,
  ⟨some 5,.move (.t 15),none,5,[]⟩]) (RC.seq (RC.region 12 [
  ⟨some 17,.move (.t 0),none,0,[]⟩,
  ⟨some 18,.nilCheck (.t 17),none,1,[]⟩,
  ⟨some 19,.fieldAddr 0 (.t 18),none,2,[]⟩,
  ⟨some 20,.fieldAddr 0 (.t 19),none,3,[]⟩,
  ⟨some 21,.load none (.t 20),none,4,[]⟩,
  ⟨some 22,.move (.t 5),none,5,[]⟩,
  ⟨some 23,.call F.kern_at__sem_Sem [(.t 21),(.t 22)],none,6,[]⟩,
  ⟨some 16,.move (.t 23),none,7,[]⟩,
  ⟨some 24,.extract 0 (.t 16),none,8,[]⟩,
  ⟨some 25,.extract 1 (.t 16),none,9,[]⟩,
  ⟨some 6,.move (.t 24),none,10,[]⟩,
  ⟨some 7,.move (.t 25),none,11,[]⟩]) (RC.seq (RC.region 3 [
  ⟨some 26,.load (some 5) (.t 3),none,0,[]⟩,
  ⟨some 27,.call F.kern_timeout [(.t 26),(.c (.s (.int .i64 26))),(.c (.s (.int .i64 27)))],none,1,[]⟩,
  ⟨some 8,.move (.t 27),none,2,[]⟩]) (RC.seq (RC.block 0 (RC.seq (RC.region 3 [
  ⟨some 29,.move (.t 7),none,0,[]⟩,
  ⟨some 30,.un .not (.t 29),none,1,[]⟩,
  ⟨some 28,.move (.t 30),none,2,[]⟩]) (RC.cond (.t 28) (RC.seq (RC.region 2 [
  ⟨some 31,.call F.kern_say [(.c (.s (.int .i64 (-18)))),(.c (.s (.slice none 0 0 1)))],none,0,[]⟩,
  ⟨none,.store 2 (.t 4) (.t 31),none,1,[]⟩]) (RC.ret)) (RC.seq (RC.region 4 [
  ⟨some 33,.move (.t 8),none,0,[]⟩,
  ⟨some 34,.call F.kern_late [(.t 33)],none,1,[]⟩,
  ⟨some 35,.un .not (.t 34),none,2,[]⟩,
  ⟨some 32,.move (.t 35),none,3,[]⟩]) (RC.cond (.t 32) (RC.seq (RC.region 2 [
  ⟨some 36,.call F.kern_say [(.c (.s (.int .i64 (-17)))),(.c (.s (.slice none 0 0 1)))],none,0,[]⟩,
  ⟨none,.store 2 (.t 4) (.t 36),none,1,[]⟩]) (RC.ret)) (RC.seq (RC.region 9 [
  ⟨some 38,.fieldAddr 0 (.t 3),none,0,[]⟩,
  ⟨some 39,.load none (.t 38),none,1,[]⟩,
  ⟨some 40,.bin .eql (.t 39) (.c (.s (.int .i64 23))),none,2,[]⟩,
  ⟨some 41,.move (.t 40),none,3,[]⟩,
  ⟨some 42,.fieldAddr 0 (.t 3),(some (41,false)),4,[]⟩,
  ⟨some 43,.load none (.t 42),(some (41,false)),5,[]⟩,
  ⟨some 44,.bin .eql (.t 43) (.c (.s (.int .i64 24))),(some (41,false)),6,[]⟩,
  ⟨some 45,.pick (.t 41) (.c (.s (.bool true))) (.t 44),none,7,[]⟩,
  ⟨some 37,.move (.t 45),none,8,[]⟩]) (RC.cond (.t 37) (RC.seq (RC.region 7 [
  ⟨some 47,.move (.t 6),none,0,[]⟩,
  ⟨some 48,.call F.sem_Sem_Signal [(.t 47)],none,1,[]⟩,
  ⟨some 46,.move (.t 48),none,2,[]⟩,
  ⟨some 49,.extract 0 (.t 46),none,3,[]⟩,
  ⟨some 50,.extract 1 (.t 46),none,4,[]⟩,
  ⟨some 9,.move (.t 49),none,5,[]⟩,
  ⟨some 10,.move (.t 50),none,6,[]⟩]) (RC.seq (RC.region 4 [
  ⟨some 51,.move (.t 0),none,0,[]⟩,
  ⟨some 52,.move (.t 9),none,1,[]⟩,
  ⟨some 53,.buildSlice 1 1 [.int .i64 0] [(0,1,(.t 52))],none,2,[]⟩,
  ⟨some 54,.call F.kern_Kernel_woken [(.t 51),(.c (.s (.int .i64 0))),(.t 53)],none,3,[]⟩]) (RC.seq (RC.region 3 [
  ⟨some 55,.move (.t 10),none,0,[]⟩,
  ⟨some 56,.call F.kern_say [(.t 55),(.c (.s (.slice none 0 0 1)))],none,1,[]⟩,
  ⟨none,.store 2 (.t 4) (.t 56),none,2,[]⟩]) (RC.ret)))) (RC.seq (RC.region 3 [
  ⟨some 58,.move (.t 6),none,0,[]⟩,
  ⟨some 59,.call F.sem_Sem_Poll [(.t 58)],none,1,[]⟩,
  ⟨some 57,.move (.t 59),none,2,[]⟩]) (RC.cond (.t 57) (RC.seq (RC.region 2 [
  ⟨some 60,.call F.kern_say [(.c (.s (.int .i64 0))),(.c (.s (.slice none 0 0 1)))],none,0,[]⟩,
  ⟨none,.store 2 (.t 4) (.t 60),none,1,[]⟩]) (RC.ret)) (RC.seq (RC.region 3 [
  ⟨some 62,.move (.t 8),none,0,[]⟩,
  ⟨some 63,.bin .eql (.t 62) (.c (.s (.int .i64 0))),none,1,[]⟩,
  ⟨some 61,.move (.t 63),none,2,[]⟩]) (RC.cond (.t 61) (RC.seq (RC.region 2 [
  ⟨some 64,.call F.kern_say [(.c (.s (.int .i64 (-50)))),(.c (.s (.slice none 0 0 1)))],none,0,[]⟩,
  ⟨none,.store 2 (.t 4) (.t 64),none,1,[]⟩]) (RC.ret)) (RC.skip)))))))))))) (RC.seq (RC.region 16 [
  ⟨some 65,.move (.t 6),none,0,[]⟩,
  ⟨some 66,.move (.t 0),none,1,[]⟩,
  ⟨some 67,.nilCheck (.t 66),none,2,[]⟩,
  ⟨some 68,.fieldAddr 12 (.t 67),none,3,[]⟩,
  ⟨some 69,.load none (.t 68),none,4,[]⟩,
  ⟨some 70,.move (.t 0),none,5,[]⟩,
  ⟨some 71,.nilCheck (.t 70),none,6,[]⟩,
  ⟨some 72,.fieldAddr 0 (.t 71),none,7,[]⟩,
  ⟨some 73,.fieldAddr 5 (.t 72),none,8,[]⟩,
  ⟨some 74,.load none (.t 73),none,9,[]⟩,
  ⟨some 75,.move (.t 0),none,10,[]⟩,
  ⟨some 76,.nilCheck (.t 75),none,11,[]⟩,
  ⟨some 77,.fieldAddr 12 (.t 76),none,12,[]⟩,
  ⟨some 78,.load none (.t 77),none,13,[]⟩,
  ⟨some 79,.call F.mtx_All_Pri [(.t 74),(.t 78)],none,14,[⟨69,none,(.t 68),none⟩]⟩,
  ⟨some 80,.call F.sem_Sem_Wait [(.t 65),(.t 69),(.t 79)],none,15,[]⟩]) (RC.seq (RC.region 5 [
  ⟨some 81,.move (.t 0),none,0,[]⟩,
  ⟨some 82,.move (.t 5),none,1,[]⟩,
  ⟨some 83,.move (.t 8),none,2,[]⟩,
  ⟨some 84,.call F.kern_Kernel_stay [(.t 81),(.c (.s (.int .i64 3))),(.t 82),(.t 83)],none,3,[]⟩,
  ⟨none,.store 2 (.t 4) (.t 84),none,4,[]⟩]) (RC.ret))))))))
theorem kern_Kernel_sem_ok : chkFunc Go.Proofs.Tryz.prog [0] Go.Proofs.Tryz.f56 kern_Kernel_sem = true := by kernel_rfl
def kern_Kernel_flag_l0 : RC :=
  RC.seq (RC.region 1 [
  ⟨some 68,.bin .lss (.t 67) (.t 66),none,0,[]⟩]) (RC.seq (RC.cond (.t 68) (RC.skip) (RC.exit 2)) (RC.seq (RC.block 3 (RC.seq (RC.region 4 [
  ⟨some 69,.indexSl 2 (.t 65) (.t 67),none,0,[]⟩,
  ⟨some 70,.load (some 2) (.t 69),none,1,[]⟩,
  ⟨some 11,.newc [.int .i64 0,.int .u32 0],none,2,[]⟩,
  ⟨none,.store 2 (.t 11) (.t 70),none,3,[]⟩]) (RC.region 8 [
  ⟨some 71,.move (.t 0),none,0,[]⟩,
  ⟨some 72,.fieldAddr 1 (.t 11),none,1,[]⟩,
  ⟨some 73,.load none (.t 72),none,2,[]⟩,
  ⟨some 74,.conv .i64 (.t 73),none,3,[]⟩,
  ⟨some 75,.fieldAddr 0 (.t 11),none,4,[]⟩,
  ⟨some 76,.load none (.t 75),none,5,[]⟩,
  ⟨some 77,.buildSlice 1 1 [.int .i64 0] [(0,1,(.t 76))],none,6,[]⟩,
  ⟨some 78,.call F.kern_Kernel_woken [(.t 71),(.t 74),(.t 77)],none,7,[]⟩]))) (RC.region 2 [
  ⟨some 79,.bin .add (.t 67) (.c (.s (.int .i64 1))),none,0,[]⟩,
  ⟨some 67,.move (.t 79),none,1,[]⟩])))
def kern_Kernel_flag_s1 : RC :=
  RC.seq (RC.region 2 [
  ⟨some 80,.call F.kern_say [(.c (.s (.int .i64 0))),(.c (.s (.slice none 0 0 1)))],none,0,[]⟩,
  ⟨none,.store 2 (.t 4) (.t 80),none,1,[]⟩]) (RC.ret)
def kern_Kernel_flag_s2 : RC :=
  RC.cond (.t 59) (RC.seq (RC.seq (RC.region 6 [
  ⟨some 62,.move (.t 6),none,0,[]⟩,
  ⟨some 63,.move (.t 9),none,1,[]⟩,
  ⟨some 64,.buildSlice 1 1 [.int .u32 0] [(0,1,(.t 63))],none,2,[]⟩,
  ⟨some 65,.call F.flag_Flag_Raise [(.t 62),(.t 64)],none,3,[]⟩,
  ⟨some 66,.len (.t 65),none,4,[]⟩,
  ⟨some 67,.move (.c (.s (.int .i64 0))),none,5,[]⟩]) (RC.block 2 (RC.loop R.kern_Kernel_flag_l0))) R.kern_Kernel_flag_s1) (RC.seq (RC.region 2 [
  ⟨some 82,.bin .eql (.t 58) (.c (.s (.int .i64 30))),none,0,[]⟩,
  ⟨some 81,.move (.t 82),none,1,[]⟩]) (RC.cond (.t 81) (RC.seq (RC.region 3 [
  ⟨some 83,.move (.t 6),none,0,[]⟩,
  ⟨some 84,.move (.t 9),none,1,[]⟩,
  ⟨some 85,.call F.flag_Flag_Lower [(.t 83),(.t 84)],none,2,[]⟩]) (RC.seq (RC.region 2 [
  ⟨some 86,.call F.kern_say [(.c (.s (.int .i64 0))),(.c (.s (.slice none 0 0 1)))],none,0,[]⟩,
  ⟨none,.store 2 (.t 4) (.t 86),none,1,[]⟩]) (RC.ret))) (RC.skip)))
def kern_Kernel_flag_s3 : RC :=
  RC.seq (RC.region 11 [
  ⟨some 95,.move (.t 6),none,0,[]⟩,
  ⟨some 96,.move (.t 9),none,1,[]⟩,
  ⟨some 97,.move (.t 12),none,2,[]⟩,
  ⟨some 98,.call F.flag_Flag_Poll [(.t 95),(.t 96),(.t 97)],none,3,[]⟩,
  ⟨some 94,.move (.t 98),none,4,[]⟩,
  ⟨some 99,.extract 0 (.t 94),none,5,[]⟩,
  ⟨some 100,.extract 1 (.t 94),none,6,[]⟩,
  ⟨some 101,.extract 2 (.t 94),none,7,[]⟩,
  ⟨some 13,.move (.t 99),none,8,[]⟩,
  ⟨some 7,.move (.t 100),none,9,[]⟩,
  ⟨some 14,.move (.t 101),none,10,[]⟩]) (RC.seq (RC.block 5 (RC.seq (RC.region 6 [
  ⟨some 103,.move (.t 7),none,0,[]⟩,
  ⟨some 104,.move (.t 103),none,1,[]⟩,
  ⟨some 105,.move (.t 14),(some (104,false)),2,[]⟩,
  ⟨some 106,.bin .neq (.t 105) (.c (.s (.int .i64 0))),(some (104,false)),3,[]⟩,
  ⟨some 107,.pick (.t 104) (.c (.s (.bool true))) (.t 106),none,4,[]⟩,
  ⟨some 102,.move (.t 107),none,5,[]⟩]) (RC.cond (.t 102) (RC.seq (RC.region 6 [
  ⟨some 108,.move (.t 14),none,0,[]⟩,
  ⟨some 109,.move (.t 13),none,1,[]⟩,
  ⟨some 110,.conv .i64 (.t 109),none,2,[]⟩,
  ⟨some 111,.buildSlice 1 1 [.int .i64 0] [(0,1,(.t 110))],none,3,[]⟩,
  ⟨some 112,.call F.kern_say [(.t 108),(.t 111)],none,4,[]⟩,
  ⟨none,.store 2 (.t 4) (.t 112),none,5,[]⟩]) (RC.ret)) (RC.seq (RC.region 3 [
  ⟨some 114,.move (.t 8),none,0,[]⟩,
  ⟨some 115,.bin .eql (.t 114) (.c (.s (.int .i64 0))),none,1,[]⟩,
  ⟨some 113,.move (.t 115),none,2,[]⟩]) (RC.cond (.t 113) (RC.seq (RC.region 2 [
  ⟨some 116,.call F.kern_say [(.c (.s (.int .i64 (-50)))),(.c (.s (.slice none 0 0 1)))],none,0,[]⟩,
  ⟨none,.store 2 (.t 4) (.t 116),none,1,[]⟩]) (RC.ret)) (RC.skip)))))) (RC.seq (RC.region 18 [
  ⟨some 117,.move (.t 6),none,0,[]⟩,
  ⟨some 118,.move (.t 0),none,1,[]⟩,
  ⟨some 119,.nilCheck (.t 118),none,2,[]⟩,
  ⟨some 120,.fieldAddr 12 (.t 119),none,3,[]⟩,
  ⟨some 121,.load none (.t 120),none,4,[]⟩,
  ⟨some 122,.move (.t 0),none,5,[]⟩,
  ⟨some 123,.nilCheck (.t 122),none,6,[]⟩,
  ⟨some 124,.fieldAddr 0 (.t 123),none,7,[]⟩,
  ⟨some 125,.fieldAddr 5 (.t 124),none,8,[]⟩,
  ⟨some 126,.load none (.t 125),none,9,[]⟩,
  ⟨some 127,.move (.t 0),none,10,[]⟩,
  ⟨some 128,.nilCheck (.t 127),none,11,[]⟩,
  ⟨some 129,.fieldAddr 12 (.t 128),none,12,[]⟩,
  ⟨some 130,.load none (.t 129),none,13,[]⟩,
  ⟨some 132,.move (.t 9),none,15,[]⟩,
  ⟨some 133,.move (.t 12),none,16,[]⟩,
  ⟨some 131,.call F.mtx_All_Pri [(.t 126),(.t 130)],none,14,[⟨121,none,(.t 120),none⟩]⟩,
  ⟨some 134,.call F.flag_Flag_Wait [(.t 117),(.t 121),(.t 131),(.t 132),(.t 133)],none,17,[]⟩]) (RC.seq (RC.region 5 [
  ⟨some 135,.move (.t 0),none,0,[]⟩,
  ⟨some 136,.move (.t 5),none,1,[]⟩,
  ⟨some 137,.move (.t 8),none,2,[]⟩,
  ⟨some 138,.call F.kern_Kernel_stay [(.t 135),(.c (.s (.int .i64 4))),(.t 136),(.t 137)],none,3,[]⟩,
  ⟨none,.store 2 (.t 4) (.t 138),none,4,[]⟩]) (RC.ret))))
def kern_Kernel_flag_s4 : RC :=
  RC.seq (RC.region 1 [
  ⟨some 12,.move (.c (.s (.int .i64 (-1)))),none,0,[]⟩]) (RC.seq (RC.seq (RC.region 3 [
  ⟨some 87,.fieldAddr 1 (.t 3),none,0,[]⟩,
  ⟨some 88,.indexArr 4 1 (.t 87) (.c (.s (.int .i64 2))),none,1,[]⟩,
  ⟨some 89,.load none (.t 88),none,2,[]⟩]) (RC.block 4 (RC.seq (RC.region 2 [
  ⟨some 91,.bin .eql (.t 89) (.c (.s (.int .i64 0))),none,0,[]⟩,
  ⟨some 90,.move (.t 91),none,1,[]⟩]) (RC.cond (.t 90) (RC.region 1 [
  ⟨some 12,.move (.c (.s (.int .i64 0))),none,0,[]⟩]) (RC.seq (RC.region 2 [
  ⟨some 93,.bin .eql (.t 89) (.c (.s (.int .i64 1))),none,0,[]⟩,
  ⟨some 92,.move (.t 93),none,1,[]⟩]) (RC.cond (.t 92) (RC.region 1 [
  ⟨some 12,.move (.c (.s (.int .i64 1))),none,0,[]⟩]) (RC.skip))))))) R.kern_Kernel_flag_s3)
def kern_Kernel_flag : RFunc := RFunc.mk 139 [.cell 4 (some 2)] (
  RC.seq (RC.region 2 [
  ⟨some 3,.box (.t 1),none,0,[]⟩,
  ⟨some 4,.newc [.int .i64 0,.int .i64 0],none,1,[]⟩]) (RC.seq (RC.region 6 [
  ⟨some 15,.fieldAddr 1 (.t 3),none,0,[]⟩,
  ⟨some 16,.indexArr 4 1 (.t 15) (.c (.s (.int .i64 0))),none,1,[]⟩,
  ⟨some 17,.load none (.t 16),none,2,[]⟩,
  ⟨some 18,.minmax false (.t 17) (.c (.s (.int .i64 9))),none,3,[]⟩,
  ⟨some 19,.minmax true (.t 18) (.c (.s (.int .i64 0))),none,4,[]⟩,
  ⟨some 5,.move (.t 19),none,5,[]⟩]) (RC.seq (RC.region 12 [
  ⟨some 21,.move (.t 0),none,0,[]⟩,
  ⟨some 22,.nilCheck (.t 21),none,1,[]⟩,
  ⟨some 23,.fieldAddr 0 (.t 22),none,2,[]⟩,
  ⟨some 24,.fieldAddr 1 (.t 23),none,3,[]⟩,
  ⟨some 25,.load none (.t 24),none,4,[]⟩,
  ⟨some 26,.move (.t 5),none,5,[]⟩,
  ⟨some 27,.call F.kern_at__flag_Flag [(.t 25),(.t 26)],none,6,[]⟩,
  ⟨some 20,.move (.t 27),none,7,[]⟩,
  ⟨some 28,.extract 0 (.t 20),none,8,[]⟩,
  ⟨some 29,.extract 1 (.t 20),none,9,[]⟩,
  ⟨some 6,.move (.t 28),none,10,[]⟩,
  ⟨some 7,.move (.t 29),none,11,[]⟩]) (RC.seq (RC.region 3 [
  ⟨some 30,.load (some 5) (.t 3),none,0,[]⟩,
  ⟨some 31,.call F.kern_timeout [(.t 30),(.c (.s (.int .i64 32))),(.c (.s (.int .i64 33)))],none,1,[]⟩,
  ⟨some 8,.move (.t 31),none,2,[]⟩]) (RC.seq (RC.block 0 (RC.seq (RC.region 3 [
  ⟨some 33,.move (.t 7),none,0,[]⟩,
  ⟨some 34,.un .not (.t 33),none,1,[]⟩,
  ⟨some 32,.move (.t 34),none,2,[]⟩]) (RC.cond (.t 32) (RC.seq (RC.region 2 [
  ⟨some 35,.call F.kern_say [(.c (.s (.int .i64 (-18)))),(.c (.s (.slice none 0 0 1)))],none,0,[]⟩,
  ⟨none,.store 2 (.t 4) (.t 35),none,1,[]⟩]) (RC.ret)) (RC.seq (RC.region 16 [
  ⟨some 37,.fieldAddr 1 (.t 3),none,0,[]⟩,
  ⟨some 38,.indexArr 4 1 (.t 37) (.c (.s (.int .i64 1))),none,1,[]⟩,
  ⟨some 39,.load none (.t 38),none,2,[]⟩,
  ⟨some 40,.bin .lss (.t 39) (.c (.s (.int .i64 0))),none,3,[]⟩,
  ⟨some 41,.move (.t 40),none,4,[]⟩,
  ⟨some 42,.fieldAddr 1 (.t 3),(some (41,false)),5,[]⟩,
  ⟨some 43,.indexArr 4 1 (.t 42) (.c (.s (.int .i64 1))),(some (41,false)),6,[]⟩,
  ⟨some 44,.load none (.t 43),(some (41,false)),7,[]⟩,
  ⟨some 45,.bin .gtr (.t 44) (.c (.s (.int .i64 4294967295))),(some (41,false)),8,[]⟩,
  ⟨some 46,.pick (.t 41) (.c (.s (.bool true))) (.t 45),none,9,[]⟩,
  ⟨some 47,.move (.t 46),none,10,[]⟩,
  ⟨some 48,.move (.t 8),(some (47,false)),11,[]⟩,
  ⟨some 49,.call F.kern_late [(.t 48)],(some (47,false)),12,[]⟩,
  ⟨some 50,.un .not (.t 49),(some (47,false)),13,[]⟩,
  ⟨some 51,.pick (.t 47) (.c (.s (.bool true))) (.t 50),none,14,[]⟩,
  ⟨some 36,.move (.t 51),none,15,[]⟩]) (RC.cond (.t 36) (RC.seq (RC.region 2 [
  ⟨some 52,.call F.kern_say [(.c (.s (.int .i64 (-17)))),(.c (.s (.slice none 0 0 1)))],none,0,[]⟩,
  ⟨none,.store 2 (.t 4) (.t 52),none,1,[]⟩]) (RC.ret)) (RC.skip)))))) (RC.seq (RC.region 5 [
  ⟨some 53,.fieldAddr 1 (.t 3),none,0,[]⟩,
  ⟨some 54,.indexArr 4 1 (.t 53) (.c (.s (.int .i64 1))),none,1,[]⟩,
  ⟨some 55,.load none (.t 54),none,2,[]⟩,
  ⟨some 56,.conv .u32 (.t 55),none,3,[]⟩,
  ⟨some 9,.move (.t 56),none,4,[]⟩]) (RC.seq (RC.seq (RC.region 2 [
  ⟨some 57,.fieldAddr 0 (.t 3),none,0,[]⟩,
  ⟨some 58,.load none (.t 57),none,1,[]⟩]) (RC.block 1 (RC.seq (RC.seq (RC.region 2 [
  ⟨some 60,.bin .eql (.t 58) (.c (.s (.int .i64 28))),none,0,[]⟩,
  ⟨some 59,.move (.t 60),none,1,[]⟩]) (RC.cond (.t 59) (RC.skip) (RC.region 2 [
  ⟨some 61,.bin .eql (.t 58) (.c (.s (.int .i64 29))),none,0,[]⟩,
  ⟨some 59,.move (.t 61),none,1,[]⟩]))) R.kern_Kernel_flag_s2))) R.kern_Kernel_flag_s4)))))))
theorem kern_Kernel_flag_ok : chkFunc Go.Proofs.Tryz.prog [0] Go.Proofs.Tryz.f57 kern_Kernel_flag = true := by kernel_rfl
def kern_Kernel_data_s0 : RC :=
  RC.seq (RC.block 0 (RC.seq (RC.region 3 [
  ⟨some 40,.move (.t 7),none,0,[]⟩,
  ⟨some 41,.un .not (.t 40),none,1,[]⟩,
  ⟨some 39,.move (.t 41),none,2,[]⟩]) (RC.cond (.t 39) (RC.seq (RC.region 2 [
  ⟨some 42,.call F.kern_say [(.c (.s (.int .i64 (-18)))),(.c (.s (.slice none 0 0 1)))],none,0,[]⟩,
  ⟨none,.store 2 (.t 4) (.t 42),none,1,[]⟩]) (RC.ret)) (RC.seq (RC.region 4 [
  ⟨some 44,.move (.t 8),none,0,[]⟩,
  ⟨some 45,.call F.kern_late [(.t 44)],none,1,[]⟩,
  ⟨some 46,.un .not (.t 45),none,2,[]⟩,
  ⟨some 43,.move (.t 46),none,3,[]⟩]) (RC.cond (.t 43) (RC.seq (RC.region 2 [
  ⟨some 47,.call F.kern_say [(.c (.s (.int .i64 (-17)))),(.c (.s (.slice none 0 0 1)))],none,0,[]⟩,
  ⟨none,.store 2 (.t 4) (.t 47),none,1,[]⟩]) (RC.ret)) (RC.seq (RC.region 9 [
  ⟨some 49,.fieldAddr 0 (.t 3),none,0,[]⟩,
  ⟨some 50,.load none (.t 49),none,1,[]⟩,
  ⟨some 51,.bin .eql (.t 50) (.c (.s (.int .i64 38))),none,2,[]⟩,
  ⟨some 52,.move (.t 51),none,3,[]⟩,
  ⟨some 53,.fieldAddr 0 (.t 3),(some (52,false)),4,[]⟩,
  ⟨some 54,.load none (.t 53),(some (52,false)),5,[]⟩,
  ⟨some 55,.bin .eql (.t 54) (.c (.s (.int .i64 39))),(some (52,false)),6,[]⟩,
  ⟨some 56,.pick (.t 52) (.c (.s (.bool true))) (.t 55),none,7,[]⟩,
  ⟨some 48,.move (.t 56),none,8,[]⟩]) (RC.cond (.t 48) (RC.seq (RC.region 10 [
  ⟨some 58,.move (.t 6),none,0,[]⟩,
  ⟨some 59,.fieldAddr 1 (.t 3),none,1,[]⟩,
  ⟨some 60,.indexArr 4 1 (.t 59) (.c (.s (.int .i64 1))),none,2,[]⟩,
  ⟨some 61,.load none (.t 60),none,3,[]⟩,
  ⟨some 62,.call F.dtq_Queue_Force [(.t 58),(.t 61)],none,4,[]⟩,
  ⟨some 57,.move (.t 62),none,5,[]⟩,
  ⟨some 63,.extract 0 (.t 57),none,6,[]⟩,
  ⟨some 64,.extract 1 (.t 57),none,7,[]⟩,
  ⟨some 9,.move (.t 63),none,8,[]⟩,
  ⟨some 10,.move (.t 64),none,9,[]⟩]) (RC.seq (RC.region 7 [
  ⟨some 65,.move (.t 0),none,0,[]⟩,
  ⟨some 66,.fieldAddr 1 (.t 3),none,1,[]⟩,
  ⟨some 67,.indexArr 4 1 (.t 66) (.c (.s (.int .i64 1))),none,2,[]⟩,
  ⟨some 68,.load none (.t 67),none,3,[]⟩,
  ⟨some 69,.move (.t 9),none,4,[]⟩,
  ⟨some 70,.buildSlice 1 1 [.int .i64 0] [(0,1,(.t 69))],none,5,[]⟩,
  ⟨some 71,.call F.kern_Kernel_woken [(.t 65),(.t 68),(.t 70)],none,6,[]⟩]) (RC.seq (RC.region 3 [
  ⟨some 72,.move (.t 10),none,0,[]⟩,
  ⟨some 73,.call F.kern_say [(.t 72),(.c (.s (.slice none 0 0 1)))],none,1,[]⟩,
  ⟨none,.store 2 (.t 4) (.t 73),none,2,[]⟩]) (RC.ret)))) (RC.seq (RC.region 4 [
  ⟨some 75,.fieldAddr 0 (.t 3),none,0,[]⟩,
  ⟨some 76,.load none (.t 75),none,1,[]⟩,
  ⟨some 77,.bin .lss (.t 76) (.c (.s (.int .i64 40))),none,2,[]⟩,
  ⟨some 74,.move (.t 77),none,3,[]⟩]) (RC.cond (.t 74) (RC.seq (RC.region 10 [
  ⟨some 79,.move (.t 6),none,0,[]⟩,
  ⟨some 80,.fieldAddr 1 (.t 3),none,1,[]⟩,
  ⟨some 81,.indexArr 4 1 (.t 80) (.c (.s (.int .i64 1))),none,2,[]⟩,
  ⟨some 82,.load none (.t 81),none,3,[]⟩,
  ⟨some 83,.call F.dtq_Queue_TrySend [(.t 79),(.t 82)],none,4,[]⟩,
  ⟨some 78,.move (.t 83),none,5,[]⟩,
  ⟨some 84,.extract 0 (.t 78),none,6,[]⟩,
  ⟨some 85,.extract 1 (.t 78),none,7,[]⟩,
  ⟨some 11,.move (.t 84),none,8,[]⟩,
  ⟨some 12,.move (.t 85),none,9,[]⟩]) (RC.seq (RC.region 7 [
  ⟨some 86,.move (.t 0),none,0,[]⟩,
  ⟨some 87,.fieldAddr 1 (.t 3),none,1,[]⟩,
  ⟨some 88,.indexArr 4 1 (.t 87) (.c (.s (.int .i64 1))),none,2,[]⟩,
  ⟨some 89,.load none (.t 88),none,3,[]⟩,
  ⟨some 90,.move (.t 12),none,4,[]⟩,
  ⟨some 91,.buildSlice 1 1 [.int .i64 0] [(0,1,(.t 90))],none,5,[]⟩,
  ⟨some 92,.call F.kern_Kernel_woken [(.t 86),(.t 89),(.t 91)],none,6,[]⟩]) (RC.seq (RC.block 1 (RC.seq (RC.region 2 [
  ⟨some 94,.move (.t 11),none,0,[]⟩,
  ⟨some 93,.move (.t 94),none,1,[]⟩]) (RC.cond (.t 93) (RC.seq (RC.region 2 [
  ⟨some 95,.call F.kern_say [(.c (.s (.int .i64 0))),(.c (.s (.slice none 0 0 1)))],none,0,[]⟩,
  ⟨none,.store 2 (.t 4) (.t 95),none,1,[]⟩]) (RC.ret)) (RC.seq (RC.region 3 [
  ⟨some 97,.move (.t 8),none,0,[]⟩,
  ⟨some 98,.bin .eql (.t 97) (.c (.s (.int .i64 0))),none,1,[]⟩,
  ⟨some 96,.move (.t 98),none,2,[]⟩]) (RC.cond (.t 96) (RC.seq (RC.region 2 [
  ⟨some 99,.call F.kern_say [(.c (.s (.int .i64 (-50)))),(.c (.s (.slice none 0 0 1)))],none,0,[]⟩,
  ⟨none,.store 2 (.t 4) (.t 99),none,1,[]⟩]) (RC.ret)) (RC.skip)))))) (RC.seq (RC.region 19 [
  ⟨some 100,.move (.t 6),none,0,[]⟩,
  ⟨some 101,.move (.t 0),none,1,[]⟩,
  ⟨some 102,.nilCheck (.t 101),none,2,[]⟩,
  ⟨some 103,.fieldAddr 12 (.t 102),none,3,[]⟩,
  ⟨some 104,.load none (.t 103),none,4,[]⟩,
  ⟨some 105,.move (.t 0),none,5,[]⟩,
  ⟨some 106,.nilCheck (.t 105),none,6,[]⟩,
  ⟨some 107,.fieldAddr 0 (.t 106),none,7,[]⟩,
  ⟨some 108,.fieldAddr 5 (.t 107),none,8,[]⟩,
  ⟨some 109,.load none (.t 108),none,9,[]⟩,
  ⟨some 110,.move (.t 0),none,10,[]⟩,
  ⟨some 111,.nilCheck (.t 110),none,11,[]⟩,
  ⟨some 112,.fieldAddr 12 (.t 111),none,12,[]⟩,
  ⟨some 113,.load none (.t 112),none,13,[]⟩,
  ⟨some 115,.fieldAddr 1 (.t 3),none,15,[]⟩,
  ⟨some 116,.indexArr 4 1 (.t 115) (.c (.s (.int .i64 1))),none,16,[]⟩,
  ⟨some 117,.load none (.t 116),none,17,[]⟩,
  ⟨some 114,.call F.mtx_All_Pri [(.t 109),(.t 113)],none,14,[⟨104,none,(.t 103),none⟩,⟨117,none,(.t 116),none⟩]⟩,
  ⟨some 118,.call F.dtq_Queue_Send [(.t 100),(.t 104),(.t 114),(.t 117)],none,18,[]⟩]) (RC.seq (RC.region 5 [
  ⟨some 119,.move (.t 0),none,0,[]⟩,
  ⟨some 120,.move (.t 5),none,1,[]⟩,
  ⟨some 121,.move (.t 8),none,2,[]⟩,
  ⟨some 122,.call F.kern_Kernel_stay [(.t 119),(.c (.s (.int .i64 5))),(.t 120),(.t 121)],none,3,[]⟩,
  ⟨none,.store 2 (.t 4) (.t 122),none,4,[]⟩]) (RC.ret)))))) (RC.skip)))))))))) (RC.seq (RC.region 4 [
  ⟨some 123,.move (.t 6),none,0,[]⟩,
  ⟨some 124,.call F.dtq_Queue_TryRecv [(.t 123)],none,1,[]⟩,
  ⟨some 13,.newc [.int .i64 0,.bool false,.int .i64 0],none,2,[]⟩,
  ⟨none,.store 3 (.t 13) (.t 124),none,3,[]⟩]) (RC.seq (RC.region 5 [
  ⟨some 125,.move (.t 0),none,0,[]⟩,
  ⟨some 126,.fieldAddr 2 (.t 13),none,1,[]⟩,
  ⟨some 127,.load none (.t 126),none,2,[]⟩,
  ⟨some 128,.buildSlice 1 1 [.int .i64 0] [(0,1,(.t 127))],none,3,[]⟩,
  ⟨some 129,.call F.kern_Kernel_woken [(.t 125),(.c (.s (.int .i64 0))),(.t 128)],none,4,[]⟩]) (RC.seq (RC.block 2 (RC.seq (RC.region 3 [
  ⟨some 131,.fieldAddr 1 (.t 13),none,0,[]⟩,
  ⟨some 132,.load none (.t 131),none,1,[]⟩,
  ⟨some 130,.move (.t 132),none,2,[]⟩]) (RC.cond (.t 130) (RC.seq (RC.region 5 [
  ⟨some 133,.fieldAddr 0 (.t 13),none,0,[]⟩,
  ⟨some 134,.load none (.t 133),none,1,[]⟩,
  ⟨some 135,.buildSlice 1 1 [.int .i64 0] [(0,1,(.t 134))],none,2,[]⟩,
  ⟨some 136,.call F.kern_say [(.c (.s (.int .i64 0))),(.t 135)],none,3,[]⟩,
  ⟨none,.store 2 (.t 4) (.t 136),none,4,[]⟩]) (RC.ret)) (RC.seq (RC.region 3 [
  ⟨some 138,.move (.t 8),none,0,[]⟩,
  ⟨some 139,.bin .eql (.t 138) (.c (.s (.int .i64 0))),none,1,[]⟩,
  ⟨some 137,.move (.t 139),none,2,[]⟩]) (RC.cond (.t 137) (RC.seq (RC.region 2 [
  ⟨some 140,.call F.kern_say [(.c (.s (.int .i64 (-50)))),(.c (.s (.slice none 0 0 1)))],none,0,[]⟩,
  ⟨none,.store 2 (.t 4) (.t 140),none,1,[]⟩]) (RC.ret)) (RC.skip)))))) (RC.seq (RC.region 16 [
  ⟨some 141,.move (.t 6),none,0,[]⟩,
  ⟨some 142,.move (.t 0),none,1,[]⟩,
  ⟨some 143,.nilCheck (.t 142),none,2,[]⟩,
  ⟨some 144,.fieldAddr 12 (.t 143),none,3,[]⟩,
  ⟨some 145,.load none (.t 144),none,4,[]⟩,
  ⟨some 146,.move (.t 0),none,5,[]⟩,
  ⟨some 147,.nilCheck (.t 146),none,6,[]⟩,
  ⟨some 148,.fieldAddr 0 (.t 147),none,7,[]⟩,
  ⟨some 149,.fieldAddr 5 (.t 148),none,8,[]⟩,
  ⟨some 150,.load none (.t 149),none,9,[]⟩,
  ⟨some 151,.move (.t 0),none,10,[]⟩,
  ⟨some 152,.nilCheck (.t 151),none,11,[]⟩,
  ⟨some 153,.fieldAddr 12 (.t 152),none,12,[]⟩,
  ⟨some 154,.load none (.t 153),none,13,[]⟩,
  ⟨some 155,.call F.mtx_All_Pri [(.t 150),(.t 154)],none,14,[⟨145,none,(.t 144),none⟩]⟩,
  ⟨some 156,.call F.dtq_Queue_Recv [(.t 141),(.t 145),(.t 155)],none,15,[]⟩]) (RC.seq (RC.region 5 [
  ⟨some 157,.move (.t 0),none,0,[]⟩,
  ⟨some 158,.move (.t 5),none,1,[]⟩,
  ⟨some 159,.move (.t 8),none,2,[]⟩,
  ⟨some 160,.call F.kern_Kernel_stay [(.t 157),(.c (.s (.int .i64 6))),(.t 158),(.t 159)],none,3,[]⟩,
  ⟨none,.store 2 (.t 4) (.t 160),none,4,[]⟩]) (RC.ret))))))
def kern_Kernel_data_s1 : RC :=
  RC.seq (RC.seq (RC.region 3 [
  ⟨some 34,.fieldAddr 0 (.t 3),none,0,[]⟩,
  ⟨some 35,.load none (.t 34),none,1,[]⟩,
  ⟨some 36,.bin .geq (.t 35) (.c (.s (.int .i64 40))),none,2,[]⟩]) (RC.cond (.t 36) (RC.region 3 [
  ⟨some 37,.load (some 5) (.t 3),none,0,[]⟩,
  ⟨some 38,.call F.kern_timeout [(.t 37),(.c (.s (.int .i64 41))),(.c (.s (.int .i64 42)))],none,1,[]⟩,
  ⟨some 8,.move (.t 38),none,2,[]⟩]) (RC.skip))) R.kern_Kernel_data_s0
def kern_Kernel_data : RFunc := RFunc.mk 161 [.cell 4 (some 2)] (
  RC.seq (RC.region 2 [
  ⟨some 3,.box (.t 1),none,0,[]⟩,
  ⟨some 4,.newc [.int .i64 0,.int .i64 0],none,1,[]⟩]) (RC.seq (RC.region 6 [
  ⟨some 14,.fieldAddr 1 (.t 3),none,0,[]⟩,
  ⟨some 15,.indexArr 4 1 (.t 14) (.c (.s (.int .i64 0))),none,1,[]⟩,
  ⟨some 16,.load none (.t 15),none,2,[]⟩,
  ⟨some 17,.minmax false (.t 16) (.c (.s (.int .i64 9))),none,3,[]⟩,
  ⟨some 18,.minmax true (.t 17) (.c (.s (.int .i64 0))),none,4,[]⟩,
  ⟨some 5,.move (.t 18),none,5,[]⟩]) (RC.seq (RC.region 12 [
  ⟨some 20,.move (.t 0),none,0,[]⟩,
  ⟨some 21,.nilCheck (.t 20),none,1,[]⟩,
  ⟨some 22,.fieldAddr 0 (.t 21),none,2,[]⟩,
  ⟨some 23,.fieldAddr 2 (.t 22),none,3,[]⟩,
  ⟨some 24,.load none (.t 23),none,4,[]⟩,
  ⟨some 25,.move (.t 5),none,5,[]⟩,
  ⟨some 26,.call F.kern_at__dtq_Queue [(.t 24),(.t 25)],none,6,[]⟩,
  ⟨some 19,.move (.t 26),none,7,[]⟩,
  ⟨some 27,.extract 0 (.t 19),none,8,[]⟩,
  ⟨some 28,.extract 1 (.t 19),none,9,[]⟩,
  ⟨some 6,.move (.t 27),none,10,[]⟩,
  ⟨some 7,.move (.t 28),none,11,[]⟩]) (RC.seq (RC.region 3 [
  ⟨some 29,.load (some 5) (.t 3),none,0,[]⟩,
  ⟨some 30,.call F.kern_timeout [(.t 29),(.c (.s (.int .i64 35))),(.c (.s (.int .i64 37)))],none,1,[]⟩,
  ⟨some 8,.move (.t 30),none,2,[]⟩]) (RC.seq (RC.seq (RC.region 3 [
  ⟨some 31,.fieldAddr 0 (.t 3),none,0,[]⟩,
  ⟨some 32,.load none (.t 31),none,1,[]⟩,
  ⟨some 33,.bin .eql (.t 32) (.c (.s (.int .i64 36))),none,2,[]⟩]) (RC.cond (.t 33) (RC.region 1 [
  ⟨some 8,.move (.c (.s (.int .i64 0))),none,0,[]⟩]) (RC.skip))) R.kern_Kernel_data_s1)))))
theorem kern_Kernel_data_ok : chkFunc Go.Proofs.Tryz.prog [0] Go.Proofs.Tryz.f58 kern_Kernel_data = true := by kernel_rfl
def kern_Kernel_mutex_s0 : RC :=
  RC.seq (RC.region 12 [
  ⟨some 78,.move (.t 9),none,0,[]⟩,
  ⟨some 79,.move (.t 5),none,1,[]⟩,
  ⟨some 80,.move (.t 0),none,2,[]⟩,
  ⟨some 81,.nilCheck (.t 80),none,3,[]⟩,
  ⟨some 82,.fieldAddr 12 (.t 81),none,4,[]⟩,
  ⟨some 83,.load none (.t 82),none,5,[]⟩,
  ⟨some 84,.callv (.t 78) [(.t 79),(.t 83)],none,6,[]⟩,
  ⟨some 77,.move (.t 84),none,7,[]⟩,
  ⟨some 85,.extract 0 (.t 77),none,8,[]⟩,
  ⟨some 86,.extract 1 (.t 77),none,9,[]⟩,
  ⟨some 10,.move (.t 85),none,10,[]⟩,
  ⟨some 11,.move (.t 86),none,11,[]⟩]) (RC.seq (RC.block 1 (RC.seq (RC.region 6 [
  ⟨some 88,.move (.t 10),none,0,[]⟩,
  ⟨some 89,.move (.t 88),none,1,[]⟩,
  ⟨some 90,.move (.t 11),(some (89,false)),2,[]⟩,
  ⟨some 91,.bin .neq (.t 90) (.c (.s (.int .i64 0))),(some (89,false)),3,[]⟩,
  ⟨some 92,.pick (.t 89) (.c (.s (.bool true))) (.t 91),none,4,[]⟩,
  ⟨some 87,.move (.t 92),none,5,[]⟩]) (RC.cond (.t 87) (RC.seq (RC.region 2 [
  ⟨some 93,.move (.t 0),none,0,[]⟩,
  ⟨some 94,.call F.kern_Kernel_settle [(.t 93)],none,1,[]⟩]) (RC.seq (RC.region 3 [
  ⟨some 95,.move (.t 11),none,0,[]⟩,
  ⟨some 96,.call F.kern_say [(.t 95),(.c (.s (.slice none 0 0 1)))],none,1,[]⟩,
  ⟨none,.store 2 (.t 4) (.t 96),none,2,[]⟩]) (RC.ret))) (RC.seq (RC.region 3 [
  ⟨some 98,.move (.t 6),none,0,[]⟩,
  ⟨some 99,.bin .eql (.t 98) (.c (.s (.int .i64 0))),none,1,[]⟩,
  ⟨some 97,.move (.t 99),none,2,[]⟩]) (RC.cond (.t 97) (RC.seq (RC.region 2 [
  ⟨some 100,.call F.kern_say [(.c (.s (.int .i64 (-50)))),(.c (.s (.slice none 0 0 1)))],none,0,[]⟩,
  ⟨none,.store 2 (.t 4) (.t 100),none,1,[]⟩]) (RC.ret)) (RC.skip)))))) (RC.seq (RC.region 5 [
  ⟨some 101,.move (.t 0),none,0,[]⟩,
  ⟨some 102,.move (.t 5),none,1,[]⟩,
  ⟨some 103,.move (.t 6),none,2,[]⟩,
  ⟨some 104,.call F.kern_Kernel_stay [(.t 101),(.c (.s (.int .i64 7))),(.t 102),(.t 103)],none,3,[]⟩,
  ⟨none,.store 2 (.t 4) (.t 104),none,4,[]⟩]) (RC.ret)))
def kern_Kernel_mutex : RFunc := RFunc.mk 105 [.cell 4 (some 2)] (
  RC.seq (RC.region 2 [
  ⟨some 3,.box (.t 1),none,0,[]⟩,
  ⟨some 4,.newc [.int .i64 0,.int .i64 0],none,1,[]⟩]) (RC.seq (RC.region 6 [
  ⟨some 12,.fieldAddr 1 (.t 3),none,0,[]⟩,
  ⟨some 13,.indexArr 4 1 (.t 12) (.c (.s (.int .i64 0))),none,1,[]⟩,
  ⟨some 14,.load none (.t 13),none,2,[]⟩,
  ⟨some 15,.minmax false (.t 14) (.c (.s (.int .i64 9))),none,3,[]⟩,
  ⟨some 16,.minmax true (.t 15) (.c (.s (.int .i64 0))),none,4,[]⟩,
  ⟨some 5,.move (.t 16),none,5,[]⟩]) (RC.seq (RC.region 3 [
  ⟨some 17,.load (some 5) (.t 3),none,0,[]⟩,
  ⟨some 18,.call F.kern_timeout [(.t 17),(.c (.s (.int .i64 44))),(.c (.s (.int .i64 45)))],none,1,[]⟩,
  ⟨some 6,.move (.t 18),none,2,[]⟩]) (RC.seq (RC.block 0 (RC.seq (RC.region 12 [
  ⟨some 20,.move (.t 5),none,0,[]⟩,
  ⟨some 21,.bin .lss (.t 20) (.c (.s (.int .i64 1))),none,1,[]⟩,
  ⟨some 22,.move (.t 21),none,2,[]⟩,
  ⟨some 23,.move (.t 5),(some (22,false)),3,[]⟩,
  ⟨some 24,.move (.t 0),(some (22,false)),4,[]⟩,
  ⟨some 25,.nilCheck (.t 24),(some (22,false)),5,[]⟩,
  ⟨some 26,.fieldAddr 0 (.t 25),(some (22,false)),6,[]⟩,
  ⟨some 27,.fieldAddr 4 (.t 26),(some (22,false)),7,[]⟩,
  ⟨some 28,.load none (.t 27),(some (22,false)),8,[]⟩,
  ⟨some 29,.bin .gtr (.t 23) (.t 28),(some (22,false)),9,[]⟩,
  ⟨some 30,.pick (.t 22) (.c (.s (.bool true))) (.t 29),none,10,[]⟩,
  ⟨some 19,.move (.t 30),none,11,[]⟩]) (RC.cond (.t 19) (RC.seq (RC.region 2 [
  ⟨some 31,.call F.kern_say [(.c (.s (.int .i64 (-18)))),(.c (.s (.slice none 0 0 1)))],none,0,[]⟩,
  ⟨none,.store 2 (.t 4) (.t 31),none,1,[]⟩]) (RC.ret)) (RC.seq (RC.region 4 [
  ⟨some 33,.move (.t 6),none,0,[]⟩,
  ⟨some 34,.call F.kern_late [(.t 33)],none,1,[]⟩,
  ⟨some 35,.un .not (.t 34),none,2,[]⟩,
  ⟨some 32,.move (.t 35),none,3,[]⟩]) (RC.cond (.t 32) (RC.seq (RC.region 2 [
  ⟨some 36,.call F.kern_say [(.c (.s (.int .i64 (-17)))),(.c (.s (.slice none 0 0 1)))],none,0,[]⟩,
  ⟨none,.store 2 (.t 4) (.t 36),none,1,[]⟩]) (RC.ret)) (RC.seq (RC.region 4 [
  ⟨some 38,.fieldAddr 0 (.t 3),none,0,[]⟩,
  ⟨some 39,.load none (.t 38),none,1,[]⟩,
  ⟨some 40,.bin .eql (.t 39) (.c (.s (.int .i64 46))),none,2,[]⟩,
  ⟨some 37,.move (.t 40),none,3,[]⟩]) (RC.cond (.t 37) (RC.seq (RC.region 16 [
  ⟨some 42,.move (.t 0),none,0,[]⟩,
  ⟨some 43,.nilCheck (.t 42),none,1,[]⟩,
  ⟨some 44,.fieldAddr 0 (.t 43),none,2,[]⟩,
  ⟨some 45,.fieldAddr 5 (.t 44),none,3,[]⟩,
  ⟨some 46,.load none (.t 45),none,4,[]⟩,
  ⟨some 47,.move (.t 5),none,5,[]⟩,
  ⟨some 48,.move (.t 0),none,6,[]⟩,
  ⟨some 49,.nilCheck (.t 48),none,7,[]⟩,
  ⟨some 50,.fieldAddr 12 (.t 49),none,8,[]⟩,
  ⟨some 51,.load none (.t 50),none,9,[]⟩,
  ⟨some 52,.call F.mtx_All_Unlock [(.t 46),(.t 47),(.t 51)],none,10,[]⟩,
  ⟨some 41,.move (.t 52),none,11,[]⟩,
  ⟨some 53,.extract 0 (.t 41),none,12,[]⟩,
  ⟨some 54,.extract 1 (.t 41),none,13,[]⟩,
  ⟨some 7,.move (.t 53),none,14,[]⟩,
  ⟨some 8,.move (.t 54),none,15,[]⟩]) (RC.seq (RC.region 4 [
  ⟨some 55,.move (.t 0),none,0,[]⟩,
  ⟨some 56,.move (.t 7),none,1,[]⟩,
  ⟨some 57,.buildSlice 1 1 [.int .i64 0] [(0,1,(.t 56))],none,2,[]⟩,
  ⟨some 58,.call F.kern_Kernel_woken [(.t 55),(.c (.s (.int .i64 0))),(.t 57)],none,3,[]⟩]) (RC.seq (RC.region 2 [
  ⟨some 59,.move (.t 0),none,0,[]⟩,
  ⟨some 60,.call F.kern_Kernel_settle [(.t 59)],none,1,[]⟩]) (RC.seq (RC.region 3 [
  ⟨some 61,.move (.t 8),none,0,[]⟩,
  ⟨some 62,.call F.kern_say [(.t 61),(.c (.s (.slice none 0 0 1)))],none,1,[]⟩,
  ⟨none,.store 2 (.t 4) (.t 62),none,2,[]⟩]) (RC.ret))))) (RC.skip)))))))) (RC.seq (RC.region 7 [
  ⟨some 63,.move (.t 0),none,0,[]⟩,
  ⟨some 64,.nilCheck (.t 63),none,1,[]⟩,
  ⟨some 65,.fieldAddr 0 (.t 64),none,2,[]⟩,
  ⟨some 66,.fieldAddr 5 (.t 65),none,3,[]⟩,
  ⟨some 67,.load none (.t 66),none,4,[]⟩,
  ⟨some 68,.bindf F.mtx_All_Lock (.t 67),none,5,[]⟩,
  ⟨some 9,.move (.t 68),none,6,[]⟩]) (RC.seq (RC.seq (RC.region 2 [
  ⟨some 69,.move (.t 6),none,0,[]⟩,
  ⟨some 70,.bin .eql (.t 69) (.c (.s (.int .i64 0))),none,1,[]⟩]) (RC.cond (.t 70) (RC.region 7 [
  ⟨some 71,.move (.t 0),none,0,[]⟩,
  ⟨some 72,.nilCheck (.t 71),none,1,[]⟩,
  ⟨some 73,.fieldAddr 0 (.t 72),none,2,[]⟩,
  ⟨some 74,.fieldAddr 5 (.t 73),none,3,[]⟩,
  ⟨some 75,.load none (.t 74),none,4,[]⟩,
  ⟨some 76,.bindf F.mtx_All_TryLock (.t 75),none,5,[]⟩,
  ⟨some 9,.move (.t 76),none,6,[]⟩]) (RC.skip))) R.kern_Kernel_mutex_s0))))))
theorem kern_Kernel_mutex_ok : chkFunc Go.Proofs.Tryz.prog [0] Go.Proofs.Tryz.f59 kern_Kernel_mutex = true := by kernel_rfl
def kern_Kernel_block : RFunc := RFunc.mk 93 [.cell 4 (some 2)] (
  RC.seq (RC.region 2 [
  ⟨some 3,.box (.t 1),none,0,[]⟩,
  ⟨some 4,.newc [.int .i64 0,.int .i64 0],none,1,[]⟩]) (RC.seq (RC.region 6 [
  ⟨some 12,.fieldAddr 1 (.t 3),none,0,[]⟩,
  ⟨some 13,.indexArr 4 1 (.t 12) (.c (.s (.int .i64 0))),none,1,[]⟩,
  ⟨some 14,.load none (.t 13),none,2,[]⟩,
  ⟨some 15,.minmax false (.t 14) (.c (.s (.int .i64 9))),none,3,[]⟩,
  ⟨some 16,.minmax true (.t 15) (.c (.s (.int .i64 0))),none,4,[]⟩,
  ⟨some 5,.move (.t 16),none,5,[]⟩]) (RC.seq (RC.region 12 [
  ⟨some 18,.move (.t 0),none,0,[]⟩,
  ⟨some 19,.nilCheck (.t 18),none,1,[]⟩,
  ⟨some 20,.fieldAddr 0 (.t 19),none,2,[]⟩,
  ⟨some 21,.fieldAddr 3 (.t 20),none,3,[]⟩,
  ⟨some 22,.load none (.t 21),none,4,[]⟩,
  ⟨some 23,.move (.t 5),none,5,[]⟩,
  ⟨some 24,.call F.kern_at__mpf_Pool [(.t 22),(.t 23)],none,6,[]⟩,
  ⟨some 17,.move (.t 24),none,7,[]⟩,
  ⟨some 25,.extract 0 (.t 17),none,8,[]⟩,
  ⟨some 26,.extract 1 (.t 17),none,9,[]⟩,
  ⟨some 6,.move (.t 25),none,10,[]⟩,
  ⟨some 7,.move (.t 26),none,11,[]⟩]) (RC.seq (RC.region 3 [
  ⟨some 27,.load (some 5) (.t 3),none,0,[]⟩,
  ⟨some 28,.call F.kern_timeout [(.t 27),(.c (.s (.int .i64 48))),(.c (.s (.int .i64 49)))],none,1,[]⟩,
  ⟨some 8,.move (.t 28),none,2,[]⟩]) (RC.seq (RC.block 0 (RC.seq (RC.region 3 [
  ⟨some 30,.move (.t 7),none,0,[]⟩,
  ⟨some 31,.un .not (.t 30),none,1,[]⟩,
  ⟨some 29,.move (.t 31),none,2,[]⟩]) (RC.cond (.t 29) (RC.seq (RC.region 2 [
  ⟨some 32,.call F.kern_say [(.c (.s (.int .i64 (-18)))),(.c (.s (.slice none 0 0 1)))],none,0,[]⟩,
  ⟨none,.store 2 (.t 4) (.t 32),none,1,[]⟩]) (RC.ret)) (RC.seq (RC.region 4 [
  ⟨some 34,.move (.t 8),none,0,[]⟩,
  ⟨some 35,.call F.kern_late [(.t 34)],none,1,[]⟩,
  ⟨some 36,.un .not (.t 35),none,2,[]⟩,
  ⟨some 33,.move (.t 36),none,3,[]⟩]) (RC.cond (.t 33) (RC.seq (RC.region 2 [
  ⟨some 37,.call F.kern_say [(.c (.s (.int .i64 (-17)))),(.c (.s (.slice none 0 0 1)))],none,0,[]⟩,
  ⟨none,.store 2 (.t 4) (.t 37),none,1,[]⟩]) (RC.ret)) (RC.seq (RC.region 4 [
  ⟨some 39,.fieldAddr 0 (.t 3),none,0,[]⟩,
  ⟨some 40,.load none (.t 39),none,1,[]⟩,
  ⟨some 41,.bin .eql (.t 40) (.c (.s (.int .i64 50))),none,2,[]⟩,
  ⟨some 38,.move (.t 41),none,3,[]⟩]) (RC.cond (.t 38) (RC.seq (RC.region 10 [
  ⟨some 43,.move (.t 6),none,0,[]⟩,
  ⟨some 44,.fieldAddr 1 (.t 3),none,1,[]⟩,
  ⟨some 45,.indexArr 4 1 (.t 44) (.c (.s (.int .i64 1))),none,2,[]⟩,
  ⟨some 46,.load none (.t 45),none,3,[]⟩,
  ⟨some 47,.call F.mpf_Pool_Put [(.t 43),(.t 46)],none,4,[]⟩,
  ⟨some 42,.move (.t 47),none,5,[]⟩,
  ⟨some 48,.extract 0 (.t 42),none,6,[]⟩,
  ⟨some 49,.extract 1 (.t 42),none,7,[]⟩,
  ⟨some 9,.move (.t 48),none,8,[]⟩,
  ⟨some 10,.move (.t 49),none,9,[]⟩]) (RC.seq (RC.region 7 [
  ⟨some 50,.move (.t 0),none,0,[]⟩,
  ⟨some 51,.fieldAddr 1 (.t 3),none,1,[]⟩,
  ⟨some 52,.indexArr 4 1 (.t 51) (.c (.s (.int .i64 1))),none,2,[]⟩,
  ⟨some 53,.load none (.t 52),none,3,[]⟩,
  ⟨some 54,.move (.t 9),none,4,[]⟩,
  ⟨some 55,.buildSlice 1 1 [.int .i64 0] [(0,1,(.t 54))],none,5,[]⟩,
  ⟨some 56,.call F.kern_Kernel_woken [(.t 50),(.t 53),(.t 55)],none,6,[]⟩]) (RC.seq (RC.region 3 [
  ⟨some 57,.move (.t 10),none,0,[]⟩,
  ⟨some 58,.call F.kern_say [(.t 57),(.c (.s (.slice none 0 0 1)))],none,1,[]⟩,
  ⟨none,.store 2 (.t 4) (.t 58),none,2,[]⟩]) (RC.ret)))) (RC.skip)))))))) (RC.seq (RC.region 7 [
  ⟨some 60,.move (.t 6),none,0,[]⟩,
  ⟨some 61,.call F.mpf_Pool_Poll [(.t 60)],none,1,[]⟩,
  ⟨some 59,.move (.t 61),none,2,[]⟩,
  ⟨some 62,.extract 0 (.t 59),none,3,[]⟩,
  ⟨some 63,.extract 1 (.t 59),none,4,[]⟩,
  ⟨some 11,.move (.t 62),none,5,[]⟩,
  ⟨some 7,.move (.t 63),none,6,[]⟩]) (RC.seq (RC.block 1 (RC.seq (RC.region 2 [
  ⟨some 65,.move (.t 7),none,0,[]⟩,
  ⟨some 64,.move (.t 65),none,1,[]⟩]) (RC.cond (.t 64) (RC.seq (RC.region 4 [
  ⟨some 66,.move (.t 11),none,0,[]⟩,
  ⟨some 67,.buildSlice 1 1 [.int .i64 0] [(0,1,(.t 66))],none,1,[]⟩,
  ⟨some 68,.call F.kern_say [(.c (.s (.int .i64 0))),(.t 67)],none,2,[]⟩,
  ⟨none,.store 2 (.t 4) (.t 68),none,3,[]⟩]) (RC.ret)) (RC.seq (RC.region 3 [
  ⟨some 70,.move (.t 8),none,0,[]⟩,
  ⟨some 71,.bin .eql (.t 70) (.c (.s (.int .i64 0))),none,1,[]⟩,
  ⟨some 69,.move (.t 71),none,2,[]⟩]) (RC.cond (.t 69) (RC.seq (RC.region 2 [
  ⟨some 72,.call F.kern_say [(.c (.s (.int .i64 (-50)))),(.c (.s (.slice none 0 0 1)))],none,0,[]⟩,
  ⟨none,.store 2 (.t 4) (.t 72),none,1,[]⟩]) (RC.ret)) (RC.skip)))))) (RC.seq (RC.region 16 [
  ⟨some 73,.move (.t 6),none,0,[]⟩,
  ⟨some 74,.move (.t 0),none,1,[]⟩,
  ⟨some 75,.nilCheck (.t 74),none,2,[]⟩,
  ⟨some 76,.fieldAddr 12 (.t 75),none,3,[]⟩,
  ⟨some 77,.load none (.t 76),none,4,[]⟩,
  ⟨some 78,.move (.t 0),none,5,[]⟩,
  ⟨some 79,.nilCheck (.t 78),none,6,[]⟩,
  ⟨some 80,.fieldAddr 0 (.t 79),none,7,[]⟩,
  ⟨some 81,.fieldAddr 5 (.t 80),none,8,[]⟩,
  ⟨some 82,.load none (.t 81),none,9,[]⟩,
  ⟨some 83,.move (.t 0),none,10,[]⟩,
  ⟨some 84,.nilCheck (.t 83),none,11,[]⟩,
  ⟨some 85,.fieldAddr 12 (.t 84),none,12,[]⟩,
  ⟨some 86,.load none (.t 85),none,13,[]⟩,
  ⟨some 87,.call F.mtx_All_Pri [(.t 82),(.t 86)],none,14,[⟨77,none,(.t 76),none⟩]⟩,
  ⟨some 88,.call F.mpf_Pool_Get [(.t 73),(.t 77),(.t 87)],none,15,[]⟩]) (RC.seq (RC.region 5 [
  ⟨some 89,.move (.t 0),none,0,[]⟩,
  ⟨some 90,.move (.t 5),none,1,[]⟩,
  ⟨some 91,.move (.t 8),none,2,[]⟩,
  ⟨some 92,.call F.kern_Kernel_stay [(.t 89),(.c (.s (.int .i64 8))),(.t 90),(.t 91)],none,3,[]⟩,
  ⟨none,.store 2 (.t 4) (.t 92),none,4,[]⟩]) (RC.ret))))))))))
theorem kern_Kernel_block_ok : chkFunc Go.Proofs.Tryz.prog [0] Go.Proofs.Tryz.f60 kern_Kernel_block = true := by kernel_rfl
def kern_Kernel_time_s0 : RC :=
  RC.seq (RC.region 2 [
  ⟨some 90,.call F.kern_say [(.c (.s (.int .i64 0))),(.c (.s (.slice none 0 0 1)))],none,0,[]⟩,
  ⟨none,.store 2 (.t 4) (.t 90),none,1,[]⟩]) (RC.ret)
def kern_Kernel_time : RFunc := RFunc.mk 91 [.cell 4 (some 2)] (
  RC.seq (RC.region 2 [
  ⟨some 3,.box (.t 1),none,0,[]⟩,
  ⟨some 4,.newc [.int .i64 0,.int .i64 0],none,1,[]⟩]) (RC.seq (RC.region 6 [
  ⟨some 6,.fieldAddr 1 (.t 3),none,0,[]⟩,
  ⟨some 7,.indexArr 4 1 (.t 6) (.c (.s (.int .i64 0))),none,1,[]⟩,
  ⟨some 8,.load none (.t 7),none,2,[]⟩,
  ⟨some 9,.minmax false (.t 8) (.c (.s (.int .i64 9))),none,3,[]⟩,
  ⟨some 10,.minmax true (.t 9) (.c (.s (.int .i64 0))),none,4,[]⟩,
  ⟨some 5,.move (.t 10),none,5,[]⟩]) (RC.seq (RC.seq (RC.region 2 [
  ⟨some 11,.fieldAddr 0 (.t 3),none,0,[]⟩,
  ⟨some 12,.load none (.t 11),none,1,[]⟩]) (RC.block 0 (RC.seq (RC.region 2 [
  ⟨some 14,.bin .eql (.t 12) (.c (.s (.int .i64 51))),none,0,[]⟩,
  ⟨some 13,.move (.t 14),none,1,[]⟩]) (RC.cond (.t 13) (RC.seq (RC.seq (RC.region 10 [
  ⟨some 15,.fieldAddr 1 (.t 3),none,0,[]⟩,
  ⟨some 16,.indexArr 4 1 (.t 15) (.c (.s (.int .i64 0))),none,1,[]⟩,
  ⟨some 17,.load none (.t 16),none,2,[]⟩,
  ⟨some 18,.bin .lss (.t 17) (.c (.s (.int .i64 0))),none,3,[]⟩,
  ⟨some 19,.move (.t 18),none,4,[]⟩,
  ⟨some 20,.fieldAddr 1 (.t 3),(some (19,false)),5,[]⟩,
  ⟨some 21,.indexArr 4 1 (.t 20) (.c (.s (.int .i64 0))),(some (19,false)),6,[]⟩,
  ⟨some 22,.load none (.t 21),(some (19,false)),7,[]⟩,
  ⟨some 23,.bin .geq (.t 22) (.c (.s (.int .i64 281474976710656))),(some (19,false)),8,[]⟩,
  ⟨some 24,.pick (.t 19) (.c (.s (.bool true))) (.t 23),none,9,[]⟩]) (RC.cond (.t 24) (RC.seq (RC.region 2 [
  ⟨some 25,.call F.kern_say [(.c (.s (.int .i64 (-17)))),(.c (.s (.slice none 0 0 1)))],none,0,[]⟩,
  ⟨none,.store 2 (.t 4) (.t 25),none,1,[]⟩]) (RC.ret)) (RC.skip))) (RC.region 12 [
  ⟨some 26,.move (.t 0),none,0,[]⟩,
  ⟨some 27,.nilCheck (.t 26),none,1,[]⟩,
  ⟨some 28,.fieldAddr 7 (.t 27),none,2,[]⟩,
  ⟨some 29,.load none (.t 28),none,3,[]⟩,
  ⟨some 30,.nilCheck (.t 29),none,4,[]⟩,
  ⟨some 31,.fieldAddr 0 (.t 30),none,5,[]⟩,
  ⟨some 32,.load none (.t 31),none,6,[]⟩,
  ⟨some 33,.fieldAddr 1 (.t 3),none,7,[]⟩,
  ⟨some 34,.indexArr 4 1 (.t 33) (.c (.s (.int .i64 0))),none,8,[]⟩,
  ⟨some 35,.load none (.t 34),none,9,[]⟩,
  ⟨some 36,.conv .u64 (.t 35),none,10,[]⟩,
  ⟨some 37,.call F.clock_Clock_Set [(.t 32),(.t 36)],none,11,[]⟩])) (RC.seq (RC.region 2 [
  ⟨some 39,.bin .eql (.t 12) (.c (.s (.int .i64 52))),none,0,[]⟩,
  ⟨some 38,.move (.t 39),none,1,[]⟩]) (RC.cond (.t 38) (RC.seq (RC.region 12 [
  ⟨some 40,.move (.t 0),none,0,[]⟩,
  ⟨some 41,.nilCheck (.t 40),none,1,[]⟩,
  ⟨some 42,.fieldAddr 7 (.t 41),none,2,[]⟩,
  ⟨some 43,.load none (.t 42),none,3,[]⟩,
  ⟨some 44,.nilCheck (.t 43),none,4,[]⟩,
  ⟨some 45,.fieldAddr 0 (.t 44),none,5,[]⟩,
  ⟨some 46,.load none (.t 45),none,6,[]⟩,
  ⟨some 47,.call F.clock_Clock_Now [(.t 46)],none,7,[]⟩,
  ⟨some 48,.conv .i64 (.t 47),none,8,[]⟩,
  ⟨some 49,.buildSlice 1 1 [.int .i64 0] [(0,1,(.t 48))],none,9,[]⟩,
  ⟨some 50,.call F.kern_say [(.c (.s (.int .i64 0))),(.t 49)],none,10,[]⟩,
  ⟨none,.store 2 (.t 4) (.t 50),none,11,[]⟩]) (RC.ret)) (RC.seq (RC.region 2 [
  ⟨some 52,.bin .eql (.t 12) (.c (.s (.int .i64 53))),none,0,[]⟩,
  ⟨some 51,.move (.t 52),none,1,[]⟩]) (RC.cond (.t 51) (RC.seq (RC.region 8 [
  ⟨some 53,.move (.t 0),none,0,[]⟩,
  ⟨some 54,.nilCheck (.t 53),none,1,[]⟩,
  ⟨some 55,.fieldAddr 7 (.t 54),none,2,[]⟩,
  ⟨some 56,.load none (.t 55),none,3,[]⟩,
  ⟨some 57,.move (.t 5),none,4,[]⟩,
  ⟨some 58,.call F.cyc_Hands_Start [(.t 56),(.t 57)],none,5,[]⟩,
  ⟨some 59,.call F.kern_say [(.t 58),(.c (.s (.slice none 0 0 1)))],none,6,[]⟩,
  ⟨none,.store 2 (.t 4) (.t 59),none,7,[]⟩]) (RC.ret)) (RC.seq (RC.region 2 [
  ⟨some 61,.bin .eql (.t 12) (.c (.s (.int .i64 54))),none,0,[]⟩,
  ⟨some 60,.move (.t 61),none,1,[]⟩]) (RC.cond (.t 60) (RC.seq (RC.region 8 [
  ⟨some 62,.move (.t 0),none,0,[]⟩,
  ⟨some 63,.nilCheck (.t 62),none,1,[]⟩,
  ⟨some 64,.fieldAddr 7 (.t 63),none,2,[]⟩,
  ⟨some 65,.load none (.t 64),none,3,[]⟩,
  ⟨some 66,.move (.t 5),none,4,[]⟩,
  ⟨some 67,.call F.cyc_Hands_Stop [(.t 65),(.t 66)],none,5,[]⟩,
  ⟨some 68,.call F.kern_say [(.t 67),(.c (.s (.slice none 0 0 1)))],none,6,[]⟩,
  ⟨none,.store 2 (.t 4) (.t 68),none,7,[]⟩]) (RC.ret)) (RC.seq (RC.region 2 [
  ⟨some 70,.bin .eql (.t 12) (.c (.s (.int .i64 55))),none,0,[]⟩,
  ⟨some 69,.move (.t 70),none,1,[]⟩]) (RC.cond (.t 69) (RC.seq (RC.region 11 [
  ⟨some 71,.move (.t 0),none,0,[]⟩,
  ⟨some 72,.nilCheck (.t 71),none,1,[]⟩,
  ⟨some 73,.fieldAddr 7 (.t 72),none,2,[]⟩,
  ⟨some 74,.load none (.t 73),none,3,[]⟩,
  ⟨some 75,.move (.t 5),none,4,[]⟩,
  ⟨some 76,.fieldAddr 1 (.t 3),none,5,[]⟩,
  ⟨some 77,.indexArr 4 1 (.t 76) (.c (.s (.int .i64 1))),none,6,[]⟩,
  ⟨some 78,.load none (.t 77),none,7,[]⟩,
  ⟨some 79,.call F.cyc_Hands_Set [(.t 74),(.t 75),(.t 78)],none,8,[]⟩,
  ⟨some 80,.call F.kern_say [(.t 79),(.c (.s (.slice none 0 0 1)))],none,9,[]⟩,
  ⟨none,.store 2 (.t 4) (.t 80),none,10,[]⟩]) (RC.ret)) (RC.seq (RC.region 2 [
  ⟨some 82,.bin .eql (.t 12) (.c (.s (.int .i64 56))),none,0,[]⟩,
  ⟨some 81,.move (.t 82),none,1,[]⟩]) (RC.cond (.t 81) (RC.seq (RC.region 8 [
  ⟨some 83,.move (.t 0),none,0,[]⟩,
  ⟨some 84,.nilCheck (.t 83),none,1,[]⟩,
  ⟨some 85,.fieldAddr 7 (.t 84),none,2,[]⟩,
  ⟨some 86,.load none (.t 85),none,3,[]⟩,
  ⟨some 87,.move (.t 5),none,4,[]⟩,
  ⟨some 88,.call F.cyc_Hands_Clear [(.t 86),(.t 87)],none,5,[]⟩,
  ⟨some 89,.call F.kern_say [(.t 88),(.c (.s (.slice none 0 0 1)))],none,6,[]⟩,
  ⟨none,.store 2 (.t 4) (.t 89),none,7,[]⟩]) (RC.ret)) (RC.skip))))))))))))))) R.kern_Kernel_time_s0)))
theorem kern_Kernel_time_ok : chkFunc Go.Proofs.Tryz.prog [0] Go.Proofs.Tryz.f61 kern_Kernel_time = true := by kernel_rfl
def kern_Kernel_state_s0 : RC :=
  RC.cond (.t 18) (RC.region 8 [
  ⟨some 21,.move (.t 0),none,0,[]⟩,
  ⟨some 22,.nilCheck (.t 21),none,1,[]⟩,
  ⟨some 23,.fieldAddr 6 (.t 22),none,2,[]⟩,
  ⟨some 24,.load none (.t 23),none,3,[]⟩,
  ⟨some 25,.fieldAddr 0 (.t 3),none,4,[]⟩,
  ⟨some 26,.load none (.t 25),none,5,[]⟩,
  ⟨some 27,.bin .eql (.t 26) (.c (.s (.int .i64 59))),none,6,[]⟩,
  ⟨some 28,.call F.ctx_Place_Disable [(.t 24),(.t 27)],none,7,[]⟩]) (RC.seq (RC.region 2 [
  ⟨some 30,.bin .eql (.t 6) (.c (.s (.int .i64 61))),none,0,[]⟩,
  ⟨some 29,.move (.t 30),none,1,[]⟩]) (RC.cond (.t 29) (RC.seq (RC.region 9 [
  ⟨some 31,.move (.t 0),none,0,[]⟩,
  ⟨some 32,.nilCheck (.t 31),none,1,[]⟩,
  ⟨some 33,.fieldAddr 6 (.t 32),none,2,[]⟩,
  ⟨some 34,.load none (.t 33),none,3,[]⟩,
  ⟨some 35,.nilCheck (.t 34),none,4,[]⟩,
  ⟨some 36,.fieldAddr 0 (.t 35),none,5,[]⟩,
  ⟨some 37,.call F.ctx_state_In [(.t 36)],none,6,[]⟩,
  ⟨some 38,.call F.kern_truth [(.t 37)],none,7,[]⟩,
  ⟨none,.store 2 (.t 4) (.t 38),none,8,[]⟩]) (RC.ret)) (RC.seq (RC.region 2 [
  ⟨some 40,.bin .eql (.t 6) (.c (.s (.int .i64 62))),none,0,[]⟩,
  ⟨some 39,.move (.t 40),none,1,[]⟩]) (RC.cond (.t 39) (RC.seq (RC.region 9 [
  ⟨some 41,.move (.t 0),none,0,[]⟩,
  ⟨some 42,.nilCheck (.t 41),none,1,[]⟩,
  ⟨some 43,.fieldAddr 6 (.t 42),none,2,[]⟩,
  ⟨some 44,.load none (.t 43),none,3,[]⟩,
  ⟨some 45,.nilCheck (.t 44),none,4,[]⟩,
  ⟨some 46,.fieldAddr 0 (.t 45),none,5,[]⟩,
  ⟨some 47,.call F.ctx_state_Locked [(.t 46)],none,6,[]⟩,
  ⟨some 48,.call F.kern_truth [(.t 47)],none,7,[]⟩,
  ⟨none,.store 2 (.t 4) (.t 48),none,8,[]⟩]) (RC.ret)) (RC.seq (RC.region 2 [
  ⟨some 50,.bin .eql (.t 6) (.c (.s (.int .i64 63))),none,0,[]⟩,
  ⟨some 49,.move (.t 50),none,1,[]⟩]) (RC.cond (.t 49) (RC.seq (RC.region 9 [
  ⟨some 51,.move (.t 0),none,0,[]⟩,
  ⟨some 52,.nilCheck (.t 51),none,1,[]⟩,
  ⟨some 53,.fieldAddr 6 (.t 52),none,2,[]⟩,
  ⟨some 54,.load none (.t 53),none,3,[]⟩,
  ⟨some 55,.nilCheck (.t 54),none,4,[]⟩,
  ⟨some 56,.fieldAddr 0 (.t 55),none,5,[]⟩,
  ⟨some 57,.call F.ctx_state_Disabled [(.t 56)],none,6,[]⟩,
  ⟨some 58,.call F.kern_truth [(.t 57)],none,7,[]⟩,
  ⟨none,.store 2 (.t 4) (.t 58),none,8,[]⟩]) (RC.ret)) (RC.seq (RC.region 2 [
  ⟨some 60,.bin .eql (.t 6) (.c (.s (.int .i64 64))),none,0,[]⟩,
  ⟨some 59,.move (.t 60),none,1,[]⟩]) (RC.cond (.t 59) (RC.seq (RC.region 10 [
  ⟨some 61,.move (.t 0),none,0,[]⟩,
  ⟨some 62,.nilCheck (.t 61),none,1,[]⟩,
  ⟨some 63,.fieldAddr 6 (.t 62),none,2,[]⟩,
  ⟨some 64,.load none (.t 63),none,3,[]⟩,
  ⟨some 65,.nilCheck (.t 64),none,4,[]⟩,
  ⟨some 66,.fieldAddr 0 (.t 65),none,5,[]⟩,
  ⟨some 67,.call F.ctx_state_Dispatch [(.t 66)],none,6,[]⟩,
  ⟨some 68,.un .not (.t 67),none,7,[]⟩,
  ⟨some 69,.call F.kern_truth [(.t 68)],none,8,[]⟩,
  ⟨none,.store 2 (.t 4) (.t 69),none,9,[]⟩]) (RC.ret)) (RC.skip)))))))))
def kern_Kernel_state_s1 : RC :=
  RC.cond (.t 7) (RC.region 8 [
  ⟨some 10,.move (.t 0),none,0,[]⟩,
  ⟨some 11,.nilCheck (.t 10),none,1,[]⟩,
  ⟨some 12,.fieldAddr 6 (.t 11),none,2,[]⟩,
  ⟨some 13,.load none (.t 12),none,3,[]⟩,
  ⟨some 14,.fieldAddr 0 (.t 3),none,4,[]⟩,
  ⟨some 15,.load none (.t 14),none,5,[]⟩,
  ⟨some 16,.bin .eql (.t 15) (.c (.s (.int .i64 57))),none,6,[]⟩,
  ⟨some 17,.call F.ctx_Place_Lock [(.t 13),(.t 16)],none,7,[]⟩]) (RC.seq (RC.seq (RC.region 2 [
  ⟨some 19,.bin .eql (.t 6) (.c (.s (.int .i64 59))),none,0,[]⟩,
  ⟨some 18,.move (.t 19),none,1,[]⟩]) (RC.cond (.t 18) (RC.skip) (RC.region 2 [
  ⟨some 20,.bin .eql (.t 6) (.c (.s (.int .i64 60))),none,0,[]⟩,
  ⟨some 18,.move (.t 20),none,1,[]⟩]))) R.kern_Kernel_state_s0)
def kern_Kernel_state_s2 : RC :=
  RC.seq (RC.region 2 [
  ⟨some 70,.call F.kern_say [(.c (.s (.int .i64 0))),(.c (.s (.slice none 0 0 1)))],none,0,[]⟩,
  ⟨none,.store 2 (.t 4) (.t 70),none,1,[]⟩]) (RC.ret)
def kern_Kernel_state : RFunc := RFunc.mk 71 [.cell 4 (some 2)] (
  RC.seq (RC.region 2 [
  ⟨some 3,.box (.t 1),none,0,[]⟩,
  ⟨some 4,.newc [.int .i64 0,.int .i64 0],none,1,[]⟩]) (RC.seq (RC.seq (RC.region 2 [
  ⟨some 5,.fieldAddr 0 (.t 3),none,0,[]⟩,
  ⟨some 6,.load none (.t 5),none,1,[]⟩]) (RC.block 0 (RC.seq (RC.seq (RC.region 2 [
  ⟨some 8,.bin .eql (.t 6) (.c (.s (.int .i64 57))),none,0,[]⟩,
  ⟨some 7,.move (.t 8),none,1,[]⟩]) (RC.cond (.t 7) (RC.skip) (RC.region 2 [
  ⟨some 9,.bin .eql (.t 6) (.c (.s (.int .i64 58))),none,0,[]⟩,
  ⟨some 7,.move (.t 9),none,1,[]⟩]))) R.kern_Kernel_state_s1))) R.kern_Kernel_state_s2))
theorem kern_Kernel_state_ok : chkFunc Go.Proofs.Tryz.prog [0] Go.Proofs.Tryz.f62 kern_Kernel_state = true := by kernel_rfl
def ctx_state_Dispatch : RFunc := RFunc.mk 20 [.tmp 2] (
  RC.seq (RC.region 1 [
  ⟨some 2,.move (.c (.s (.bool false))),none,0,[]⟩]) (RC.seq (RC.region 18 [
  ⟨some 3,.move (.t 0),none,0,[]⟩,
  ⟨some 4,.call F.ctx_state_In [(.t 3)],none,1,[]⟩,
  ⟨some 5,.un .not (.t 4),none,2,[]⟩,
  ⟨some 6,.move (.t 5),none,3,[]⟩,
  ⟨some 7,.move (.t 0),(some (6,true)),4,[]⟩,
  ⟨some 8,.nilCheck (.t 7),(some (6,true)),5,[]⟩,
  ⟨some 9,.fieldAddr 1 (.t 8),(some (6,true)),6,[]⟩,
  ⟨some 10,.load none (.t 9),(some (6,true)),7,[]⟩,
  ⟨some 11,.un .not (.t 10),(some (6,true)),8,[]⟩,
  ⟨some 12,.pick (.t 6) (.t 11) (.c (.s (.bool false))),none,9,[]⟩,
  ⟨some 13,.move (.t 12),none,10,[]⟩,
  ⟨some 14,.move (.t 0),(some (13,true)),11,[]⟩,
  ⟨some 15,.nilCheck (.t 14),(some (13,true)),12,[]⟩,
  ⟨some 16,.fieldAddr 2 (.t 15),(some (13,true)),13,[]⟩,
  ⟨some 17,.load none (.t 16),(some (13,true)),14,[]⟩,
  ⟨some 18,.un .not (.t 17),(some (13,true)),15,[]⟩,
  ⟨some 19,.pick (.t 13) (.t 18) (.c (.s (.bool false))),none,16,[]⟩,
  ⟨some 2,.move (.t 19),none,17,[]⟩]) (RC.ret)))
theorem ctx_state_Dispatch_ok : chkFunc Go.Proofs.Tryz.prog [0] Go.Proofs.Tryz.f156 ctx_state_Dispatch = true := by kernel_rfl
def ready_Queue_First : RFunc := RFunc.mk 23 [.tmp 2,.tmp 3] (
  RC.seq (RC.region 2 [
  ⟨some 2,.move (.c (.s (.int .i64 0))),none,0,[]⟩,
  ⟨some 3,.move (.c (.s (.bool false))),none,1,[]⟩]) (RC.seq (RC.region 9 [
  ⟨some 7,.move (.t 0),none,0,[]⟩,
  ⟨some 8,.nilCheck (.t 7),none,1,[]⟩,
  ⟨some 9,.fieldAddr 0 (.t 8),none,2,[]⟩,
  ⟨some 10,.call F.bits_Map_First [(.t 9)],none,3,[]⟩,
  ⟨some 6,.move (.t 10),none,4,[]⟩,
  ⟨some 11,.extract 0 (.t 6),none,5,[]⟩,
  ⟨some 12,.extract 1 (.t 6),none,6,[]⟩,
  ⟨some 4,.move (.t 11),none,7,[]⟩,
  ⟨some 5,.move (.t 12),none,8,[]⟩]) (RC.seq (RC.seq (RC.region 2 [
  ⟨some 13,.move (.t 5),none,0,[]⟩,
  ⟨some 14,.un .not (.t 13),none,1,[]⟩]) (RC.cond (.t 14) (RC.seq (RC.region 2 [
  ⟨some 2,.move (.c (.s (.int .i64 0))),none,0,[]⟩,
  ⟨some 3,.move (.c (.s (.bool false))),none,1,[]⟩]) (RC.ret)) (RC.skip))) (RC.seq (RC.region 10 [
  ⟨some 15,.move (.t 0),none,0,[]⟩,
  ⟨some 16,.move (.t 4),none,1,[]⟩,
  ⟨some 17,.nilCheck (.t 15),none,2,[]⟩,
  ⟨some 18,.fieldAddr 4 (.t 17),none,3,[]⟩,
  ⟨some 19,.indexArr 17 1 (.t 18) (.t 16),none,4,[]⟩,
  ⟨some 20,.load none (.t 19),none,5,[]⟩,
  ⟨some 21,.indexSl 1 (.t 20) (.c (.s (.int .i64 0))),none,6,[]⟩,
  ⟨some 22,.load none (.t 21),none,7,[]⟩,
  ⟨some 2,.move (.t 22),none,8,[]⟩,
  ⟨some 3,.move (.c (.s (.bool true))),none,9,[]⟩]) (RC.ret)))))
theorem ready_Queue_First_ok : chkFunc Go.Proofs.Tryz.prog [0] Go.Proofs.Tryz.f157 ready_Queue_First = true := by kernel_rfl
def clock_Clock_Tick : RFunc := RFunc.mk 23 [.tmp 2] (
  RC.seq (RC.region 1 [
  ⟨some 2,.move (.c (.s (.slice none 0 0 1))),none,0,[]⟩]) (RC.seq (RC.region 12 [
  ⟨some 3,.move (.t 0),none,0,[]⟩,
  ⟨some 4,.nilCheck (.t 3),none,1,[]⟩,
  ⟨some 5,.fieldAddr 2 (.t 4),none,2,[]⟩,
  ⟨some 6,.load none (.t 5),none,3,[]⟩,
  ⟨some 7,.move (.t 0),none,4,[]⟩,
  ⟨some 8,.nilCheck (.t 7),none,5,[]⟩,
  ⟨some 9,.fieldAddr 1 (.t 8),none,6,[]⟩,
  ⟨some 10,.load none (.t 9),none,7,[]⟩,
  ⟨some 11,.bin .add (.t 6) (.t 10),none,8,[]⟩,
  ⟨some 12,.nilCheck (.t 3),none,9,[]⟩,
  ⟨some 13,.fieldAddr 2 (.t 12),none,10,[]⟩,
  ⟨none,.store 1 (.t 13) (.t 11),none,11,[]⟩]) (RC.seq (RC.region 10 [
  ⟨some 14,.move (.t 0),none,0,[]⟩,
  ⟨some 15,.nilCheck (.t 14),none,1,[]⟩,
  ⟨some 16,.fieldAddr 0 (.t 15),none,2,[]⟩,
  ⟨some 17,.load none (.t 16),none,3,[]⟩,
  ⟨some 18,.move (.t 0),none,4,[]⟩,
  ⟨some 19,.nilCheck (.t 18),none,5,[]⟩,
  ⟨some 20,.fieldAddr 2 (.t 19),none,6,[]⟩,
  ⟨some 21,.load none (.t 20),none,7,[]⟩,
  ⟨some 22,.call F.heap_Timers_Due [(.t 17),(.t 21)],none,8,[]⟩,
  ⟨some 2,.move (.t 22),none,9,[]⟩]) (RC.ret))))
theorem clock_Clock_Tick_ok : chkFunc Go.Proofs.Tryz.prog [0] Go.Proofs.Tryz.f158 clock_Clock_Tick = true := by kernel_rfl
def clock_Clock_Up : RFunc := RFunc.mk 7 [.tmp 2] (
  RC.seq (RC.region 1 [
  ⟨some 2,.move (.c (.s (.int .u64 0))),none,0,[]⟩]) (RC.seq (RC.region 5 [
  ⟨some 3,.move (.t 0),none,0,[]⟩,
  ⟨some 4,.nilCheck (.t 3),none,1,[]⟩,
  ⟨some 5,.fieldAddr 2 (.t 4),none,2,[]⟩,
  ⟨some 6,.load none (.t 5),none,3,[]⟩,
  ⟨some 2,.move (.t 6),none,4,[]⟩]) (RC.ret)))
theorem clock_Clock_Up_ok : chkFunc Go.Proofs.Tryz.prog [0] Go.Proofs.Tryz.f159 clock_Clock_Up = true := by kernel_rfl
def slices_SortStableFunc__cyc_Fired_cyc_Fired : RFunc := RFunc.mk 9 [] (
  RC.region 5 [
  ⟨some 4,.move (.t 0),none,0,[]⟩,
  ⟨some 5,.move (.t 0),none,1,[]⟩,
  ⟨some 6,.len (.t 5),none,2,[]⟩,
  ⟨some 7,.move (.t 1),none,3,[]⟩,
  ⟨some 8,.call F.slices_stableCmpFunc_cyc_Fired [(.t 4),(.t 6),(.t 7)],none,4,[]⟩])
theorem slices_SortStableFunc__cyc_Fired_cyc_Fired_ok : chkFunc Go.Proofs.Tryz.prog [0] Go.Proofs.Tryz.f160 slices_SortStableFunc__cyc_Fired_cyc_Fired = true := by kernel_rfl
def cyc_order : RFunc := RFunc.mk 26 [.tmp 4] (
  RC.seq (RC.region 3 [
  ⟨some 2,.box (.t 0),none,0,[]⟩,
  ⟨some 3,.box (.t 1),none,1,[]⟩,
  ⟨some 4,.move (.c (.s (.int .i64 0))),none,2,[]⟩]) (RC.seq (RC.seq (RC.region 6 [
  ⟨some 6,.fieldAddr 2 (.t 2),none,0,[]⟩,
  ⟨some 7,.load none (.t 6),none,1,[]⟩,
  ⟨some 8,.fieldAddr 2 (.t 3),none,2,[]⟩,
  ⟨some 9,.load none (.t 8),none,3,[]⟩,
  ⟨some 10,.call F.cmp_Compare_uint64 [(.t 7),(.t 9)],none,4,[]⟩,
  ⟨some 5,.move (.t 10),none,5,[]⟩]) (RC.seq (RC.region 2 [
  ⟨some 11,.move (.t 5),none,0,[]⟩,
  ⟨some 12,.bin .neq (.t 11) (.c (.s (.int .i64 0))),none,1,[]⟩]) (RC.cond (.t 12) (RC.seq (RC.region 2 [
  ⟨some 13,.move (.t 5),none,0,[]⟩,
  ⟨some 4,.move (.t 13),none,1,[]⟩]) (RC.ret)) (RC.skip)))) (RC.seq (RC.seq (RC.region 5 [
  ⟨some 14,.fieldAddr 0 (.t 2),none,0,[]⟩,
  ⟨some 15,.load none (.t 14),none,1,[]⟩,
  ⟨some 16,.fieldAddr 0 (.t 3),none,2,[]⟩,
  ⟨some 17,.load none (.t 16),none,3,[]⟩,
  ⟨some 18,.eqs .bool true (.t 15) (.t 17),none,4,[]⟩]) (RC.cond (.t 18) (RC.seq (RC.seq (RC.region 2 [
  ⟨some 19,.fieldAddr 0 (.t 2),none,0,[]⟩,
  ⟨some 20,.load none (.t 19),none,1,[]⟩]) (RC.cond (.t 20) (RC.seq (RC.region 1 [
  ⟨some 4,.move (.c (.s (.int .i64 (-1)))),none,0,[]⟩]) (RC.ret)) (RC.skip))) (RC.seq (RC.region 1 [
  ⟨some 4,.move (.c (.s (.int .i64 1))),none,0,[]⟩]) (RC.ret))) (RC.skip))) (RC.seq (RC.region 6 [
  ⟨some 21,.fieldAddr 1 (.t 2),none,0,[]⟩,
  ⟨some 22,.load none (.t 21),none,1,[]⟩,
  ⟨some 23,.fieldAddr 1 (.t 3),none,2,[]⟩,
  ⟨some 24,.load none (.t 23),none,3,[]⟩,
  ⟨some 25,.call F.cmp_Compare_int [(.t 22),(.t 24)],none,4,[]⟩,
  ⟨some 4,.move (.t 25),none,5,[]⟩]) (RC.ret)))))
theorem cyc_order_ok : chkFunc Go.Proofs.Tryz.prog [0] Go.Proofs.Tryz.f161 cyc_order = true := by kernel_rfl
def slices_Clip__cyc_Fired_cyc_Fired : RFunc := RFunc.mk 9 [.tmp 2] (
  RC.seq (RC.region 1 [
  ⟨some 2,.move (.c (.s (.slice none 0 0 1))),none,0,[]⟩]) (RC.seq (RC.region 7 [
  ⟨some 3,.move (.t 0),none,0,[]⟩,
  ⟨some 4,.move (.t 0),none,1,[]⟩,
  ⟨some 5,.len (.t 4),none,2,[]⟩,
  ⟨some 6,.move (.t 0),none,3,[]⟩,
  ⟨some 7,.len (.t 6),none,4,[]⟩,
  ⟨some 8,.slSl 3 (.t 3) none (some (.t 5)) (some (.t 7)),none,5,[]⟩,
  ⟨some 2,.move (.t 8),none,6,[]⟩]) (RC.ret)))
theorem slices_Clip__cyc_Fired_cyc_Fired_ok : chkFunc Go.Proofs.Tryz.prog [0] Go.Proofs.Tryz.f162 slices_Clip__cyc_Fired_cyc_Fired = true := by kernel_rfl
def order_Line_Remove : RFunc := RFunc.mk 22 [.tmp 4] (
  RC.seq (RC.region 1 [
  ⟨some 4,.move (.c (.s (.bool false))),none,0,[]⟩]) (RC.seq (RC.region 4 [
  ⟨some 6,.move (.t 0),none,0,[]⟩,
  ⟨some 7,.move (.t 1),none,1,[]⟩,
  ⟨some 8,.call F.order_Line_at [(.t 6),(.t 7)],none,2,[]⟩,
  ⟨some 5,.move (.t 8),none,3,[]⟩]) (RC.seq (RC.seq (RC.region 2 [
  ⟨some 9,.move (.t 5),none,0,[]⟩,
  ⟨some 10,.bin .lss (.t 9) (.c (.s (.int .i64 0))),none,1,[]⟩]) (RC.cond (.t 10) (RC.seq (RC.region 1 [
  ⟨some 4,.move (.c (.s (.bool false))),none,0,[]⟩]) (RC.ret)) (RC.skip))) (RC.seq (RC.region 12 [
  ⟨some 11,.move (.t 0),none,0,[]⟩,
  ⟨some 12,.move (.t 0),none,1,[]⟩,
  ⟨some 13,.nilCheck (.t 12),none,2,[]⟩,
  ⟨some 14,.fieldAddr 0 (.t 13),none,3,[]⟩,
  ⟨some 15,.load none (.t 14),none,4,[]⟩,
  ⟨some 16,.move (.t 5),none,5,[]⟩,
  ⟨some 17,.move (.t 5),none,6,[]⟩,
  ⟨some 18,.bin .add (.t 17) (.c (.s (.int .i64 1))),none,7,[]⟩,
  ⟨some 19,.call F.slices_Delete__order_Item_order_Item [(.t 15),(.t 16),(.t 18)],none,8,[]⟩,
  ⟨some 20,.nilCheck (.t 11),none,9,[]⟩,
  ⟨some 21,.fieldAddr 0 (.t 20),none,10,[]⟩,
  ⟨none,.store 1 (.t 21) (.t 19),none,11,[]⟩]) (RC.seq (RC.region 1 [
  ⟨some 4,.move (.c (.s (.bool true))),none,0,[]⟩]) (RC.ret))))))
theorem order_Line_Remove_ok : chkFunc Go.Proofs.Tryz.prog [0] Go.Proofs.Tryz.f163 order_Line_Remove = true := by kernel_rfl
def flag_Flag_Drop : RFunc := RFunc.mk 18 [.tmp 4] (
  RC.seq (RC.region 1 [
  ⟨some 4,.move (.c (.s (.bool false))),none,0,[]⟩]) (RC.seq (RC.region 6 [
  ⟨some 5,.move (.t 0),none,0,[]⟩,
  ⟨some 6,.nilCheck (.t 5),none,1,[]⟩,
  ⟨some 7,.fieldAddr 4 (.t 6),none,2,[]⟩,
  ⟨some 8,.load none (.t 7),none,3,[]⟩,
  ⟨some 9,.move (.t 1),none,4,[]⟩,
  ⟨none,.hop .delete [(.t 8),(.t 9)],none,5,[]⟩]) (RC.seq (RC.region 9 [
  ⟨some 10,.move (.t 0),none,0,[]⟩,
  ⟨some 11,.nilCheck (.t 10),none,1,[]⟩,
  ⟨some 12,.fieldAddr 0 (.t 11),none,2,[]⟩,
  ⟨some 13,.load none (.t 12),none,3,[]⟩,
  ⟨some 14,.nilCheck (.t 13),none,4,[]⟩,
  ⟨some 15,.fieldAddr 0 (.t 14),none,5,[]⟩,
  ⟨some 16,.move (.t 1),none,6,[]⟩,
  ⟨some 17,.call F.order_Line_Remove [(.t 15),(.t 16)],none,7,[]⟩,
  ⟨some 4,.move (.t 17),none,8,[]⟩]) (RC.ret))))
theorem flag_Flag_Drop_ok : chkFunc Go.Proofs.Tryz.prog [0] Go.Proofs.Tryz.f164 flag_Flag_Drop = true := by kernel_rfl
def dtq_Queue_Drop : RFunc := RFunc.mk 30 [.tmp 4] (
  RC.seq (RC.region 1 [
  ⟨some 4,.move (.c (.s (.bool false))),none,0,[]⟩]) (RC.seq (RC.region 6 [
  ⟨some 5,.move (.t 0),none,0,[]⟩,
  ⟨some 6,.nilCheck (.t 5),none,1,[]⟩,
  ⟨some 7,.fieldAddr 4 (.t 6),none,2,[]⟩,
  ⟨some 8,.load none (.t 7),none,3,[]⟩,
  ⟨some 9,.move (.t 1),none,4,[]⟩,
  ⟨none,.hop .delete [(.t 8),(.t 9)],none,5,[]⟩]) (RC.seq (RC.region 21 [
  ⟨some 10,.move (.t 0),none,0,[]⟩,
  ⟨some 11,.nilCheck (.t 10),none,1,[]⟩,
  ⟨some 12,.fieldAddr 0 (.t 11),none,2,[]⟩,
  ⟨some 13,.fieldAddr 0 (.t 12),none,3,[]⟩,
  ⟨some 14,.load none (.t 13),none,4,[]⟩,
  ⟨some 15,.nilCheck (.t 14),none,5,[]⟩,
  ⟨some 16,.fieldAddr 0 (.t 15),none,6,[]⟩,
  ⟨some 17,.move (.t 1),none,7,[]⟩,
  ⟨some 18,.call F.order_Line_Remove [(.t 16),(.t 17)],none,8,[]⟩,
  ⟨some 19,.move (.t 18),none,9,[]⟩,
  ⟨some 20,.move (.t 0),(some (19,false)),10,[]⟩,
  ⟨some 21,.nilCheck (.t 20),(some (19,false)),11,[]⟩,
  ⟨some 22,.fieldAddr 1 (.t 21),(some (19,false)),12,[]⟩,
  ⟨some 23,.fieldAddr 0 (.t 22),(some (19,false)),13,[]⟩,
  ⟨some 24,.load none (.t 23),(some (19,false)),14,[]⟩,
  ⟨some 25,.nilCheck (.t 24),(some (19,false)),15,[]⟩,
  ⟨some 26,.fieldAddr 0 (.t 25),(some (19,false)),16,[]⟩,
  ⟨some 27,.move (.t 1),(some (19,false)),17,[]⟩,
  ⟨some 28,.call F.order_Line_Remove [(.t 26),(.t 27)],(some (19,false)),18,[]⟩,
  ⟨some 29,.pick (.t 19) (.c (.s (.bool true))) (.t 28),none,19,[]⟩,
  ⟨some 4,.move (.t 29),none,20,[]⟩]) (RC.ret))))
theorem dtq_Queue_Drop_ok : chkFunc Go.Proofs.Tryz.prog [0] Go.Proofs.Tryz.f165 dtq_Queue_Drop = true := by kernel_rfl
def mtx_All_Drop : RFunc := RFunc.mk 48 [.tmp 4] (
  RC.seq (RC.region 2 [
  ⟨some 3,.box (.t 1),none,0,[]⟩,
  ⟨some 4,.move (.c (.s (.bool false))),none,1,[]⟩]) (RC.seq (RC.seq (RC.region 13 [
  ⟨some 6,.load none (.t 3),none,0,[]⟩,
  ⟨some 7,.call F.mtx_is [(.t 6)],none,1,[]⟩,
  ⟨some 8,.un .not (.t 7),none,2,[]⟩,
  ⟨some 9,.move (.t 8),none,3,[]⟩,
  ⟨some 10,.move (.t 0),(some (9,false)),4,[]⟩,
  ⟨some 11,.load none (.t 3),(some (9,false)),5,[]⟩,
  ⟨some 12,.nilCheck (.t 10),(some (9,false)),6,[]⟩,
  ⟨some 13,.fieldAddr 1 (.t 12),(some (9,false)),7,[]⟩,
  ⟨some 14,.indexArr 17 3 (.t 13) (.t 11),(some (9,false)),8,[]⟩,
  ⟨some 15,.fieldAddr 2 (.t 14),(some (9,false)),9,[]⟩,
  ⟨some 16,.load none (.t 15),(some (9,false)),10,[]⟩,
  ⟨some 17,.bin .eql (.t 16) (.c (.s (.int .i64 0))),(some (9,false)),11,[]⟩,
  ⟨some 18,.pick (.t 9) (.c (.s (.bool true))) (.t 17),none,12,[]⟩]) (RC.cond (.t 18) (RC.seq (RC.region 1 [
  ⟨some 4,.move (.c (.s (.bool false))),none,0,[]⟩]) (RC.ret)) (RC.skip))) (RC.seq (RC.region 13 [
  ⟨some 19,.move (.t 0),none,0,[]⟩,
  ⟨some 20,.nilCheck (.t 19),none,1,[]⟩,
  ⟨some 21,.fieldAddr 0 (.t 20),none,2,[]⟩,
  ⟨some 22,.load none (.t 21),none,3,[]⟩,
  ⟨some 23,.move (.t 0),none,4,[]⟩,
  ⟨some 24,.load none (.t 3),none,5,[]⟩,
  ⟨some 25,.nilCheck (.t 23),none,6,[]⟩,
  ⟨some 26,.fieldAddr 1 (.t 25),none,7,[]⟩,
  ⟨some 27,.indexArr 17 3 (.t 26) (.t 24),none,8,[]⟩,
  ⟨some 28,.fieldAddr 2 (.t 27),none,9,[]⟩,
  ⟨some 29,.load none (.t 28),none,10,[]⟩,
  ⟨some 30,.indexSl 4 (.t 22) (.t 29),none,11,[]⟩,
  ⟨some 5,.move (.t 30),none,12,[]⟩]) (RC.seq (RC.region 10 [
  ⟨some 31,.move (.t 5),none,0,[]⟩,
  ⟨some 32,.move (.t 5),none,1,[]⟩,
  ⟨some 33,.nilCheck (.t 32),none,2,[]⟩,
  ⟨some 34,.fieldAddr 3 (.t 33),none,3,[]⟩,
  ⟨some 35,.load none (.t 34),none,4,[]⟩,
  ⟨some 36,.makeFunc F.mtx_All_Drop_1 [(.t 3)],none,5,[]⟩,
  ⟨some 37,.call F.slices_DeleteFunc__int_int [(.t 35),(.t 36)],none,6,[]⟩,
  ⟨some 38,.nilCheck (.t 31),none,7,[]⟩,
  ⟨some 39,.fieldAddr 3 (.t 38),none,8,[]⟩,
  ⟨none,.store 1 (.t 39) (.t 37),none,9,[]⟩]) (RC.seq (RC.region 7 [
  ⟨some 40,.move (.t 0),none,0,[]⟩,
  ⟨some 41,.load none (.t 3),none,1,[]⟩,
  ⟨some 42,.nilCheck (.t 40),none,2,[]⟩,
  ⟨some 43,.fieldAddr 1 (.t 42),none,3,[]⟩,
  ⟨some 44,.indexArr 17 3 (.t 43) (.t 41),none,4,[]⟩,
  ⟨some 45,.fieldAddr 2 (.t 44),none,5,[]⟩,
  ⟨none,.store 1 (.t 45) (.c (.s (.int .i64 0))),none,6,[]⟩]) (RC.seq (RC.region 2 [
  ⟨some 46,.move (.t 0),none,0,[]⟩,
  ⟨some 47,.call F.mtx_All_settle [(.t 46)],none,1,[]⟩]) (RC.seq (RC.region 1 [
  ⟨some 4,.move (.c (.s (.bool true))),none,0,[]⟩]) (RC.ret))))))))
theorem mtx_All_Drop_ok : chkFunc Go.Proofs.Tryz.prog [0] Go.Proofs.Tryz.f166 mtx_All_Drop = true := by kernel_rfl
def tcb_Task_Release_s0 : RC :=
  RC.seq (RC.region 4 [
  ⟨some 17,.move (.t 0),none,0,[]⟩,
  ⟨some 18,.nilCheck (.t 17),none,1,[]⟩,
  ⟨some 19,.fieldAddr 4 (.t 18),none,2,[]⟩,
  ⟨none,.store 1 (.t 19) (.c (.s (.bool false))),none,3,[]⟩]) (RC.seq (RC.region 1 [
  ⟨some 2,.move (.c (.s (.bool true))),none,0,[]⟩]) (RC.ret))
def tcb_Task_Release : RFunc := RFunc.mk 20 [.tmp 2] (
  RC.seq (RC.region 1 [
  ⟨some 2,.move (.c (.s (.bool false))),none,0,[]⟩]) (RC.seq (RC.seq (RC.region 4 [
  ⟨some 3,.move (.t 0),none,0,[]⟩,
  ⟨some 4,.nilCheck (.t 3),none,1,[]⟩,
  ⟨some 5,.fieldAddr 3 (.t 4),none,2,[]⟩,
  ⟨some 6,.load none (.t 5),none,3,[]⟩]) (RC.block 0 (RC.seq (RC.region 2 [
  ⟨some 8,.bin .eql (.t 6) (.c (.s (.int .i64 4))),none,0,[]⟩,
  ⟨some 7,.move (.t 8),none,1,[]⟩]) (RC.cond (.t 7) (RC.region 4 [
  ⟨some 9,.move (.t 0),none,0,[]⟩,
  ⟨some 10,.nilCheck (.t 9),none,1,[]⟩,
  ⟨some 11,.fieldAddr 3 (.t 10),none,2,[]⟩,
  ⟨none,.store 1 (.t 11) (.c (.s (.int .i64 2))),none,3,[]⟩]) (RC.seq (RC.region 2 [
  ⟨some 13,.bin .eql (.t 6) (.c (.s (.int .i64 12))),none,0,[]⟩,
  ⟨some 12,.move (.t 13),none,1,[]⟩]) (RC.cond (.t 12) (RC.region 4 [
  ⟨some 14,.move (.t 0),none,0,[]⟩,
  ⟨some 15,.nilCheck (.t 14),none,1,[]⟩,
  ⟨some 16,.fieldAddr 3 (.t 15),none,2,[]⟩,
  ⟨none,.store 1 (.t 16) (.c (.s (.int .i64 8))),none,3,[]⟩]) (RC.seq (RC.region 1 [
  ⟨some 2,.move (.c (.s (.bool false))),none,0,[]⟩]) (RC.ret)))))))) R.tcb_Task_Release_s0))
theorem tcb_Task_Release_ok : chkFunc Go.Proofs.Tryz.prog [0] Go.Proofs.Tryz.f167 tcb_Task_Release = true := by kernel_rfl
def kern_Kernel_told : RFunc := RFunc.mk 22 [] (
  RC.seq (RC.region 1 [
  ⟨some 5,.box (.t 2),none,0,[]⟩]) (RC.seq (RC.region 3 [
  ⟨some 6,.move (.t 0),none,0,[]⟩,
  ⟨some 7,.move (.t 1),none,1,[]⟩,
  ⟨some 8,.call F.kern_Kernel_forget [(.t 6),(.t 7)],none,2,[]⟩]) (RC.seq (RC.region 11 [
  ⟨some 9,.move (.t 0),none,0,[]⟩,
  ⟨some 10,.nilCheck (.t 9),none,1,[]⟩,
  ⟨some 11,.fieldAddr 9 (.t 10),none,2,[]⟩,
  ⟨some 12,.load none (.t 11),none,3,[]⟩,
  ⟨some 13,.move (.t 1),none,4,[]⟩,
  ⟨some 14,.indexSl 1 (.t 12) (.t 13),none,5,[]⟩,
  ⟨some 15,.load none (.t 14),none,6,[]⟩,
  ⟨some 16,.load (some 2) (.t 5),none,7,[]⟩,
  ⟨some 17,.nilCheck (.t 15),none,8,[]⟩,
  ⟨some 18,.fieldAddr 6 (.t 17),none,9,[]⟩,
  ⟨none,.store 2 (.t 18) (.t 16),none,10,[]⟩]) (RC.region 3 [
  ⟨some 19,.move (.t 0),none,0,[]⟩,
  ⟨some 20,.move (.t 1),none,1,[]⟩,
  ⟨some 21,.call F.kern_Kernel_enter [(.t 19),(.t 20)],none,2,[]⟩]))))
theorem kern_Kernel_told_ok : chkFunc Go.Proofs.Tryz.prog [0] Go.Proofs.Tryz.f168 kern_Kernel_told = true := by kernel_rfl
def mtx_All_Pri : RFunc := RFunc.mk 15 [.tmp 4] (
  RC.seq (RC.region 1 [
  ⟨some 4,.move (.c (.s (.int .i64 0))),none,0,[]⟩]) (RC.seq (RC.seq (RC.region 3 [
  ⟨some 5,.move (.t 1),none,0,[]⟩,
  ⟨some 6,.call F.mtx_is [(.t 5)],none,1,[]⟩,
  ⟨some 7,.un .not (.t 6),none,2,[]⟩]) (RC.cond (.t 7) (RC.seq (RC.region 1 [
  ⟨some 4,.move (.c (.s (.int .i64 0))),none,0,[]⟩]) (RC.ret)) (RC.skip))) (RC.seq (RC.region 8 [
  ⟨some 8,.move (.t 0),none,0,[]⟩,
  ⟨some 9,.move (.t 1),none,1,[]⟩,
  ⟨some 10,.nilCheck (.t 8),none,2,[]⟩,
  ⟨some 11,.fieldAddr 1 (.t 10),none,3,[]⟩,
  ⟨some 12,.indexArr 17 3 (.t 11) (.t 9),none,4,[]⟩,
  ⟨some 13,.fieldAddr 1 (.t 12),none,5,[]⟩,
  ⟨some 14,.load none (.t 13),none,6,[]⟩,
  ⟨some 4,.move (.t 14),none,7,[]⟩]) (RC.ret))))
theorem mtx_All_Pri_ok : chkFunc Go.Proofs.Tryz.prog [0] Go.Proofs.Tryz.f49 mtx_All_Pri = true := by kernel_rfl
def ready_Queue_Change : RFunc := RFunc.mk 20 [.tmp 6] (
  RC.seq (RC.region 1 [
  ⟨some 6,.move (.c (.s (.bool false))),none,0,[]⟩]) (RC.seq (RC.seq (RC.region 9 [
  ⟨some 7,.move (.t 2),none,0,[]⟩,
  ⟨some 8,.call F.ready_may [(.t 7)],none,1,[]⟩,
  ⟨some 9,.un .not (.t 8),none,2,[]⟩,
  ⟨some 10,.move (.t 9),none,3,[]⟩,
  ⟨some 11,.move (.t 0),(some (10,false)),4,[]⟩,
  ⟨some 12,.move (.t 1),(some (10,false)),5,[]⟩,
  ⟨some 13,.call F.ready_Queue_Remove [(.t 11),(.t 12)],(some (10,false)),6,[]⟩,
  ⟨some 14,.un .not (.t 13),(some (10,false)),7,[]⟩,
  ⟨some 15,.pick (.t 10) (.c (.s (.bool true))) (.t 14),none,8,[]⟩]) (RC.cond (.t 15) (RC.seq (RC.region 1 [
  ⟨some 6,.move (.c (.s (.bool false))),none,0,[]⟩]) (RC.ret)) (RC.skip))) (RC.seq (RC.region 4 [
  ⟨some 16,.move (.t 0),none,0,[]⟩,
  ⟨some 17,.move (.t 1),none,1,[]⟩,
  ⟨some 18,.move (.t 2),none,2,[]⟩,
  ⟨some 19,.call F.ready_Queue_put [(.t 16),(.t 17),(.t 18)],none,3,[]⟩]) (RC.seq (RC.region 1 [
  ⟨some 6,.move (.c (.s (.bool true))),none,0,[]⟩]) (RC.ret)))))
theorem ready_Queue_Change_ok : chkFunc Go.Proofs.Tryz.prog [0] Go.Proofs.Tryz.f169 ready_Queue_Change = true := by kernel_rfl
def order_Queue_Change : RFunc := RFunc.mk 44 [.tmp 6] (
  RC.seq (RC.region 1 [
  ⟨some 6,.move (.c (.s (.bool false))),none,0,[]⟩]) (RC.seq (RC.region 6 [
  ⟨some 8,.move (.t 0),none,0,[]⟩,
  ⟨some 9,.nilCheck (.t 8),none,1,[]⟩,
  ⟨some 10,.fieldAddr 0 (.t 9),none,2,[]⟩,
  ⟨some 11,.move (.t 1),none,3,[]⟩,
  ⟨some 12,.call F.order_Line_at [(.t 10),(.t 11)],none,4,[]⟩,
  ⟨some 7,.move (.t 12),none,5,[]⟩]) (RC.seq (RC.seq (RC.region 7 [
  ⟨some 13,.move (.t 7),none,0,[]⟩,
  ⟨some 14,.bin .lss (.t 13) (.c (.s (.int .i64 0))),none,1,[]⟩,
  ⟨some 15,.move (.t 14),none,2,[]⟩,
  ⟨some 16,.move (.t 2),(some (15,false)),3,[]⟩,
  ⟨some 17,.call F.order_may [(.t 16)],(some (15,false)),4,[]⟩,
  ⟨some 18,.un .not (.t 17),(some (15,false)),5,[]⟩,
  ⟨some 19,.pick (.t 15) (.c (.s (.bool true))) (.t 18),none,6,[]⟩]) (RC.cond (.t 19) (RC.seq (RC.region 1 [
  ⟨some 6,.move (.c (.s (.bool false))),none,0,[]⟩]) (RC.ret)) (RC.skip))) (RC.seq (RC.seq (RC.region 5 [
  ⟨some 20,.move (.t 0),none,0,[]⟩,
  ⟨some 21,.nilCheck (.t 20),none,1,[]⟩,
  ⟨some 22,.fieldAddr 1 (.t 21),none,2,[]⟩,
  ⟨some 23,.load none (.t 22),none,3,[]⟩,
  ⟨some 24,.un .not (.t 23),none,4,[]⟩]) (RC.cond (.t 24) (RC.seq (RC.region 10 [
  ⟨some 25,.move (.t 0),none,0,[]⟩,
  ⟨some 26,.nilCheck (.t 25),none,1,[]⟩,
  ⟨some 27,.fieldAddr 0 (.t 26),none,2,[]⟩,
  ⟨some 28,.fieldAddr 0 (.t 27),none,3,[]⟩,
  ⟨some 29,.load none (.t 28),none,4,[]⟩,
  ⟨some 30,.move (.t 7),none,5,[]⟩,
  ⟨some 31,.move (.t 2),none,6,[]⟩,
  ⟨some 32,.indexSl 2 (.t 29) (.t 30),none,7,[]⟩,
  ⟨some 33,.fieldAddr 1 (.t 32),none,8,[]⟩,
  ⟨none,.store 1 (.t 33) (.t 31),none,9,[]⟩]) (RC.seq (RC.region 1 [
  ⟨some 6,.move (.c (.s (.bool true))),none,0,[]⟩]) (RC.ret))) (RC.skip))) (RC.seq (RC.region 5 [
  ⟨some 34,.move (.t 0),none,0,[]⟩,
  ⟨some 35,.nilCheck (.t 34),none,1,[]⟩,
  ⟨some 36,.fieldAddr 0 (.t 35),none,2,[]⟩,
  ⟨some 37,.move (.t 1),none,3,[]⟩,
  ⟨some 38,.call F.order_Line_Remove [(.t 36),(.t 37)],none,4,[]⟩]) (RC.seq (RC.region 5 [
  ⟨some 39,.move (.t 0),none,0,[]⟩,
  ⟨some 40,.move (.t 1),none,1,[]⟩,
  ⟨some 41,.move (.t 2),none,2,[]⟩,
  ⟨some 42,.build [.int .i64 0,.int .i64 0] [(0,1,(.t 40)),(1,1,(.t 41))],none,3,[]⟩,
  ⟨some 43,.call F.order_Queue_put [(.t 39),(.t 42)],none,4,[]⟩]) (RC.seq (RC.region 1 [
  ⟨some 6,.move (.c (.s (.bool true))),none,0,[]⟩]) (RC.ret))))))))
theorem order_Queue_Change_ok : chkFunc Go.Proofs.Tryz.prog [0] Go.Proofs.Tryz.f170 order_Queue_Change = true := by kernel_rfl
def dtq_Queue_Change : RFunc := RFunc.mk 25 [.tmp 6] (
  RC.seq (RC.region 1 [
  ⟨some 6,.move (.c (.s (.bool false))),none,0,[]⟩]) (RC.seq (RC.region 19 [
  ⟨some 7,.move (.t 0),none,0,[]⟩,
  ⟨some 8,.nilCheck (.t 7),none,1,[]⟩,
  ⟨some 9,.fieldAddr 0 (.t 8),none,2,[]⟩,
  ⟨some 10,.fieldAddr 0 (.t 9),none,3,[]⟩,
  ⟨some 11,.load none (.t 10),none,4,[]⟩,
  ⟨some 12,.move (.t 1),none,5,[]⟩,
  ⟨some 13,.move (.t 2),none,6,[]⟩,
  ⟨some 14,.call F.order_Queue_Change [(.t 11),(.t 12),(.t 13)],none,7,[]⟩,
  ⟨some 15,.move (.t 14),none,8,[]⟩,
  ⟨some 16,.move (.t 0),(some (15,false)),9,[]⟩,
  ⟨some 17,.nilCheck (.t 16),(some (15,false)),10,[]⟩,
  ⟨some 18,.fieldAddr 1 (.t 17),(some (15,false)),11,[]⟩,
  ⟨some 19,.fieldAddr 0 (.t 18),(some (15,false)),12,[]⟩,
  ⟨some 20,.load none (.t 19),(some (15,false)),13,[]⟩,
  ⟨some 21,.move (.t 1),(some (15,false)),14,[]⟩,
  ⟨some 22,.move (.t 2),(some (15,false)),15,[]⟩,
  ⟨some 23,.call F.order_Queue_Change [(.t 20),(.t 21),(.t 22)],(some (15,false)),16,[]⟩,
  ⟨some 24,.pick (.t 15) (.c (.s (.bool true))) (.t 23),none,17,[]⟩,
  ⟨some 6,.move (.t 24),none,18,[]⟩]) (RC.ret)))
theorem dtq_Queue_Change_ok : chkFunc Go.Proofs.Tryz.prog [0] Go.Proofs.Tryz.f171 dtq_Queue_Change = true := by kernel_rfl
def mtx_All_Base : RFunc := RFunc.mk 15 [.tmp 4] (
  RC.seq (RC.region 1 [
  ⟨some 4,.move (.c (.s (.int .i64 0))),none,0,[]⟩]) (RC.seq (RC.seq (RC.region 3 [
  ⟨some 5,.move (.t 1),none,0,[]⟩,
  ⟨some 6,.call F.mtx_is [(.t 5)],none,1,[]⟩,
  ⟨some 7,.un .not (.t 6),none,2,[]⟩]) (RC.cond (.t 7) (RC.seq (RC.region 1 [
  ⟨some 4,.move (.c (.s (.int .i64 0))),none,0,[]⟩]) (RC.ret)) (RC.skip))) (RC.seq (RC.region 8 [
  ⟨some 8,.move (.t 0),none,0,[]⟩,
  ⟨some 9,.move (.t 1),none,1,[]⟩,
  ⟨some 10,.nilCheck (.t 8),none,2,[]⟩,
  ⟨some 11,.fieldAddr 1 (.t 10),none,3,[]⟩,
  ⟨some 12,.indexArr 17 3 (.t 11) (.t 9),none,4,[]⟩,
  ⟨some 13,.fieldAddr 0 (.t 12),none,5,[]⟩,
  ⟨some 14,.load none (.t 13),none,6,[]⟩,
  ⟨some 4,.move (.t 14),none,7,[]⟩]) (RC.ret))))
theorem mtx_All_Base_ok : chkFunc Go.Proofs.Tryz.prog [0] Go.Proofs.Tryz.f50 mtx_All_Base = true := by kernel_rfl
def order_Line_at : RFunc := RFunc.mk 11 [.tmp 4] (
  RC.seq (RC.region 2 [
  ⟨some 3,.box (.t 1),none,0,[]⟩,
  ⟨some 4,.move (.c (.s (.int .i64 0))),none,1,[]⟩]) (RC.seq (RC.region 7 [
  ⟨some 5,.move (.t 0),none,0,[]⟩,
  ⟨some 6,.nilCheck (.t 5),none,1,[]⟩,
  ⟨some 7,.fieldAddr 0 (.t 6),none,2,[]⟩,
  ⟨some 8,.load none (.t 7),none,3,[]⟩,
  ⟨some 9,.makeFunc F.order_Line_at_1 [(.t 3)],none,4,[]⟩,
  ⟨some 10,.call F.slices_IndexFunc__order_Item_order_Item [(.t 8),(.t 9)],none,5,[]⟩,
  ⟨some 4,.move (.t 10),none,6,[]⟩]) (RC.ret)))
theorem order_Line_at_ok : chkFunc Go.Proofs.Tryz.prog [0] Go.Proofs.Tryz.f248 order_Line_at = true := by kernel_rfl
def slices_Clip__order_Item_order_Item : RFunc := RFunc.mk 9 [.tmp 2] (
  RC.seq (RC.region 1 [
  ⟨some 2,.move (.c (.s (.slice none 0 0 1))),none,0,[]⟩]) (RC.seq (RC.region 7 [
  ⟨some 3,.move (.t 0),none,0,[]⟩,
  ⟨some 4,.move (.t 0),none,1,[]⟩,
  ⟨some 5,.len (.t 4),none,2,[]⟩,
  ⟨some 6,.move (.t 0),none,3,[]⟩,
  ⟨some 7,.len (.t 6),none,4,[]⟩,
  ⟨some 8,.slSl 2 (.t 3) none (some (.t 5)) (some (.t 7)),none,5,[]⟩,
  ⟨some 2,.move (.t 8),none,6,[]⟩]) (RC.ret)))
theorem slices_Clip__order_Item_order_Item_ok : chkFunc Go.Proofs.Tryz.prog [0] Go.Proofs.Tryz.f256 slices_Clip__order_Item_order_Item = true := by kernel_rfl
def slices_Clone__order_Item_order_Item : RFunc := RFunc.mk 8 [.tmp 2] (
  RC.seq (RC.region 1 [
  ⟨some 2,.move (.c (.s (.slice none 0 0 1))),none,0,[]⟩]) (RC.seq (RC.seq (RC.region 2 [
  ⟨some 3,.move (.t 0),none,0,[]⟩,
  ⟨some 4,.eqs .slice false (.t 3) (.c (.s (.slice none 0 0 1))),none,1,[]⟩]) (RC.cond (.t 4) (RC.seq (RC.region 1 [
  ⟨some 2,.move (.c (.s (.slice none 0 0 1))),none,0,[]⟩]) (RC.ret)) (RC.skip))) (RC.seq (RC.region 4 [
  ⟨some 5,.buildSlice 2 0 [] [],none,0,[]⟩,
  ⟨some 6,.move (.t 0),none,1,[]⟩,
  ⟨some 7,.append 2 16 (.t 5) (.t 6),none,2,[]⟩,
  ⟨some 2,.move (.t 7),none,3,[]⟩]) (RC.ret))))
theorem slices_Clone__order_Item_order_Item_ok : chkFunc Go.Proofs.Tryz.prog [0] Go.Proofs.Tryz.f257 slices_Clone__order_Item_order_Item = true := by kernel_rfl
def order_may : RFunc := RFunc.mk 9 [.tmp 2] (
  RC.seq (RC.region 1 [
  ⟨some 2,.move (.c (.s (.bool false))),none,0,[]⟩]) (RC.seq (RC.region 7 [
  ⟨some 3,.move (.t 0),none,0,[]⟩,
  ⟨some 4,.bin .geq (.t 3) (.c (.s (.int .i64 1))),none,1,[]⟩,
  ⟨some 5,.move (.t 4),none,2,[]⟩,
  ⟨some 6,.move (.t 0),(some (5,true)),3,[]⟩,
  ⟨some 7,.bin .leq (.t 6) (.c (.s (.int .i64 16))),(some (5,true)),4,[]⟩,
  ⟨some 8,.pick (.t 5) (.t 7) (.c (.s (.bool false))),none,5,[]⟩,
  ⟨some 2,.move (.t 8),none,6,[]⟩]) (RC.ret)))
theorem order_may_ok : chkFunc Go.Proofs.Tryz.prog [0] Go.Proofs.Tryz.f254 order_may = true := by kernel_rfl
def order_Queue_put_l0 : RC :=
  RC.seq (RC.seq (RC.region 23 [
  ⟨some 11,.move (.t 0),none,0,[]⟩,
  ⟨some 12,.nilCheck (.t 11),none,1,[]⟩,
  ⟨some 13,.fieldAddr 1 (.t 12),none,2,[]⟩,
  ⟨some 14,.load none (.t 13),none,3,[]⟩,
  ⟨some 15,.move (.t 14),none,4,[]⟩,
  ⟨some 16,.move (.t 4),(some (15,true)),5,[]⟩,
  ⟨some 17,.bin .gtr (.t 16) (.c (.s (.int .i64 0))),(some (15,true)),6,[]⟩,
  ⟨some 18,.pick (.t 15) (.t 17) (.c (.s (.bool false))),none,7,[]⟩,
  ⟨some 19,.move (.t 18),none,8,[]⟩,
  ⟨some 20,.move (.t 0),(some (19,true)),9,[]⟩,
  ⟨some 21,.nilCheck (.t 20),(some (19,true)),10,[]⟩,
  ⟨some 22,.fieldAddr 0 (.t 21),(some (19,true)),11,[]⟩,
  ⟨some 23,.fieldAddr 0 (.t 22),(some (19,true)),12,[]⟩,
  ⟨some 24,.load none (.t 23),(some (19,true)),13,[]⟩,
  ⟨some 25,.move (.t 4),(some (19,true)),14,[]⟩,
  ⟨some 26,.bin .sub (.t 25) (.c (.s (.int .i64 1))),(some (19,true)),15,[]⟩,
  ⟨some 27,.indexSl 2 (.t 24) (.t 26),(some (19,true)),16,[]⟩,
  ⟨some 28,.fieldAddr 1 (.t 27),(some (19,true)),17,[]⟩,
  ⟨some 29,.load none (.t 28),(some (19,true)),18,[]⟩,
  ⟨some 30,.fieldAddr 1 (.t 3),(some (19,true)),19,[]⟩,
  ⟨some 31,.load none (.t 30),(some (19,true)),20,[]⟩,
  ⟨some 32,.bin .gtr (.t 29) (.t 31),(some (19,true)),21,[]⟩,
  ⟨some 33,.pick (.t 19) (.t 32) (.c (.s (.bool false))),none,22,[]⟩]) (RC.cond (.t 33) (RC.skip) (RC.exit 0))) (RC.block 1 (RC.region 3 [
  ⟨some 34,.move (.t 4),none,0,[]⟩,
  ⟨some 35,.bin .sub (.t 34) (.c (.s (.int .i64 1))),none,1,[]⟩,
  ⟨some 4,.move (.t 35),none,2,[]⟩]))
def order_Queue_put_s1 : RC :=
  RC.region 14 [
  ⟨some 36,.move (.t 0),none,0,[]⟩,
  ⟨some 37,.move (.t 0),none,1,[]⟩,
  ⟨some 38,.nilCheck (.t 37),none,2,[]⟩,
  ⟨some 39,.fieldAddr 0 (.t 38),none,3,[]⟩,
  ⟨some 40,.fieldAddr 0 (.t 39),none,4,[]⟩,
  ⟨some 41,.load none (.t 40),none,5,[]⟩,
  ⟨some 42,.move (.t 4),none,6,[]⟩,
  ⟨some 43,.load (some 2) (.t 3),none,7,[]⟩,
  ⟨some 44,.buildSlice 2 1 [.int .i64 0,.int .i64 0] [(0,2,(.t 43))],none,8,[]⟩,
  ⟨some 45,.call F.slices_Insert__order_Item_order_Item [(.t 41),(.t 42),(.t 44)],none,9,[]⟩,
  ⟨some 46,.nilCheck (.t 36),none,10,[]⟩,
  ⟨some 47,.fieldAddr 0 (.t 46),none,11,[]⟩,
  ⟨some 48,.fieldAddr 0 (.t 47),none,12,[]⟩,
  ⟨none,.store 1 (.t 48) (.t 45),none,13,[]⟩]
def order_Queue_put : RFunc := RFunc.mk 49 [] (
  RC.seq (RC.region 1 [
  ⟨some 3,.box (.t 1),none,0,[]⟩]) (RC.seq (RC.region 7 [
  ⟨some 5,.move (.t 0),none,0,[]⟩,
  ⟨some 6,.nilCheck (.t 5),none,1,[]⟩,
  ⟨some 7,.fieldAddr 0 (.t 6),none,2,[]⟩,
  ⟨some 8,.fieldAddr 0 (.t 7),none,3,[]⟩,
  ⟨some 9,.load none (.t 8),none,4,[]⟩,
  ⟨some 10,.len (.t 9),none,5,[]⟩,
  ⟨some 4,.move (.t 10),none,6,[]⟩]) (RC.seq (RC.block 0 (RC.loop R.order_Queue_put_l0)) R.order_Queue_put_s1)))
theorem order_Queue_put_ok : chkFunc Go.Proofs.Tryz.prog [0] Go.Proofs.Tryz.f255 order_Queue_put = true := by kernel_rfl
def conf_first_l0 : RC :=
  RC.seq (RC.region 1 [
  ⟨some 32,.bin .lss (.t 31) (.t 30),none,0,[]⟩]) (RC.seq (RC.cond (.t 32) (RC.skip) (RC.exit 2)) (RC.seq (RC.block 3 (RC.seq (RC.region 2 [
  ⟨some 33,.move (.t 31),none,0,[]⟩,
  ⟨some 7,.move (.t 33),none,1,[]⟩]) (RC.seq (RC.region 5 [
  ⟨some 34,.fieldAddr 5 (.t 6),none,0,[]⟩,
  ⟨some 35,.load none (.t 34),none,1,[]⟩,
  ⟨some 36,.move (.t 7),none,2,[]⟩,
  ⟨some 37,.callv (.t 35) [(.t 36)],none,3,[]⟩,
  ⟨some 8,.move (.t 37),none,4,[]⟩]) (RC.seq (RC.region 2 [
  ⟨some 38,.move (.t 8),none,0,[]⟩,
  ⟨some 39,.bin .neq (.t 38) (.c (.s (.int .i64 0))),none,1,[]⟩]) (RC.cond (.t 39) (RC.seq (RC.region 8 [
  ⟨some 40,.fieldAddr 0 (.t 6),none,0,[]⟩,
  ⟨some 41,.load none (.t 40),none,1,[]⟩,
  ⟨some 42,.move (.t 7),none,2,[]⟩,
  ⟨some 43,.bin .add (.t 42) (.c (.s (.int .i64 1))),none,3,[]⟩,
  ⟨some 44,.move (.t 8),none,4,[]⟩,
  ⟨some 2,.move (.t 41),none,5,[]⟩,
  ⟨some 3,.move (.t 43),none,6,[]⟩,
  ⟨some 4,.move (.t 44),none,7,[]⟩]) (RC.ret)) (RC.skip)))))) (RC.region 2 [
  ⟨some 45,.bin .add (.t 31) (.c (.s (.int .i64 1))),none,0,[]⟩,
  ⟨some 31,.move (.t 45),none,1,[]⟩])))
def conf_first_s1 : RC :=
  RC.region 2 [
  ⟨some 46,.bin .add (.t 11) (.c (.s (.int .i64 1))),none,0,[]⟩,
  ⟨some 11,.move (.t 46),none,1,[]⟩]
def conf_first_l2 : RC :=
  RC.seq (RC.region 1 [
  ⟨some 12,.bin .lss (.t 11) (.t 10),none,0,[]⟩]) (RC.seq (RC.cond (.t 12) (RC.skip) (RC.exit 0)) (RC.seq (RC.block 1 (RC.seq (RC.region 4 [
  ⟨some 13,.indexSl 6 (.t 9) (.t 11),none,0,[]⟩,
  ⟨some 14,.load (some 6) (.t 13),none,1,[]⟩,
  ⟨some 6,.newc [.str ⟨#[]⟩,.str ⟨#[]⟩,.int .i64 0,.int .i64 0,.int .i64 0,.nilfn],none,2,[]⟩,
  ⟨none,.store 6 (.t 6) (.t 14),none,3,[]⟩]) (RC.seq (RC.seq (RC.region 12 [
  ⟨some 15,.fieldAddr 2 (.t 6),none,0,[]⟩,
  ⟨some 16,.load none (.t 15),none,1,[]⟩,
  ⟨some 17,.fieldAddr 3 (.t 6),none,2,[]⟩,
  ⟨some 18,.load none (.t 17),none,3,[]⟩,
  ⟨some 19,.bin .lss (.t 16) (.t 18),none,4,[]⟩,
  ⟨some 20,.move (.t 19),none,5,[]⟩,
  ⟨some 21,.fieldAddr 2 (.t 6),(some (20,false)),6,[]⟩,
  ⟨some 22,.load none (.t 21),(some (20,false)),7,[]⟩,
  ⟨some 23,.fieldAddr 4 (.t 6),(some (20,false)),8,[]⟩,
  ⟨some 24,.load none (.t 23),(some (20,false)),9,[]⟩,
  ⟨some 25,.bin .gtr (.t 22) (.t 24),(some (20,false)),10,[]⟩,
  ⟨some 26,.pick (.t 20) (.c (.s (.bool true))) (.t 25),none,11,[]⟩]) (RC.cond (.t 26) (RC.seq (RC.region 5 [
  ⟨some 27,.fieldAddr 1 (.t 6),none,0,[]⟩,
  ⟨some 28,.load none (.t 27),none,1,[]⟩,
  ⟨some 2,.move (.t 28),none,2,[]⟩,
  ⟨some 3,.move (.c (.s (.int .i64 0))),none,3,[]⟩,
  ⟨some 4,.move (.c (.s (.int .i64 (-17)))),none,4,[]⟩]) (RC.ret)) (RC.skip))) (RC.seq (RC.region 3 [
  ⟨some 29,.fieldAddr 2 (.t 6),none,0,[]⟩,
  ⟨some 30,.load none (.t 29),none,1,[]⟩,
  ⟨some 31,.move (.c (.s (.int .i64 0))),none,2,[]⟩]) (RC.block 2 (RC.loop R.conf_first_l0)))))) R.conf_first_s1))
def conf_first_s3 : RC :=
  RC.seq (RC.region 3 [
  ⟨some 2,.move (.c (.s (.str ⟨#[]⟩))),none,0,[]⟩,
  ⟨some 3,.move (.c (.s (.int .i64 0))),none,1,[]⟩,
  ⟨some 4,.move (.c (.s (.int .i64 0))),none,2,[]⟩]) (RC.ret)
def conf_first : RFunc := RFunc.mk 47 [.tmp 2,.tmp 3,.tmp 4] (
  RC.seq (RC.region 3 [
  ⟨some 2,.move (.c (.s (.str ⟨#[]⟩))),none,0,[]⟩,
  ⟨some 3,.move (.c (.s (.int .i64 0))),none,1,[]⟩,
  ⟨some 4,.move (.c (.s (.int .i64 0))),none,2,[]⟩]) (RC.seq (RC.seq (RC.region 3 [
  ⟨some 9,.move (.t 0),none,0,[]⟩,
  ⟨some 10,.len (.t 9),none,1,[]⟩,
  ⟨some 11,.move (.c (.s (.int .i64 0))),none,2,[]⟩]) (RC.block 0 (RC.loop R.conf_first_l2))) R.conf_first_s3))
theorem conf_first_ok : chkFunc Go.Proofs.Tryz.prog [0] Go.Proofs.Tryz.f195 conf_first = true := by kernel_rfl
def conf_Check_1 : RFunc := RFunc.mk 17 [.tmp 3] (
  RC.seq (RC.region 1 [
  ⟨some 3,.move (.c (.s (.int .i64 0))),none,0,[]⟩]) (RC.seq (RC.seq (RC.region 7 [
  ⟨some 5,.fieldAddr 1 (.t 1),none,0,[]⟩,
  ⟨some 6,.load none (.t 5),none,1,[]⟩,
  ⟨some 7,.move (.t 0),none,2,[]⟩,
  ⟨some 8,.indexSl 2 (.t 6) (.t 7),none,3,[]⟩,
  ⟨some 9,.fieldAddr 0 (.t 8),none,4,[]⟩,
  ⟨some 10,.load none (.t 9),none,5,[]⟩,
  ⟨some 4,.move (.t 10),none,6,[]⟩]) (RC.seq (RC.region 6 [
  ⟨some 11,.move (.t 4),none,0,[]⟩,
  ⟨some 12,.bin .lss (.t 11) (.c (.s (.int .i64 1))),none,1,[]⟩,
  ⟨some 13,.move (.t 12),none,2,[]⟩,
  ⟨some 14,.move (.t 4),(some (13,false)),3,[]⟩,
  ⟨some 15,.bin .gtr (.t 14) (.c (.s (.int .i64 16))),(some (13,false)),4,[]⟩,
  ⟨some 16,.pick (.t 13) (.c (.s (.bool true))) (.t 15),none,5,[]⟩]) (RC.cond (.t 16) (RC.seq (RC.region 1 [
  ⟨some 3,.move (.c (.s (.int .i64 (-17)))),none,0,[]⟩]) (RC.ret)) (RC.skip)))) (RC.seq (RC.region 1 [
  ⟨some 3,.move (.c (.s (.int .i64 0))),none,0,[]⟩]) (RC.ret))))
theorem conf_Check_1_ok : chkFunc Go.Proofs.Tryz.prog [0] Go.Proofs.Tryz.f196 conf_Check_1 = true := by kernel_rfl
def conf_objects : RFunc := RFunc.mk 12 [.cell 6 (some 6)] (
  RC.seq (RC.region 1 [
  ⟨some 6,.newc [.str ⟨#[]⟩,.str ⟨#[]⟩,.int .i64 0,.int .i64 0,.int .i64 0,.nilfn],none,0,[]⟩]) (RC.seq (RC.region 6 [
  ⟨some 7,.move (.t 0),none,0,[]⟩,
  ⟨some 8,.move (.t 0),none,1,[]⟩,
  ⟨some 9,.move (.t 1),none,2,[]⟩,
  ⟨some 10,.move (.t 2),none,3,[]⟩,
  ⟨some 11,.build [.str ⟨#[]⟩,.str ⟨#[]⟩,.int .i64 0,.int .i64 0,.int .i64 0,.nilfn] [(0,1,(.t 7)),(1,1,(.t 8)),(2,1,(.t 9)),(3,1,(.c (.s (.int .i64 0)))),(4,1,(.c (.s (.int .i64 8)))),(5,1,(.t 10))],none,4,[]⟩,
  ⟨none,.store 6 (.t 6) (.t 11),none,5,[]⟩]) (RC.ret)))
theorem conf_objects_ok : chkFunc Go.Proofs.Tryz.prog [0] Go.Proofs.Tryz.f197 conf_objects = true := by kernel_rfl
def conf_Check_2 : RFunc := RFunc.mk 29 [.tmp 3] (
  RC.seq (RC.region 1 [
  ⟨some 3,.move (.c (.s (.int .i64 0))),none,0,[]⟩]) (RC.seq (RC.region 24 [
  ⟨some 7,.fieldAddr 2 (.t 1),none,0,[]⟩,
  ⟨some 8,.load none (.t 7),none,1,[]⟩,
  ⟨some 9,.move (.t 0),none,2,[]⟩,
  ⟨some 10,.indexSl 3 (.t 8) (.t 9),none,3,[]⟩,
  ⟨some 11,.fieldAddr 0 (.t 10),none,4,[]⟩,
  ⟨some 12,.load none (.t 11),none,5,[]⟩,
  ⟨some 13,.fieldAddr 2 (.t 1),none,6,[]⟩,
  ⟨some 14,.load none (.t 13),none,7,[]⟩,
  ⟨some 15,.move (.t 0),none,8,[]⟩,
  ⟨some 16,.indexSl 3 (.t 14) (.t 15),none,9,[]⟩,
  ⟨some 17,.fieldAddr 1 (.t 16),none,10,[]⟩,
  ⟨some 18,.load none (.t 17),none,11,[]⟩,
  ⟨some 19,.fieldAddr 2 (.t 1),none,12,[]⟩,
  ⟨some 20,.load none (.t 19),none,13,[]⟩,
  ⟨some 21,.move (.t 0),none,14,[]⟩,
  ⟨some 22,.indexSl 3 (.t 20) (.t 21),none,15,[]⟩,
  ⟨some 23,.fieldAddr 2 (.t 22),none,16,[]⟩,
  ⟨some 24,.load none (.t 23),none,17,[]⟩,
  ⟨some 25,.call F.sem_NewSem [(.t 12),(.t 18),(.t 24)],none,18,[]⟩,
  ⟨some 6,.move (.t 25),none,19,[]⟩,
  ⟨some 26,.extract 0 (.t 6),none,20,[]⟩,
  ⟨some 27,.extract 1 (.t 6),none,21,[]⟩,
  ⟨some 4,.move (.t 26),none,22,[]⟩,
  ⟨some 5,.move (.t 27),none,23,[]⟩]) (RC.seq (RC.region 2 [
  ⟨some 28,.move (.t 5),none,0,[]⟩,
  ⟨some 3,.move (.t 28),none,1,[]⟩]) (RC.ret))))
theorem conf_Check_2_ok : chkFunc Go.Proofs.Tryz.prog [0] Go.Proofs.Tryz.f198 conf_Check_2 = true := by kernel_rfl
def conf_fine : RFunc := RFunc.mk 3 [.tmp 2] (
  RC.seq (RC.region 1 [
  ⟨some 2,.move (.c (.s (.int .i64 0))),none,0,[]⟩]) (RC.seq (RC.region 1 [
  ⟨some 2,.move (.c (.s (.int .i64 0))),none,0,[]⟩]) (RC.ret)))
theorem conf_fine_ok : chkFunc Go.Proofs.Tryz.prog [0] Go.Proofs.Tryz.f200 conf_fine = true := by kernel_rfl
def conf_Check_3 : RFunc := RFunc.mk 23 [.tmp 3] (
  RC.seq (RC.region 1 [
  ⟨some 3,.move (.c (.s (.int .i64 0))),none,0,[]⟩]) (RC.seq (RC.region 18 [
  ⟨some 7,.fieldAddr 4 (.t 1),none,0,[]⟩,
  ⟨some 8,.load none (.t 7),none,1,[]⟩,
  ⟨some 9,.move (.t 0),none,2,[]⟩,
  ⟨some 10,.indexSl 2 (.t 8) (.t 9),none,3,[]⟩,
  ⟨some 11,.fieldAddr 0 (.t 10),none,4,[]⟩,
  ⟨some 12,.load none (.t 11),none,5,[]⟩,
  ⟨some 13,.fieldAddr 4 (.t 1),none,6,[]⟩,
  ⟨some 14,.load none (.t 13),none,7,[]⟩,
  ⟨some 15,.move (.t 0),none,8,[]⟩,
  ⟨some 16,.indexSl 2 (.t 14) (.t 15),none,9,[]⟩,
  ⟨some 17,.fieldAddr 1 (.t 16),none,10,[]⟩,
  ⟨some 18,.load none (.t 17),none,11,[]⟩,
  ⟨some 19,.call F.dtq_New [(.t 12),(.t 18)],none,12,[]⟩,
  ⟨some 6,.move (.t 19),none,13,[]⟩,
  ⟨some 20,.extract 0 (.t 6),none,14,[]⟩,
  ⟨some 21,.extract 1 (.t 6),none,15,[]⟩,
  ⟨some 4,.move (.t 20),none,16,[]⟩,
  ⟨some 5,.move (.t 21),none,17,[]⟩]) (RC.seq (RC.region 2 [
  ⟨some 22,.move (.t 5),none,0,[]⟩,
  ⟨some 3,.move (.t 22),none,1,[]⟩]) (RC.ret))))
theorem conf_Check_3_ok : chkFunc Go.Proofs.Tryz.prog [0] Go.Proofs.Tryz.f201 conf_Check_3 = true := by kernel_rfl
def conf_Check_4 : RFunc := RFunc.mk 17 [.tmp 3] (
  RC.seq (RC.region 1 [
  ⟨some 3,.move (.c (.s (.int .i64 0))),none,0,[]⟩]) (RC.seq (RC.region 12 [
  ⟨some 7,.fieldAddr 5 (.t 1),none,0,[]⟩,
  ⟨some 8,.load none (.t 7),none,1,[]⟩,
  ⟨some 9,.move (.t 0),none,2,[]⟩,
  ⟨some 10,.indexSl 2 (.t 8) (.t 9),none,3,[]⟩,
  ⟨some 11,.load (some 2) (.t 10),none,4,[]⟩,
  ⟨some 12,.buildSlice 2 1 [.int .i64 0,.int .i64 0] [(0,2,(.t 11))],none,5,[]⟩,
  ⟨some 13,.call F.mtx_New [(.t 12)],none,6,[]⟩,
  ⟨some 6,.move (.t 13),none,7,[]⟩,
  ⟨some 14,.extract 0 (.t 6),none,8,[]⟩,
  ⟨some 15,.extract 1 (.t 6),none,9,[]⟩,
  ⟨some 4,.move (.t 14),none,10,[]⟩,
  ⟨some 5,.move (.t 15),none,11,[]⟩]) (RC.seq (RC.region 2 [
  ⟨some 16,.move (.t 5),none,0,[]⟩,
  ⟨some 3,.move (.t 16),none,1,[]⟩]) (RC.ret))))
theorem conf_Check_4_ok : chkFunc Go.Proofs.Tryz.prog [0] Go.Proofs.Tryz.f203 conf_Check_4 = true := by kernel_rfl
def conf_Check_5 : RFunc := RFunc.mk 44 [.tmp 4] (
  RC.seq (RC.region 1 [
  ⟨some 4,.move (.c (.s (.int .i64 0))),none,0,[]⟩]) (RC.seq (RC.region 12 [
  ⟨some 10,.load none (.t 1),none,0,[]⟩,
  ⟨some 11,.fieldAddr 6 (.t 2),none,1,[]⟩,
  ⟨some 12,.load none (.t 11),none,2,[]⟩,
  ⟨some 13,.move (.t 0),none,3,[]⟩,
  ⟨some 14,.indexSl 3 (.t 12) (.t 13),none,4,[]⟩,
  ⟨some 15,.load (some 3) (.t 14),none,5,[]⟩,
  ⟨some 16,.call F.conf_next [(.t 10),(.t 15)],none,6,[]⟩,
  ⟨some 9,.move (.t 16),none,7,[]⟩,
  ⟨some 17,.extract 0 (.t 9),none,8,[]⟩,
  ⟨some 18,.extract 1 (.t 9),none,9,[]⟩,
  ⟨some 5,.move (.t 17),none,10,[]⟩,
  ⟨some 6,.move (.t 18),none,11,[]⟩]) (RC.seq (RC.region 25 [
  ⟨some 20,.fieldAddr 6 (.t 2),none,0,[]⟩,
  ⟨some 21,.load none (.t 20),none,1,[]⟩,
  ⟨some 22,.move (.t 0),none,2,[]⟩,
  ⟨some 23,.indexSl 3 (.t 21) (.t 22),none,3,[]⟩,
  ⟨some 24,.fieldAddr 0 (.t 23),none,4,[]⟩,
  ⟨some 25,.load none (.t 24),none,5,[]⟩,
  ⟨some 26,.move (.t 5),none,6,[]⟩,
  ⟨some 27,.fieldAddr 6 (.t 2),none,7,[]⟩,
  ⟨some 28,.load none (.t 27),none,8,[]⟩,
  ⟨some 29,.move (.t 0),none,9,[]⟩,
  ⟨some 30,.indexSl 3 (.t 28) (.t 29),none,10,[]⟩,
  ⟨some 31,.fieldAddr 1 (.t 30),none,11,[]⟩,
  ⟨some 32,.load none (.t 31),none,12,[]⟩,
  ⟨some 33,.fieldAddr 6 (.t 2),none,13,[]⟩,
  ⟨some 34,.load none (.t 33),none,14,[]⟩,
  ⟨some 35,.move (.t 0),none,15,[]⟩,
  ⟨some 36,.indexSl 3 (.t 34) (.t 35),none,16,[]⟩,
  ⟨some 37,.fieldAddr 2 (.t 36),none,17,[]⟩,
  ⟨some 38,.load none (.t 37),none,18,[]⟩,
  ⟨some 39,.call F.mpf_NewPool [(.t 25),(.t 26),(.t 32),(.t 38)],none,19,[]⟩,
  ⟨some 19,.move (.t 39),none,20,[]⟩,
  ⟨some 40,.extract 0 (.t 19),none,21,[]⟩,
  ⟨some 41,.extract 1 (.t 19),none,22,[]⟩,
  ⟨some 7,.move (.t 40),none,23,[]⟩,
  ⟨some 8,.move (.t 41),none,24,[]⟩]) (RC.seq (RC.region 2 [
  ⟨some 42,.move (.t 6),none,0,[]⟩,
  ⟨none,.store 1 (.t 1) (.t 42),none,1,[]⟩]) (RC.seq (RC.region 2 [
  ⟨some 43,.move (.t 8),none,0,[]⟩,
  ⟨some 4,.move (.t 43),none,1,[]⟩]) (RC.ret))))))
theorem conf_Check_5_ok : chkFunc Go.Proofs.Tryz.prog [0] Go.Proofs.Tryz.f205 conf_Check_5 = true := by kernel_rfl
def conf_Check_6 : RFunc := RFunc.mk 27 [.tmp 4] (
  RC.seq (RC.region 1 [
  ⟨some 4,.move (.c (.s (.int .i64 0))),none,0,[]⟩]) (RC.seq (RC.region 7 [
  ⟨some 8,.fieldAddr 7 (.t 1),none,0,[]⟩,
  ⟨some 9,.load none (.t 8),none,1,[]⟩,
  ⟨some 10,.move (.t 0),none,2,[]⟩,
  ⟨some 11,.indexSl 4 (.t 9) (.t 10),none,3,[]⟩,
  ⟨some 12,.load (some 4) (.t 11),none,4,[]⟩,
  ⟨some 5,.newc [.int .i64 0,.int .i64 0,.bool false,.bool false],none,5,[]⟩,
  ⟨none,.store 4 (.t 5) (.t 12),none,6,[]⟩]) (RC.seq (RC.region 15 [
  ⟨some 14,.load none (.t 2),none,0,[]⟩,
  ⟨some 15,.fieldAddr 0 (.t 5),none,1,[]⟩,
  ⟨some 16,.load none (.t 15),none,2,[]⟩,
  ⟨some 17,.fieldAddr 1 (.t 5),none,3,[]⟩,
  ⟨some 18,.load none (.t 17),none,4,[]⟩,
  ⟨some 19,.fieldAddr 2 (.t 5),none,5,[]⟩,
  ⟨some 20,.load none (.t 19),none,6,[]⟩,
  ⟨some 21,.fieldAddr 3 (.t 5),none,7,[]⟩,
  ⟨some 22,.load none (.t 21),none,8,[]⟩,
  ⟨some 23,.call F.cyc_Hands_Cyclic [(.t 14),(.t 16),(.t 18),(.t 20),(.t 22)],none,9,[]⟩,
  ⟨some 13,.move (.t 23),none,10,[]⟩,
  ⟨some 24,.extract 0 (.t 13),none,11,[]⟩,
  ⟨some 25,.extract 1 (.t 13),none,12,[]⟩,
  ⟨some 6,.move (.t 24),none,13,[]⟩,
  ⟨some 7,.move (.t 25),none,14,[]⟩]) (RC.seq (RC.region 2 [
  ⟨some 26,.move (.t 7),none,0,[]⟩,
  ⟨some 4,.move (.t 26),none,1,[]⟩]) (RC.ret)))))
theorem conf_Check_6_ok : chkFunc Go.Proofs.Tryz.prog [0] Go.Proofs.Tryz.f207 conf_Check_6 = true := by kernel_rfl
def sem_NewSem : RFunc := RFunc.mk 29 [.tmp 6,.tmp 7] (
  RC.seq (RC.region 2 [
  ⟨some 6,.move (.c (.s (.ptr none))),none,0,[]⟩,
  ⟨some 7,.move (.c (.s (.int .i64 0))),none,1,[]⟩]) (RC.seq (RC.seq (RC.region 15 [
  ⟨some 8,.move (.t 2),none,0,[]⟩,
  ⟨some 9,.bin .lss (.t 8) (.c (.s (.int .i64 1))),none,1,[]⟩,
  ⟨some 10,.move (.t 9),none,2,[]⟩,
  ⟨some 11,.move (.t 2),(some (10,false)),3,[]⟩,
  ⟨some 12,.bin .gtr (.t 11) (.c (.s (.int .i64 65535))),(some (10,false)),4,[]⟩,
  ⟨some 13,.pick (.t 10) (.c (.s (.bool true))) (.t 12),none,5,[]⟩,
  ⟨some 14,.move (.t 13),none,6,[]⟩,
  ⟨some 15,.move (.t 1),(some (14,false)),7,[]⟩,
  ⟨some 16,.bin .lss (.t 15) (.c (.s (.int .i64 0))),(some (14,false)),8,[]⟩,
  ⟨some 17,.pick (.t 14) (.c (.s (.bool true))) (.t 16),none,9,[]⟩,
  ⟨some 18,.move (.t 17),none,10,[]⟩,
  ⟨some 19,.move (.t 1),(some (18,false)),11,[]⟩,
  ⟨some 20,.move (.t 2),(some (18,false)),12,[]⟩,
  ⟨some 21,.bin .gtr (.t 19) (.t 20),(some (18,false)),13,[]⟩,
  ⟨some 22,.pick (.t 18) (.c (.s (.bool true))) (.t 21),none,14,[]⟩]) (RC.cond (.t 22) (RC.seq (RC.region 2 [
  ⟨some 6,.move (.c (.s (.ptr none))),none,0,[]⟩,
  ⟨some 7,.move (.c (.s (.int .i64 (-17)))),none,1,[]⟩]) (RC.ret)) (RC.skip))) (RC.seq (RC.region 8 [
  ⟨some 23,.move (.t 0),none,0,[]⟩,
  ⟨some 24,.call F.order_New [(.t 23)],none,1,[]⟩,
  ⟨some 25,.move (.t 1),none,2,[]⟩,
  ⟨some 26,.move (.t 2),none,3,[]⟩,
  ⟨some 27,.build [.ptr none,.int .i64 0,.int .i64 0] [(0,1,(.t 24)),(1,1,(.t 25)),(2,1,(.t 26))],none,4,[]⟩,
  ⟨some 28,.box (.t 27),none,5,[]⟩,
  ⟨some 6,.move (.t 28),none,6,[]⟩,
  ⟨some 7,.move (.c (.s (.int .i64 0))),none,7,[]⟩]) (RC.ret))))
theorem sem_NewSem_ok : chkFunc Go.Proofs.Tryz.prog [0] Go.Proofs.Tryz.f199 sem_NewSem = true := by kernel_rfl
def dtq_New : RFunc := RFunc.mk 21 [.tmp 4,.tmp 5] (
  RC.seq (RC.region 2 [
  ⟨some 4,.move (.c (.s (.ptr none))),none,0,[]⟩,
  ⟨some 5,.move (.c (.s (.int .i64 0))),none,1,[]⟩]) (RC.seq (RC.seq (RC.region 6 [
  ⟨some 6,.move (.t 1),none,0,[]⟩,
  ⟨some 7,.bin .lss (.t 6) (.c (.s (.int .i64 0))),none,1,[]⟩,
  ⟨some 8,.move (.t 7),none,2,[]⟩,
  ⟨some 9,.move (.t 1),(some (8,false)),3,[]⟩,
  ⟨some 10,.bin .gtr (.t 9) (.c (.s (.int .i64 64))),(some (8,false)),4,[]⟩,
  ⟨some 11,.pick (.t 8) (.c (.s (.bool true))) (.t 10),none,5,[]⟩]) (RC.cond (.t 11) (RC.seq (RC.region 2 [
  ⟨some 4,.move (.c (.s (.ptr none))),none,0,[]⟩,
  ⟨some 5,.move (.c (.s (.int .i64 (-17)))),none,1,[]⟩]) (RC.ret)) (RC.skip))) (RC.seq (RC.region 11 [
  ⟨some 12,.move (.t 0),none,0,[]⟩,
  ⟨some 13,.call F.order_New [(.t 12)],none,1,[]⟩,
  ⟨some 14,.build [.ptr none] [(0,1,(.t 13))],none,2,[]⟩,
  ⟨some 15,.call F.order_New [(.c (.s (.bool false)))],none,3,[]⟩,
  ⟨some 16,.build [.ptr none] [(0,1,(.t 15))],none,4,[]⟩,
  ⟨some 17,.move (.t 1),none,5,[]⟩,
  ⟨some 18,.hop .makeMap [],none,6,[]⟩,
  ⟨some 19,.build [.ptr none,.ptr none,.int .i64 0,.slice none 0 0 1,.map none] [(0,1,(.t 14)),(1,1,(.t 16)),(2,1,(.t 17)),(4,1,(.t 18))],none,7,[]⟩,
  ⟨some 20,.box (.t 19),none,8,[]⟩,
  ⟨some 4,.move (.t 20),none,9,[]⟩,
  ⟨some 5,.move (.c (.s (.int .i64 0))),none,10,[]⟩]) (RC.ret))))
theorem dtq_New_ok : chkFunc Go.Proofs.Tryz.prog [0] Go.Proofs.Tryz.f202 dtq_New = true := by kernel_rfl
def mtx_New_l0 : RC :=
  RC.seq (RC.region 1 [
  ⟨some 20,.bin .lss (.t 19) (.t 18),none,0,[]⟩]) (RC.seq (RC.cond (.t 20) (RC.skip) (RC.exit 0)) (RC.seq (RC.block 1 (RC.seq (RC.region 4 [
  ⟨some 21,.indexSl 2 (.t 17) (.t 19),none,0,[]⟩,
  ⟨some 22,.load (some 2) (.t 21),none,1,[]⟩,
  ⟨some 6,.newc [.int .i64 0,.int .i64 0],none,2,[]⟩,
  ⟨none,.store 2 (.t 6) (.t 22),none,3,[]⟩]) (RC.seq (RC.seq (RC.region 3 [
  ⟨some 23,.load (some 2) (.t 6),none,0,[]⟩,
  ⟨some 24,.call F.mtx_Kind_right [(.t 23)],none,1,[]⟩,
  ⟨some 25,.un .not (.t 24),none,2,[]⟩]) (RC.cond (.t 25) (RC.seq (RC.region 2 [
  ⟨some 2,.move (.c (.s (.ptr none))),none,0,[]⟩,
  ⟨some 3,.move (.c (.s (.int .i64 (-17)))),none,1,[]⟩]) (RC.ret)) (RC.skip))) (RC.region 12 [
  ⟨some 26,.move (.t 4),none,0,[]⟩,
  ⟨some 27,.move (.t 4),none,1,[]⟩,
  ⟨some 28,.nilCheck (.t 27),none,2,[]⟩,
  ⟨some 29,.fieldAddr 0 (.t 28),none,3,[]⟩,
  ⟨some 30,.load none (.t 29),none,4,[]⟩,
  ⟨some 31,.load (some 2) (.t 6),none,5,[]⟩,
  ⟨some 32,.build [.int .i64 0,.int .i64 0,.int .i64 0,.slice none 0 0 1] [(0,2,(.t 31))],none,6,[]⟩,
  ⟨some 33,.buildSlice 4 1 [.int .i64 0,.int .i64 0,.int .i64 0,.slice none 0 0 1] [(0,4,(.t 32))],none,7,[]⟩,
  ⟨some 34,.append 4 48 (.t 30) (.t 33),none,8,[]⟩,
  ⟨some 35,.nilCheck (.t 26),none,9,[]⟩,
  ⟨some 36,.fieldAddr 0 (.t 35),none,10,[]⟩,
  ⟨none,.store 1 (.t 36) (.t 34),none,11,[]⟩])))) (RC.region 2 [
  ⟨some 37,.bin .add (.t 19) (.c (.s (.int .i64 1))),none,0,[]⟩,
  ⟨some 19,.move (.t 37),none,1,[]⟩])))
def mtx_New_l1 : RC :=
  RC.seq (RC.region 1 [
  ⟨some 39,.bin .lss (.t 38) (.c (.s (.int .i64 17))),none,0,[]⟩]) (RC.seq (RC.cond (.t 39) (RC.skip) (RC.exit 2)) (RC.seq (RC.block 3 (RC.seq (RC.region 2 [
  ⟨some 40,.move (.t 38),none,0,[]⟩,
  ⟨some 7,.move (.t 40),none,1,[]⟩]) (RC.region 7 [
  ⟨some 41,.move (.t 4),none,0,[]⟩,
  ⟨some 42,.move (.t 7),none,1,[]⟩,
  ⟨some 43,.build [.int .i64 0,.int .i64 0,.int .i64 0] [(0,1,(.c (.s (.int .i64 16)))),(1,1,(.c (.s (.int .i64 16)))),(2,1,(.c (.s (.int .i64 0))))],none,2,[]⟩,
  ⟨some 44,.nilCheck (.t 41),none,3,[]⟩,
  ⟨some 45,.fieldAddr 1 (.t 44),none,4,[]⟩,
  ⟨some 46,.indexArr 17 3 (.t 45) (.t 42),none,5,[]⟩,
  ⟨none,.store 3 (.t 46) (.t 43),none,6,[]⟩]))) (RC.region 2 [
  ⟨some 47,.bin .add (.t 38) (.c (.s (.int .i64 1))),none,0,[]⟩,
  ⟨some 38,.move (.t 47),none,1,[]⟩])))
def mtx_New_s2 : RC :=
  RC.seq (RC.region 3 [
  ⟨some 48,.move (.t 4),none,0,[]⟩,
  ⟨some 2,.move (.t 48),none,1,[]⟩,
  ⟨some 3,.move (.c (.s (.int .i64 0))),none,2,[]⟩]) (RC.ret)
def mtx_New_s3 : RC :=
  RC.seq (RC.seq (RC.region 1 [
  ⟨some 38,.move (.c (.s (.int .i64 0))),none,0,[]⟩]) (RC.block 2 (RC.loop R.mtx_New_l1))) R.mtx_New_s2
def mtx_New : RFunc := RFunc.mk 49 [.tmp 2,.tmp 3] (
  RC.seq (RC.region 2 [
  ⟨some 2,.move (.c (.s (.ptr none))),none,0,[]⟩,
  ⟨some 3,.move (.c (.s (.int .i64 0))),none,1,[]⟩]) (RC.seq (RC.seq (RC.region 3 [
  ⟨some 8,.move (.t 0),none,0,[]⟩,
  ⟨some 9,.len (.t 8),none,1,[]⟩,
  ⟨some 10,.bin .gtr (.t 9) (.c (.s (.int .i64 8))),none,2,[]⟩]) (RC.cond (.t 10) (RC.seq (RC.region 2 [
  ⟨some 2,.move (.c (.s (.ptr none))),none,0,[]⟩,
  ⟨some 3,.move (.c (.s (.int .i64 (-17)))),none,1,[]⟩]) (RC.ret)) (RC.skip))) (RC.seq (RC.region 7 [
  ⟨some 11,.move (.t 0),none,0,[]⟩,
  ⟨some 12,.len (.t 11),none,1,[]⟩,
  ⟨some 13,.bin .add (.t 12) (.c (.s (.int .i64 1))),none,2,[]⟩,
  ⟨some 14,.makeSlice 4 48 [.int .i64 0,.int .i64 0,.int .i64 0,.slice none 0 0 1] (.c (.s (.int .i64 1))) (.t 13),none,3,[]⟩,
  ⟨some 15,.build [.slice none 0 0 1,.int .i64 0,.int .i64 0,.int .i64 0,.int .i64 0,.int .i64 0,.int .i64 0,.int .i64 0,.int .i64 0,.int .i64 0,.int .i64 0,.int .i64 0,.int .i64 0,.int .i64 0,.int .i64 0,.int .i64 0,.int .i64 0,.int .i64 0,.int .i64 0,.int .i64 0,.int .i64 0,.int .i64 0,.int .i64 0,.int .i64 0,.int .i64 0,.int .i64 0,.int .i64 0,.int .i64 0,.int .i64 0,.int .i64 0,.int .i64 0,.int .i64 0,.int .i64 0,.int .i64 0,.int .i64 0,.int .i64 0,.int .i64 0,.int .i64 0,.int .i64 0,.int .i64 0,.int .i64 0,.int .i64 0,.int .i64 0,.int .i64 0,.int .i64 0,.int .i64 0,.int .i64 0,.int .i64 0,.int .i64 0,.int .i64 0,.int .i64 0,.int .i64 0] [(0,1,(.t 14))],none,4,[]⟩,
  ⟨some 16,.box (.t 15),none,5,[]⟩,
  ⟨some 4,.move (.t 16),none,6,[]⟩]) (RC.seq (RC.seq (RC.region 3 [
  ⟨some 17,.move (.t 0),none,0,[]⟩,
  ⟨some 18,.len (.t 17),none,1,[]⟩,
  ⟨some 19,.move (.c (.s (.int .i64 0))),none,2,[]⟩]) (RC.block 0 (RC.loop R.mtx_New_l0))) R.mtx_New_s3))))
theorem mtx_New_ok : chkFunc Go.Proofs.Tryz.prog [0] Go.Proofs.Tryz.f204 mtx_New = true := by kernel_rfl
def mpf_NewPool : RFunc := RFunc.mk 53 [.tmp 8,.tmp 9] (
  RC.seq (RC.region 2 [
  ⟨some 8,.move (.c (.s (.ptr none))),none,0,[]⟩,
  ⟨some 9,.move (.c (.s (.int .i64 0))),none,1,[]⟩]) (RC.seq (RC.seq (RC.region 36 [
  ⟨some 10,.move (.t 2),none,0,[]⟩,
  ⟨some 11,.bin .lss (.t 10) (.c (.s (.int .i64 1))),none,1,[]⟩,
  ⟨some 12,.move (.t 11),none,2,[]⟩,
  ⟨some 13,.move (.t 2),(some (12,false)),3,[]⟩,
  ⟨some 14,.bin .gtr (.t 13) (.c (.s (.int .i64 256))),(some (12,false)),4,[]⟩,
  ⟨some 15,.pick (.t 12) (.c (.s (.bool true))) (.t 14),none,5,[]⟩,
  ⟨some 16,.move (.t 15),none,6,[]⟩,
  ⟨some 17,.move (.t 3),(some (16,false)),7,[]⟩,
  ⟨some 18,.bin .lss (.t 17) (.c (.s (.int .i64 1))),(some (16,false)),8,[]⟩,
  ⟨some 19,.pick (.t 16) (.c (.s (.bool true))) (.t 18),none,9,[]⟩,
  ⟨some 20,.move (.t 19),none,10,[]⟩,
  ⟨some 21,.move (.t 3),(some (20,false)),11,[]⟩,
  ⟨some 22,.bin .gtr (.t 21) (.c (.s (.int .i64 4096))),(some (20,false)),12,[]⟩,
  ⟨some 23,.pick (.t 20) (.c (.s (.bool true))) (.t 22),none,13,[]⟩,
  ⟨some 24,.move (.t 23),none,14,[]⟩,
  ⟨some 25,.move (.t 1),(some (24,false)),15,[]⟩,
  ⟨some 26,.bin .lss (.t 25) (.c (.s (.int .i64 0))),(some (24,false)),16,[]⟩,
  ⟨some 27,.pick (.t 24) (.c (.s (.bool true))) (.t 26),none,17,[]⟩,
  ⟨some 28,.move (.t 27),none,18,[]⟩,
  ⟨some 29,.move (.t 1),(some (28,false)),19,[]⟩,
  ⟨some 30,.bin .gtr (.t 29) (.c (.s (.int .i64 65536))),(some (28,false)),20,[]⟩,
  ⟨some 31,.pick (.t 28) (.c (.s (.bool true))) (.t 30),none,21,[]⟩,
  ⟨some 32,.move (.t 31),none,22,[]⟩,
  ⟨some 33,.move (.t 1),(some (32,false)),23,[]⟩,
  ⟨some 34,.bin .rem (.t 33) (.c (.s (.int .i64 4))),(some (32,false)),24,[]⟩,
  ⟨some 35,.bin .neq (.t 34) (.c (.s (.int .i64 0))),(some (32,false)),25,[]⟩,
  ⟨some 36,.pick (.t 32) (.c (.s (.bool true))) (.t 35),none,26,[]⟩,
  ⟨some 37,.move (.t 36),none,27,[]⟩,
  ⟨some 38,.move (.t 2),(some (37,false)),28,[]⟩,
  ⟨some 39,.move (.t 3),(some (37,false)),29,[]⟩,
  ⟨some 40,.call F.nums_Align [(.t 39),(.c (.s (.int .i64 4)))],(some (37,false)),30,[]⟩,
  ⟨some 41,.bin .mul (.t 38) (.t 40),(some (37,false)),31,[]⟩,
  ⟨some 42,.move (.t 1),(some (37,false)),32,[]⟩,
  ⟨some 43,.bin .sub (.c (.s (.int .i64 65536))) (.t 42),(some (37,false)),33,[]⟩,
  ⟨some 44,.bin .gtr (.t 41) (.t 43),(some (37,false)),34,[]⟩,
  ⟨some 45,.pick (.t 37) (.c (.s (.bool true))) (.t 44),none,35,[]⟩]) (RC.cond (.t 45) (RC.seq (RC.region 2 [
  ⟨some 8,.move (.c (.s (.ptr none))),none,0,[]⟩,
  ⟨some 9,.move (.c (.s (.int .i64 (-17)))),none,1,[]⟩]) (RC.ret)) (RC.skip))) (RC.seq (RC.region 9 [
  ⟨some 46,.move (.t 0),none,0,[]⟩,
  ⟨some 47,.call F.order_New [(.t 46)],none,1,[]⟩,
  ⟨some 48,.move (.t 1),none,2,[]⟩,
  ⟨some 49,.move (.t 2),none,3,[]⟩,
  ⟨some 50,.move (.t 3),none,4,[]⟩,
  ⟨some 51,.build [.ptr none,.int .i64 0,.int .i64 0,.int .i64 0,.int .i64 0,.slice none 0 0 1,.slice none 0 0 1] [(0,1,(.t 47)),(1,1,(.t 48)),(2,1,(.t 49)),(3,1,(.t 50))],none,5,[]⟩,
  ⟨some 52,.box (.t 51),none,6,[]⟩,
  ⟨some 8,.move (.t 52),none,7,[]⟩,
  ⟨some 9,.move (.c (.s (.int .i64 0))),none,8,[]⟩]) (RC.ret))))
theorem mpf_NewPool_ok : chkFunc Go.Proofs.Tryz.prog [0] Go.Proofs.Tryz.f206 mpf_NewPool = true := by kernel_rfl
def flag_NewFlag : RFunc := RFunc.mk 17 [.tmp 8] (
  RC.seq (RC.region 1 [
  ⟨some 8,.move (.c (.s (.ptr none))),none,0,[]⟩]) (RC.seq (RC.region 9 [
  ⟨some 9,.move (.t 0),none,0,[]⟩,
  ⟨some 10,.call F.order_New [(.t 9)],none,1,[]⟩,
  ⟨some 11,.move (.t 3),none,2,[]⟩,
  ⟨some 12,.move (.t 1),none,3,[]⟩,
  ⟨some 13,.move (.t 2),none,4,[]⟩,
  ⟨some 14,.hop .makeMap [],none,5,[]⟩,
  ⟨some 15,.build [.ptr none,.int .u32 0,.bool false,.bool false,.map none] [(0,1,(.t 10)),(1,1,(.t 11)),(2,1,(.t 12)),(3,1,(.t 13)),(4,1,(.t 14))],none,6,[]⟩,
  ⟨some 16,.box (.t 15),none,7,[]⟩,
  ⟨some 8,.move (.t 16),none,8,[]⟩]) (RC.ret)))
theorem flag_NewFlag_ok : chkFunc Go.Proofs.Tryz.prog [0] Go.Proofs.Tryz.f208 flag_NewFlag = true := by kernel_rfl
def conf_Layout_l0 : RC :=
  RC.seq (RC.region 1 [
  ⟨some 13,.bin .lss (.t 12) (.t 11),none,0,[]⟩]) (RC.seq (RC.cond (.t 13) (RC.skip) (RC.exit 0)) (RC.seq (RC.block 1 (RC.seq (RC.region 4 [
  ⟨some 14,.indexSl 3 (.t 10) (.t 12),none,0,[]⟩,
  ⟨some 15,.load (some 3) (.t 14),none,1,[]⟩,
  ⟨some 6,.newc [.bool false,.int .i64 0,.int .i64 0],none,2,[]⟩,
  ⟨none,.store 3 (.t 6) (.t 15),none,3,[]⟩]) (RC.seq (RC.region 8 [
  ⟨some 17,.move (.t 4),none,0,[]⟩,
  ⟨some 18,.load (some 3) (.t 6),none,1,[]⟩,
  ⟨some 19,.call F.conf_next [(.t 17),(.t 18)],none,2,[]⟩,
  ⟨some 16,.move (.t 19),none,3,[]⟩,
  ⟨some 20,.extract 0 (.t 16),none,4,[]⟩,
  ⟨some 21,.extract 1 (.t 16),none,5,[]⟩,
  ⟨some 7,.move (.t 20),none,6,[]⟩,
  ⟨some 8,.move (.t 21),none,7,[]⟩]) (RC.seq (RC.region 5 [
  ⟨some 22,.move (.t 3),none,0,[]⟩,
  ⟨some 23,.move (.t 7),none,1,[]⟩,
  ⟨some 24,.buildSlice 1 1 [.int .i64 0] [(0,1,(.t 23))],none,2,[]⟩,
  ⟨some 25,.append 1 8 (.t 22) (.t 24),none,3,[]⟩,
  ⟨some 3,.move (.t 25),none,4,[]⟩]) (RC.region 2 [
  ⟨some 26,.move (.t 8),none,0,[]⟩,
  ⟨some 4,.move (.t 26),none,1,[]⟩]))))) (RC.region 2 [
  ⟨some 27,.bin .add (.t 12) (.c (.s (.int .i64 1))),none,0,[]⟩,
  ⟨some 12,.move (.t 27),none,1,[]⟩])))
def conf_Layout_s1 : RC :=
  RC.seq (RC.region 2 [
  ⟨some 28,.move (.t 3),none,0,[]⟩,
  ⟨some 2,.move (.t 28),none,1,[]⟩]) (RC.ret)
def conf_Layout : RFunc := RFunc.mk 29 [.tmp 2] (
  RC.seq (RC.region 2 [
  ⟨some 1,.box (.t 0),none,0,[]⟩,
  ⟨some 2,.move (.c (.s (.slice none 0 0 1))),none,1,[]⟩]) (RC.seq (RC.region 1 [
  ⟨some 3,.move (.c (.s (.slice none 0 0 1))),none,0,[]⟩]) (RC.seq (RC.region 1 [
  ⟨some 4,.move (.c (.s (.int .i64 0))),none,0,[]⟩]) (RC.seq (RC.seq (RC.region 4 [
  ⟨some 9,.fieldAddr 6 (.t 1),none,0,[]⟩,
  ⟨some 10,.load none (.t 9),none,1,[]⟩,
  ⟨some 11,.len (.t 10),none,2,[]⟩,
  ⟨some 12,.move (.c (.s (.int .i64 0))),none,3,[]⟩]) (RC.block 0 (RC.loop R.conf_Layout_l0))) R.conf_Layout_s1))))
theorem conf_Layout_ok : chkFunc Go.Proofs.Tryz.prog [0] Go.Proofs.Tryz.f209 conf_Layout = true := by kernel_rfl
def clock_NewClock : RFunc := RFunc.mk 15 [.tmp 2,.tmp 3] (
  RC.seq (RC.region 2 [
  ⟨some 2,.move (.c (.s (.ptr none))),none,0,[]⟩,
  ⟨some 3,.move (.c (.s (.int .i64 0))),none,1,[]⟩]) (RC.seq (RC.seq (RC.region 6 [
  ⟨some 4,.move (.t 0),none,0,[]⟩,
  ⟨some 5,.bin .lss (.t 4) (.c (.s (.int .i64 1))),none,1,[]⟩,
  ⟨some 6,.move (.t 5),none,2,[]⟩,
  ⟨some 7,.move (.t 0),(some (6,false)),3,[]⟩,
  ⟨some 8,.bin .gtr (.t 7) (.c (.s (.int .i64 1000))),(some (6,false)),4,[]⟩,
  ⟨some 9,.pick (.t 6) (.c (.s (.bool true))) (.t 8),none,5,[]⟩]) (RC.cond (.t 9) (RC.seq (RC.region 2 [
  ⟨some 2,.move (.c (.s (.ptr none))),none,0,[]⟩,
  ⟨some 3,.move (.c (.s (.int .i64 (-17)))),none,1,[]⟩]) (RC.ret)) (RC.skip))) (RC.seq (RC.region 7 [
  ⟨some 10,.call F.heap_New [],none,0,[]⟩,
  ⟨some 11,.move (.t 0),none,1,[]⟩,
  ⟨some 12,.conv .u64 (.t 11),none,2,[]⟩,
  ⟨some 13,.build [.ptr none,.int .u64 0,.int .u64 0,.int .u64 0] [(0,1,(.t 10)),(1,1,(.t 12))],none,3,[]⟩,
  ⟨some 14,.box (.t 13),none,4,[]⟩,
  ⟨some 2,.move (.t 14),none,5,[]⟩,
  ⟨some 3,.move (.c (.s (.int .i64 0))),none,6,[]⟩]) (RC.ret))))
theorem clock_NewClock_ok : chkFunc Go.Proofs.Tryz.prog [0] Go.Proofs.Tryz.f210 clock_NewClock = true := by kernel_rfl
def nums_Rel : RFunc := RFunc.mk 12 [.tmp 2,.tmp 3] (
  RC.seq (RC.region 2 [
  ⟨some 2,.move (.c (.s (.int .u64 0))),none,0,[]⟩,
  ⟨some 3,.move (.c (.s (.int .i64 0))),none,1,[]⟩]) (RC.seq (RC.seq (RC.region 6 [
  ⟨some 4,.move (.t 0),none,0,[]⟩,
  ⟨some 5,.bin .lss (.t 4) (.c (.s (.int .i64 0))),none,1,[]⟩,
  ⟨some 6,.move (.t 5),none,2,[]⟩,
  ⟨some 7,.move (.t 0),(some (6,false)),3,[]⟩,
  ⟨some 8,.bin .gtr (.t 7) (.c (.s (.int .i64 2147483647))),(some (6,false)),4,[]⟩,
  ⟨some 9,.pick (.t 6) (.c (.s (.bool true))) (.t 8),none,5,[]⟩]) (RC.cond (.t 9) (RC.seq (RC.region 2 [
  ⟨some 2,.move (.c (.s (.int .u64 0))),none,0,[]⟩,
  ⟨some 3,.move (.c (.s (.int .i64 (-17)))),none,1,[]⟩]) (RC.ret)) (RC.skip))) (RC.seq (RC.region 4 [
  ⟨some 10,.move (.t 0),none,0,[]⟩,
  ⟨some 11,.conv .u64 (.t 10),none,1,[]⟩,
  ⟨some 2,.move (.t 11),none,2,[]⟩,
  ⟨some 3,.move (.c (.s (.int .i64 0))),none,3,[]⟩]) (RC.ret))))
theorem nums_Rel_ok : chkFunc Go.Proofs.Tryz.prog [0] Go.Proofs.Tryz.f121 nums_Rel = true := by kernel_rfl
def mtx_is : RFunc := RFunc.mk 9 [.tmp 2] (
  RC.seq (RC.region 1 [
  ⟨some 2,.move (.c (.s (.bool false))),none,0,[]⟩]) (RC.seq (RC.region 7 [
  ⟨some 3,.move (.t 0),none,0,[]⟩,
  ⟨some 4,.bin .geq (.t 3) (.c (.s (.int .i64 1))),none,1,[]⟩,
  ⟨some 5,.move (.t 4),none,2,[]⟩,
  ⟨some 6,.move (.t 0),(some (5,true)),3,[]⟩,
  ⟨some 7,.bin .leq (.t 6) (.c (.s (.int .i64 16))),(some (5,true)),4,[]⟩,
  ⟨some 8,.pick (.t 5) (.t 7) (.c (.s (.bool false))),none,5,[]⟩,
  ⟨some 2,.move (.t 8),none,6,[]⟩]) (RC.ret)))
theorem mtx_is_ok : chkFunc Go.Proofs.Tryz.prog [0] Go.Proofs.Tryz.f111 mtx_is = true := by kernel_rfl
def mtx_may : RFunc := RFunc.mk 9 [.tmp 2] (
  RC.seq (RC.region 1 [
  ⟨some 2,.move (.c (.s (.bool false))),none,0,[]⟩]) (RC.seq (RC.region 7 [
  ⟨some 3,.move (.t 0),none,0,[]⟩,
  ⟨some 4,.bin .geq (.t 3) (.c (.s (.int .i64 1))),none,1,[]⟩,
  ⟨some 5,.move (.t 4),none,2,[]⟩,
  ⟨some 6,.move (.t 0),(some (5,true)),3,[]⟩,
  ⟨some 7,.bin .leq (.t 6) (.c (.s (.int .i64 16))),(some (5,true)),4,[]⟩,
  ⟨some 8,.pick (.t 5) (.t 7) (.c (.s (.bool false))),none,5,[]⟩,
  ⟨some 2,.move (.t 8),none,6,[]⟩]) (RC.ret)))
theorem mtx_may_ok : chkFunc Go.Proofs.Tryz.prog [0] Go.Proofs.Tryz.f211 mtx_may = true := by kernel_rfl
def mtx_All_settle_l0 : RC :=
  RC.seq (RC.seq (RC.region 2 [
  ⟨some 8,.move (.t 3),none,0,[]⟩,
  ⟨some 9,.bin .leq (.t 8) (.c (.s (.int .i64 16))),none,1,[]⟩]) (RC.cond (.t 9) (RC.skip) (RC.exit 0))) (RC.seq (RC.block 1 (RC.region 6 [
  ⟨some 12,.move (.t 3),none,0,[]⟩,
  ⟨some 13,.move (.t 0),none,1,[]⟩,
  ⟨some 14,.move (.t 3),none,2,[]⟩,
  ⟨some 15,.call F.mtx_All_reckon [(.t 13),(.t 14),(.c (.s (.int .i64 0)))],none,3,[]⟩,
  ⟨some 16,.indexArr 17 1 (.t 2) (.t 12),none,4,[]⟩,
  ⟨none,.store 1 (.t 16) (.t 15),none,5,[]⟩])) (RC.region 3 [
  ⟨some 10,.move (.t 3),none,0,[]⟩,
  ⟨some 11,.bin .add (.t 10) (.c (.s (.int .i64 1))),none,1,[]⟩,
  ⟨some 3,.move (.t 11),none,2,[]⟩]))
def mtx_All_settle_l1 : RC :=
  RC.seq (RC.region 1 [
  ⟨some 37,.bin .lss (.t 36) (.t 35),none,0,[]⟩]) (RC.seq (RC.cond (.t 37) (RC.skip) (RC.exit 4)) (RC.seq (RC.block 5 (RC.seq (RC.region 3 [
  ⟨some 38,.indexSl 1 (.t 34) (.t 36),none,0,[]⟩,
  ⟨some 39,.load none (.t 38),none,1,[]⟩,
  ⟨some 6,.move (.t 39),none,2,[]⟩]) (RC.seq (RC.seq (RC.region 11 [
  ⟨some 40,.move (.t 6),none,0,[]⟩,
  ⟨some 41,.indexArr 17 1 (.t 2) (.t 40),none,1,[]⟩,
  ⟨some 42,.load none (.t 41),none,2,[]⟩,
  ⟨some 43,.move (.t 0),none,3,[]⟩,
  ⟨some 44,.move (.t 6),none,4,[]⟩,
  ⟨some 45,.nilCheck (.t 43),none,5,[]⟩,
  ⟨some 46,.fieldAddr 1 (.t 45),none,6,[]⟩,
  ⟨some 47,.indexArr 17 3 (.t 46) (.t 44),none,7,[]⟩,
  ⟨some 48,.fieldAddr 1 (.t 47),none,8,[]⟩,
  ⟨some 49,.load none (.t 48),none,9,[]⟩,
  ⟨some 50,.bin .eql (.t 42) (.t 49),none,10,[]⟩]) (RC.cond (.t 50) (RC.exit 5) (RC.skip))) (RC.seq (RC.region 4 [
  ⟨some 51,.move (.t 0),none,0,[]⟩,
  ⟨some 52,.move (.t 4),none,1,[]⟩,
  ⟨some 53,.move (.t 6),none,2,[]⟩,
  ⟨some 54,.call F.mtx_All_leave [(.t 51),(.t 52),(.t 53)],none,3,[]⟩]) (RC.seq (RC.region 10 [
  ⟨some 55,.move (.t 0),none,0,[]⟩,
  ⟨some 56,.move (.t 6),none,1,[]⟩,
  ⟨some 57,.move (.t 6),none,2,[]⟩,
  ⟨some 58,.indexArr 17 1 (.t 2) (.t 57),none,3,[]⟩,
  ⟨some 59,.load none (.t 58),none,4,[]⟩,
  ⟨some 60,.nilCheck (.t 55),none,5,[]⟩,
  ⟨some 61,.fieldAddr 1 (.t 60),none,6,[]⟩,
  ⟨some 62,.indexArr 17 3 (.t 61) (.t 56),none,7,[]⟩,
  ⟨some 63,.fieldAddr 1 (.t 62),none,8,[]⟩,
  ⟨none,.store 1 (.t 63) (.t 59),none,9,[]⟩]) (RC.region 4 [
  ⟨some 64,.move (.t 0),none,0,[]⟩,
  ⟨some 65,.move (.t 4),none,1,[]⟩,
  ⟨some 66,.move (.t 6),none,2,[]⟩,
  ⟨some 67,.call F.mtx_All_rejoin [(.t 64),(.t 65),(.t 66)],none,3,[]⟩])))))) (RC.region 2 [
  ⟨some 68,.bin .add (.t 36) (.c (.s (.int .i64 1))),none,0,[]⟩,
  ⟨some 36,.move (.t 68),none,1,[]⟩])))
def mtx_All_settle_s2 : RC :=
  RC.region 3 [
  ⟨some 24,.move (.t 4),none,0,[]⟩,
  ⟨some 25,.bin .add (.t 24) (.c (.s (.int .i64 1))),none,1,[]⟩,
  ⟨some 4,.move (.t 25),none,2,[]⟩]
def mtx_All_settle_l3 : RC :=
  RC.seq (RC.seq (RC.region 7 [
  ⟨some 17,.move (.t 4),none,0,[]⟩,
  ⟨some 18,.move (.t 0),none,1,[]⟩,
  ⟨some 19,.nilCheck (.t 18),none,2,[]⟩,
  ⟨some 20,.fieldAddr 0 (.t 19),none,3,[]⟩,
  ⟨some 21,.load none (.t 20),none,4,[]⟩,
  ⟨some 22,.len (.t 21),none,5,[]⟩,
  ⟨some 23,.bin .lss (.t 17) (.t 22),none,6,[]⟩]) (RC.cond (.t 23) (RC.skip) (RC.exit 2))) (RC.seq (RC.block 3 (RC.seq (RC.region 11 [
  ⟨some 26,.move (.t 0),none,0,[]⟩,
  ⟨some 27,.nilCheck (.t 26),none,1,[]⟩,
  ⟨some 28,.fieldAddr 0 (.t 27),none,2,[]⟩,
  ⟨some 29,.load none (.t 28),none,3,[]⟩,
  ⟨some 30,.move (.t 4),none,4,[]⟩,
  ⟨some 31,.indexSl 4 (.t 29) (.t 30),none,5,[]⟩,
  ⟨some 32,.fieldAddr 3 (.t 31),none,6,[]⟩,
  ⟨some 33,.load none (.t 32),none,7,[]⟩,
  ⟨some 34,.call F.slices_Clone__int_int [(.t 33)],none,8,[]⟩,
  ⟨some 35,.len (.t 34),none,9,[]⟩,
  ⟨some 36,.move (.c (.s (.int .i64 0))),none,10,[]⟩]) (RC.block 4 (RC.loop R.mtx_All_settle_l1)))) R.mtx_All_settle_s2)
def mtx_All_settle_l4 : RC :=
  RC.seq (RC.seq (RC.region 2 [
  ⟨some 69,.move (.t 7),none,0,[]⟩,
  ⟨some 70,.bin .leq (.t 69) (.c (.s (.int .i64 16))),none,1,[]⟩]) (RC.cond (.t 70) (RC.skip) (RC.exit 6))) (RC.seq (RC.block 7 (RC.region 10 [
  ⟨some 73,.move (.t 0),none,0,[]⟩,
  ⟨some 74,.move (.t 7),none,1,[]⟩,
  ⟨some 75,.move (.t 7),none,2,[]⟩,
  ⟨some 76,.indexArr 17 1 (.t 2) (.t 75),none,3,[]⟩,
  ⟨some 77,.load none (.t 76),none,4,[]⟩,
  ⟨some 78,.nilCheck (.t 73),none,5,[]⟩,
  ⟨some 79,.fieldAddr 1 (.t 78),none,6,[]⟩,
  ⟨some 80,.indexArr 17 3 (.t 79) (.t 74),none,7,[]⟩,
  ⟨some 81,.fieldAddr 1 (.t 80),none,8,[]⟩,
  ⟨none,.store 1 (.t 81) (.t 77),none,9,[]⟩])) (RC.region 3 [
  ⟨some 71,.move (.t 7),none,0,[]⟩,
  ⟨some 72,.bin .add (.t 71) (.c (.s (.int .i64 1))),none,1,[]⟩,
  ⟨some 7,.move (.t 72),none,2,[]⟩]))
def mtx_All_settle_s5 : RC :=
  RC.seq (RC.region 1 [
  ⟨some 7,.move (.c (.s (.int .i64 1))),none,0,[]⟩]) (RC.block 6 (RC.loop R.mtx_All_settle_l4))
def mtx_All_settle_s6 : RC :=
  RC.seq (RC.seq (RC.region 1 [
  ⟨some 4,.move (.c (.s (.int .i64 1))),none,0,[]⟩]) (RC.block 2 (RC.loop R.mtx_All_settle_l3))) R.mtx_All_settle_s5
def mtx_All_settle : RFunc := RFunc.mk 82 [] (
  RC.seq (RC.region 1 [
  ⟨some 2,.newc [.int .i64 0,.int .i64 0,.int .i64 0,.int .i64 0,.int .i64 0,.int .i64 0,.int .i64 0,.int .i64 0,.int .i64 0,.int .i64 0,.int .i64 0,.int .i64 0,.int .i64 0,.int .i64 0,.int .i64 0,.int .i64 0,.int .i64 0],none,0,[]⟩]) (RC.seq (RC.seq (RC.region 1 [
  ⟨some 3,.move (.c (.s (.int .i64 1))),none,0,[]⟩]) (RC.block 0 (RC.loop R.mtx_All_settle_l0))) R.mtx_All_settle_s6))
theorem mtx_All_settle_ok : chkFunc Go.Proofs.Tryz.prog [0] Go.Proofs.Tryz.f212 mtx_All_settle = true := by kernel_rfl
def tcb_Task_Act : RFunc := RFunc.mk 27 [.tmp 2,.tmp 3] (
  RC.seq (RC.region 2 [
  ⟨some 2,.move (.c (.s (.bool false))),none,0,[]⟩,
  ⟨some 3,.move (.c (.s (.int .i64 0))),none,1,[]⟩]) (RC.seq (RC.block 0 (RC.seq (RC.region 4 [
  ⟨some 5,.move (.t 0),none,0,[]⟩,
  ⟨some 6,.buildSlice 1 1 [.int .i64 0] [(0,1,(.c (.s (.int .i64 16))))],none,1,[]⟩,
  ⟨some 7,.call F.tcb_Task_Is [(.t 5),(.t 6)],none,2,[]⟩,
  ⟨some 4,.move (.t 7),none,3,[]⟩]) (RC.cond (.t 4) (RC.seq (RC.region 4 [
  ⟨some 8,.move (.t 0),none,0,[]⟩,
  ⟨some 9,.nilCheck (.t 8),none,1,[]⟩,
  ⟨some 10,.fieldAddr 3 (.t 9),none,2,[]⟩,
  ⟨none,.store 1 (.t 10) (.c (.s (.int .i64 2))),none,3,[]⟩]) (RC.seq (RC.region 2 [
  ⟨some 2,.move (.c (.s (.bool true))),none,0,[]⟩,
  ⟨some 3,.move (.c (.s (.int .i64 0))),none,1,[]⟩]) (RC.ret))) (RC.seq (RC.region 7 [
  ⟨some 12,.move (.t 0),none,0,[]⟩,
  ⟨some 13,.nilCheck (.t 12),none,1,[]⟩,
  ⟨some 14,.fieldAddr 0 (.t 13),none,2,[]⟩,
  ⟨some 15,.fieldAddr 0 (.t 14),none,3,[]⟩,
  ⟨some 16,.load none (.t 15),none,4,[]⟩,
  ⟨some 17,.bin .geq (.t 16) (.c (.s (.int .i64 7))),none,5,[]⟩,
  ⟨some 11,.move (.t 17),none,6,[]⟩]) (RC.cond (.t 11) (RC.seq (RC.region 2 [
  ⟨some 2,.move (.c (.s (.bool false))),none,0,[]⟩,
  ⟨some 3,.move (.c (.s (.int .i64 (-43)))),none,1,[]⟩]) (RC.ret)) (RC.skip)))))) (RC.seq (RC.region 10 [
  ⟨some 18,.move (.t 0),none,0,[]⟩,
  ⟨some 19,.nilCheck (.t 18),none,1,[]⟩,
  ⟨some 20,.fieldAddr 0 (.t 19),none,2,[]⟩,
  ⟨some 21,.fieldAddr 0 (.t 20),none,3,[]⟩,
  ⟨some 22,.load none (.t 21),none,4,[]⟩,
  ⟨some 23,.bin .add (.t 22) (.c (.s (.int .i64 1))),none,5,[]⟩,
  ⟨some 24,.nilCheck (.t 18),none,6,[]⟩,
  ⟨some 25,.fieldAddr 0 (.t 24),none,7,[]⟩,
  ⟨some 26,.fieldAddr 0 (.t 25),none,8,[]⟩,
  ⟨none,.store 1 (.t 26) (.t 23),none,9,[]⟩]) (RC.seq (RC.region 2 [
  ⟨some 2,.move (.c (.s (.bool false))),none,0,[]⟩,
  ⟨some 3,.move (.c (.s (.int .i64 0))),none,1,[]⟩]) (RC.ret)))))
theorem tcb_Task_Act_ok : chkFunc Go.Proofs.Tryz.prog [0] Go.Proofs.Tryz.f213 tcb_Task_Act = true := by kernel_rfl
def kern_Kernel_enter : RFunc := RFunc.mk 38 [] (
  RC.seq (RC.region 8 [
  ⟨some 5,.move (.t 0),none,0,[]⟩,
  ⟨some 6,.nilCheck (.t 5),none,1,[]⟩,
  ⟨some 7,.fieldAddr 9 (.t 6),none,2,[]⟩,
  ⟨some 8,.load none (.t 7),none,3,[]⟩,
  ⟨some 9,.move (.t 1),none,4,[]⟩,
  ⟨some 10,.indexSl 1 (.t 8) (.t 9),none,5,[]⟩,
  ⟨some 11,.load none (.t 10),none,6,[]⟩,
  ⟨some 4,.move (.t 11),none,7,[]⟩]) (RC.seq (RC.region 6 [
  ⟨some 12,.move (.t 4),none,0,[]⟩,
  ⟨some 13,.nilCheck (.t 12),none,1,[]⟩,
  ⟨some 14,.fieldAddr 0 (.t 13),none,2,[]⟩,
  ⟨some 15,.load none (.t 14),none,3,[]⟩,
  ⟨some 16,.buildSlice 1 1 [.int .i64 0] [(0,1,(.c (.s (.int .i64 2))))],none,4,[]⟩,
  ⟨some 17,.call F.tcb_Task_Is [(.t 15),(.t 16)],none,5,[]⟩]) (RC.cond (.t 17) (RC.seq (RC.region 11 [
  ⟨some 18,.move (.t 4),none,0,[]⟩,
  ⟨some 19,.move (.t 0),none,1,[]⟩,
  ⟨some 20,.nilCheck (.t 19),none,2,[]⟩,
  ⟨some 21,.fieldAddr 0 (.t 20),none,3,[]⟩,
  ⟨some 22,.fieldAddr 5 (.t 21),none,4,[]⟩,
  ⟨some 23,.load none (.t 22),none,5,[]⟩,
  ⟨some 24,.move (.t 1),none,6,[]⟩,
  ⟨some 25,.call F.mtx_All_Pri [(.t 23),(.t 24)],none,7,[]⟩,
  ⟨some 26,.nilCheck (.t 18),none,8,[]⟩,
  ⟨some 27,.fieldAddr 2 (.t 26),none,9,[]⟩,
  ⟨none,.store 1 (.t 27) (.t 25),none,10,[]⟩]) (RC.region 10 [
  ⟨some 28,.move (.t 0),none,0,[]⟩,
  ⟨some 29,.nilCheck (.t 28),none,1,[]⟩,
  ⟨some 30,.fieldAddr 8 (.t 29),none,2,[]⟩,
  ⟨some 31,.load none (.t 30),none,3,[]⟩,
  ⟨some 32,.move (.t 1),none,4,[]⟩,
  ⟨some 33,.move (.t 4),none,5,[]⟩,
  ⟨some 34,.nilCheck (.t 33),none,6,[]⟩,
  ⟨some 35,.fieldAddr 2 (.t 34),none,7,[]⟩,
  ⟨some 36,.load none (.t 35),none,8,[]⟩,
  ⟨some 37,.call F.ready_Queue_Add [(.t 31),(.t 32),(.t 36)],none,9,[]⟩])) (RC.skip))))
theorem kern_Kernel_enter_ok : chkFunc Go.Proofs.Tryz.prog [0] Go.Proofs.Tryz.f214 kern_Kernel_enter = true := by kernel_rfl
def calls_of : RFunc := RFunc.mk 18 [.cell 2 (some 3)] (
  RC.seq (RC.region 1 [
  ⟨some 2,.newc [.str ⟨#[]⟩,.int .i64 0,.int .i64 0],none,0,[]⟩]) (RC.seq (RC.region 2 [
  ⟨some 4,.call F.calls_table [],none,0,[]⟩,
  ⟨some 3,.move (.t 4),none,1,[]⟩]) (RC.seq (RC.seq (RC.region 8 [
  ⟨some 5,.move (.t 0),none,0,[]⟩,
  ⟨some 6,.bin .lss (.t 5) (.c (.s (.int .i64 1))),none,1,[]⟩,
  ⟨some 7,.move (.t 6),none,2,[]⟩,
  ⟨some 8,.move (.t 0),(some (7,false)),3,[]⟩,
  ⟨some 9,.move (.t 3),(some (7,false)),4,[]⟩,
  ⟨some 10,.len (.t 9),(some (7,false)),5,[]⟩,
  ⟨some 11,.bin .geq (.t 8) (.t 10),(some (7,false)),6,[]⟩,
  ⟨some 12,.pick (.t 7) (.c (.s (.bool true))) (.t 11),none,7,[]⟩]) (RC.cond (.t 12) (RC.seq (RC.region 2 [
  ⟨some 13,.build [.str ⟨#[]⟩,.int .i64 0,.int .i64 0] [],none,0,[]⟩,
  ⟨none,.store 3 (.t 2) (.t 13),none,1,[]⟩]) (RC.ret)) (RC.skip))) (RC.seq (RC.region 5 [
  ⟨some 14,.move (.t 3),none,0,[]⟩,
  ⟨some 15,.move (.t 0),none,1,[]⟩,
  ⟨some 16,.indexSl 3 (.t 14) (.t 15),none,2,[]⟩,
  ⟨some 17,.load (some 3) (.t 16),none,3,[]⟩,
  ⟨none,.store 3 (.t 2) (.t 17),none,4,[]⟩]) (RC.ret)))))
theorem calls_of_ok : chkFunc Go.Proofs.Tryz.prog [0] Go.Proofs.Tryz.f112 calls_of = true := by kernel_rfl
def ctx_state_may : RFunc := RFunc.mk 59 [.tmp 6] (
  RC.seq (RC.region 1 [
  ⟨some 6,.move (.c (.s (.bool false))),none,0,[]⟩]) (RC.seq (RC.region 8 [
  ⟨some 8,.move (.t 0),none,0,[]⟩,
  ⟨some 9,.call F.ctx_state_In [(.t 8)],none,1,[]⟩,
  ⟨some 10,.un .not (.t 9),none,2,[]⟩,
  ⟨some 11,.move (.t 10),none,3,[]⟩,
  ⟨some 12,.move (.t 2),(some (11,true)),4,[]⟩,
  ⟨some 13,.un .not (.t 12),(some (11,true)),5,[]⟩,
  ⟨some 14,.pick (.t 11) (.t 13) (.c (.s (.bool false))),none,6,[]⟩,
  ⟨some 7,.move (.t 14),none,7,[]⟩]) (RC.seq (RC.seq (RC.region 1 [
  ⟨some 15,.move (.t 1),none,0,[]⟩]) (RC.block 0 (RC.seq (RC.region 2 [
  ⟨some 17,.bin .eql (.t 15) (.c (.s (.int .i64 0))),none,0,[]⟩,
  ⟨some 16,.move (.t 17),none,1,[]⟩]) (RC.cond (.t 16) (RC.seq (RC.region 1 [
  ⟨some 6,.move (.c (.s (.bool true))),none,0,[]⟩]) (RC.ret)) (RC.seq (RC.region 2 [
  ⟨some 19,.bin .eql (.t 15) (.c (.s (.int .i64 4))),none,0,[]⟩,
  ⟨some 18,.move (.t 19),none,1,[]⟩]) (RC.cond (.t 18) (RC.seq (RC.region 2 [
  ⟨some 20,.move (.t 7),none,0,[]⟩,
  ⟨some 6,.move (.t 20),none,1,[]⟩]) (RC.ret)) (RC.seq (RC.region 2 [
  ⟨some 22,.bin .eql (.t 15) (.c (.s (.int .i64 1))),none,0,[]⟩,
  ⟨some 21,.move (.t 22),none,1,[]⟩]) (RC.cond (.t 21) (RC.seq (RC.region 9 [
  ⟨some 23,.move (.t 7),none,0,[]⟩,
  ⟨some 24,.move (.t 23),none,1,[]⟩,
  ⟨some 25,.move (.t 0),(some (24,true)),2,[]⟩,
  ⟨some 26,.nilCheck (.t 25),(some (24,true)),3,[]⟩,
  ⟨some 27,.fieldAddr 1 (.t 26),(some (24,true)),4,[]⟩,
  ⟨some 28,.load none (.t 27),(some (24,true)),5,[]⟩,
  ⟨some 29,.un .not (.t 28),(some (24,true)),6,[]⟩,
  ⟨some 30,.pick (.t 24) (.t 29) (.c (.s (.bool false))),none,7,[]⟩,
  ⟨some 6,.move (.t 30),none,8,[]⟩]) (RC.ret)) (RC.seq (RC.region 2 [
  ⟨some 32,.bin .eql (.t 15) (.c (.s (.int .i64 2))),none,0,[]⟩,
  ⟨some 31,.move (.t 32),none,1,[]⟩]) (RC.cond (.t 31) (RC.seq (RC.region 16 [
  ⟨some 33,.move (.t 7),none,0,[]⟩,
  ⟨some 34,.move (.t 33),none,1,[]⟩,
  ⟨some 35,.move (.t 0),(some (34,true)),2,[]⟩,
  ⟨some 36,.nilCheck (.t 35),(some (34,true)),3,[]⟩,
  ⟨some 37,.fieldAddr 1 (.t 36),(some (34,true)),4,[]⟩,
  ⟨some 38,.load none (.t 37),(some (34,true)),5,[]⟩,
  ⟨some 39,.un .not (.t 38),(some (34,true)),6,[]⟩,
  ⟨some 40,.pick (.t 34) (.t 39) (.c (.s (.bool false))),none,7,[]⟩,
  ⟨some 41,.move (.t 40),none,8,[]⟩,
  ⟨some 42,.move (.t 0),(some (41,true)),9,[]⟩,
  ⟨some 43,.nilCheck (.t 42),(some (41,true)),10,[]⟩,
  ⟨some 44,.fieldAddr 2 (.t 43),(some (41,true)),11,[]⟩,
  ⟨some 45,.load none (.t 44),(some (41,true)),12,[]⟩,
  ⟨some 46,.un .not (.t 45),(some (41,true)),13,[]⟩,
  ⟨some 47,.pick (.t 41) (.t 46) (.c (.s (.bool false))),none,14,[]⟩,
  ⟨some 6,.move (.t 47),none,15,[]⟩]) (RC.ret)) (RC.seq (RC.region 2 [
  ⟨some 49,.bin .eql (.t 15) (.c (.s (.int .i64 3))),none,0,[]⟩,
  ⟨some 48,.move (.t 49),none,1,[]⟩]) (RC.cond (.t 48) (RC.seq (RC.region 10 [
  ⟨some 50,.move (.t 0),none,0,[]⟩,
  ⟨some 51,.call F.ctx_state_In [(.t 50)],none,1,[]⟩,
  ⟨some 52,.move (.t 51),none,2,[]⟩,
  ⟨some 53,.move (.t 0),(some (52,true)),3,[]⟩,
  ⟨some 54,.nilCheck (.t 53),(some (52,true)),4,[]⟩,
  ⟨some 55,.fieldAddr 1 (.t 54),(some (52,true)),5,[]⟩,
  ⟨some 56,.load none (.t 55),(some (52,true)),6,[]⟩,
  ⟨some 57,.un .not (.t 56),(some (52,true)),7,[]⟩,
  ⟨some 58,.pick (.t 52) (.t 57) (.c (.s (.bool false))),none,8,[]⟩,
  ⟨some 6,.move (.t 58),none,9,[]⟩]) (RC.ret)) (RC.skip))))))))))))) (RC.seq (RC.region 1 [
  ⟨some 6,.move (.c (.s (.bool false))),none,0,[]⟩]) (RC.ret)))))
theorem ctx_state_may_ok : chkFunc Go.Proofs.Tryz.prog [0] Go.Proofs.Tryz.f113 ctx_state_may = true := by kernel_rfl
end Go.AM.R
