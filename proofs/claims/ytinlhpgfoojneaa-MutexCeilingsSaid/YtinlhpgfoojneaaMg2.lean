/-
  The code of the functions,as the abstract machine has it; it is the program's.
-/
import Derived.Test.YtinlhpgfoojneaaMg1
import Derived.Test.YtinlhpgfoojneaaProg
import Derived.KernelRfl
set_option maxRecDepth 100000
namespace Go.AM.R
open Go.AM
def detentlaw15_MutexCeilings_l0 : RC :=
  RC.seq (RC.seq (RC.region 4 [
  ⟨some 27,.move (.t 6),none,0,[]⟩,
  ⟨some 28,.move (.t 1),none,1,[]⟩,
  ⟨some 29,.len (.t 28),none,2,[]⟩,
  ⟨some 30,.bin .lss (.t 27) (.t 29),none,3,[]⟩]) (RC.cond (.t 30) (RC.skip) (RC.exit 0))) (RC.seq (RC.block 1 (RC.region 12 [
  ⟨some 33,.move (.t 5),none,0,[]⟩,
  ⟨some 34,.move (.t 1),none,1,[]⟩,
  ⟨some 35,.move (.t 6),none,2,[]⟩,
  ⟨some 36,.indexSl 1 (.t 34) (.t 35),none,3,[]⟩,
  ⟨some 37,.load none (.t 36),none,4,[]⟩,
  ⟨some 38,.bin .rem (.t 37) (.c (.s (.int .u8 16))),none,5,[]⟩,
  ⟨some 39,.conv .i64 (.t 38),none,6,[]⟩,
  ⟨some 40,.bin .add (.c (.s (.int .i64 1))) (.t 39),none,7,[]⟩,
  ⟨some 41,.build [.int .i64 0,.int .i64 0] [(0,1,(.c (.s (.int .i64 3)))),(1,1,(.t 40))],none,8,[]⟩,
  ⟨some 42,.buildSlice 2 1 [.int .i64 0,.int .i64 0] [(0,2,(.t 41))],none,9,[]⟩,
  ⟨some 43,.append 2 16 (.t 33) (.t 42),none,10,[]⟩,
  ⟨some 5,.move (.t 43),none,11,[]⟩])) (RC.region 3 [
  ⟨some 31,.move (.t 6),none,0,[]⟩,
  ⟨some 32,.bin .add (.t 31) (.c (.s (.int .i64 1))),none,1,[]⟩,
  ⟨some 6,.move (.t 32),none,2,[]⟩]))
def detentlaw15_MutexCeilings_s1 : RC :=
  RC.seq (RC.region 4 [
  ⟨some 110,.move (.t 7),none,0,[]⟩,
  ⟨some 111,.call F.mtx_All_Pri [(.t 110),(.c (.s (.int .i64 1)))],none,1,[]⟩,
  ⟨some 112,.move (.t 9),none,2,[]⟩,
  ⟨some 113,.bin .neq (.t 111) (.t 112),none,3,[]⟩]) (RC.cond (.t 113) (RC.seq (RC.region 1 [
  ⟨some 4,.move (.c (.s (.bool false))),none,0,[]⟩]) (RC.ret)) (RC.skip))
def detentlaw15_MutexCeilings_s2 : RC :=
  RC.region 3 [
  ⟨some 62,.move (.t 10),none,0,[]⟩,
  ⟨some 63,.bin .add (.t 62) (.c (.s (.int .i64 1))),none,1,[]⟩,
  ⟨some 10,.move (.t 63),none,2,[]⟩]
def detentlaw15_MutexCeilings_l3 : RC :=
  RC.seq (RC.seq (RC.region 4 [
  ⟨some 58,.move (.t 10),none,0,[]⟩,
  ⟨some 59,.move (.t 5),none,1,[]⟩,
  ⟨some 60,.len (.t 59),none,2,[]⟩,
  ⟨some 61,.bin .lss (.t 58) (.t 60),none,3,[]⟩]) (RC.cond (.t 61) (RC.skip) (RC.exit 2))) (RC.seq (RC.block 3 (RC.seq (RC.region 9 [
  ⟨some 65,.move (.t 7),none,0,[]⟩,
  ⟨some 66,.move (.t 10),none,1,[]⟩,
  ⟨some 67,.bin .add (.t 66) (.c (.s (.int .i64 1))),none,2,[]⟩,
  ⟨some 68,.call F.mtx_All_Lock [(.t 65),(.t 67),(.c (.s (.int .i64 1)))],none,3,[]⟩,
  ⟨some 64,.move (.t 68),none,4,[]⟩,
  ⟨some 69,.extract 0 (.t 64),none,5,[]⟩,
  ⟨some 70,.extract 1 (.t 64),none,6,[]⟩,
  ⟨some 11,.move (.t 69),none,7,[]⟩,
  ⟨some 12,.move (.t 70),none,8,[]⟩]) (RC.seq (RC.region 8 [
  ⟨some 71,.move (.t 0),none,0,[]⟩,
  ⟨some 72,.move (.t 5),none,1,[]⟩,
  ⟨some 73,.move (.t 10),none,2,[]⟩,
  ⟨some 74,.indexSl 2 (.t 72) (.t 73),none,3,[]⟩,
  ⟨some 75,.fieldAddr 1 (.t 74),none,4,[]⟩,
  ⟨some 76,.load none (.t 75),none,5,[]⟩,
  ⟨some 77,.bin .geq (.t 71) (.t 76),none,6,[]⟩,
  ⟨some 13,.move (.t 77),none,7,[]⟩]) (RC.seq (RC.seq (RC.region 17 [
  ⟨some 78,.move (.t 11),none,0,[]⟩,
  ⟨some 79,.move (.t 13),none,1,[]⟩,
  ⟨some 80,.eqs .bool true (.t 78) (.t 79),none,2,[]⟩,
  ⟨some 81,.move (.t 80),none,3,[]⟩,
  ⟨some 82,.move (.t 12),(some (81,false)),4,[]⟩,
  ⟨some 83,.bin .eql (.t 82) (.c (.s (.int .i64 0))),(some (81,false)),5,[]⟩,
  ⟨some 84,.move (.t 13),(some (81,false)),6,[]⟩,
  ⟨some 85,.eqs .bool true (.t 83) (.t 84),(some (81,false)),7,[]⟩,
  ⟨some 86,.pick (.t 81) (.c (.s (.bool true))) (.t 85),none,8,[]⟩,
  ⟨some 87,.move (.t 86),none,9,[]⟩,
  ⟨some 88,.move (.t 13),(some (87,false)),10,[]⟩,
  ⟨some 89,.un .not (.t 88),(some (87,false)),11,[]⟩,
  ⟨some 90,.move (.t 89),(some (87,false)),12,[]⟩,
  ⟨some 91,.move (.t 12),(some (90,true)),13,[]⟩,
  ⟨some 92,.bin .neq (.t 91) (.c (.s (.int .i64 (-28)))),(some (90,true)),14,[]⟩,
  ⟨some 93,.pick (.t 90) (.t 92) (.c (.s (.bool false))),(some (87,false)),15,[]⟩,
  ⟨some 94,.pick (.t 87) (.c (.s (.bool true))) (.t 93),none,16,[]⟩]) (RC.cond (.t 94) (RC.seq (RC.region 1 [
  ⟨some 4,.move (.c (.s (.bool false))),none,0,[]⟩]) (RC.ret)) (RC.skip))) (RC.seq (RC.seq (RC.region 10 [
  ⟨some 95,.move (.t 13),none,0,[]⟩,
  ⟨some 96,.move (.t 95),none,1,[]⟩,
  ⟨some 97,.move (.t 5),(some (96,true)),2,[]⟩,
  ⟨some 98,.move (.t 10),(some (96,true)),3,[]⟩,
  ⟨some 99,.indexSl 2 (.t 97) (.t 98),(some (96,true)),4,[]⟩,
  ⟨some 100,.fieldAddr 1 (.t 99),(some (96,true)),5,[]⟩,
  ⟨some 101,.load none (.t 100),(some (96,true)),6,[]⟩,
  ⟨some 102,.move (.t 9),(some (96,true)),7,[]⟩,
  ⟨some 103,.bin .lss (.t 101) (.t 102),(some (96,true)),8,[]⟩,
  ⟨some 104,.pick (.t 96) (.t 103) (.c (.s (.bool false))),none,9,[]⟩]) (RC.cond (.t 104) (RC.region 6 [
  ⟨some 105,.move (.t 5),none,0,[]⟩,
  ⟨some 106,.move (.t 10),none,1,[]⟩,
  ⟨some 107,.indexSl 2 (.t 105) (.t 106),none,2,[]⟩,
  ⟨some 108,.fieldAddr 1 (.t 107),none,3,[]⟩,
  ⟨some 109,.load none (.t 108),none,4,[]⟩,
  ⟨some 9,.move (.t 109),none,5,[]⟩]) (RC.skip))) R.detentlaw15_MutexCeilings_s1))))) R.detentlaw15_MutexCeilings_s2)
def detentlaw15_MutexCeilings_s4 : RC :=
  RC.seq (RC.region 2 [
  ⟨some 114,.move (.t 7),none,0,[]⟩,
  ⟨some 115,.call F.mtx_All_Free [(.t 114),(.c (.s (.int .i64 1)))],none,1,[]⟩]) (RC.seq (RC.region 11 [
  ⟨some 116,.move (.t 7),none,0,[]⟩,
  ⟨some 117,.call F.mtx_All_Pri [(.t 116),(.c (.s (.int .i64 1)))],none,1,[]⟩,
  ⟨some 118,.move (.t 0),none,2,[]⟩,
  ⟨some 119,.bin .eql (.t 117) (.t 118),none,3,[]⟩,
  ⟨some 120,.move (.t 119),none,4,[]⟩,
  ⟨some 121,.move (.t 7),(some (120,true)),5,[]⟩,
  ⟨some 122,.call F.mtx_All_Held [(.t 121),(.c (.s (.int .i64 1)))],(some (120,true)),6,[]⟩,
  ⟨some 123,.len (.t 122),(some (120,true)),7,[]⟩,
  ⟨some 124,.bin .eql (.t 123) (.c (.s (.int .i64 0))),(some (120,true)),8,[]⟩,
  ⟨some 125,.pick (.t 120) (.t 124) (.c (.s (.bool false))),none,9,[]⟩,
  ⟨some 4,.move (.t 125),none,10,[]⟩]) (RC.ret))
def detentlaw15_MutexCeilings_s5 : RC :=
  RC.seq (RC.region 7 [
  ⟨some 45,.move (.t 5),none,0,[]⟩,
  ⟨some 46,.call F.mtx_New [(.t 45)],none,1,[]⟩,
  ⟨some 44,.move (.t 46),none,2,[]⟩,
  ⟨some 47,.extract 0 (.t 44),none,3,[]⟩,
  ⟨some 48,.extract 1 (.t 44),none,4,[]⟩,
  ⟨some 7,.move (.t 47),none,5,[]⟩,
  ⟨some 8,.move (.t 48),none,6,[]⟩]) (RC.seq (RC.seq (RC.region 8 [
  ⟨some 49,.move (.t 8),none,0,[]⟩,
  ⟨some 50,.bin .neq (.t 49) (.c (.s (.int .i64 0))),none,1,[]⟩,
  ⟨some 51,.move (.t 50),none,2,[]⟩,
  ⟨some 52,.move (.t 7),(some (51,false)),3,[]⟩,
  ⟨some 53,.move (.t 0),(some (51,false)),4,[]⟩,
  ⟨some 54,.call F.mtx_All_SetBase [(.t 52),(.c (.s (.int .i64 1))),(.t 53)],(some (51,false)),5,[]⟩,
  ⟨some 55,.bin .neq (.t 54) (.c (.s (.int .i64 0))),(some (51,false)),6,[]⟩,
  ⟨some 56,.pick (.t 51) (.c (.s (.bool true))) (.t 55),none,7,[]⟩]) (RC.cond (.t 56) (RC.seq (RC.region 1 [
  ⟨some 4,.move (.c (.s (.bool false))),none,0,[]⟩]) (RC.ret)) (RC.skip))) (RC.seq (RC.region 2 [
  ⟨some 57,.move (.t 0),none,0,[]⟩,
  ⟨some 9,.move (.t 57),none,1,[]⟩]) (RC.seq (RC.seq (RC.region 1 [
  ⟨some 10,.move (.c (.s (.int .i64 0))),none,0,[]⟩]) (RC.block 2 (RC.loop R.detentlaw15_MutexCeilings_l3))) R.detentlaw15_MutexCeilings_s4)))
def detentlaw15_MutexCeilings : RFunc := RFunc.mk 126 [.tmp 4] (
  RC.seq (RC.region 1 [
  ⟨some 4,.move (.c (.s (.bool false))),none,0,[]⟩]) (RC.seq (RC.seq (RC.region 2 [
  ⟨some 14,.call F.detentlaw15_known [],none,0,[]⟩,
  ⟨some 15,.un .not (.t 14),none,1,[]⟩]) (RC.cond (.t 15) (RC.seq (RC.region 1 [
  ⟨some 4,.move (.c (.s (.bool false))),none,0,[]⟩]) (RC.ret)) (RC.skip))) (RC.seq (RC.seq (RC.region 11 [
  ⟨some 16,.move (.t 0),none,0,[]⟩,
  ⟨some 17,.bin .lss (.t 16) (.c (.s (.int .i64 1))),none,1,[]⟩,
  ⟨some 18,.move (.t 17),none,2,[]⟩,
  ⟨some 19,.move (.t 0),(some (18,false)),3,[]⟩,
  ⟨some 20,.bin .gtr (.t 19) (.c (.s (.int .i64 16))),(some (18,false)),4,[]⟩,
  ⟨some 21,.pick (.t 18) (.c (.s (.bool true))) (.t 20),none,5,[]⟩,
  ⟨some 22,.move (.t 21),none,6,[]⟩,
  ⟨some 23,.move (.t 1),(some (22,false)),7,[]⟩,
  ⟨some 24,.len (.t 23),(some (22,false)),8,[]⟩,
  ⟨some 25,.bin .gtr (.t 24) (.c (.s (.int .i64 8))),(some (22,false)),9,[]⟩,
  ⟨some 26,.pick (.t 22) (.c (.s (.bool true))) (.t 25),none,10,[]⟩]) (RC.cond (.t 26) (RC.seq (RC.region 1 [
  ⟨some 4,.move (.c (.s (.bool true))),none,0,[]⟩]) (RC.ret)) (RC.skip))) (RC.seq (RC.region 1 [
  ⟨some 5,.move (.c (.s (.slice none 0 0 1))),none,0,[]⟩]) (RC.seq (RC.seq (RC.region 1 [
  ⟨some 6,.move (.c (.s (.int .i64 0))),none,0,[]⟩]) (RC.block 0 (RC.loop R.detentlaw15_MutexCeilings_l0))) R.detentlaw15_MutexCeilings_s5)))))
theorem detentlaw15_MutexCeilings_ok : chkFunc Go.Proofs.Try.prog [] Go.Proofs.Try.f7 detentlaw15_MutexCeilings = true := by kernel_rfl
def detentlaw15_Kinds_l0 : RC :=
  RC.seq (RC.seq (RC.region 4 [
  ⟨some 5,.move (.t 4),none,0,[]⟩,
  ⟨some 6,.move (.t 0),none,1,[]⟩,
  ⟨some 7,.len (.t 6),none,2,[]⟩,
  ⟨some 8,.bin .lss (.t 5) (.t 7),none,3,[]⟩]) (RC.cond (.t 8) (RC.skip) (RC.exit 0))) (RC.seq (RC.block 1 (RC.region 15 [
  ⟨some 11,.move (.t 3),none,0,[]⟩,
  ⟨some 12,.move (.t 0),none,1,[]⟩,
  ⟨some 13,.move (.t 4),none,2,[]⟩,
  ⟨some 14,.indexSl 2 (.t 12) (.t 13),none,3,[]⟩,
  ⟨some 15,.fieldAddr 0 (.t 14),none,4,[]⟩,
  ⟨some 16,.load none (.t 15),none,5,[]⟩,
  ⟨some 17,.move (.t 0),none,6,[]⟩,
  ⟨some 18,.move (.t 4),none,7,[]⟩,
  ⟨some 19,.indexSl 2 (.t 17) (.t 18),none,8,[]⟩,
  ⟨some 20,.fieldAddr 1 (.t 19),none,9,[]⟩,
  ⟨some 21,.load none (.t 20),none,10,[]⟩,
  ⟨some 22,.build [.int .i64 0,.int .i64 0] [(0,1,(.t 16)),(1,1,(.t 21))],none,11,[]⟩,
  ⟨some 23,.buildSlice 2 1 [.int .i64 0,.int .i64 0] [(0,2,(.t 22))],none,12,[]⟩,
  ⟨some 24,.append 2 16 (.t 11) (.t 23),none,13,[]⟩,
  ⟨some 3,.move (.t 24),none,14,[]⟩])) (RC.region 3 [
  ⟨some 9,.move (.t 4),none,0,[]⟩,
  ⟨some 10,.bin .add (.t 9) (.c (.s (.int .i64 1))),none,1,[]⟩,
  ⟨some 4,.move (.t 10),none,2,[]⟩]))
def detentlaw15_Kinds_s1 : RC :=
  RC.seq (RC.region 2 [
  ⟨some 25,.move (.t 3),none,0,[]⟩,
  ⟨some 2,.move (.t 25),none,1,[]⟩]) (RC.ret)
def detentlaw15_Kinds : RFunc := RFunc.mk 26 [.tmp 2] (
  RC.seq (RC.region 1 [
  ⟨some 2,.move (.c (.s (.slice none 0 0 1))),none,0,[]⟩]) (RC.seq (RC.region 1 [
  ⟨some 3,.move (.c (.s (.slice none 0 0 1))),none,0,[]⟩]) (RC.seq (RC.seq (RC.region 1 [
  ⟨some 4,.move (.c (.s (.int .i64 0))),none,0,[]⟩]) (RC.block 0 (RC.loop R.detentlaw15_Kinds_l0))) R.detentlaw15_Kinds_s1)))
theorem detentlaw15_Kinds_ok : chkFunc Go.Proofs.Try.prog [] Go.Proofs.Try.f22 detentlaw15_Kinds = true := by kernel_rfl
def detentlaw3_Same_l0 : RC :=
  RC.seq (RC.seq (RC.region 4 [
  ⟨some 11,.move (.t 5),none,0,[]⟩,
  ⟨some 12,.move (.t 0),none,1,[]⟩,
  ⟨some 13,.len (.t 12),none,2,[]⟩,
  ⟨some 14,.bin .lss (.t 11) (.t 13),none,3,[]⟩]) (RC.cond (.t 14) (RC.skip) (RC.exit 0))) (RC.seq (RC.block 1 (RC.seq (RC.region 9 [
  ⟨some 17,.move (.t 0),none,0,[]⟩,
  ⟨some 18,.move (.t 5),none,1,[]⟩,
  ⟨some 19,.indexSl 1 (.t 17) (.t 18),none,2,[]⟩,
  ⟨some 20,.load none (.t 19),none,3,[]⟩,
  ⟨some 21,.move (.t 1),none,4,[]⟩,
  ⟨some 22,.move (.t 5),none,5,[]⟩,
  ⟨some 23,.indexSl 1 (.t 21) (.t 22),none,6,[]⟩,
  ⟨some 24,.load none (.t 23),none,7,[]⟩,
  ⟨some 25,.bin .neq (.t 20) (.t 24),none,8,[]⟩]) (RC.cond (.t 25) (RC.seq (RC.region 1 [
  ⟨some 4,.move (.c (.s (.bool false))),none,0,[]⟩]) (RC.ret)) (RC.skip)))) (RC.region 3 [
  ⟨some 15,.move (.t 5),none,0,[]⟩,
  ⟨some 16,.bin .add (.t 15) (.c (.s (.int .i64 1))),none,1,[]⟩,
  ⟨some 5,.move (.t 16),none,2,[]⟩]))
def detentlaw3_Same_s1 : RC :=
  RC.seq (RC.region 1 [
  ⟨some 4,.move (.c (.s (.bool true))),none,0,[]⟩]) (RC.ret)
def detentlaw3_Same : RFunc := RFunc.mk 26 [.tmp 4] (
  RC.seq (RC.region 1 [
  ⟨some 4,.move (.c (.s (.bool false))),none,0,[]⟩]) (RC.seq (RC.seq (RC.region 5 [
  ⟨some 6,.move (.t 0),none,0,[]⟩,
  ⟨some 7,.len (.t 6),none,1,[]⟩,
  ⟨some 8,.move (.t 1),none,2,[]⟩,
  ⟨some 9,.len (.t 8),none,3,[]⟩,
  ⟨some 10,.bin .neq (.t 7) (.t 9),none,4,[]⟩]) (RC.cond (.t 10) (RC.seq (RC.region 1 [
  ⟨some 4,.move (.c (.s (.bool false))),none,0,[]⟩]) (RC.ret)) (RC.skip))) (RC.seq (RC.seq (RC.region 1 [
  ⟨some 5,.move (.c (.s (.int .i64 0))),none,0,[]⟩]) (RC.block 0 (RC.loop R.detentlaw3_Same_l0))) R.detentlaw3_Same_s1)))
theorem detentlaw3_Same_ok : chkFunc Go.Proofs.Try.prog [] Go.Proofs.Try.f29 detentlaw3_Same = true := by kernel_rfl
def detentlaw15_known : RFunc := RFunc.mk 115 [.tmp 0] (
  RC.seq (RC.region 1 [
  ⟨some 0,.move (.c (.s (.bool false))),none,0,[]⟩]) (RC.seq (RC.region 9 [
  ⟨some 17,.build [.int .i64 0,.int .i64 0] [(0,1,(.c (.s (.int .i64 2))))],none,0,[]⟩,
  ⟨some 18,.build [.int .i64 0,.int .i64 0] [(0,1,(.c (.s (.int .i64 3)))),(1,1,(.c (.s (.int .i64 2))))],none,1,[]⟩,
  ⟨some 19,.buildSlice 2 2 [.int .i64 0,.int .i64 0,.int .i64 0,.int .i64 0] [(0,2,(.t 17)),(2,2,(.t 18))],none,2,[]⟩,
  ⟨some 20,.call F.mtx_New [(.t 19)],none,3,[]⟩,
  ⟨some 16,.move (.t 20),none,4,[]⟩,
  ⟨some 21,.extract 0 (.t 16),none,5,[]⟩,
  ⟨some 22,.extract 1 (.t 16),none,6,[]⟩,
  ⟨some 1,.move (.t 21),none,7,[]⟩,
  ⟨some 2,.move (.t 22),none,8,[]⟩]) (RC.seq (RC.seq (RC.region 6 [
  ⟨some 23,.move (.t 2),none,0,[]⟩,
  ⟨some 24,.bin .neq (.t 23) (.c (.s (.int .i64 0))),none,1,[]⟩,
  ⟨some 25,.move (.t 24),none,2,[]⟩,
  ⟨some 26,.move (.t 1),(some (25,false)),3,[]⟩,
  ⟨some 27,.eqs .ptr false (.t 26) (.c (.s (.ptr none))),(some (25,false)),4,[]⟩,
  ⟨some 28,.pick (.t 25) (.c (.s (.bool true))) (.t 27),none,5,[]⟩]) (RC.cond (.t 28) (RC.seq (RC.region 1 [
  ⟨some 0,.move (.c (.s (.bool false))),none,0,[]⟩]) (RC.ret)) (RC.skip))) (RC.seq (RC.region 3 [
  ⟨some 29,.move (.t 1),none,0,[]⟩,
  ⟨some 30,.call F.mtx_All_SetBase [(.t 29),(.c (.s (.int .i64 1))),(.c (.s (.int .i64 9)))],none,1,[]⟩,
  ⟨some 3,.move (.t 30),none,2,[]⟩]) (RC.seq (RC.region 3 [
  ⟨some 31,.move (.t 1),none,0,[]⟩,
  ⟨some 32,.call F.mtx_All_SetBase [(.t 31),(.c (.s (.int .i64 2))),(.c (.s (.int .i64 4)))],none,1,[]⟩,
  ⟨some 4,.move (.t 32),none,2,[]⟩]) (RC.seq (RC.region 7 [
  ⟨some 34,.move (.t 1),none,0,[]⟩,
  ⟨some 35,.call F.mtx_All_Lock [(.t 34),(.c (.s (.int .i64 1))),(.c (.s (.int .i64 1)))],none,1,[]⟩,
  ⟨some 33,.move (.t 35),none,2,[]⟩,
  ⟨some 36,.extract 0 (.t 33),none,3,[]⟩,
  ⟨some 37,.extract 1 (.t 33),none,4,[]⟩,
  ⟨some 5,.move (.t 36),none,5,[]⟩,
  ⟨some 6,.move (.t 37),none,6,[]⟩]) (RC.seq (RC.region 7 [
  ⟨some 39,.move (.t 1),none,0,[]⟩,
  ⟨some 40,.call F.mtx_All_Lock [(.t 39),(.c (.s (.int .i64 1))),(.c (.s (.int .i64 2)))],none,1,[]⟩,
  ⟨some 38,.move (.t 40),none,2,[]⟩,
  ⟨some 41,.extract 0 (.t 38),none,3,[]⟩,
  ⟨some 42,.extract 1 (.t 38),none,4,[]⟩,
  ⟨some 7,.move (.t 41),none,5,[]⟩,
  ⟨some 8,.move (.t 42),none,6,[]⟩]) (RC.seq (RC.region 3 [
  ⟨some 43,.move (.t 1),none,0,[]⟩,
  ⟨some 44,.call F.mtx_All_Pri [(.t 43),(.c (.s (.int .i64 1)))],none,1,[]⟩,
  ⟨some 9,.move (.t 44),none,2,[]⟩]) (RC.seq (RC.region 7 [
  ⟨some 46,.move (.t 1),none,0,[]⟩,
  ⟨some 47,.call F.mtx_All_Unlock [(.t 46),(.c (.s (.int .i64 1))),(.c (.s (.int .i64 1)))],none,1,[]⟩,
  ⟨some 45,.move (.t 47),none,2,[]⟩,
  ⟨some 48,.extract 0 (.t 45),none,3,[]⟩,
  ⟨some 49,.extract 1 (.t 45),none,4,[]⟩,
  ⟨some 10,.move (.t 48),none,5,[]⟩,
  ⟨some 11,.move (.t 49),none,6,[]⟩]) (RC.seq (RC.region 7 [
  ⟨some 51,.move (.t 1),none,0,[]⟩,
  ⟨some 52,.call F.mtx_All_Unlock [(.t 51),(.c (.s (.int .i64 1))),(.c (.s (.int .i64 1)))],none,1,[]⟩,
  ⟨some 50,.move (.t 52),none,2,[]⟩,
  ⟨some 53,.extract 0 (.t 50),none,3,[]⟩,
  ⟨some 54,.extract 1 (.t 50),none,4,[]⟩,
  ⟨some 12,.move (.t 53),none,5,[]⟩,
  ⟨some 13,.move (.t 54),none,6,[]⟩]) (RC.seq (RC.region 7 [
  ⟨some 56,.move (.t 1),none,0,[]⟩,
  ⟨some 57,.call F.mtx_All_TryLock [(.t 56),(.c (.s (.int .i64 2))),(.c (.s (.int .i64 1)))],none,1,[]⟩,
  ⟨some 55,.move (.t 57),none,2,[]⟩,
  ⟨some 58,.extract 0 (.t 55),none,3,[]⟩,
  ⟨some 59,.extract 1 (.t 55),none,4,[]⟩,
  ⟨some 14,.move (.t 58),none,5,[]⟩,
  ⟨some 15,.move (.t 59),none,6,[]⟩]) (RC.seq (RC.region 56 [
  ⟨some 60,.move (.t 3),none,0,[]⟩,
  ⟨some 61,.move (.t 4),none,1,[]⟩,
  ⟨some 62,.bin .add (.t 60) (.t 61),none,2,[]⟩,
  ⟨some 63,.move (.t 6),none,3,[]⟩,
  ⟨some 64,.bin .add (.t 62) (.t 63),none,4,[]⟩,
  ⟨some 65,.move (.t 8),none,5,[]⟩,
  ⟨some 66,.bin .add (.t 64) (.t 65),none,6,[]⟩,
  ⟨some 67,.move (.t 11),none,7,[]⟩,
  ⟨some 68,.bin .add (.t 66) (.t 67),none,8,[]⟩,
  ⟨some 69,.move (.t 15),none,9,[]⟩,
  ⟨some 70,.bin .add (.t 68) (.t 69),none,10,[]⟩,
  ⟨some 71,.bin .eql (.t 70) (.c (.s (.int .i64 0))),none,11,[]⟩,
  ⟨some 72,.move (.t 71),none,12,[]⟩,
  ⟨some 73,.move (.t 5),(some (72,true)),13,[]⟩,
  ⟨some 74,.pick (.t 72) (.t 73) (.c (.s (.bool false))),none,14,[]⟩,
  ⟨some 75,.move (.t 74),none,15,[]⟩,
  ⟨some 76,.move (.t 7),(some (75,true)),16,[]⟩,
  ⟨some 77,.un .not (.t 76),(some (75,true)),17,[]⟩,
  ⟨some 78,.pick (.t 75) (.t 77) (.c (.s (.bool false))),none,18,[]⟩,
  ⟨some 79,.move (.t 78),none,19,[]⟩,
  ⟨some 80,.move (.t 9),(some (79,true)),20,[]⟩,
  ⟨some 81,.bin .eql (.t 80) (.c (.s (.int .i64 4))),(some (79,true)),21,[]⟩,
  ⟨some 82,.pick (.t 79) (.t 81) (.c (.s (.bool false))),none,22,[]⟩,
  ⟨some 83,.move (.t 82),none,23,[]⟩,
  ⟨some 84,.move (.t 10),(some (83,true)),24,[]⟩,
  ⟨some 85,.bin .eql (.t 84) (.c (.s (.int .i64 2))),(some (83,true)),25,[]⟩,
  ⟨some 86,.pick (.t 83) (.t 85) (.c (.s (.bool false))),none,26,[]⟩,
  ⟨some 87,.move (.t 86),none,27,[]⟩,
  ⟨some 88,.move (.t 13),(some (87,true)),28,[]⟩,
  ⟨some 89,.bin .eql (.t 88) (.c (.s (.int .i64 (-28)))),(some (87,true)),29,[]⟩,
  ⟨some 90,.pick (.t 87) (.t 89) (.c (.s (.bool false))),none,30,[]⟩,
  ⟨some 91,.move (.t 90),none,31,[]⟩,
  ⟨some 92,.move (.t 14),(some (91,true)),32,[]⟩,
  ⟨some 93,.pick (.t 91) (.t 92) (.c (.s (.bool false))),none,33,[]⟩,
  ⟨some 94,.move (.t 93),none,34,[]⟩,
  ⟨some 95,.move (.t 1),(some (94,true)),35,[]⟩,
  ⟨some 96,.call F.mtx_All_Pri [(.t 95),(.c (.s (.int .i64 1)))],(some (94,true)),36,[]⟩,
  ⟨some 97,.bin .eql (.t 96) (.c (.s (.int .i64 2))),(some (94,true)),37,[]⟩,
  ⟨some 98,.pick (.t 94) (.t 97) (.c (.s (.bool false))),none,38,[]⟩,
  ⟨some 99,.move (.t 98),none,39,[]⟩,
  ⟨some 100,.move (.t 1),(some (99,true)),40,[]⟩,
  ⟨some 101,.call F.mtx_All_Base [(.t 100),(.c (.s (.int .i64 1)))],(some (99,true)),41,[]⟩,
  ⟨some 102,.bin .eql (.t 101) (.c (.s (.int .i64 9))),(some (99,true)),42,[]⟩,
  ⟨some 103,.pick (.t 99) (.t 102) (.c (.s (.bool false))),none,43,[]⟩,
  ⟨some 104,.move (.t 103),none,44,[]⟩,
  ⟨some 105,.move (.t 1),(some (104,true)),45,[]⟩,
  ⟨some 106,.call F.mtx_All_Owner [(.t 105),(.c (.s (.int .i64 1)))],(some (104,true)),46,[]⟩,
  ⟨some 107,.bin .eql (.t 106) (.c (.s (.int .i64 2))),(some (104,true)),47,[]⟩,
  ⟨some 108,.pick (.t 104) (.t 107) (.c (.s (.bool false))),none,48,[]⟩,
  ⟨some 109,.move (.t 108),none,49,[]⟩,
  ⟨some 110,.move (.t 1),(some (109,true)),50,[]⟩,
  ⟨some 111,.call F.mtx_All_Held [(.t 110),(.c (.s (.int .i64 1)))],(some (109,true)),51,[]⟩,
  ⟨some 112,.len (.t 111),(some (109,true)),52,[]⟩,
  ⟨some 113,.bin .eql (.t 112) (.c (.s (.int .i64 1))),(some (109,true)),53,[]⟩,
  ⟨some 114,.pick (.t 109) (.t 113) (.c (.s (.bool false))),none,54,[]⟩,
  ⟨some 0,.move (.t 114),none,55,[]⟩]) (RC.ret)))))))))))))
theorem detentlaw15_known_ok : chkFunc Go.Proofs.Try.prog [] Go.Proofs.Try.f10 detentlaw15_known = true := by kernel_rfl
def mtx_New_l0 : RC :=
  RC.seq (RC.region 1 [
  ⟨some 20,.bin .lss (.t 19) (.t 18),none,0,[]⟩]) (RC.seq (RC.cond (.t 20) (RC.skip) (RC.exit 0)) (RC.seq (RC.block 1 (RC.seq (RC.region 4 [
  ⟨some 21,.indexSl 2 (.t 17) (.t 19),none,0,[]⟩,
  ⟨some 22,.load (some 2) (.t 21),none,1,[]⟩,
  ⟨some 6,.newc [.int .i64 0,.int .i64 0],none,2,[]⟩,
  ⟨none,.store 2 (.t 6) (.t 22),none,3,[]⟩]) (RC.seq (RC.seq (RC.region 3 [
  ⟨some 23,.load (some 2) (.t 6),none,0,[]⟩,
  ⟨some 24,.call F.mtx_Kind_right [(.t 23)],none,1,[]⟩,
  ⟨some 25,.un .not (.t 24),none,2,[]⟩]) (RC.cond (.t 25) (RC.seq (RC.region 2 [
  ⟨some 2,.move (.c (.s (.ptr none))),none,0,[]⟩,
  ⟨some 3,.move (.c (.s (.int .i64 (-17)))),none,1,[]⟩]) (RC.ret)) (RC.skip))) (RC.region 12 [
  ⟨some 26,.move (.t 4),none,0,[]⟩,
  ⟨some 27,.move (.t 4),none,1,[]⟩,
  ⟨some 28,.nilCheck (.t 27),none,2,[]⟩,
  ⟨some 29,.fieldAddr 0 (.t 28),none,3,[]⟩,
  ⟨some 30,.load none (.t 29),none,4,[]⟩,
  ⟨some 31,.load (some 2) (.t 6),none,5,[]⟩,
  ⟨some 32,.build [.int .i64 0,.int .i64 0,.int .i64 0,.slice none 0 0 1] [(0,2,(.t 31))],none,6,[]⟩,
  ⟨some 33,.buildSlice 4 1 [.int .i64 0,.int .i64 0,.int .i64 0,.slice none 0 0 1] [(0,4,(.t 32))],none,7,[]⟩,
  ⟨some 34,.append 4 48 (.t 30) (.t 33),none,8,[]⟩,
  ⟨some 35,.nilCheck (.t 26),none,9,[]⟩,
  ⟨some 36,.fieldAddr 0 (.t 35),none,10,[]⟩,
  ⟨none,.store 1 (.t 36) (.t 34),none,11,[]⟩])))) (RC.region 2 [
  ⟨some 37,.bin .add (.t 19) (.c (.s (.int .i64 1))),none,0,[]⟩,
  ⟨some 19,.move (.t 37),none,1,[]⟩])))
def mtx_New_l1 : RC :=
  RC.seq (RC.region 1 [
  ⟨some 39,.bin .lss (.t 38) (.c (.s (.int .i64 17))),none,0,[]⟩]) (RC.seq (RC.cond (.t 39) (RC.skip) (RC.exit 2)) (RC.seq (RC.block 3 (RC.seq (RC.region 2 [
  ⟨some 40,.move (.t 38),none,0,[]⟩,
  ⟨some 7,.move (.t 40),none,1,[]⟩]) (RC.region 7 [
  ⟨some 41,.move (.t 4),none,0,[]⟩,
  ⟨some 42,.move (.t 7),none,1,[]⟩,
  ⟨some 43,.build [.int .i64 0,.int .i64 0,.int .i64 0] [(0,1,(.c (.s (.int .i64 16)))),(1,1,(.c (.s (.int .i64 16)))),(2,1,(.c (.s (.int .i64 0))))],none,2,[]⟩,
  ⟨some 44,.nilCheck (.t 41),none,3,[]⟩,
  ⟨some 45,.fieldAddr 1 (.t 44),none,4,[]⟩,
  ⟨some 46,.indexArr 17 3 (.t 45) (.t 42),none,5,[]⟩,
  ⟨none,.store 3 (.t 46) (.t 43),none,6,[]⟩]))) (RC.region 2 [
  ⟨some 47,.bin .add (.t 38) (.c (.s (.int .i64 1))),none,0,[]⟩,
  ⟨some 38,.move (.t 47),none,1,[]⟩])))
def mtx_New_s2 : RC :=
  RC.seq (RC.region 3 [
  ⟨some 48,.move (.t 4),none,0,[]⟩,
  ⟨some 2,.move (.t 48),none,1,[]⟩,
  ⟨some 3,.move (.c (.s (.int .i64 0))),none,2,[]⟩]) (RC.ret)
def mtx_New_s3 : RC :=
  RC.seq (RC.seq (RC.region 1 [
  ⟨some 38,.move (.c (.s (.int .i64 0))),none,0,[]⟩]) (RC.block 2 (RC.loop R.mtx_New_l1))) R.mtx_New_s2
def mtx_New : RFunc := RFunc.mk 49 [.tmp 2,.tmp 3] (
  RC.seq (RC.region 2 [
  ⟨some 2,.move (.c (.s (.ptr none))),none,0,[]⟩,
  ⟨some 3,.move (.c (.s (.int .i64 0))),none,1,[]⟩]) (RC.seq (RC.seq (RC.region 3 [
  ⟨some 8,.move (.t 0),none,0,[]⟩,
  ⟨some 9,.len (.t 8),none,1,[]⟩,
  ⟨some 10,.bin .gtr (.t 9) (.c (.s (.int .i64 8))),none,2,[]⟩]) (RC.cond (.t 10) (RC.seq (RC.region 2 [
  ⟨some 2,.move (.c (.s (.ptr none))),none,0,[]⟩,
  ⟨some 3,.move (.c (.s (.int .i64 (-17)))),none,1,[]⟩]) (RC.ret)) (RC.skip))) (RC.seq (RC.region 7 [
  ⟨some 11,.move (.t 0),none,0,[]⟩,
  ⟨some 12,.len (.t 11),none,1,[]⟩,
  ⟨some 13,.bin .add (.t 12) (.c (.s (.int .i64 1))),none,2,[]⟩,
  ⟨some 14,.makeSlice 4 48 [.int .i64 0,.int .i64 0,.int .i64 0,.slice none 0 0 1] (.c (.s (.int .i64 1))) (.t 13),none,3,[]⟩,
  ⟨some 15,.build [.slice none 0 0 1,.int .i64 0,.int .i64 0,.int .i64 0,.int .i64 0,.int .i64 0,.int .i64 0,.int .i64 0,.int .i64 0,.int .i64 0,.int .i64 0,.int .i64 0,.int .i64 0,.int .i64 0,.int .i64 0,.int .i64 0,.int .i64 0,.int .i64 0,.int .i64 0,.int .i64 0,.int .i64 0,.int .i64 0,.int .i64 0,.int .i64 0,.int .i64 0,.int .i64 0,.int .i64 0,.int .i64 0,.int .i64 0,.int .i64 0,.int .i64 0,.int .i64 0,.int .i64 0,.int .i64 0,.int .i64 0,.int .i64 0,.int .i64 0,.int .i64 0,.int .i64 0,.int .i64 0,.int .i64 0,.int .i64 0,.int .i64 0,.int .i64 0,.int .i64 0,.int .i64 0,.int .i64 0,.int .i64 0,.int .i64 0,.int .i64 0,.int .i64 0,.int .i64 0] [(0,1,(.t 14))],none,4,[]⟩,
  ⟨some 16,.box (.t 15),none,5,[]⟩,
  ⟨some 4,.move (.t 16),none,6,[]⟩]) (RC.seq (RC.seq (RC.region 3 [
  ⟨some 17,.move (.t 0),none,0,[]⟩,
  ⟨some 18,.len (.t 17),none,1,[]⟩,
  ⟨some 19,.move (.c (.s (.int .i64 0))),none,2,[]⟩]) (RC.block 0 (RC.loop R.mtx_New_l0))) R.mtx_New_s3))))
theorem mtx_New_ok : chkFunc Go.Proofs.Try.prog [] Go.Proofs.Try.f11 mtx_New = true := by kernel_rfl
def mtx_All_SetBase_l0 : RC :=
  RC.seq (RC.seq (RC.region 7 [
  ⟨some 17,.move (.t 7),none,0,[]⟩,
  ⟨some 18,.move (.t 0),none,1,[]⟩,
  ⟨some 19,.nilCheck (.t 18),none,2,[]⟩,
  ⟨some 20,.fieldAddr 0 (.t 19),none,3,[]⟩,
  ⟨some 21,.load none (.t 20),none,4,[]⟩,
  ⟨some 22,.len (.t 21),none,5,[]⟩,
  ⟨some 23,.bin .lss (.t 17) (.t 22),none,6,[]⟩]) (RC.cond (.t 23) (RC.skip) (RC.exit 1))) (RC.seq (RC.block 2 (RC.seq (RC.region 9 [
  ⟨some 26,.move (.t 0),none,0,[]⟩,
  ⟨some 27,.nilCheck (.t 26),none,1,[]⟩,
  ⟨some 28,.fieldAddr 0 (.t 27),none,2,[]⟩,
  ⟨some 29,.load none (.t 28),none,3,[]⟩,
  ⟨some 30,.move (.t 7),none,4,[]⟩,
  ⟨some 31,.indexSl 4 (.t 29) (.t 30),none,5,[]⟩,
  ⟨some 32,.load (some 4) (.t 31),none,6,[]⟩,
  ⟨some 8,.newc [.int .i64 0,.int .i64 0,.int .i64 0,.slice none 0 0 1],none,7,[]⟩,
  ⟨none,.store 4 (.t 8) (.t 32),none,8,[]⟩]) (RC.seq (RC.region 28 [
  ⟨some 33,.fieldAddr 0 (.t 8),none,0,[]⟩,
  ⟨some 34,.fieldAddr 0 (.t 33),none,1,[]⟩,
  ⟨some 35,.load none (.t 34),none,2,[]⟩,
  ⟨some 36,.bin .eql (.t 35) (.c (.s (.int .i64 3))),none,3,[]⟩,
  ⟨some 37,.move (.t 36),none,4,[]⟩,
  ⟨some 38,.fieldAddr 0 (.t 8),(some (37,true)),5,[]⟩,
  ⟨some 39,.fieldAddr 1 (.t 38),(some (37,true)),6,[]⟩,
  ⟨some 40,.load none (.t 39),(some (37,true)),7,[]⟩,
  ⟨some 41,.move (.t 2),(some (37,true)),8,[]⟩,
  ⟨some 42,.bin .gtr (.t 40) (.t 41),(some (37,true)),9,[]⟩,
  ⟨some 43,.pick (.t 37) (.t 42) (.c (.s (.bool false))),none,10,[]⟩,
  ⟨some 44,.move (.t 43),none,11,[]⟩,
  ⟨some 45,.fieldAddr 2 (.t 8),(some (44,true)),12,[]⟩,
  ⟨some 46,.load none (.t 45),(some (44,true)),13,[]⟩,
  ⟨some 47,.move (.t 1),(some (44,true)),14,[]⟩,
  ⟨some 48,.bin .eql (.t 46) (.t 47),(some (44,true)),15,[]⟩,
  ⟨some 49,.move (.t 48),(some (44,true)),16,[]⟩,
  ⟨some 50,.move (.t 0),(some (49,false)),17,[]⟩,
  ⟨some 51,.move (.t 1),(some (49,false)),18,[]⟩,
  ⟨some 52,.nilCheck (.t 50),(some (49,false)),19,[]⟩,
  ⟨some 53,.fieldAddr 1 (.t 52),(some (49,false)),20,[]⟩,
  ⟨some 54,.indexArr 17 3 (.t 53) (.t 51),(some (49,false)),21,[]⟩,
  ⟨some 55,.fieldAddr 2 (.t 54),(some (49,false)),22,[]⟩,
  ⟨some 56,.load none (.t 55),(some (49,false)),23,[]⟩,
  ⟨some 57,.move (.t 7),(some (49,false)),24,[]⟩,
  ⟨some 58,.bin .eql (.t 56) (.t 57),(some (49,false)),25,[]⟩,
  ⟨some 59,.pick (.t 49) (.c (.s (.bool true))) (.t 58),(some (44,true)),26,[]⟩,
  ⟨some 60,.pick (.t 44) (.t 59) (.c (.s (.bool false))),none,27,[]⟩]) (RC.cond (.t 60) (RC.seq (RC.region 1 [
  ⟨some 6,.move (.c (.s (.int .i64 (-28)))),none,0,[]⟩]) (RC.ret)) (RC.skip))))) (RC.region 3 [
  ⟨some 24,.move (.t 7),none,0,[]⟩,
  ⟨some 25,.bin .add (.t 24) (.c (.s (.int .i64 1))),none,1,[]⟩,
  ⟨some 7,.move (.t 25),none,2,[]⟩]))
def mtx_All_SetBase_s1 : RC :=
  RC.seq (RC.region 8 [
  ⟨some 61,.move (.t 0),none,0,[]⟩,
  ⟨some 62,.move (.t 1),none,1,[]⟩,
  ⟨some 63,.move (.t 2),none,2,[]⟩,
  ⟨some 64,.nilCheck (.t 61),none,3,[]⟩,
  ⟨some 65,.fieldAddr 1 (.t 64),none,4,[]⟩,
  ⟨some 66,.indexArr 17 3 (.t 65) (.t 62),none,5,[]⟩,
  ⟨some 67,.fieldAddr 0 (.t 66),none,6,[]⟩,
  ⟨none,.store 1 (.t 67) (.t 63),none,7,[]⟩]) (RC.seq (RC.region 2 [
  ⟨some 68,.move (.t 0),none,0,[]⟩,
  ⟨some 69,.call F.mtx_All_settle [(.t 68)],none,1,[]⟩]) (RC.seq (RC.region 1 [
  ⟨some 6,.move (.c (.s (.int .i64 0))),none,0,[]⟩]) (RC.ret)))
def mtx_All_SetBase : RFunc := RFunc.mk 70 [.tmp 6] (
  RC.seq (RC.region 1 [
  ⟨some 6,.move (.c (.s (.int .i64 0))),none,0,[]⟩]) (RC.seq (RC.block 0 (RC.seq (RC.region 4 [
  ⟨some 10,.move (.t 1),none,0,[]⟩,
  ⟨some 11,.call F.mtx_is [(.t 10)],none,1,[]⟩,
  ⟨some 12,.un .not (.t 11),none,2,[]⟩,
  ⟨some 9,.move (.t 12),none,3,[]⟩]) (RC.cond (.t 9) (RC.seq (RC.region 1 [
  ⟨some 6,.move (.c (.s (.int .i64 (-18)))),none,0,[]⟩]) (RC.ret)) (RC.seq (RC.region 4 [
  ⟨some 14,.move (.t 2),none,0,[]⟩,
  ⟨some 15,.call F.mtx_may [(.t 14)],none,1,[]⟩,
  ⟨some 16,.un .not (.t 15),none,2,[]⟩,
  ⟨some 13,.move (.t 16),none,3,[]⟩]) (RC.cond (.t 13) (RC.seq (RC.region 1 [
  ⟨some 6,.move (.c (.s (.int .i64 (-17)))),none,0,[]⟩]) (RC.ret)) (RC.skip)))))) (RC.seq (RC.seq (RC.region 1 [
  ⟨some 7,.move (.c (.s (.int .i64 1))),none,0,[]⟩]) (RC.block 1 (RC.loop R.mtx_All_SetBase_l0))) R.mtx_All_SetBase_s1)))
theorem mtx_All_SetBase_ok : chkFunc Go.Proofs.Try.prog [] Go.Proofs.Try.f12 mtx_All_SetBase = true := by kernel_rfl
def mtx_All_Lock : RFunc := RFunc.mk 48 [.tmp 6,.tmp 7] (
  RC.seq (RC.region 2 [
  ⟨some 6,.move (.c (.s (.bool false))),none,0,[]⟩,
  ⟨some 7,.move (.c (.s (.int .i64 0))),none,1,[]⟩]) (RC.seq (RC.region 9 [
  ⟨some 11,.move (.t 0),none,0,[]⟩,
  ⟨some 12,.move (.t 1),none,1,[]⟩,
  ⟨some 13,.move (.t 2),none,2,[]⟩,
  ⟨some 14,.call F.mtx_All_TryLock [(.t 11),(.t 12),(.t 13)],none,3,[]⟩,
  ⟨some 10,.move (.t 14),none,4,[]⟩,
  ⟨some 15,.extract 0 (.t 10),none,5,[]⟩,
  ⟨some 16,.extract 1 (.t 10),none,6,[]⟩,
  ⟨some 8,.move (.t 15),none,7,[]⟩,
  ⟨some 9,.move (.t 16),none,8,[]⟩]) (RC.seq (RC.seq (RC.region 5 [
  ⟨some 17,.move (.t 8),none,0,[]⟩,
  ⟨some 18,.move (.t 17),none,1,[]⟩,
  ⟨some 19,.move (.t 9),(some (18,false)),2,[]⟩,
  ⟨some 20,.bin .neq (.t 19) (.c (.s (.int .i64 0))),(some (18,false)),3,[]⟩,
  ⟨some 21,.pick (.t 18) (.c (.s (.bool true))) (.t 20),none,4,[]⟩]) (RC.cond (.t 21) (RC.seq (RC.region 4 [
  ⟨some 22,.move (.t 8),none,0,[]⟩,
  ⟨some 23,.move (.t 9),none,1,[]⟩,
  ⟨some 6,.move (.t 22),none,2,[]⟩,
  ⟨some 7,.move (.t 23),none,3,[]⟩]) (RC.ret)) (RC.skip))) (RC.seq (RC.seq (RC.region 11 [
  ⟨some 24,.move (.t 0),none,0,[]⟩,
  ⟨some 25,.move (.t 0),none,1,[]⟩,
  ⟨some 26,.nilCheck (.t 25),none,2,[]⟩,
  ⟨some 27,.fieldAddr 0 (.t 26),none,3,[]⟩,
  ⟨some 28,.load none (.t 27),none,4,[]⟩,
  ⟨some 29,.move (.t 1),none,5,[]⟩,
  ⟨some 30,.indexSl 4 (.t 28) (.t 29),none,6,[]⟩,
  ⟨some 31,.fieldAddr 2 (.t 30),none,7,[]⟩,
  ⟨some 32,.load none (.t 31),none,8,[]⟩,
  ⟨some 33,.move (.t 2),none,9,[]⟩,
  ⟨some 34,.call F.mtx_All_over [(.t 24),(.t 32),(.t 33)],none,10,[]⟩]) (RC.cond (.t 34) (RC.seq (RC.region 2 [
  ⟨some 6,.move (.c (.s (.bool false))),none,0,[]⟩,
  ⟨some 7,.move (.c (.s (.int .i64 (-28)))),none,1,[]⟩]) (RC.ret)) (RC.skip))) (RC.seq (RC.region 4 [
  ⟨some 35,.move (.t 0),none,0,[]⟩,
  ⟨some 36,.move (.t 1),none,1,[]⟩,
  ⟨some 37,.move (.t 2),none,2,[]⟩,
  ⟨some 38,.call F.mtx_All_stand [(.t 35),(.t 36),(.t 37)],none,3,[]⟩]) (RC.seq (RC.region 8 [
  ⟨some 39,.move (.t 0),none,0,[]⟩,
  ⟨some 40,.move (.t 2),none,1,[]⟩,
  ⟨some 41,.move (.t 1),none,2,[]⟩,
  ⟨some 42,.nilCheck (.t 39),none,3,[]⟩,
  ⟨some 43,.fieldAddr 1 (.t 42),none,4,[]⟩,
  ⟨some 44,.indexArr 17 3 (.t 43) (.t 40),none,5,[]⟩,
  ⟨some 45,.fieldAddr 2 (.t 44),none,6,[]⟩,
  ⟨none,.store 1 (.t 45) (.t 41),none,7,[]⟩]) (RC.seq (RC.region 2 [
  ⟨some 46,.move (.t 0),none,0,[]⟩,
  ⟨some 47,.call F.mtx_All_settle [(.t 46)],none,1,[]⟩]) (RC.seq (RC.region 2 [
  ⟨some 6,.move (.c (.s (.bool false))),none,0,[]⟩,
  ⟨some 7,.move (.c (.s (.int .i64 0))),none,1,[]⟩]) (RC.ret)))))))))
theorem mtx_All_Lock_ok : chkFunc Go.Proofs.Try.prog [] Go.Proofs.Try.f13 mtx_All_Lock = true := by kernel_rfl
def mtx_All_Pri : RFunc := RFunc.mk 15 [.tmp 4] (
  RC.seq (RC.region 1 [
  ⟨some 4,.move (.c (.s (.int .i64 0))),none,0,[]⟩]) (RC.seq (RC.seq (RC.region 3 [
  ⟨some 5,.move (.t 1),none,0,[]⟩,
  ⟨some 6,.call F.mtx_is [(.t 5)],none,1,[]⟩,
  ⟨some 7,.un .not (.t 6),none,2,[]⟩]) (RC.cond (.t 7) (RC.seq (RC.region 1 [
  ⟨some 4,.move (.c (.s (.int .i64 0))),none,0,[]⟩]) (RC.ret)) (RC.skip))) (RC.seq (RC.region 8 [
  ⟨some 8,.move (.t 0),none,0,[]⟩,
  ⟨some 9,.move (.t 1),none,1,[]⟩,
  ⟨some 10,.nilCheck (.t 8),none,2,[]⟩,
  ⟨some 11,.fieldAddr 1 (.t 10),none,3,[]⟩,
  ⟨some 12,.indexArr 17 3 (.t 11) (.t 9),none,4,[]⟩,
  ⟨some 13,.fieldAddr 1 (.t 12),none,5,[]⟩,
  ⟨some 14,.load none (.t 13),none,6,[]⟩,
  ⟨some 4,.move (.t 14),none,7,[]⟩]) (RC.ret))))
theorem mtx_All_Pri_ok : chkFunc Go.Proofs.Try.prog [] Go.Proofs.Try.f14 mtx_All_Pri = true := by kernel_rfl
def mtx_All_Unlock_s0 : RC :=
  RC.seq (RC.region 2 [
  ⟨some 65,.move (.t 0),none,0,[]⟩,
  ⟨some 66,.call F.mtx_All_settle [(.t 65)],none,1,[]⟩]) (RC.seq (RC.region 10 [
  ⟨some 67,.move (.t 0),none,0,[]⟩,
  ⟨some 68,.nilCheck (.t 67),none,1,[]⟩,
  ⟨some 69,.fieldAddr 0 (.t 68),none,2,[]⟩,
  ⟨some 70,.load none (.t 69),none,3,[]⟩,
  ⟨some 71,.move (.t 1),none,4,[]⟩,
  ⟨some 72,.indexSl 4 (.t 70) (.t 71),none,5,[]⟩,
  ⟨some 73,.fieldAddr 2 (.t 72),none,6,[]⟩,
  ⟨some 74,.load none (.t 73),none,7,[]⟩,
  ⟨some 6,.move (.t 74),none,8,[]⟩,
  ⟨some 7,.move (.c (.s (.int .i64 0))),none,9,[]⟩]) (RC.ret))
def mtx_All_Unlock : RFunc := RFunc.mk 75 [.tmp 6,.tmp 7] (
  RC.seq (RC.region 2 [
  ⟨some 6,.move (.c (.s (.int .i64 0))),none,0,[]⟩,
  ⟨some 7,.move (.c (.s (.int .i64 0))),none,1,[]⟩]) (RC.seq (RC.seq (RC.region 9 [
  ⟨some 9,.move (.t 0),none,0,[]⟩,
  ⟨some 10,.move (.t 1),none,1,[]⟩,
  ⟨some 11,.call F.mtx_All_in [(.t 9),(.t 10)],none,2,[]⟩,
  ⟨some 12,.un .not (.t 11),none,3,[]⟩,
  ⟨some 13,.move (.t 12),none,4,[]⟩,
  ⟨some 14,.move (.t 2),(some (13,false)),5,[]⟩,
  ⟨some 15,.call F.mtx_is [(.t 14)],(some (13,false)),6,[]⟩,
  ⟨some 16,.un .not (.t 15),(some (13,false)),7,[]⟩,
  ⟨some 17,.pick (.t 13) (.c (.s (.bool true))) (.t 16),none,8,[]⟩]) (RC.cond (.t 17) (RC.seq (RC.region 2 [
  ⟨some 6,.move (.c (.s (.int .i64 0))),none,0,[]⟩,
  ⟨some 7,.move (.c (.s (.int .i64 (-18)))),none,1,[]⟩]) (RC.ret)) (RC.skip))) (RC.seq (RC.region 7 [
  ⟨some 18,.move (.t 0),none,0,[]⟩,
  ⟨some 19,.nilCheck (.t 18),none,1,[]⟩,
  ⟨some 20,.fieldAddr 0 (.t 19),none,2,[]⟩,
  ⟨some 21,.load none (.t 20),none,3,[]⟩,
  ⟨some 22,.move (.t 1),none,4,[]⟩,
  ⟨some 23,.indexSl 4 (.t 21) (.t 22),none,5,[]⟩,
  ⟨some 8,.move (.t 23),none,6,[]⟩]) (RC.seq (RC.seq (RC.region 6 [
  ⟨some 24,.move (.t 8),none,0,[]⟩,
  ⟨some 25,.nilCheck (.t 24),none,1,[]⟩,
  ⟨some 26,.fieldAddr 2 (.t 25),none,2,[]⟩,
  ⟨some 27,.load none (.t 26),none,3,[]⟩,
  ⟨some 28,.move (.t 2),none,4,[]⟩,
  ⟨some 29,.bin .neq (.t 27) (.t 28),none,5,[]⟩]) (RC.cond (.t 29) (RC.seq (RC.region 2 [
  ⟨some 6,.move (.c (.s (.int .i64 0))),none,0,[]⟩,
  ⟨some 7,.move (.c (.s (.int .i64 (-28)))),none,1,[]⟩]) (RC.ret)) (RC.skip))) (RC.seq (RC.region 4 [
  ⟨some 30,.move (.t 8),none,0,[]⟩,
  ⟨some 31,.nilCheck (.t 30),none,1,[]⟩,
  ⟨some 32,.fieldAddr 2 (.t 31),none,2,[]⟩,
  ⟨none,.store 1 (.t 32) (.c (.s (.int .i64 0))),none,3,[]⟩]) (RC.seq (RC.seq (RC.region 6 [
  ⟨some 33,.move (.t 8),none,0,[]⟩,
  ⟨some 34,.nilCheck (.t 33),none,1,[]⟩,
  ⟨some 35,.fieldAddr 3 (.t 34),none,2,[]⟩,
  ⟨some 36,.load none (.t 35),none,3,[]⟩,
  ⟨some 37,.len (.t 36),none,4,[]⟩,
  ⟨some 38,.bin .gtr (.t 37) (.c (.s (.int .i64 0))),none,5,[]⟩]) (RC.cond (.t 38) (RC.seq (RC.region 10 [
  ⟨some 39,.move (.t 8),none,0,[]⟩,
  ⟨some 40,.move (.t 8),none,1,[]⟩,
  ⟨some 41,.nilCheck (.t 40),none,2,[]⟩,
  ⟨some 42,.fieldAddr 3 (.t 41),none,3,[]⟩,
  ⟨some 43,.load none (.t 42),none,4,[]⟩,
  ⟨some 44,.indexSl 1 (.t 43) (.c (.s (.int .i64 0))),none,5,[]⟩,
  ⟨some 45,.load none (.t 44),none,6,[]⟩,
  ⟨some 46,.nilCheck (.t 39),none,7,[]⟩,
  ⟨some 47,.fieldAddr 2 (.t 46),none,8,[]⟩,
  ⟨none,.store 1 (.t 47) (.t 45),none,9,[]⟩]) (RC.seq (RC.region 9 [
  ⟨some 48,.move (.t 8),none,0,[]⟩,
  ⟨some 49,.move (.t 8),none,1,[]⟩,
  ⟨some 50,.nilCheck (.t 49),none,2,[]⟩,
  ⟨some 51,.fieldAddr 3 (.t 50),none,3,[]⟩,
  ⟨some 52,.load none (.t 51),none,4,[]⟩,
  ⟨some 53,.call F.slices_Delete__int_int [(.t 52),(.c (.s (.int .i64 0))),(.c (.s (.int .i64 1)))],none,5,[]⟩,
  ⟨some 54,.nilCheck (.t 48),none,6,[]⟩,
  ⟨some 55,.fieldAddr 3 (.t 54),none,7,[]⟩,
  ⟨none,.store 1 (.t 55) (.t 53),none,8,[]⟩]) (RC.region 10 [
  ⟨some 56,.move (.t 0),none,0,[]⟩,
  ⟨some 57,.move (.t 8),none,1,[]⟩,
  ⟨some 58,.nilCheck (.t 57),none,2,[]⟩,
  ⟨some 59,.fieldAddr 2 (.t 58),none,3,[]⟩,
  ⟨some 60,.load none (.t 59),none,4,[]⟩,
  ⟨some 61,.nilCheck (.t 56),none,5,[]⟩,
  ⟨some 62,.fieldAddr 1 (.t 61),none,6,[]⟩,
  ⟨some 63,.indexArr 17 3 (.t 62) (.t 60),none,7,[]⟩,
  ⟨some 64,.fieldAddr 2 (.t 63),none,8,[]⟩,
  ⟨none,.store 1 (.t 64) (.c (.s (.int .i64 0))),none,9,[]⟩]))) (RC.skip))) R.mtx_All_Unlock_s0))))))
theorem mtx_All_Unlock_ok : chkFunc Go.Proofs.Try.prog [] Go.Proofs.Try.f15 mtx_All_Unlock = true := by kernel_rfl
def mtx_All_Owner : RFunc := RFunc.mk 17 [.tmp 4] (
  RC.seq (RC.region 1 [
  ⟨some 4,.move (.c (.s (.int .i64 0))),none,0,[]⟩]) (RC.seq (RC.seq (RC.region 4 [
  ⟨some 5,.move (.t 0),none,0,[]⟩,
  ⟨some 6,.move (.t 1),none,1,[]⟩,
  ⟨some 7,.call F.mtx_All_in [(.t 5),(.t 6)],none,2,[]⟩,
  ⟨some 8,.un .not (.t 7),none,3,[]⟩]) (RC.cond (.t 8) (RC.seq (RC.region 1 [
  ⟨some 4,.move (.c (.s (.int .i64 0))),none,0,[]⟩]) (RC.ret)) (RC.skip))) (RC.seq (RC.region 9 [
  ⟨some 9,.move (.t 0),none,0,[]⟩,
  ⟨some 10,.nilCheck (.t 9),none,1,[]⟩,
  ⟨some 11,.fieldAddr 0 (.t 10),none,2,[]⟩,
  ⟨some 12,.load none (.t 11),none,3,[]⟩,
  ⟨some 13,.move (.t 1),none,4,[]⟩,
  ⟨some 14,.indexSl 4 (.t 12) (.t 13),none,5,[]⟩,
  ⟨some 15,.fieldAddr 2 (.t 14),none,6,[]⟩,
  ⟨some 16,.load none (.t 15),none,7,[]⟩,
  ⟨some 4,.move (.t 16),none,8,[]⟩]) (RC.ret))))
theorem mtx_All_Owner_ok : chkFunc Go.Proofs.Try.prog [] Go.Proofs.Try.f16 mtx_All_Owner = true := by kernel_rfl
def mtx_All_TryLock_s0 : RC :=
  RC.cond (.t 24) (RC.seq (RC.region 2 [
  ⟨some 6,.move (.c (.s (.bool false))),none,0,[]⟩,
  ⟨some 7,.move (.c (.s (.int .i64 (-28)))),none,1,[]⟩]) (RC.ret)) (RC.seq (RC.region 9 [
  ⟨some 53,.move (.t 0),none,0,[]⟩,
  ⟨some 54,.move (.t 2),none,1,[]⟩,
  ⟨some 55,.nilCheck (.t 53),none,2,[]⟩,
  ⟨some 56,.fieldAddr 1 (.t 55),none,3,[]⟩,
  ⟨some 57,.indexArr 17 3 (.t 56) (.t 54),none,4,[]⟩,
  ⟨some 58,.fieldAddr 2 (.t 57),none,5,[]⟩,
  ⟨some 59,.load none (.t 58),none,6,[]⟩,
  ⟨some 60,.bin .gtr (.t 59) (.c (.s (.int .i64 0))),none,7,[]⟩,
  ⟨some 52,.move (.t 60),none,8,[]⟩]) (RC.cond (.t 52) (RC.seq (RC.region 2 [
  ⟨some 6,.move (.c (.s (.bool false))),none,0,[]⟩,
  ⟨some 7,.move (.c (.s (.int .i64 (-41)))),none,1,[]⟩]) (RC.ret)) (RC.seq (RC.region 6 [
  ⟨some 62,.move (.t 8),none,0,[]⟩,
  ⟨some 63,.nilCheck (.t 62),none,1,[]⟩,
  ⟨some 64,.fieldAddr 2 (.t 63),none,2,[]⟩,
  ⟨some 65,.load none (.t 64),none,3,[]⟩,
  ⟨some 66,.bin .eql (.t 65) (.c (.s (.int .i64 0))),none,4,[]⟩,
  ⟨some 61,.move (.t 66),none,5,[]⟩]) (RC.cond (.t 61) (RC.seq (RC.region 5 [
  ⟨some 67,.move (.t 8),none,0,[]⟩,
  ⟨some 68,.move (.t 2),none,1,[]⟩,
  ⟨some 69,.nilCheck (.t 67),none,2,[]⟩,
  ⟨some 70,.fieldAddr 2 (.t 69),none,3,[]⟩,
  ⟨none,.store 1 (.t 70) (.t 68),none,4,[]⟩]) (RC.seq (RC.region 2 [
  ⟨some 71,.move (.t 0),none,0,[]⟩,
  ⟨some 72,.call F.mtx_All_settle [(.t 71)],none,1,[]⟩]) (RC.seq (RC.region 2 [
  ⟨some 6,.move (.c (.s (.bool true))),none,0,[]⟩,
  ⟨some 7,.move (.c (.s (.int .i64 0))),none,1,[]⟩]) (RC.ret)))) (RC.skip)))))
def mtx_All_TryLock_s1 : RC :=
  RC.seq (RC.region 2 [
  ⟨some 6,.move (.c (.s (.bool false))),none,0,[]⟩,
  ⟨some 7,.move (.c (.s (.int .i64 0))),none,1,[]⟩]) (RC.ret)
def mtx_All_TryLock : RFunc := RFunc.mk 73 [.tmp 6,.tmp 7] (
  RC.seq (RC.region 2 [
  ⟨some 6,.move (.c (.s (.bool false))),none,0,[]⟩,
  ⟨some 7,.move (.c (.s (.int .i64 0))),none,1,[]⟩]) (RC.seq (RC.seq (RC.region 9 [
  ⟨some 9,.move (.t 0),none,0,[]⟩,
  ⟨some 10,.move (.t 1),none,1,[]⟩,
  ⟨some 11,.call F.mtx_All_in [(.t 9),(.t 10)],none,2,[]⟩,
  ⟨some 12,.un .not (.t 11),none,3,[]⟩,
  ⟨some 13,.move (.t 12),none,4,[]⟩,
  ⟨some 14,.move (.t 2),(some (13,false)),5,[]⟩,
  ⟨some 15,.call F.mtx_is [(.t 14)],(some (13,false)),6,[]⟩,
  ⟨some 16,.un .not (.t 15),(some (13,false)),7,[]⟩,
  ⟨some 17,.pick (.t 13) (.c (.s (.bool true))) (.t 16),none,8,[]⟩]) (RC.cond (.t 17) (RC.seq (RC.region 2 [
  ⟨some 6,.move (.c (.s (.bool false))),none,0,[]⟩,
  ⟨some 7,.move (.c (.s (.int .i64 (-18)))),none,1,[]⟩]) (RC.ret)) (RC.skip))) (RC.seq (RC.region 7 [
  ⟨some 18,.move (.t 0),none,0,[]⟩,
  ⟨some 19,.nilCheck (.t 18),none,1,[]⟩,
  ⟨some 20,.fieldAddr 0 (.t 19),none,2,[]⟩,
  ⟨some 21,.load none (.t 20),none,3,[]⟩,
  ⟨some 22,.move (.t 1),none,4,[]⟩,
  ⟨some 23,.indexSl 4 (.t 21) (.t 22),none,5,[]⟩,
  ⟨some 8,.move (.t 23),none,6,[]⟩]) (RC.seq (RC.block 0 (RC.seq (RC.seq (RC.region 7 [
  ⟨some 25,.move (.t 8),none,0,[]⟩,
  ⟨some 26,.nilCheck (.t 25),none,1,[]⟩,
  ⟨some 27,.fieldAddr 2 (.t 26),none,2,[]⟩,
  ⟨some 28,.load none (.t 27),none,3,[]⟩,
  ⟨some 29,.move (.t 2),none,4,[]⟩,
  ⟨some 30,.bin .eql (.t 28) (.t 29),none,5,[]⟩,
  ⟨some 24,.move (.t 30),none,6,[]⟩]) (RC.cond (.t 24) (RC.skip) (RC.region 22 [
  ⟨some 31,.move (.t 8),none,0,[]⟩,
  ⟨some 32,.nilCheck (.t 31),none,1,[]⟩,
  ⟨some 33,.fieldAddr 0 (.t 32),none,2,[]⟩,
  ⟨some 34,.fieldAddr 0 (.t 33),none,3,[]⟩,
  ⟨some 35,.load none (.t 34),none,4,[]⟩,
  ⟨some 36,.bin .eql (.t 35) (.c (.s (.int .i64 3))),none,5,[]⟩,
  ⟨some 37,.move (.t 36),none,6,[]⟩,
  ⟨some 38,.move (.t 0),(some (37,true)),7,[]⟩,
  ⟨some 39,.move (.t 2),(some (37,true)),8,[]⟩,
  ⟨some 40,.nilCheck (.t 38),(some (37,true)),9,[]⟩,
  ⟨some 41,.fieldAddr 1 (.t 40),(some (37,true)),10,[]⟩,
  ⟨some 42,.indexArr 17 3 (.t 41) (.t 39),(some (37,true)),11,[]⟩,
  ⟨some 43,.fieldAddr 0 (.t 42),(some (37,true)),12,[]⟩,
  ⟨some 44,.load none (.t 43),(some (37,true)),13,[]⟩,
  ⟨some 45,.move (.t 8),(some (37,true)),14,[]⟩,
  ⟨some 46,.nilCheck (.t 45),(some (37,true)),15,[]⟩,
  ⟨some 47,.fieldAddr 0 (.t 46),(some (37,true)),16,[]⟩,
  ⟨some 48,.fieldAddr 1 (.t 47),(some (37,true)),17,[]⟩,
  ⟨some 49,.load none (.t 48),(some (37,true)),18,[]⟩,
  ⟨some 50,.bin .lss (.t 44) (.t 49),(some (37,true)),19,[]⟩,
  ⟨some 51,.pick (.t 37) (.t 50) (.c (.s (.bool false))),none,20,[]⟩,
  ⟨some 24,.move (.t 51),none,21,[]⟩]))) R.mtx_All_TryLock_s0)) R.mtx_All_TryLock_s1))))
theorem mtx_All_TryLock_ok : chkFunc Go.Proofs.Try.prog [] Go.Proofs.Try.f17 mtx_All_TryLock = true := by kernel_rfl
def mtx_All_Waiting : RFunc := RFunc.mk 19 [.tmp 4] (
  RC.seq (RC.region 1 [
  ⟨some 4,.move (.c (.s (.slice none 0 0 1))),none,0,[]⟩]) (RC.seq (RC.seq (RC.region 4 [
  ⟨some 5,.move (.t 0),none,0,[]⟩,
  ⟨some 6,.move (.t 1),none,1,[]⟩,
  ⟨some 7,.call F.mtx_All_in [(.t 5),(.t 6)],none,2,[]⟩,
  ⟨some 8,.un .not (.t 7),none,3,[]⟩]) (RC.cond (.t 8) (RC.seq (RC.region 1 [
  ⟨some 4,.move (.c (.s (.slice none 0 0 1))),none,0,[]⟩]) (RC.ret)) (RC.skip))) (RC.seq (RC.region 11 [
  ⟨some 9,.move (.t 0),none,0,[]⟩,
  ⟨some 10,.nilCheck (.t 9),none,1,[]⟩,
  ⟨some 11,.fieldAddr 0 (.t 10),none,2,[]⟩,
  ⟨some 12,.load none (.t 11),none,3,[]⟩,
  ⟨some 13,.move (.t 1),none,4,[]⟩,
  ⟨some 14,.indexSl 4 (.t 12) (.t 13),none,5,[]⟩,
  ⟨some 15,.fieldAddr 3 (.t 14),none,6,[]⟩,
  ⟨some 16,.load none (.t 15),none,7,[]⟩,
  ⟨some 17,.call F.slices_Clone__int_int [(.t 16)],none,8,[]⟩,
  ⟨some 18,.call F.slices_Clip__int_int [(.t 17)],none,9,[]⟩,
  ⟨some 4,.move (.t 18),none,10,[]⟩]) (RC.ret))))
theorem mtx_All_Waiting_ok : chkFunc Go.Proofs.Try.prog [] Go.Proofs.Try.f18 mtx_All_Waiting = true := by kernel_rfl
def mtx_All_Free_l0 : RC :=
  RC.seq (RC.region 1 [
  ⟨some 15,.bin .lss (.t 14) (.t 13),none,0,[]⟩]) (RC.seq (RC.cond (.t 15) (RC.skip) (RC.exit 0)) (RC.seq (RC.block 1 (RC.seq (RC.region 3 [
  ⟨some 16,.indexSl 1 (.t 12) (.t 14),none,0,[]⟩,
  ⟨some 17,.load none (.t 16),none,1,[]⟩,
  ⟨some 7,.move (.t 17),none,2,[]⟩]) (RC.seq (RC.region 9 [
  ⟨some 19,.move (.t 0),none,0,[]⟩,
  ⟨some 20,.move (.t 7),none,1,[]⟩,
  ⟨some 21,.move (.t 1),none,2,[]⟩,
  ⟨some 22,.call F.mtx_All_Unlock [(.t 19),(.t 20),(.t 21)],none,3,[]⟩,
  ⟨some 18,.move (.t 22),none,4,[]⟩,
  ⟨some 23,.extract 0 (.t 18),none,5,[]⟩,
  ⟨some 24,.extract 1 (.t 18),none,6,[]⟩,
  ⟨some 8,.move (.t 23),none,7,[]⟩,
  ⟨some 9,.move (.t 24),none,8,[]⟩]) (RC.seq (RC.region 6 [
  ⟨some 25,.move (.t 9),none,0,[]⟩,
  ⟨some 26,.bin .eql (.t 25) (.c (.s (.int .i64 0))),none,1,[]⟩,
  ⟨some 27,.move (.t 26),none,2,[]⟩,
  ⟨some 28,.move (.t 8),(some (27,true)),3,[]⟩,
  ⟨some 29,.bin .gtr (.t 28) (.c (.s (.int .i64 0))),(some (27,true)),4,[]⟩,
  ⟨some 30,.pick (.t 27) (.t 29) (.c (.s (.bool false))),none,5,[]⟩]) (RC.cond (.t 30) (RC.region 5 [
  ⟨some 31,.move (.t 5),none,0,[]⟩,
  ⟨some 32,.move (.t 8),none,1,[]⟩,
  ⟨some 33,.buildSlice 1 1 [.int .i64 0] [(0,1,(.t 32))],none,2,[]⟩,
  ⟨some 34,.append 1 8 (.t 31) (.t 33),none,3,[]⟩,
  ⟨some 5,.move (.t 34),none,4,[]⟩]) (RC.skip)))))) (RC.region 2 [
  ⟨some 35,.bin .add (.t 14) (.c (.s (.int .i64 1))),none,0,[]⟩,
  ⟨some 14,.move (.t 35),none,1,[]⟩])))
def mtx_All_Free_s1 : RC :=
  RC.seq (RC.region 3 [
  ⟨some 36,.move (.t 5),none,0,[]⟩,
  ⟨some 37,.call F.slices_Clip__int_int [(.t 36)],none,1,[]⟩,
  ⟨some 4,.move (.t 37),none,2,[]⟩]) (RC.ret)
def mtx_All_Free : RFunc := RFunc.mk 38 [.tmp 4] (
  RC.seq (RC.region 1 [
  ⟨some 4,.move (.c (.s (.slice none 0 0 1))),none,0,[]⟩]) (RC.seq (RC.region 1 [
  ⟨some 5,.move (.c (.s (.slice none 0 0 1))),none,0,[]⟩]) (RC.seq (RC.seq (RC.region 5 [
  ⟨some 10,.move (.t 0),none,0,[]⟩,
  ⟨some 11,.move (.t 1),none,1,[]⟩,
  ⟨some 12,.call F.mtx_All_Held [(.t 10),(.t 11)],none,2,[]⟩,
  ⟨some 13,.len (.t 12),none,3,[]⟩,
  ⟨some 14,.move (.c (.s (.int .i64 0))),none,4,[]⟩]) (RC.block 0 (RC.loop R.mtx_All_Free_l0))) R.mtx_All_Free_s1)))
theorem mtx_All_Free_ok : chkFunc Go.Proofs.Try.prog [] Go.Proofs.Try.f19 mtx_All_Free = true := by kernel_rfl
def mtx_All_Held_l0 : RC :=
  RC.seq (RC.seq (RC.region 11 [
  ⟨some 7,.move (.t 1),none,0,[]⟩,
  ⟨some 8,.call F.mtx_is [(.t 7)],none,1,[]⟩,
  ⟨some 9,.move (.t 8),none,2,[]⟩,
  ⟨some 10,.move (.t 6),(some (9,true)),3,[]⟩,
  ⟨some 11,.move (.t 0),(some (9,true)),4,[]⟩,
  ⟨some 12,.nilCheck (.t 11),(some (9,true)),5,[]⟩,
  ⟨some 13,.fieldAddr 0 (.t 12),(some (9,true)),6,[]⟩,
  ⟨some 14,.load none (.t 13),(some (9,true)),7,[]⟩,
  ⟨some 15,.len (.t 14),(some (9,true)),8,[]⟩,
  ⟨some 16,.bin .lss (.t 10) (.t 15),(some (9,true)),9,[]⟩,
  ⟨some 17,.pick (.t 9) (.t 16) (.c (.s (.bool false))),none,10,[]⟩]) (RC.cond (.t 17) (RC.skip) (RC.exit 0))) (RC.seq (RC.block 1 (RC.seq (RC.region 10 [
  ⟨some 20,.move (.t 0),none,0,[]⟩,
  ⟨some 21,.nilCheck (.t 20),none,1,[]⟩,
  ⟨some 22,.fieldAddr 0 (.t 21),none,2,[]⟩,
  ⟨some 23,.load none (.t 22),none,3,[]⟩,
  ⟨some 24,.move (.t 6),none,4,[]⟩,
  ⟨some 25,.indexSl 4 (.t 23) (.t 24),none,5,[]⟩,
  ⟨some 26,.fieldAddr 2 (.t 25),none,6,[]⟩,
  ⟨some 27,.load none (.t 26),none,7,[]⟩,
  ⟨some 28,.move (.t 1),none,8,[]⟩,
  ⟨some 29,.bin .eql (.t 27) (.t 28),none,9,[]⟩]) (RC.cond (.t 29) (RC.region 5 [
  ⟨some 30,.move (.t 5),none,0,[]⟩,
  ⟨some 31,.move (.t 6),none,1,[]⟩,
  ⟨some 32,.buildSlice 1 1 [.int .i64 0] [(0,1,(.t 31))],none,2,[]⟩,
  ⟨some 33,.append 1 8 (.t 30) (.t 32),none,3,[]⟩,
  ⟨some 5,.move (.t 33),none,4,[]⟩]) (RC.skip)))) (RC.region 3 [
  ⟨some 18,.move (.t 6),none,0,[]⟩,
  ⟨some 19,.bin .add (.t 18) (.c (.s (.int .i64 1))),none,1,[]⟩,
  ⟨some 6,.move (.t 19),none,2,[]⟩]))
def mtx_All_Held_s1 : RC :=
  RC.seq (RC.region 3 [
  ⟨some 34,.move (.t 5),none,0,[]⟩,
  ⟨some 35,.call F.slices_Clip__int_int [(.t 34)],none,1,[]⟩,
  ⟨some 4,.move (.t 35),none,2,[]⟩]) (RC.ret)
def mtx_All_Held : RFunc := RFunc.mk 36 [.tmp 4] (
  RC.seq (RC.region 1 [
  ⟨some 4,.move (.c (.s (.slice none 0 0 1))),none,0,[]⟩]) (RC.seq (RC.region 1 [
  ⟨some 5,.move (.c (.s (.slice none 0 0 1))),none,0,[]⟩]) (RC.seq (RC.seq (RC.region 1 [
  ⟨some 6,.move (.c (.s (.int .i64 1))),none,0,[]⟩]) (RC.block 0 (RC.loop R.mtx_All_Held_l0))) R.mtx_All_Held_s1)))
theorem mtx_All_Held_ok : chkFunc Go.Proofs.Try.prog [] Go.Proofs.Try.f20 mtx_All_Held = true := by kernel_rfl
def detentref15_New_l0 : RC :=
  RC.seq (RC.seq (RC.region 4 [
  ⟨some 16,.move (.t 5),none,0,[]⟩,
  ⟨some 17,.move (.t 0),none,1,[]⟩,
  ⟨some 18,.len (.t 17),none,2,[]⟩,
  ⟨some 19,.bin .lss (.t 16) (.t 18),none,3,[]⟩]) (RC.cond (.t 19) (RC.skip) (RC.exit 0))) (RC.seq (RC.block 1 (RC.seq (RC.region 7 [
  ⟨some 22,.move (.t 0),none,0,[]⟩,
  ⟨some 23,.move (.t 5),none,1,[]⟩,
  ⟨some 24,.indexSl 2 (.t 22) (.t 23),none,2,[]⟩,
  ⟨some 25,.fieldAddr 0 (.t 24),none,3,[]⟩,
  ⟨some 26,.load none (.t 25),none,4,[]⟩,
  ⟨some 27,.bin .eql (.t 26) (.c (.s (.int .i64 3))),none,5,[]⟩,
  ⟨some 6,.move (.t 27),none,6,[]⟩]) (RC.seq (RC.seq (RC.region 45 [
  ⟨some 28,.move (.t 0),none,0,[]⟩,
  ⟨some 29,.move (.t 5),none,1,[]⟩,
  ⟨some 30,.indexSl 2 (.t 28) (.t 29),none,2,[]⟩,
  ⟨some 31,.fieldAddr 0 (.t 30),none,3,[]⟩,
  ⟨some 32,.load none (.t 31),none,4,[]⟩,
  ⟨some 33,.bin .lss (.t 32) (.c (.s (.int .i64 0))),none,5,[]⟩,
  ⟨some 34,.move (.t 33),none,6,[]⟩,
  ⟨some 35,.move (.t 0),(some (34,false)),7,[]⟩,
  ⟨some 36,.move (.t 5),(some (34,false)),8,[]⟩,
  ⟨some 37,.indexSl 2 (.t 35) (.t 36),(some (34,false)),9,[]⟩,
  ⟨some 38,.fieldAddr 0 (.t 37),(some (34,false)),10,[]⟩,
  ⟨some 39,.load none (.t 38),(some (34,false)),11,[]⟩,
  ⟨some 40,.bin .gtr (.t 39) (.c (.s (.int .i64 3))),(some (34,false)),12,[]⟩,
  ⟨some 41,.pick (.t 34) (.c (.s (.bool true))) (.t 40),none,13,[]⟩,
  ⟨some 42,.move (.t 41),none,14,[]⟩,
  ⟨some 43,.move (.t 6),(some (42,false)),15,[]⟩,
  ⟨some 44,.move (.t 43),(some (42,false)),16,[]⟩,
  ⟨some 45,.move (.t 0),(some (44,true)),17,[]⟩,
  ⟨some 46,.move (.t 5),(some (44,true)),18,[]⟩,
  ⟨some 47,.indexSl 2 (.t 45) (.t 46),(some (44,true)),19,[]⟩,
  ⟨some 48,.fieldAddr 1 (.t 47),(some (44,true)),20,[]⟩,
  ⟨some 49,.load none (.t 48),(some (44,true)),21,[]⟩,
  ⟨some 50,.bin .lss (.t 49) (.c (.s (.int .i64 1))),(some (44,true)),22,[]⟩,
  ⟨some 51,.move (.t 50),(some (44,true)),23,[]⟩,
  ⟨some 52,.move (.t 0),(some (51,false)),24,[]⟩,
  ⟨some 53,.move (.t 5),(some (51,false)),25,[]⟩,
  ⟨some 54,.indexSl 2 (.t 52) (.t 53),(some (51,false)),26,[]⟩,
  ⟨some 55,.fieldAddr 1 (.t 54),(some (51,false)),27,[]⟩,
  ⟨some 56,.load none (.t 55),(some (51,false)),28,[]⟩,
  ⟨some 57,.bin .gtr (.t 56) (.c (.s (.int .i64 16))),(some (51,false)),29,[]⟩,
  ⟨some 58,.pick (.t 51) (.c (.s (.bool true))) (.t 57),(some (44,true)),30,[]⟩,
  ⟨some 59,.pick (.t 44) (.t 58) (.c (.s (.bool false))),(some (42,false)),31,[]⟩,
  ⟨some 60,.pick (.t 42) (.c (.s (.bool true))) (.t 59),none,32,[]⟩,
  ⟨some 61,.move (.t 60),none,33,[]⟩,
  ⟨some 62,.move (.t 6),(some (61,false)),34,[]⟩,
  ⟨some 63,.un .not (.t 62),(some (61,false)),35,[]⟩,
  ⟨some 64,.move (.t 63),(some (61,false)),36,[]⟩,
  ⟨some 65,.move (.t 0),(some (64,true)),37,[]⟩,
  ⟨some 66,.move (.t 5),(some (64,true)),38,[]⟩,
  ⟨some 67,.indexSl 2 (.t 65) (.t 66),(some (64,true)),39,[]⟩,
  ⟨some 68,.fieldAddr 1 (.t 67),(some (64,true)),40,[]⟩,
  ⟨some 69,.load none (.t 68),(some (64,true)),41,[]⟩,
  ⟨some 70,.bin .neq (.t 69) (.c (.s (.int .i64 0))),(some (64,true)),42,[]⟩,
  ⟨some 71,.pick (.t 64) (.t 70) (.c (.s (.bool false))),(some (61,false)),43,[]⟩,
  ⟨some 72,.pick (.t 61) (.c (.s (.bool true))) (.t 71),none,44,[]⟩]) (RC.cond (.t 72) (RC.seq (RC.region 2 [
  ⟨some 2,.move (.c (.s (.ptr none))),none,0,[]⟩,
  ⟨some 3,.move (.c (.s (.int .i64 (-17)))),none,1,[]⟩]) (RC.ret)) (RC.skip))) (RC.seq (RC.region 10 [
  ⟨some 73,.move (.t 4),none,0,[]⟩,
  ⟨some 74,.move (.t 4),none,1,[]⟩,
  ⟨some 75,.nilCheck (.t 74),none,2,[]⟩,
  ⟨some 76,.fieldAddr 1 (.t 75),none,3,[]⟩,
  ⟨some 77,.load none (.t 76),none,4,[]⟩,
  ⟨some 78,.buildSlice 1 1 [.int .i64 0] [(0,1,(.c (.s (.int .i64 0))))],none,5,[]⟩,
  ⟨some 79,.append 1 8 (.t 77) (.t 78),none,6,[]⟩,
  ⟨some 80,.nilCheck (.t 73),none,7,[]⟩,
  ⟨some 81,.fieldAddr 1 (.t 80),none,8,[]⟩,
  ⟨none,.store 1 (.t 81) (.t 79),none,9,[]⟩]) (RC.region 18 [
  ⟨some 82,.move (.t 4),none,0,[]⟩,
  ⟨some 83,.move (.t 4),none,1,[]⟩,
  ⟨some 84,.nilCheck (.t 83),none,2,[]⟩,
  ⟨some 85,.fieldAddr 2 (.t 84),none,3,[]⟩,
  ⟨some 86,.load none (.t 85),none,4,[]⟩,
  ⟨some 87,.move (.t 0),none,5,[]⟩,
  ⟨some 88,.move (.t 5),none,6,[]⟩,
  ⟨some 89,.indexSl 2 (.t 87) (.t 88),none,7,[]⟩,
  ⟨some 90,.fieldAddr 0 (.t 89),none,8,[]⟩,
  ⟨some 91,.load none (.t 90),none,9,[]⟩,
  ⟨some 92,.bin .neq (.t 91) (.c (.s (.int .i64 0))),none,10,[]⟩,
  ⟨some 93,.build [.bool false,.slice none 0 0 1] [(0,1,(.t 92))],none,11,[]⟩,
  ⟨some 94,.box (.t 93),none,12,[]⟩,
  ⟨some 95,.buildSlice 1 1 [.ptr none] [(0,1,(.t 94))],none,13,[]⟩,
  ⟨some 96,.append 1 8 (.t 86) (.t 95),none,14,[]⟩,
  ⟨some 97,.nilCheck (.t 82),none,15,[]⟩,
  ⟨some 98,.fieldAddr 2 (.t 97),none,16,[]⟩,
  ⟨none,.store 1 (.t 98) (.t 96),none,17,[]⟩]))))) (RC.region 3 [
  ⟨some 20,.move (.t 5),none,0,[]⟩,
  ⟨some 21,.bin .add (.t 20) (.c (.s (.int .i64 1))),none,1,[]⟩,
  ⟨some 5,.move (.t 21),none,2,[]⟩]))
def detentref15_New_l1 : RC :=
  RC.seq (RC.seq (RC.region 2 [
  ⟨some 99,.move (.t 7),none,0,[]⟩,
  ⟨some 100,.bin .leq (.t 99) (.c (.s (.int .i64 16))),none,1,[]⟩]) (RC.cond (.t 100) (RC.skip) (RC.exit 2))) (RC.seq (RC.block 3 (RC.seq (RC.region 6 [
  ⟨some 103,.move (.t 4),none,0,[]⟩,
  ⟨some 104,.move (.t 7),none,1,[]⟩,
  ⟨some 105,.nilCheck (.t 103),none,2,[]⟩,
  ⟨some 106,.fieldAddr 3 (.t 105),none,3,[]⟩,
  ⟨some 107,.indexArr 17 1 (.t 106) (.t 104),none,4,[]⟩,
  ⟨none,.store 1 (.t 107) (.c (.s (.int .i64 16))),none,5,[]⟩]) (RC.region 6 [
  ⟨some 108,.move (.t 4),none,0,[]⟩,
  ⟨some 109,.move (.t 7),none,1,[]⟩,
  ⟨some 110,.nilCheck (.t 108),none,2,[]⟩,
  ⟨some 111,.fieldAddr 20 (.t 110),none,3,[]⟩,
  ⟨some 112,.indexArr 17 1 (.t 111) (.t 109),none,4,[]⟩,
  ⟨none,.store 1 (.t 112) (.c (.s (.int .i64 16))),none,5,[]⟩]))) (RC.region 3 [
  ⟨some 101,.move (.t 7),none,0,[]⟩,
  ⟨some 102,.bin .add (.t 101) (.c (.s (.int .i64 1))),none,1,[]⟩,
  ⟨some 7,.move (.t 102),none,2,[]⟩]))
def detentref15_New_s2 : RC :=
  RC.seq (RC.region 3 [
  ⟨some 113,.move (.t 4),none,0,[]⟩,
  ⟨some 2,.move (.t 113),none,1,[]⟩,
  ⟨some 3,.move (.c (.s (.int .i64 0))),none,2,[]⟩]) (RC.ret)
def detentref15_New_s3 : RC :=
  RC.seq (RC.seq (RC.region 1 [
  ⟨some 7,.move (.c (.s (.int .i64 1))),none,0,[]⟩]) (RC.block 2 (RC.loop R.detentref15_New_l1))) R.detentref15_New_s2
def detentref15_New : RFunc := RFunc.mk 114 [.tmp 2,.tmp 3] (
  RC.seq (RC.region 2 [
  ⟨some 2,.move (.c (.s (.ptr none))),none,0,[]⟩,
  ⟨some 3,.move (.c (.s (.int .i64 0))),none,1,[]⟩]) (RC.seq (RC.seq (RC.region 3 [
  ⟨some 8,.move (.t 0),none,0,[]⟩,
  ⟨some 9,.len (.t 8),none,1,[]⟩,
  ⟨some 10,.bin .gtr (.t 9) (.c (.s (.int .i64 8))),none,2,[]⟩]) (RC.cond (.t 10) (RC.seq (RC.region 2 [
  ⟨some 2,.move (.c (.s (.ptr none))),none,0,[]⟩,
  ⟨some 3,.move (.c (.s (.int .i64 (-17)))),none,1,[]⟩]) (RC.ret)) (RC.skip))) (RC.seq (RC.region 6 [
  ⟨some 11,.buildSlice 2 0 [] [],none,0,[]⟩,
  ⟨some 12,.move (.t 0),none,1,[]⟩,
  ⟨some 13,.append 2 16 (.t 11) (.t 12),none,2,[]⟩,
  ⟨some 14,.build [.slice none 0 0 1,.slice none 0 0 1,.slice none 0 0 1,.int .i64 0,.int .i64 0,.int .i64 0,.int .i64 0,.int .i64 0,.int .i64 0,.int .i64 0,.int .i64 0,.int .i64 0,.int .i64 0,.int .i64 0,.int .i64 0,.int .i64 0,.int .i64 0,.int .i64 0,.int .i64 0,.int .i64 0,.int .i64 0,.int .i64 0,.int .i64 0,.int .i64 0,.int .i64 0,.int .i64 0,.int .i64 0,.int .i64 0,.int .i64 0,.int .i64 0,.int .i64 0,.int .i64 0,.int .i64 0,.int .i64 0,.int .i64 0,.int .i64 0,.int .i64 0] [(0,1,(.t 13))],none,3,[]⟩,
  ⟨some 15,.box (.t 14),none,4,[]⟩,
  ⟨some 4,.move (.t 15),none,5,[]⟩]) (RC.seq (RC.seq (RC.region 1 [
  ⟨some 5,.move (.c (.s (.int .i64 0))),none,0,[]⟩]) (RC.block 0 (RC.loop R.detentref15_New_l0))) R.detentref15_New_s3))))
theorem detentref15_New_ok : chkFunc Go.Proofs.Try.prog [] Go.Proofs.Try.f21 detentref15_New = true := by kernel_rfl
def detentref15_All_Lock : RFunc := RFunc.mk 44 [.tmp 6,.tmp 7] (
  RC.seq (RC.region 2 [
  ⟨some 6,.move (.c (.s (.bool false))),none,0,[]⟩,
  ⟨some 7,.move (.c (.s (.int .i64 0))),none,1,[]⟩]) (RC.seq (RC.region 9 [
  ⟨some 11,.move (.t 0),none,0,[]⟩,
  ⟨some 12,.move (.t 1),none,1,[]⟩,
  ⟨some 13,.move (.t 2),none,2,[]⟩,
  ⟨some 14,.call F.detentref15_All_try [(.t 11),(.t 12),(.t 13)],none,3,[]⟩,
  ⟨some 10,.move (.t 14),none,4,[]⟩,
  ⟨some 15,.extract 0 (.t 10),none,5,[]⟩,
  ⟨some 16,.extract 1 (.t 10),none,6,[]⟩,
  ⟨some 8,.move (.t 15),none,7,[]⟩,
  ⟨some 9,.move (.t 16),none,8,[]⟩]) (RC.seq (RC.seq (RC.region 5 [
  ⟨some 17,.move (.t 8),none,0,[]⟩,
  ⟨some 18,.move (.t 17),none,1,[]⟩,
  ⟨some 19,.move (.t 9),(some (18,false)),2,[]⟩,
  ⟨some 20,.bin .neq (.t 19) (.c (.s (.int .i64 0))),(some (18,false)),3,[]⟩,
  ⟨some 21,.pick (.t 18) (.c (.s (.bool true))) (.t 20),none,4,[]⟩]) (RC.cond (.t 21) (RC.seq (RC.region 4 [
  ⟨some 22,.move (.t 8),none,0,[]⟩,
  ⟨some 23,.move (.t 9),none,1,[]⟩,
  ⟨some 6,.move (.t 22),none,2,[]⟩,
  ⟨some 7,.move (.t 23),none,3,[]⟩]) (RC.ret)) (RC.skip))) (RC.seq (RC.seq (RC.region 5 [
  ⟨some 24,.move (.t 0),none,0,[]⟩,
  ⟨some 25,.move (.t 1),none,1,[]⟩,
  ⟨some 26,.bin .sub (.t 25) (.c (.s (.int .i64 1))),none,2,[]⟩,
  ⟨some 27,.move (.t 2),none,3,[]⟩,
  ⟨some 28,.call F.detentref15_All_round [(.t 24),(.t 26),(.t 27)],none,4,[]⟩]) (RC.cond (.t 28) (RC.seq (RC.region 2 [
  ⟨some 6,.move (.c (.s (.bool false))),none,0,[]⟩,
  ⟨some 7,.move (.c (.s (.int .i64 (-28)))),none,1,[]⟩]) (RC.ret)) (RC.skip))) (RC.seq (RC.region 13 [
  ⟨some 29,.move (.t 0),none,0,[]⟩,
  ⟨some 30,.nilCheck (.t 29),none,1,[]⟩,
  ⟨some 31,.fieldAddr 2 (.t 30),none,2,[]⟩,
  ⟨some 32,.load none (.t 31),none,3,[]⟩,
  ⟨some 33,.move (.t 1),none,4,[]⟩,
  ⟨some 34,.bin .sub (.t 33) (.c (.s (.int .i64 1))),none,5,[]⟩,
  ⟨some 35,.indexSl 1 (.t 32) (.t 34),none,6,[]⟩,
  ⟨some 36,.load none (.t 35),none,7,[]⟩,
  ⟨some 37,.move (.t 2),none,8,[]⟩,
  ⟨some 38,.move (.t 0),none,9,[]⟩,
  ⟨some 39,.move (.t 2),none,10,[]⟩,
  ⟨some 40,.call F.detentref15_All_Pri [(.t 38),(.t 39)],none,11,[⟨32,none,(.t 31),none⟩,⟨36,none,(.t 35),none⟩]⟩,
  ⟨some 41,.call F.detentref4_Queue_Add [(.t 36),(.t 37),(.t 40)],none,12,[]⟩]) (RC.seq (RC.region 2 [
  ⟨some 42,.move (.t 0),none,0,[]⟩,
  ⟨some 43,.call F.detentref15_All_settle [(.t 42)],none,1,[]⟩]) (RC.seq (RC.region 2 [
  ⟨some 6,.move (.c (.s (.bool false))),none,0,[]⟩,
  ⟨some 7,.move (.c (.s (.int .i64 0))),none,1,[]⟩]) (RC.ret))))))))
theorem detentref15_All_Lock_ok : chkFunc Go.Proofs.Try.prog [] Go.Proofs.Try.f23 detentref15_All_Lock = true := by kernel_rfl
def detentref15_All_TryLock : RFunc := RFunc.mk 14 [.tmp 6,.tmp 7] (
  RC.seq (RC.region 2 [
  ⟨some 6,.move (.c (.s (.bool false))),none,0,[]⟩,
  ⟨some 7,.move (.c (.s (.int .i64 0))),none,1,[]⟩]) (RC.seq (RC.region 8 [
  ⟨some 8,.move (.t 0),none,0,[]⟩,
  ⟨some 9,.move (.t 1),none,1,[]⟩,
  ⟨some 10,.move (.t 2),none,2,[]⟩,
  ⟨some 11,.call F.detentref15_All_try [(.t 8),(.t 9),(.t 10)],none,3,[]⟩,
  ⟨some 12,.extract 0 (.t 11),none,4,[]⟩,
  ⟨some 13,.extract 1 (.t 11),none,5,[]⟩,
  ⟨some 6,.move (.t 12),none,6,[]⟩,
  ⟨some 7,.move (.t 13),none,7,[]⟩]) (RC.ret)))
theorem detentref15_All_TryLock_ok : chkFunc Go.Proofs.Try.prog [] Go.Proofs.Try.f24 detentref15_All_TryLock = true := by kernel_rfl
def detentref15_All_Unlock : RFunc := RFunc.mk 37 [.tmp 6,.tmp 7] (
  RC.seq (RC.region 2 [
  ⟨some 6,.move (.c (.s (.int .i64 0))),none,0,[]⟩,
  ⟨some 7,.move (.c (.s (.int .i64 0))),none,1,[]⟩]) (RC.seq (RC.block 0 (RC.seq (RC.region 10 [
  ⟨some 10,.move (.t 0),none,0,[]⟩,
  ⟨some 11,.move (.t 1),none,1,[]⟩,
  ⟨some 12,.call F.detentref15_All_mutex [(.t 10),(.t 11)],none,2,[]⟩,
  ⟨some 13,.un .not (.t 12),none,3,[]⟩,
  ⟨some 14,.move (.t 13),none,4,[]⟩,
  ⟨some 15,.move (.t 2),(some (14,false)),5,[]⟩,
  ⟨some 16,.call F.detentref15_is [(.t 15)],(some (14,false)),6,[]⟩,
  ⟨some 17,.un .not (.t 16),(some (14,false)),7,[]⟩,
  ⟨some 18,.pick (.t 14) (.c (.s (.bool true))) (.t 17),none,8,[]⟩,
  ⟨some 9,.move (.t 18),none,9,[]⟩]) (RC.cond (.t 9) (RC.seq (RC.region 2 [
  ⟨some 6,.move (.c (.s (.int .i64 0))),none,0,[]⟩,
  ⟨some 7,.move (.c (.s (.int .i64 (-18)))),none,1,[]⟩]) (RC.ret)) (RC.seq (RC.region 11 [
  ⟨some 20,.move (.t 0),none,0,[]⟩,
  ⟨some 21,.nilCheck (.t 20),none,1,[]⟩,
  ⟨some 22,.fieldAddr 1 (.t 21),none,2,[]⟩,
  ⟨some 23,.load none (.t 22),none,3,[]⟩,
  ⟨some 24,.move (.t 1),none,4,[]⟩,
  ⟨some 25,.bin .sub (.t 24) (.c (.s (.int .i64 1))),none,5,[]⟩,
  ⟨some 26,.indexSl 1 (.t 23) (.t 25),none,6,[]⟩,
  ⟨some 27,.load none (.t 26),none,7,[]⟩,
  ⟨some 28,.move (.t 2),none,8,[]⟩,
  ⟨some 29,.bin .neq (.t 27) (.t 28),none,9,[]⟩,
  ⟨some 19,.move (.t 29),none,10,[]⟩]) (RC.cond (.t 19) (RC.seq (RC.region 2 [
  ⟨some 6,.move (.c (.s (.int .i64 0))),none,0,[]⟩,
  ⟨some 7,.move (.c (.s (.int .i64 (-28)))),none,1,[]⟩]) (RC.ret)) (RC.skip)))))) (RC.seq (RC.region 5 [
  ⟨some 30,.move (.t 0),none,0,[]⟩,
  ⟨some 31,.move (.t 1),none,1,[]⟩,
  ⟨some 32,.bin .sub (.t 31) (.c (.s (.int .i64 1))),none,2,[]⟩,
  ⟨some 33,.call F.detentref15_All_pass [(.t 30),(.t 32)],none,3,[]⟩,
  ⟨some 8,.move (.t 33),none,4,[]⟩]) (RC.seq (RC.region 2 [
  ⟨some 34,.move (.t 0),none,0,[]⟩,
  ⟨some 35,.call F.detentref15_All_settle [(.t 34)],none,1,[]⟩]) (RC.seq (RC.region 3 [
  ⟨some 36,.move (.t 8),none,0,[]⟩,
  ⟨some 6,.move (.t 36),none,1,[]⟩,
  ⟨some 7,.move (.c (.s (.int .i64 0))),none,2,[]⟩]) (RC.ret))))))
theorem detentref15_All_Unlock_ok : chkFunc Go.Proofs.Try.prog [] Go.Proofs.Try.f25 detentref15_All_Unlock = true := by kernel_rfl
def detentref15_All_SetBase_l0 : RC :=
  RC.seq (RC.seq (RC.region 7 [
  ⟨some 17,.move (.t 7),none,0,[]⟩,
  ⟨some 18,.move (.t 0),none,1,[]⟩,
  ⟨some 19,.nilCheck (.t 18),none,2,[]⟩,
  ⟨some 20,.fieldAddr 0 (.t 19),none,3,[]⟩,
  ⟨some 21,.load none (.t 20),none,4,[]⟩,
  ⟨some 22,.len (.t 21),none,5,[]⟩,
  ⟨some 23,.bin .lss (.t 17) (.t 22),none,6,[]⟩]) (RC.cond (.t 23) (RC.skip) (RC.exit 0))) (RC.seq (RC.block 1 (RC.seq (RC.region 44 [
  ⟨some 26,.move (.t 0),none,0,[]⟩,
  ⟨some 27,.nilCheck (.t 26),none,1,[]⟩,
  ⟨some 28,.fieldAddr 0 (.t 27),none,2,[]⟩,
  ⟨some 29,.load none (.t 28),none,3,[]⟩,
  ⟨some 30,.move (.t 7),none,4,[]⟩,
  ⟨some 31,.indexSl 2 (.t 29) (.t 30),none,5,[]⟩,
  ⟨some 32,.fieldAddr 0 (.t 31),none,6,[]⟩,
  ⟨some 33,.load none (.t 32),none,7,[]⟩,
  ⟨some 34,.bin .eql (.t 33) (.c (.s (.int .i64 3))),none,8,[]⟩,
  ⟨some 35,.move (.t 34),none,9,[]⟩,
  ⟨some 36,.move (.t 0),(some (35,true)),10,[]⟩,
  ⟨some 37,.nilCheck (.t 36),(some (35,true)),11,[]⟩,
  ⟨some 38,.fieldAddr 0 (.t 37),(some (35,true)),12,[]⟩,
  ⟨some 39,.load none (.t 38),(some (35,true)),13,[]⟩,
  ⟨some 40,.move (.t 7),(some (35,true)),14,[]⟩,
  ⟨some 41,.indexSl 2 (.t 39) (.t 40),(some (35,true)),15,[]⟩,
  ⟨some 42,.fieldAddr 1 (.t 41),(some (35,true)),16,[]⟩,
  ⟨some 43,.load none (.t 42),(some (35,true)),17,[]⟩,
  ⟨some 44,.move (.t 2),(some (35,true)),18,[]⟩,
  ⟨some 45,.bin .gtr (.t 43) (.t 44),(some (35,true)),19,[]⟩,
  ⟨some 46,.pick (.t 35) (.t 45) (.c (.s (.bool false))),none,20,[]⟩,
  ⟨some 47,.move (.t 46),none,21,[]⟩,
  ⟨some 48,.move (.t 0),(some (47,true)),22,[]⟩,
  ⟨some 49,.nilCheck (.t 48),(some (47,true)),23,[]⟩,
  ⟨some 50,.fieldAddr 1 (.t 49),(some (47,true)),24,[]⟩,
  ⟨some 51,.load none (.t 50),(some (47,true)),25,[]⟩,
  ⟨some 52,.move (.t 7),(some (47,true)),26,[]⟩,
  ⟨some 53,.indexSl 1 (.t 51) (.t 52),(some (47,true)),27,[]⟩,
  ⟨some 54,.load none (.t 53),(some (47,true)),28,[]⟩,
  ⟨some 55,.move (.t 1),(some (47,true)),29,[]⟩,
  ⟨some 56,.bin .eql (.t 54) (.t 55),(some (47,true)),30,[]⟩,
  ⟨some 57,.move (.t 56),(some (47,true)),31,[]⟩,
  ⟨some 58,.move (.t 0),(some (57,false)),32,[]⟩,
  ⟨some 59,.nilCheck (.t 58),(some (57,false)),33,[]⟩,
  ⟨some 60,.fieldAddr 2 (.t 59),(some (57,false)),34,[]⟩,
  ⟨some 61,.load none (.t 60),(some (57,false)),35,[]⟩,
  ⟨some 62,.move (.t 7),(some (57,false)),36,[]⟩,
  ⟨some 63,.indexSl 1 (.t 61) (.t 62),(some (57,false)),37,[]⟩,
  ⟨some 64,.load none (.t 63),(some (57,false)),38,[]⟩,
  ⟨some 65,.move (.t 1),(some (57,false)),39,[]⟩,
  ⟨some 66,.call F.detentref4_Queue_At [(.t 64),(.t 65)],(some (57,false)),40,[]⟩,
  ⟨some 67,.bin .geq (.t 66) (.c (.s (.int .i64 0))),(some (57,false)),41,[]⟩,
  ⟨some 68,.pick (.t 57) (.c (.s (.bool true))) (.t 67),(some (47,true)),42,[]⟩,
  ⟨some 69,.pick (.t 47) (.t 68) (.c (.s (.bool false))),none,43,[]⟩]) (RC.cond (.t 69) (RC.seq (RC.region 1 [
  ⟨some 6,.move (.c (.s (.int .i64 (-28)))),none,0,[]⟩]) (RC.ret)) (RC.skip)))) (RC.region 3 [
  ⟨some 24,.move (.t 7),none,0,[]⟩,
  ⟨some 25,.bin .add (.t 24) (.c (.s (.int .i64 1))),none,1,[]⟩,
  ⟨some 7,.move (.t 25),none,2,[]⟩]))
def detentref15_All_SetBase_s1 : RC :=
  RC.seq (RC.region 7 [
  ⟨some 70,.move (.t 0),none,0,[]⟩,
  ⟨some 71,.move (.t 1),none,1,[]⟩,
  ⟨some 72,.move (.t 2),none,2,[]⟩,
  ⟨some 73,.nilCheck (.t 70),none,3,[]⟩,
  ⟨some 74,.fieldAddr 3 (.t 73),none,4,[]⟩,
  ⟨some 75,.indexArr 17 1 (.t 74) (.t 71),none,5,[]⟩,
  ⟨none,.store 1 (.t 75) (.t 72),none,6,[]⟩]) (RC.seq (RC.region 2 [
  ⟨some 76,.move (.t 0),none,0,[]⟩,
  ⟨some 77,.call F.detentref15_All_settle [(.t 76)],none,1,[]⟩]) (RC.seq (RC.region 1 [
  ⟨some 6,.move (.c (.s (.int .i64 0))),none,0,[]⟩]) (RC.ret)))
def detentref15_All_SetBase : RFunc := RFunc.mk 78 [.tmp 6] (
  RC.seq (RC.region 1 [
  ⟨some 6,.move (.c (.s (.int .i64 0))),none,0,[]⟩]) (RC.seq (RC.seq (RC.region 3 [
  ⟨some 8,.move (.t 1),none,0,[]⟩,
  ⟨some 9,.call F.detentref15_is [(.t 8)],none,1,[]⟩,
  ⟨some 10,.un .not (.t 9),none,2,[]⟩]) (RC.cond (.t 10) (RC.seq (RC.region 1 [
  ⟨some 6,.move (.c (.s (.int .i64 (-18)))),none,0,[]⟩]) (RC.ret)) (RC.skip))) (RC.seq (RC.seq (RC.region 6 [
  ⟨some 11,.move (.t 2),none,0,[]⟩,
  ⟨some 12,.bin .lss (.t 11) (.c (.s (.int .i64 1))),none,1,[]⟩,
  ⟨some 13,.move (.t 12),none,2,[]⟩,
  ⟨some 14,.move (.t 2),(some (13,false)),3,[]⟩,
  ⟨some 15,.bin .gtr (.t 14) (.c (.s (.int .i64 16))),(some (13,false)),4,[]⟩,
  ⟨some 16,.pick (.t 13) (.c (.s (.bool true))) (.t 15),none,5,[]⟩]) (RC.cond (.t 16) (RC.seq (RC.region 1 [
  ⟨some 6,.move (.c (.s (.int .i64 (-17)))),none,0,[]⟩]) (RC.ret)) (RC.skip))) (RC.seq (RC.seq (RC.region 1 [
  ⟨some 7,.move (.c (.s (.int .i64 0))),none,0,[]⟩]) (RC.block 0 (RC.loop R.detentref15_All_SetBase_l0))) R.detentref15_All_SetBase_s1))))
theorem detentref15_All_SetBase_ok : chkFunc Go.Proofs.Try.prog [] Go.Proofs.Try.f26 detentref15_All_SetBase = true := by kernel_rfl
def mtx_All_Drop : RFunc := RFunc.mk 48 [.tmp 4] (
  RC.seq (RC.region 2 [
  ⟨some 3,.box (.t 1),none,0,[]⟩,
  ⟨some 4,.move (.c (.s (.bool false))),none,1,[]⟩]) (RC.seq (RC.seq (RC.region 13 [
  ⟨some 6,.load none (.t 3),none,0,[]⟩,
  ⟨some 7,.call F.mtx_is [(.t 6)],none,1,[]⟩,
  ⟨some 8,.un .not (.t 7),none,2,[]⟩,
  ⟨some 9,.move (.t 8),none,3,[]⟩,
  ⟨some 10,.move (.t 0),(some (9,false)),4,[]⟩,
  ⟨some 11,.load none (.t 3),(some (9,false)),5,[]⟩,
  ⟨some 12,.nilCheck (.t 10),(some (9,false)),6,[]⟩,
  ⟨some 13,.fieldAddr 1 (.t 12),(some (9,false)),7,[]⟩,
  ⟨some 14,.indexArr 17 3 (.t 13) (.t 11),(some (9,false)),8,[]⟩,
  ⟨some 15,.fieldAddr 2 (.t 14),(some (9,false)),9,[]⟩,
  ⟨some 16,.load none (.t 15),(some (9,false)),10,[]⟩,
  ⟨some 17,.bin .eql (.t 16) (.c (.s (.int .i64 0))),(some (9,false)),11,[]⟩,
  ⟨some 18,.pick (.t 9) (.c (.s (.bool true))) (.t 17),none,12,[]⟩]) (RC.cond (.t 18) (RC.seq (RC.region 1 [
  ⟨some 4,.move (.c (.s (.bool false))),none,0,[]⟩]) (RC.ret)) (RC.skip))) (RC.seq (RC.region 13 [
  ⟨some 19,.move (.t 0),none,0,[]⟩,
  ⟨some 20,.nilCheck (.t 19),none,1,[]⟩,
  ⟨some 21,.fieldAddr 0 (.t 20),none,2,[]⟩,
  ⟨some 22,.load none (.t 21),none,3,[]⟩,
  ⟨some 23,.move (.t 0),none,4,[]⟩,
  ⟨some 24,.load none (.t 3),none,5,[]⟩,
  ⟨some 25,.nilCheck (.t 23),none,6,[]⟩,
  ⟨some 26,.fieldAddr 1 (.t 25),none,7,[]⟩,
  ⟨some 27,.indexArr 17 3 (.t 26) (.t 24),none,8,[]⟩,
  ⟨some 28,.fieldAddr 2 (.t 27),none,9,[]⟩,
  ⟨some 29,.load none (.t 28),none,10,[]⟩,
  ⟨some 30,.indexSl 4 (.t 22) (.t 29),none,11,[]⟩,
  ⟨some 5,.move (.t 30),none,12,[]⟩]) (RC.seq (RC.region 10 [
  ⟨some 31,.move (.t 5),none,0,[]⟩,
  ⟨some 32,.move (.t 5),none,1,[]⟩,
  ⟨some 33,.nilCheck (.t 32),none,2,[]⟩,
  ⟨some 34,.fieldAddr 3 (.t 33),none,3,[]⟩,
  ⟨some 35,.load none (.t 34),none,4,[]⟩,
  ⟨some 36,.makeFunc F.mtx_All_Drop_1 [(.t 3)],none,5,[]⟩,
  ⟨some 37,.call F.slices_DeleteFunc__int_int [(.t 35),(.t 36)],none,6,[]⟩,
  ⟨some 38,.nilCheck (.t 31),none,7,[]⟩,
  ⟨some 39,.fieldAddr 3 (.t 38),none,8,[]⟩,
  ⟨none,.store 1 (.t 39) (.t 37),none,9,[]⟩]) (RC.seq (RC.region 7 [
  ⟨some 40,.move (.t 0),none,0,[]⟩,
  ⟨some 41,.load none (.t 3),none,1,[]⟩,
  ⟨some 42,.nilCheck (.t 40),none,2,[]⟩,
  ⟨some 43,.fieldAddr 1 (.t 42),none,3,[]⟩,
  ⟨some 44,.indexArr 17 3 (.t 43) (.t 41),none,4,[]⟩,
  ⟨some 45,.fieldAddr 2 (.t 44),none,5,[]⟩,
  ⟨none,.store 1 (.t 45) (.c (.s (.int .i64 0))),none,6,[]⟩]) (RC.seq (RC.region 2 [
  ⟨some 46,.move (.t 0),none,0,[]⟩,
  ⟨some 47,.call F.mtx_All_settle [(.t 46)],none,1,[]⟩]) (RC.seq (RC.region 1 [
  ⟨some 4,.move (.c (.s (.bool true))),none,0,[]⟩]) (RC.ret))))))))
theorem mtx_All_Drop_ok : chkFunc Go.Proofs.Try.prog [] Go.Proofs.Try.f27 mtx_All_Drop = true := by kernel_rfl
def detentref15_All_Drop : RFunc := RFunc.mk 22 [.tmp 4] (
  RC.seq (RC.region 1 [
  ⟨some 4,.move (.c (.s (.bool false))),none,0,[]⟩]) (RC.seq (RC.region 4 [
  ⟨some 6,.move (.t 0),none,0,[]⟩,
  ⟨some 7,.move (.t 1),none,1,[]⟩,
  ⟨some 8,.call F.detentref15_All_waits [(.t 6),(.t 7)],none,2,[]⟩,
  ⟨some 5,.move (.t 8),none,3,[]⟩]) (RC.seq (RC.seq (RC.region 2 [
  ⟨some 9,.move (.t 5),none,0,[]⟩,
  ⟨some 10,.bin .lss (.t 9) (.c (.s (.int .i64 0))),none,1,[]⟩]) (RC.cond (.t 10) (RC.seq (RC.region 1 [
  ⟨some 4,.move (.c (.s (.bool false))),none,0,[]⟩]) (RC.ret)) (RC.skip))) (RC.seq (RC.region 9 [
  ⟨some 11,.move (.t 0),none,0,[]⟩,
  ⟨some 12,.nilCheck (.t 11),none,1,[]⟩,
  ⟨some 13,.fieldAddr 2 (.t 12),none,2,[]⟩,
  ⟨some 14,.load none (.t 13),none,3,[]⟩,
  ⟨some 15,.move (.t 5),none,4,[]⟩,
  ⟨some 16,.indexSl 1 (.t 14) (.t 15),none,5,[]⟩,
  ⟨some 17,.load none (.t 16),none,6,[]⟩,
  ⟨some 18,.move (.t 1),none,7,[]⟩,
  ⟨some 19,.call F.detentref4_Queue_Remove [(.t 17),(.t 18)],none,8,[]⟩]) (RC.seq (RC.region 2 [
  ⟨some 20,.move (.t 0),none,0,[]⟩,
  ⟨some 21,.call F.detentref15_All_settle [(.t 20)],none,1,[]⟩]) (RC.seq (RC.region 1 [
  ⟨some 4,.move (.c (.s (.bool true))),none,0,[]⟩]) (RC.ret)))))))
theorem detentref15_All_Drop_ok : chkFunc Go.Proofs.Try.prog [] Go.Proofs.Try.f28 detentref15_All_Drop = true := by kernel_rfl
end Go.AM.R

/-
  The code of the functions,as the abstract machine has it; it is the program's.
-/
set_option maxRecDepth 100000
namespace Go.AM.R
open Go.AM
def detentref15_All_Free_l0 : RC :=
  RC.seq (RC.seq (RC.region 11 [
  ⟨some 8,.move (.t 6),none,0,[]⟩,
  ⟨some 9,.move (.t 0),none,1,[]⟩,
  ⟨some 10,.nilCheck (.t 9),none,2,[]⟩,
  ⟨some 11,.fieldAddr 0 (.t 10),none,3,[]⟩,
  ⟨some 12,.load none (.t 11),none,4,[]⟩,
  ⟨some 13,.len (.t 12),none,5,[]⟩,
  ⟨some 14,.bin .lss (.t 8) (.t 13),none,6,[]⟩,
  ⟨some 15,.move (.t 14),none,7,[]⟩,
  ⟨some 16,.move (.t 1),(some (15,true)),8,[]⟩,
  ⟨some 17,.call F.detentref15_is [(.t 16)],(some (15,true)),9,[]⟩,
  ⟨some 18,.pick (.t 15) (.t 17) (.c (.s (.bool false))),none,10,[]⟩]) (RC.cond (.t 18) (RC.skip) (RC.exit 0))) (RC.seq (RC.block 1 (RC.seq (RC.seq (RC.region 9 [
  ⟨some 21,.move (.t 0),none,0,[]⟩,
  ⟨some 22,.nilCheck (.t 21),none,1,[]⟩,
  ⟨some 23,.fieldAddr 1 (.t 22),none,2,[]⟩,
  ⟨some 24,.load none (.t 23),none,3,[]⟩,
  ⟨some 25,.move (.t 6),none,4,[]⟩,
  ⟨some 26,.indexSl 1 (.t 24) (.t 25),none,5,[]⟩,
  ⟨some 27,.load none (.t 26),none,6,[]⟩,
  ⟨some 28,.move (.t 1),none,7,[]⟩,
  ⟨some 29,.bin .neq (.t 27) (.t 28),none,8,[]⟩]) (RC.cond (.t 29) (RC.exit 1) (RC.skip))) (RC.seq (RC.region 4 [
  ⟨some 30,.move (.t 0),none,0,[]⟩,
  ⟨some 31,.move (.t 6),none,1,[]⟩,
  ⟨some 32,.call F.detentref15_All_pass [(.t 30),(.t 31)],none,2,[]⟩,
  ⟨some 7,.move (.t 32),none,3,[]⟩]) (RC.seq (RC.region 2 [
  ⟨some 33,.move (.t 0),none,0,[]⟩,
  ⟨some 34,.call F.detentref15_All_settle [(.t 33)],none,1,[]⟩]) (RC.seq (RC.region 2 [
  ⟨some 35,.move (.t 7),none,0,[]⟩,
  ⟨some 36,.bin .neq (.t 35) (.c (.s (.int .i64 0))),none,1,[]⟩]) (RC.cond (.t 36) (RC.region 5 [
  ⟨some 37,.move (.t 5),none,0,[]⟩,
  ⟨some 38,.move (.t 7),none,1,[]⟩,
  ⟨some 39,.buildSlice 1 1 [.int .i64 0] [(0,1,(.t 38))],none,2,[]⟩,
  ⟨some 40,.append 1 8 (.t 37) (.t 39),none,3,[]⟩,
  ⟨some 5,.move (.t 40),none,4,[]⟩]) (RC.skip))))))) (RC.region 3 [
  ⟨some 19,.move (.t 6),none,0,[]⟩,
  ⟨some 20,.bin .add (.t 19) (.c (.s (.int .i64 1))),none,1,[]⟩,
  ⟨some 6,.move (.t 20),none,2,[]⟩]))
def detentref15_All_Free_s1 : RC :=
  RC.seq (RC.region 2 [
  ⟨some 41,.move (.t 5),none,0,[]⟩,
  ⟨some 4,.move (.t 41),none,1,[]⟩]) (RC.ret)
def detentref15_All_Free : RFunc := RFunc.mk 42 [.tmp 4] (
  RC.seq (RC.region 1 [
  ⟨some 4,.move (.c (.s (.slice none 0 0 1))),none,0,[]⟩]) (RC.seq (RC.region 1 [
  ⟨some 5,.move (.c (.s (.slice none 0 0 1))),none,0,[]⟩]) (RC.seq (RC.seq (RC.region 1 [
  ⟨some 6,.move (.c (.s (.int .i64 0))),none,0,[]⟩]) (RC.block 0 (RC.loop R.detentref15_All_Free_l0))) R.detentref15_All_Free_s1)))
theorem detentref15_All_Free_ok : chkFunc Go.Proofs.Try.prog [] Go.Proofs.Try.f30 detentref15_All_Free = true := by kernel_rfl
def mtx_All_Twin_l0 : RC :=
  RC.seq (RC.region 1 [
  ⟨some 22,.bin .lss (.t 21) (.t 20),none,0,[]⟩]) (RC.seq (RC.cond (.t 22) (RC.skip) (RC.exit 0)) (RC.seq (RC.block 1 (RC.seq (RC.region 2 [
  ⟨some 23,.move (.t 21),none,0,[]⟩,
  ⟨some 4,.move (.t 23),none,1,[]⟩]) (RC.region 17 [
  ⟨some 24,.move (.t 3),none,0,[]⟩,
  ⟨some 25,.nilCheck (.t 24),none,1,[]⟩,
  ⟨some 26,.fieldAddr 0 (.t 25),none,2,[]⟩,
  ⟨some 27,.load none (.t 26),none,3,[]⟩,
  ⟨some 28,.move (.t 4),none,4,[]⟩,
  ⟨some 29,.move (.t 3),none,5,[]⟩,
  ⟨some 30,.nilCheck (.t 29),none,6,[]⟩,
  ⟨some 31,.fieldAddr 0 (.t 30),none,7,[]⟩,
  ⟨some 32,.load none (.t 31),none,8,[]⟩,
  ⟨some 33,.move (.t 4),none,9,[]⟩,
  ⟨some 34,.indexSl 4 (.t 32) (.t 33),none,10,[]⟩,
  ⟨some 35,.fieldAddr 3 (.t 34),none,11,[]⟩,
  ⟨some 36,.load none (.t 35),none,12,[]⟩,
  ⟨some 37,.call F.slices_Clone__int_int [(.t 36)],none,13,[⟨27,none,(.t 26),none⟩]⟩,
  ⟨some 38,.indexSl 4 (.t 27) (.t 28),none,14,[]⟩,
  ⟨some 39,.fieldAddr 3 (.t 38),none,15,[]⟩,
  ⟨none,.store 1 (.t 39) (.t 37),none,16,[]⟩]))) (RC.region 2 [
  ⟨some 40,.bin .add (.t 21) (.c (.s (.int .i64 1))),none,0,[]⟩,
  ⟨some 21,.move (.t 40),none,1,[]⟩])))
def mtx_All_Twin_s1 : RC :=
  RC.seq (RC.region 2 [
  ⟨some 41,.move (.t 3),none,0,[]⟩,
  ⟨some 2,.move (.t 41),none,1,[]⟩]) (RC.ret)
def mtx_All_Twin : RFunc := RFunc.mk 42 [.tmp 2] (
  RC.seq (RC.region 1 [
  ⟨some 2,.move (.c (.s (.ptr none))),none,0,[]⟩]) (RC.seq (RC.region 12 [
  ⟨some 5,.move (.t 0),none,0,[]⟩,
  ⟨some 6,.nilCheck (.t 5),none,1,[]⟩,
  ⟨some 7,.fieldAddr 0 (.t 6),none,2,[]⟩,
  ⟨some 8,.load none (.t 7),none,3,[]⟩,
  ⟨some 10,.move (.t 0),none,5,[]⟩,
  ⟨some 11,.nilCheck (.t 10),none,6,[]⟩,
  ⟨some 12,.fieldAddr 1 (.t 11),none,7,[]⟩,
  ⟨some 13,.load (some 51) (.t 12),none,8,[]⟩,
  ⟨some 9,.call F.slices_Clone__mtx_mutex_mtx_mutex [(.t 8)],none,4,[⟨13,(some 51),(.t 12),none⟩]⟩,
  ⟨some 14,.build [.slice none 0 0 1,.int .i64 0,.int .i64 0,.int .i64 0,.int .i64 0,.int .i64 0,.int .i64 0,.int .i64 0,.int .i64 0,.int .i64 0,.int .i64 0,.int .i64 0,.int .i64 0,.int .i64 0,.int .i64 0,.int .i64 0,.int .i64 0,.int .i64 0,.int .i64 0,.int .i64 0,.int .i64 0,.int .i64 0,.int .i64 0,.int .i64 0,.int .i64 0,.int .i64 0,.int .i64 0,.int .i64 0,.int .i64 0,.int .i64 0,.int .i64 0,.int .i64 0,.int .i64 0,.int .i64 0,.int .i64 0,.int .i64 0,.int .i64 0,.int .i64 0,.int .i64 0,.int .i64 0,.int .i64 0,.int .i64 0,.int .i64 0,.int .i64 0,.int .i64 0,.int .i64 0,.int .i64 0,.int .i64 0,.int .i64 0,.int .i64 0,.int .i64 0,.int .i64 0] [(0,1,(.t 9)),(1,51,(.t 13))],none,9,[]⟩,
  ⟨some 15,.box (.t 14),none,10,[]⟩,
  ⟨some 3,.move (.t 15),none,11,[]⟩]) (RC.seq (RC.seq (RC.region 6 [
  ⟨some 16,.move (.t 3),none,0,[]⟩,
  ⟨some 17,.nilCheck (.t 16),none,1,[]⟩,
  ⟨some 18,.fieldAddr 0 (.t 17),none,2,[]⟩,
  ⟨some 19,.load none (.t 18),none,3,[]⟩,
  ⟨some 20,.len (.t 19),none,4,[]⟩,
  ⟨some 21,.move (.c (.s (.int .i64 0))),none,5,[]⟩]) (RC.block 0 (RC.loop R.mtx_All_Twin_l0))) R.mtx_All_Twin_s1)))
theorem mtx_All_Twin_ok : chkFunc Go.Proofs.Try.prog [] Go.Proofs.Try.f31 mtx_All_Twin = true := by kernel_rfl
def detentlaw15_same_s0 : RC :=
  RC.seq (RC.region 13 [
  ⟨some 48,.move (.t 0),none,0,[]⟩,
  ⟨some 49,.move (.t 5),none,1,[]⟩,
  ⟨some 50,.call F.mtx_All_Owner [(.t 48),(.t 49)],none,2,[]⟩,
  ⟨some 51,.move (.t 6),none,3,[]⟩,
  ⟨some 52,.bin .neq (.t 50) (.t 51),none,4,[]⟩,
  ⟨some 53,.move (.t 52),none,5,[]⟩,
  ⟨some 54,.move (.t 0),(some (53,false)),6,[]⟩,
  ⟨some 55,.move (.t 5),(some (53,false)),7,[]⟩,
  ⟨some 56,.call F.mtx_All_Waiting [(.t 54),(.t 55)],(some (53,false)),8,[]⟩,
  ⟨some 57,.move (.t 7),(some (53,false)),9,[]⟩,
  ⟨some 58,.call F.detentlaw3_Same [(.t 56),(.t 57)],(some (53,false)),10,[]⟩,
  ⟨some 59,.un .not (.t 58),(some (53,false)),11,[]⟩,
  ⟨some 60,.pick (.t 53) (.c (.s (.bool true))) (.t 59),none,12,[]⟩]) (RC.cond (.t 60) (RC.seq (RC.region 1 [
  ⟨some 4,.move (.c (.s (.bool false))),none,0,[]⟩]) (RC.ret)) (RC.skip))
def detentlaw15_same_s1 : RC :=
  RC.region 3 [
  ⟨some 18,.move (.t 5),none,0,[]⟩,
  ⟨some 19,.bin .add (.t 18) (.c (.s (.int .i64 1))),none,1,[]⟩,
  ⟨some 5,.move (.t 19),none,2,[]⟩]
def detentlaw15_same_l2 : RC :=
  RC.seq (RC.seq (RC.region 8 [
  ⟨some 10,.move (.t 5),none,0,[]⟩,
  ⟨some 11,.move (.t 1),none,1,[]⟩,
  ⟨some 12,.nilCheck (.t 11),none,2,[]⟩,
  ⟨some 13,.fieldAddr 0 (.t 12),none,3,[]⟩,
  ⟨some 14,.load none (.t 13),none,4,[]⟩,
  ⟨some 15,.len (.t 14),none,5,[]⟩,
  ⟨some 16,.bin .add (.t 15) (.c (.s (.int .i64 1))),none,6,[]⟩,
  ⟨some 17,.bin .leq (.t 10) (.t 16),none,7,[]⟩]) (RC.cond (.t 17) (RC.skip) (RC.exit 0))) (RC.seq (RC.block 1 (RC.seq (RC.region 1 [
  ⟨some 6,.move (.c (.s (.int .i64 0))),none,0,[]⟩]) (RC.seq (RC.region 1 [
  ⟨some 7,.move (.c (.s (.slice none 0 0 1))),none,0,[]⟩]) (RC.seq (RC.seq (RC.region 11 [
  ⟨some 20,.move (.t 5),none,0,[]⟩,
  ⟨some 21,.bin .geq (.t 20) (.c (.s (.int .i64 1))),none,1,[]⟩,
  ⟨some 22,.move (.t 21),none,2,[]⟩,
  ⟨some 23,.move (.t 5),(some (22,true)),3,[]⟩,
  ⟨some 24,.move (.t 1),(some (22,true)),4,[]⟩,
  ⟨some 25,.nilCheck (.t 24),(some (22,true)),5,[]⟩,
  ⟨some 26,.fieldAddr 0 (.t 25),(some (22,true)),6,[]⟩,
  ⟨some 27,.load none (.t 26),(some (22,true)),7,[]⟩,
  ⟨some 28,.len (.t 27),(some (22,true)),8,[]⟩,
  ⟨some 29,.bin .leq (.t 23) (.t 28),(some (22,true)),9,[]⟩,
  ⟨some 30,.pick (.t 22) (.t 29) (.c (.s (.bool false))),none,10,[]⟩]) (RC.cond (.t 30) (RC.seq (RC.region 9 [
  ⟨some 31,.move (.t 1),none,0,[]⟩,
  ⟨some 32,.nilCheck (.t 31),none,1,[]⟩,
  ⟨some 33,.fieldAddr 1 (.t 32),none,2,[]⟩,
  ⟨some 34,.load none (.t 33),none,3,[]⟩,
  ⟨some 35,.move (.t 5),none,4,[]⟩,
  ⟨some 36,.bin .sub (.t 35) (.c (.s (.int .i64 1))),none,5,[]⟩,
  ⟨some 37,.indexSl 1 (.t 34) (.t 36),none,6,[]⟩,
  ⟨some 38,.load none (.t 37),none,7,[]⟩,
  ⟨some 6,.move (.t 38),none,8,[]⟩]) (RC.region 10 [
  ⟨some 39,.move (.t 1),none,0,[]⟩,
  ⟨some 40,.nilCheck (.t 39),none,1,[]⟩,
  ⟨some 41,.fieldAddr 2 (.t 40),none,2,[]⟩,
  ⟨some 42,.load none (.t 41),none,3,[]⟩,
  ⟨some 43,.move (.t 5),none,4,[]⟩,
  ⟨some 44,.bin .sub (.t 43) (.c (.s (.int .i64 1))),none,5,[]⟩,
  ⟨some 45,.indexSl 1 (.t 42) (.t 44),none,6,[]⟩,
  ⟨some 46,.load none (.t 45),none,7,[]⟩,
  ⟨some 47,.call F.detentref4_Queue_IDs [(.t 46)],none,8,[]⟩,
  ⟨some 7,.move (.t 47),none,9,[]⟩])) (RC.skip))) R.detentlaw15_same_s0)))) R.detentlaw15_same_s1)
def detentlaw15_same_s3 : RC :=
  RC.seq (RC.region 24 [
  ⟨some 77,.move (.t 0),none,0,[]⟩,
  ⟨some 78,.move (.t 8),none,1,[]⟩,
  ⟨some 79,.call F.mtx_All_Base [(.t 77),(.t 78)],none,2,[]⟩,
  ⟨some 80,.move (.t 9),none,3,[]⟩,
  ⟨some 81,.bin .neq (.t 79) (.t 80),none,4,[]⟩,
  ⟨some 82,.move (.t 81),none,5,[]⟩,
  ⟨some 83,.move (.t 0),(some (82,false)),6,[]⟩,
  ⟨some 84,.move (.t 8),(some (82,false)),7,[]⟩,
  ⟨some 85,.call F.mtx_All_Pri [(.t 83),(.t 84)],(some (82,false)),8,[]⟩,
  ⟨some 86,.move (.t 1),(some (82,false)),9,[]⟩,
  ⟨some 87,.move (.t 8),(some (82,false)),10,[]⟩,
  ⟨some 88,.call F.detentref15_All_Pri [(.t 86),(.t 87)],(some (82,false)),11,[]⟩,
  ⟨some 89,.bin .neq (.t 85) (.t 88),(some (82,false)),12,[]⟩,
  ⟨some 90,.pick (.t 82) (.c (.s (.bool true))) (.t 89),none,13,[]⟩,
  ⟨some 91,.move (.t 90),none,14,[]⟩,
  ⟨some 92,.move (.t 0),(some (91,false)),15,[]⟩,
  ⟨some 93,.move (.t 8),(some (91,false)),16,[]⟩,
  ⟨some 94,.call F.mtx_All_Held [(.t 92),(.t 93)],(some (91,false)),17,[]⟩,
  ⟨some 95,.move (.t 1),(some (91,false)),18,[]⟩,
  ⟨some 96,.move (.t 8),(some (91,false)),19,[]⟩,
  ⟨some 97,.call F.detentref15_All_Held [(.t 95),(.t 96)],(some (91,false)),20,[]⟩,
  ⟨some 98,.call F.detentlaw3_Same [(.t 94),(.t 97)],(some (91,false)),21,[]⟩,
  ⟨some 99,.un .not (.t 98),(some (91,false)),22,[]⟩,
  ⟨some 100,.pick (.t 91) (.c (.s (.bool true))) (.t 99),none,23,[]⟩]) (RC.cond (.t 100) (RC.seq (RC.region 1 [
  ⟨some 4,.move (.c (.s (.bool false))),none,0,[]⟩]) (RC.ret)) (RC.skip))
def detentlaw15_same_s4 : RC :=
  RC.region 3 [
  ⟨some 63,.move (.t 8),none,0,[]⟩,
  ⟨some 64,.bin .add (.t 63) (.c (.s (.int .i64 1))),none,1,[]⟩,
  ⟨some 8,.move (.t 64),none,2,[]⟩]
def detentlaw15_same_l5 : RC :=
  RC.seq (RC.seq (RC.region 2 [
  ⟨some 61,.move (.t 8),none,0,[]⟩,
  ⟨some 62,.bin .leq (.t 61) (.c (.s (.int .i64 17))),none,1,[]⟩]) (RC.cond (.t 62) (RC.skip) (RC.exit 2))) (RC.seq (RC.block 3 (RC.seq (RC.region 1 [
  ⟨some 9,.move (.c (.s (.int .i64 0))),none,0,[]⟩]) (RC.seq (RC.seq (RC.region 6 [
  ⟨some 65,.move (.t 8),none,0,[]⟩,
  ⟨some 66,.bin .geq (.t 65) (.c (.s (.int .i64 1))),none,1,[]⟩,
  ⟨some 67,.move (.t 66),none,2,[]⟩,
  ⟨some 68,.move (.t 8),(some (67,true)),3,[]⟩,
  ⟨some 69,.bin .leq (.t 68) (.c (.s (.int .i64 16))),(some (67,true)),4,[]⟩,
  ⟨some 70,.pick (.t 67) (.t 69) (.c (.s (.bool false))),none,5,[]⟩]) (RC.cond (.t 70) (RC.region 7 [
  ⟨some 71,.move (.t 1),none,0,[]⟩,
  ⟨some 72,.move (.t 8),none,1,[]⟩,
  ⟨some 73,.nilCheck (.t 71),none,2,[]⟩,
  ⟨some 74,.fieldAddr 3 (.t 73),none,3,[]⟩,
  ⟨some 75,.indexArr 17 1 (.t 74) (.t 72),none,4,[]⟩,
  ⟨some 76,.load none (.t 75),none,5,[]⟩,
  ⟨some 9,.move (.t 76),none,6,[]⟩]) (RC.skip))) R.detentlaw15_same_s3))) R.detentlaw15_same_s4)
def detentlaw15_same_s6 : RC :=
  RC.seq (RC.region 1 [
  ⟨some 4,.move (.c (.s (.bool true))),none,0,[]⟩]) (RC.ret)
def detentlaw15_same_s7 : RC :=
  RC.seq (RC.seq (RC.region 1 [
  ⟨some 8,.move (.c (.s (.int .i64 0))),none,0,[]⟩]) (RC.block 2 (RC.loop R.detentlaw15_same_l5))) R.detentlaw15_same_s6
def detentlaw15_same : RFunc := RFunc.mk 101 [.tmp 4] (
  RC.seq (RC.region 1 [
  ⟨some 4,.move (.c (.s (.bool false))),none,0,[]⟩]) (RC.seq (RC.seq (RC.region 1 [
  ⟨some 5,.move (.c (.s (.int .i64 0))),none,0,[]⟩]) (RC.block 0 (RC.loop R.detentlaw15_same_l2))) R.detentlaw15_same_s7))
theorem detentlaw15_same_ok : chkFunc Go.Proofs.Try.prog [] Go.Proofs.Try.f32 detentlaw15_same = true := by kernel_rfl
def mtx_All_Base : RFunc := RFunc.mk 15 [.tmp 4] (
  RC.seq (RC.region 1 [
  ⟨some 4,.move (.c (.s (.int .i64 0))),none,0,[]⟩]) (RC.seq (RC.seq (RC.region 3 [
  ⟨some 5,.move (.t 1),none,0,[]⟩,
  ⟨some 6,.call F.mtx_is [(.t 5)],none,1,[]⟩,
  ⟨some 7,.un .not (.t 6),none,2,[]⟩]) (RC.cond (.t 7) (RC.seq (RC.region 1 [
  ⟨some 4,.move (.c (.s (.int .i64 0))),none,0,[]⟩]) (RC.ret)) (RC.skip))) (RC.seq (RC.region 8 [
  ⟨some 8,.move (.t 0),none,0,[]⟩,
  ⟨some 9,.move (.t 1),none,1,[]⟩,
  ⟨some 10,.nilCheck (.t 8),none,2,[]⟩,
  ⟨some 11,.fieldAddr 1 (.t 10),none,3,[]⟩,
  ⟨some 12,.indexArr 17 3 (.t 11) (.t 9),none,4,[]⟩,
  ⟨some 13,.fieldAddr 0 (.t 12),none,5,[]⟩,
  ⟨some 14,.load none (.t 13),none,6,[]⟩,
  ⟨some 4,.move (.t 14),none,7,[]⟩]) (RC.ret))))
theorem mtx_All_Base_ok : chkFunc Go.Proofs.Try.prog [] Go.Proofs.Try.f33 mtx_All_Base = true := by kernel_rfl
def mtx_Kind_right_s0 : RC :=
  RC.cond (.t 5) (RC.seq (RC.region 4 [
  ⟨some 9,.fieldAddr 1 (.t 1),none,0,[]⟩,
  ⟨some 10,.load none (.t 9),none,1,[]⟩,
  ⟨some 11,.bin .eql (.t 10) (.c (.s (.int .i64 0))),none,2,[]⟩,
  ⟨some 2,.move (.t 11),none,3,[]⟩]) (RC.ret)) (RC.seq (RC.region 2 [
  ⟨some 13,.bin .eql (.t 4) (.c (.s (.int .i64 3))),none,0,[]⟩,
  ⟨some 12,.move (.t 13),none,1,[]⟩]) (RC.cond (.t 12) (RC.seq (RC.region 4 [
  ⟨some 14,.fieldAddr 1 (.t 1),none,0,[]⟩,
  ⟨some 15,.load none (.t 14),none,1,[]⟩,
  ⟨some 16,.call F.mtx_may [(.t 15)],none,2,[]⟩,
  ⟨some 2,.move (.t 16),none,3,[]⟩]) (RC.ret)) (RC.skip)))
def mtx_Kind_right_s1 : RC :=
  RC.seq (RC.region 1 [
  ⟨some 2,.move (.c (.s (.bool false))),none,0,[]⟩]) (RC.ret)
def mtx_Kind_right : RFunc := RFunc.mk 17 [.tmp 2] (
  RC.seq (RC.region 2 [
  ⟨some 1,.box (.t 0),none,0,[]⟩,
  ⟨some 2,.move (.c (.s (.bool false))),none,1,[]⟩]) (RC.seq (RC.seq (RC.region 2 [
  ⟨some 3,.fieldAddr 0 (.t 1),none,0,[]⟩,
  ⟨some 4,.load none (.t 3),none,1,[]⟩]) (RC.block 0 (RC.seq (RC.seq (RC.region 2 [
  ⟨some 6,.bin .eql (.t 4) (.c (.s (.int .i64 0))),none,0,[]⟩,
  ⟨some 5,.move (.t 6),none,1,[]⟩]) (RC.cond (.t 5) (RC.skip) (RC.seq (RC.region 2 [
  ⟨some 7,.bin .eql (.t 4) (.c (.s (.int .i64 1))),none,0,[]⟩,
  ⟨some 5,.move (.t 7),none,1,[]⟩]) (RC.cond (.t 5) (RC.skip) (RC.region 2 [
  ⟨some 8,.bin .eql (.t 4) (.c (.s (.int .i64 2))),none,0,[]⟩,
  ⟨some 5,.move (.t 8),none,1,[]⟩]))))) R.mtx_Kind_right_s0))) R.mtx_Kind_right_s1))
theorem mtx_Kind_right_ok : chkFunc Go.Proofs.Try.prog [] Go.Proofs.Try.f34 mtx_Kind_right = true := by kernel_rfl
def mtx_is : RFunc := RFunc.mk 9 [.tmp 2] (
  RC.seq (RC.region 1 [
  ⟨some 2,.move (.c (.s (.bool false))),none,0,[]⟩]) (RC.seq (RC.region 7 [
  ⟨some 3,.move (.t 0),none,0,[]⟩,
  ⟨some 4,.bin .geq (.t 3) (.c (.s (.int .i64 1))),none,1,[]⟩,
  ⟨some 5,.move (.t 4),none,2,[]⟩,
  ⟨some 6,.move (.t 0),(some (5,true)),3,[]⟩,
  ⟨some 7,.bin .leq (.t 6) (.c (.s (.int .i64 16))),(some (5,true)),4,[]⟩,
  ⟨some 8,.pick (.t 5) (.t 7) (.c (.s (.bool false))),none,5,[]⟩,
  ⟨some 2,.move (.t 8),none,6,[]⟩]) (RC.ret)))
theorem mtx_is_ok : chkFunc Go.Proofs.Try.prog [] Go.Proofs.Try.f35 mtx_is = true := by kernel_rfl
def mtx_may : RFunc := RFunc.mk 9 [.tmp 2] (
  RC.seq (RC.region 1 [
  ⟨some 2,.move (.c (.s (.bool false))),none,0,[]⟩]) (RC.seq (RC.region 7 [
  ⟨some 3,.move (.t 0),none,0,[]⟩,
  ⟨some 4,.bin .geq (.t 3) (.c (.s (.int .i64 1))),none,1,[]⟩,
  ⟨some 5,.move (.t 4),none,2,[]⟩,
  ⟨some 6,.move (.t 0),(some (5,true)),3,[]⟩,
  ⟨some 7,.bin .leq (.t 6) (.c (.s (.int .i64 16))),(some (5,true)),4,[]⟩,
  ⟨some 8,.pick (.t 5) (.t 7) (.c (.s (.bool false))),none,5,[]⟩,
  ⟨some 2,.move (.t 8),none,6,[]⟩]) (RC.ret)))
theorem mtx_may_ok : chkFunc Go.Proofs.Try.prog [] Go.Proofs.Try.f36 mtx_may = true := by kernel_rfl
def mtx_All_settle_l0 : RC :=
  RC.seq (RC.seq (RC.region 2 [
  ⟨some 8,.move (.t 3),none,0,[]⟩,
  ⟨some 9,.bin .leq (.t 8) (.c (.s (.int .i64 16))),none,1,[]⟩]) (RC.cond (.t 9) (RC.skip) (RC.exit 0))) (RC.seq (RC.block 1 (RC.region 6 [
  ⟨some 12,.move (.t 3),none,0,[]⟩,
  ⟨some 13,.move (.t 0),none,1,[]⟩,
  ⟨some 14,.move (.t 3),none,2,[]⟩,
  ⟨some 15,.call F.mtx_All_reckon [(.t 13),(.t 14),(.c (.s (.int .i64 0)))],none,3,[]⟩,
  ⟨some 16,.indexArr 17 1 (.t 2) (.t 12),none,4,[]⟩,
  ⟨none,.store 1 (.t 16) (.t 15),none,5,[]⟩])) (RC.region 3 [
  ⟨some 10,.move (.t 3),none,0,[]⟩,
  ⟨some 11,.bin .add (.t 10) (.c (.s (.int .i64 1))),none,1,[]⟩,
  ⟨some 3,.move (.t 11),none,2,[]⟩]))
def mtx_All_settle_l1 : RC :=
  RC.seq (RC.region 1 [
  ⟨some 37,.bin .lss (.t 36) (.t 35),none,0,[]⟩]) (RC.seq (RC.cond (.t 37) (RC.skip) (RC.exit 4)) (RC.seq (RC.block 5 (RC.seq (RC.region 3 [
  ⟨some 38,.indexSl 1 (.t 34) (.t 36),none,0,[]⟩,
  ⟨some 39,.load none (.t 38),none,1,[]⟩,
  ⟨some 6,.move (.t 39),none,2,[]⟩]) (RC.seq (RC.seq (RC.region 11 [
  ⟨some 40,.move (.t 6),none,0,[]⟩,
  ⟨some 41,.indexArr 17 1 (.t 2) (.t 40),none,1,[]⟩,
  ⟨some 42,.load none (.t 41),none,2,[]⟩,
  ⟨some 43,.move (.t 0),none,3,[]⟩,
  ⟨some 44,.move (.t 6),none,4,[]⟩,
  ⟨some 45,.nilCheck (.t 43),none,5,[]⟩,
  ⟨some 46,.fieldAddr 1 (.t 45),none,6,[]⟩,
  ⟨some 47,.indexArr 17 3 (.t 46) (.t 44),none,7,[]⟩,
  ⟨some 48,.fieldAddr 1 (.t 47),none,8,[]⟩,
  ⟨some 49,.load none (.t 48),none,9,[]⟩,
  ⟨some 50,.bin .eql (.t 42) (.t 49),none,10,[]⟩]) (RC.cond (.t 50) (RC.exit 5) (RC.skip))) (RC.seq (RC.region 4 [
  ⟨some 51,.move (.t 0),none,0,[]⟩,
  ⟨some 52,.move (.t 4),none,1,[]⟩,
  ⟨some 53,.move (.t 6),none,2,[]⟩,
  ⟨some 54,.call F.mtx_All_leave [(.t 51),(.t 52),(.t 53)],none,3,[]⟩]) (RC.seq (RC.region 10 [
  ⟨some 55,.move (.t 0),none,0,[]⟩,
  ⟨some 56,.move (.t 6),none,1,[]⟩,
  ⟨some 57,.move (.t 6),none,2,[]⟩,
  ⟨some 58,.indexArr 17 1 (.t 2) (.t 57),none,3,[]⟩,
  ⟨some 59,.load none (.t 58),none,4,[]⟩,
  ⟨some 60,.nilCheck (.t 55),none,5,[]⟩,
  ⟨some 61,.fieldAddr 1 (.t 60),none,6,[]⟩,
  ⟨some 62,.indexArr 17 3 (.t 61) (.t 56),none,7,[]⟩,
  ⟨some 63,.fieldAddr 1 (.t 62),none,8,[]⟩,
  ⟨none,.store 1 (.t 63) (.t 59),none,9,[]⟩]) (RC.region 4 [
  ⟨some 64,.move (.t 0),none,0,[]⟩,
  ⟨some 65,.move (.t 4),none,1,[]⟩,
  ⟨some 66,.move (.t 6),none,2,[]⟩,
  ⟨some 67,.call F.mtx_All_rejoin [(.t 64),(.t 65),(.t 66)],none,3,[]⟩])))))) (RC.region 2 [
  ⟨some 68,.bin .add (.t 36) (.c (.s (.int .i64 1))),none,0,[]⟩,
  ⟨some 36,.move (.t 68),none,1,[]⟩])))
def mtx_All_settle_s2 : RC :=
  RC.region 3 [
  ⟨some 24,.move (.t 4),none,0,[]⟩,
  ⟨some 25,.bin .add (.t 24) (.c (.s (.int .i64 1))),none,1,[]⟩,
  ⟨some 4,.move (.t 25),none,2,[]⟩]
def mtx_All_settle_l3 : RC :=
  RC.seq (RC.seq (RC.region 7 [
  ⟨some 17,.move (.t 4),none,0,[]⟩,
  ⟨some 18,.move (.t 0),none,1,[]⟩,
  ⟨some 19,.nilCheck (.t 18),none,2,[]⟩,
  ⟨some 20,.fieldAddr 0 (.t 19),none,3,[]⟩,
  ⟨some 21,.load none (.t 20),none,4,[]⟩,
  ⟨some 22,.len (.t 21),none,5,[]⟩,
  ⟨some 23,.bin .lss (.t 17) (.t 22),none,6,[]⟩]) (RC.cond (.t 23) (RC.skip) (RC.exit 2))) (RC.seq (RC.block 3 (RC.seq (RC.region 11 [
  ⟨some 26,.move (.t 0),none,0,[]⟩,
  ⟨some 27,.nilCheck (.t 26),none,1,[]⟩,
  ⟨some 28,.fieldAddr 0 (.t 27),none,2,[]⟩,
  ⟨some 29,.load none (.t 28),none,3,[]⟩,
  ⟨some 30,.move (.t 4),none,4,[]⟩,
  ⟨some 31,.indexSl 4 (.t 29) (.t 30),none,5,[]⟩,
  ⟨some 32,.fieldAddr 3 (.t 31),none,6,[]⟩,
  ⟨some 33,.load none (.t 32),none,7,[]⟩,
  ⟨some 34,.call F.slices_Clone__int_int [(.t 33)],none,8,[]⟩,
  ⟨some 35,.len (.t 34),none,9,[]⟩,
  ⟨some 36,.move (.c (.s (.int .i64 0))),none,10,[]⟩]) (RC.block 4 (RC.loop R.mtx_All_settle_l1)))) R.mtx_All_settle_s2)
def mtx_All_settle_l4 : RC :=
  RC.seq (RC.seq (RC.region 2 [
  ⟨some 69,.move (.t 7),none,0,[]⟩,
  ⟨some 70,.bin .leq (.t 69) (.c (.s (.int .i64 16))),none,1,[]⟩]) (RC.cond (.t 70) (RC.skip) (RC.exit 6))) (RC.seq (RC.block 7 (RC.region 10 [
  ⟨some 73,.move (.t 0),none,0,[]⟩,
  ⟨some 74,.move (.t 7),none,1,[]⟩,
  ⟨some 75,.move (.t 7),none,2,[]⟩,
  ⟨some 76,.indexArr 17 1 (.t 2) (.t 75),none,3,[]⟩,
  ⟨some 77,.load none (.t 76),none,4,[]⟩,
  ⟨some 78,.nilCheck (.t 73),none,5,[]⟩,
  ⟨some 79,.fieldAddr 1 (.t 78),none,6,[]⟩,
  ⟨some 80,.indexArr 17 3 (.t 79) (.t 74),none,7,[]⟩,
  ⟨some 81,.fieldAddr 1 (.t 80),none,8,[]⟩,
  ⟨none,.store 1 (.t 81) (.t 77),none,9,[]⟩])) (RC.region 3 [
  ⟨some 71,.move (.t 7),none,0,[]⟩,
  ⟨some 72,.bin .add (.t 71) (.c (.s (.int .i64 1))),none,1,[]⟩,
  ⟨some 7,.move (.t 72),none,2,[]⟩]))
def mtx_All_settle_s5 : RC :=
  RC.seq (RC.region 1 [
  ⟨some 7,.move (.c (.s (.int .i64 1))),none,0,[]⟩]) (RC.block 6 (RC.loop R.mtx_All_settle_l4))
def mtx_All_settle_s6 : RC :=
  RC.seq (RC.seq (RC.region 1 [
  ⟨some 4,.move (.c (.s (.int .i64 1))),none,0,[]⟩]) (RC.block 2 (RC.loop R.mtx_All_settle_l3))) R.mtx_All_settle_s5
def mtx_All_settle : RFunc := RFunc.mk 82 [] (
  RC.seq (RC.region 1 [
  ⟨some 2,.newc [.int .i64 0,.int .i64 0,.int .i64 0,.int .i64 0,.int .i64 0,.int .i64 0,.int .i64 0,.int .i64 0,.int .i64 0,.int .i64 0,.int .i64 0,.int .i64 0,.int .i64 0,.int .i64 0,.int .i64 0,.int .i64 0,.int .i64 0],none,0,[]⟩]) (RC.seq (RC.seq (RC.region 1 [
  ⟨some 3,.move (.c (.s (.int .i64 1))),none,0,[]⟩]) (RC.block 0 (RC.loop R.mtx_All_settle_l0))) R.mtx_All_settle_s6))
theorem mtx_All_settle_ok : chkFunc Go.Proofs.Try.prog [] Go.Proofs.Try.f37 mtx_All_settle = true := by kernel_rfl
def mtx_All_over_l0 : RC :=
  RC.seq (RC.region 1 [
  ⟨some 9,.bin .lss (.t 8) (.c (.s (.int .i64 17))),none,0,[]⟩]) (RC.seq (RC.cond (.t 9) (RC.skip) (RC.exit 0)) (RC.seq (RC.block 1 (RC.seq (RC.region 8 [
  ⟨some 10,.move (.t 0),none,0,[]⟩,
  ⟨some 11,.move (.t 1),none,1,[]⟩,
  ⟨some 12,.nilCheck (.t 10),none,2,[]⟩,
  ⟨some 13,.fieldAddr 1 (.t 12),none,3,[]⟩,
  ⟨some 14,.indexArr 17 3 (.t 13) (.t 11),none,4,[]⟩,
  ⟨some 15,.fieldAddr 2 (.t 14),none,5,[]⟩,
  ⟨some 16,.load none (.t 15),none,6,[]⟩,
  ⟨some 7,.move (.t 16),none,7,[]⟩]) (RC.seq (RC.seq (RC.region 2 [
  ⟨some 17,.move (.t 7),none,0,[]⟩,
  ⟨some 18,.bin .eql (.t 17) (.c (.s (.int .i64 0))),none,1,[]⟩]) (RC.cond (.t 18) (RC.seq (RC.region 1 [
  ⟨some 6,.move (.c (.s (.bool false))),none,0,[]⟩]) (RC.ret)) (RC.skip))) (RC.seq (RC.seq (RC.region 9 [
  ⟨some 19,.move (.t 0),none,0,[]⟩,
  ⟨some 20,.nilCheck (.t 19),none,1,[]⟩,
  ⟨some 21,.fieldAddr 0 (.t 20),none,2,[]⟩,
  ⟨some 22,.load none (.t 21),none,3,[]⟩,
  ⟨some 23,.move (.t 7),none,4,[]⟩,
  ⟨some 24,.indexSl 4 (.t 22) (.t 23),none,5,[]⟩,
  ⟨some 25,.fieldAddr 2 (.t 24),none,6,[]⟩,
  ⟨some 26,.load none (.t 25),none,7,[]⟩,
  ⟨some 1,.move (.t 26),none,8,[]⟩]) (RC.seq (RC.region 3 [
  ⟨some 27,.move (.t 1),none,0,[]⟩,
  ⟨some 28,.move (.t 2),none,1,[]⟩,
  ⟨some 29,.bin .eql (.t 27) (.t 28),none,2,[]⟩]) (RC.cond (.t 29) (RC.seq (RC.region 1 [
  ⟨some 6,.move (.c (.s (.bool true))),none,0,[]⟩]) (RC.ret)) (RC.skip)))) (RC.seq (RC.region 2 [
  ⟨some 30,.move (.t 1),none,0,[]⟩,
  ⟨some 31,.bin .eql (.t 30) (.c (.s (.int .i64 0))),none,1,[]⟩]) (RC.cond (.t 31) (RC.seq (RC.region 1 [
  ⟨some 6,.move (.c (.s (.bool false))),none,0,[]⟩]) (RC.ret)) (RC.skip))))))) (RC.region 2 [
  ⟨some 32,.bin .add (.t 8) (.c (.s (.int .i64 1))),none,0,[]⟩,
  ⟨some 8,.move (.t 32),none,1,[]⟩])))
def mtx_All_over_s1 : RC :=
  RC.seq (RC.region 1 [
  ⟨some 6,.move (.c (.s (.bool false))),none,0,[]⟩]) (RC.ret)
def mtx_All_over : RFunc := RFunc.mk 33 [.tmp 6] (
  RC.seq (RC.region 1 [
  ⟨some 6,.move (.c (.s (.bool false))),none,0,[]⟩]) (RC.seq (RC.seq (RC.region 1 [
  ⟨some 8,.move (.c (.s (.int .i64 0))),none,0,[]⟩]) (RC.block 0 (RC.loop R.mtx_All_over_l0))) R.mtx_All_over_s1))
theorem mtx_All_over_ok : chkFunc Go.Proofs.Try.prog [] Go.Proofs.Try.f38 mtx_All_over = true := by kernel_rfl
def mtx_All_stand_l0 : RC :=
  RC.seq (RC.seq (RC.region 34 [
  ⟨some 19,.move (.t 6),none,0,[]⟩,
  ⟨some 20,.nilCheck (.t 19),none,1,[]⟩,
  ⟨some 21,.fieldAddr 0 (.t 20),none,2,[]⟩,
  ⟨some 22,.fieldAddr 0 (.t 21),none,3,[]⟩,
  ⟨some 23,.load none (.t 22),none,4,[]⟩,
  ⟨some 24,.bin .neq (.t 23) (.c (.s (.int .i64 0))),none,5,[]⟩,
  ⟨some 25,.move (.t 24),none,6,[]⟩,
  ⟨some 26,.move (.t 7),(some (25,true)),7,[]⟩,
  ⟨some 27,.bin .gtr (.t 26) (.c (.s (.int .i64 0))),(some (25,true)),8,[]⟩,
  ⟨some 28,.pick (.t 25) (.t 27) (.c (.s (.bool false))),none,9,[]⟩,
  ⟨some 29,.move (.t 28),none,10,[]⟩,
  ⟨some 30,.move (.t 0),(some (29,true)),11,[]⟩,
  ⟨some 31,.move (.t 6),(some (29,true)),12,[]⟩,
  ⟨some 32,.nilCheck (.t 31),(some (29,true)),13,[]⟩,
  ⟨some 33,.fieldAddr 3 (.t 32),(some (29,true)),14,[]⟩,
  ⟨some 34,.load none (.t 33),(some (29,true)),15,[]⟩,
  ⟨some 35,.move (.t 7),(some (29,true)),16,[]⟩,
  ⟨some 36,.bin .sub (.t 35) (.c (.s (.int .i64 1))),(some (29,true)),17,[]⟩,
  ⟨some 37,.indexSl 1 (.t 34) (.t 36),(some (29,true)),18,[]⟩,
  ⟨some 38,.load none (.t 37),(some (29,true)),19,[]⟩,
  ⟨some 39,.nilCheck (.t 30),(some (29,true)),20,[]⟩,
  ⟨some 40,.fieldAddr 1 (.t 39),(some (29,true)),21,[]⟩,
  ⟨some 41,.indexArr 17 3 (.t 40) (.t 38),(some (29,true)),22,[]⟩,
  ⟨some 42,.fieldAddr 1 (.t 41),(some (29,true)),23,[]⟩,
  ⟨some 43,.load none (.t 42),(some (29,true)),24,[]⟩,
  ⟨some 44,.move (.t 0),(some (29,true)),25,[]⟩,
  ⟨some 45,.move (.t 2),(some (29,true)),26,[]⟩,
  ⟨some 46,.nilCheck (.t 44),(some (29,true)),27,[]⟩,
  ⟨some 47,.fieldAddr 1 (.t 46),(some (29,true)),28,[]⟩,
  ⟨some 48,.indexArr 17 3 (.t 47) (.t 45),(some (29,true)),29,[]⟩,
  ⟨some 49,.fieldAddr 1 (.t 48),(some (29,true)),30,[]⟩,
  ⟨some 50,.load none (.t 49),(some (29,true)),31,[]⟩,
  ⟨some 51,.bin .gtr (.t 43) (.t 50),(some (29,true)),32,[]⟩,
  ⟨some 52,.pick (.t 29) (.t 51) (.c (.s (.bool false))),none,33,[]⟩]) (RC.cond (.t 52) (RC.skip) (RC.exit 0))) (RC.block 1 (RC.region 3 [
  ⟨some 53,.move (.t 7),none,0,[]⟩,
  ⟨some 54,.bin .sub (.t 53) (.c (.s (.int .i64 1))),none,1,[]⟩,
  ⟨some 7,.move (.t 54),none,2,[]⟩]))
def mtx_All_stand_s1 : RC :=
  RC.region 12 [
  ⟨some 55,.move (.t 6),none,0,[]⟩,
  ⟨some 56,.move (.t 6),none,1,[]⟩,
  ⟨some 57,.nilCheck (.t 56),none,2,[]⟩,
  ⟨some 58,.fieldAddr 3 (.t 57),none,3,[]⟩,
  ⟨some 59,.load none (.t 58),none,4,[]⟩,
  ⟨some 60,.move (.t 7),none,5,[]⟩,
  ⟨some 61,.move (.t 2),none,6,[]⟩,
  ⟨some 62,.buildSlice 1 1 [.int .i64 0] [(0,1,(.t 61))],none,7,[]⟩,
  ⟨some 63,.call F.slices_Insert__int_int [(.t 59),(.t 60),(.t 62)],none,8,[]⟩,
  ⟨some 64,.nilCheck (.t 55),none,9,[]⟩,
  ⟨some 65,.fieldAddr 3 (.t 64),none,10,[]⟩,
  ⟨none,.store 1 (.t 65) (.t 63),none,11,[]⟩]
def mtx_All_stand : RFunc := RFunc.mk 66 [] (
  RC.seq (RC.region 7 [
  ⟨some 8,.move (.t 0),none,0,[]⟩,
  ⟨some 9,.nilCheck (.t 8),none,1,[]⟩,
  ⟨some 10,.fieldAddr 0 (.t 9),none,2,[]⟩,
  ⟨some 11,.load none (.t 10),none,3,[]⟩,
  ⟨some 12,.move (.t 1),none,4,[]⟩,
  ⟨some 13,.indexSl 4 (.t 11) (.t 12),none,5,[]⟩,
  ⟨some 6,.move (.t 13),none,6,[]⟩]) (RC.seq (RC.region 6 [
  ⟨some 14,.move (.t 6),none,0,[]⟩,
  ⟨some 15,.nilCheck (.t 14),none,1,[]⟩,
  ⟨some 16,.fieldAddr 3 (.t 15),none,2,[]⟩,
  ⟨some 17,.load none (.t 16),none,3,[]⟩,
  ⟨some 18,.len (.t 17),none,4,[]⟩,
  ⟨some 7,.move (.t 18),none,5,[]⟩]) (RC.seq (RC.block 0 (RC.loop R.mtx_All_stand_l0)) R.mtx_All_stand_s1)))
theorem mtx_All_stand_ok : chkFunc Go.Proofs.Try.prog [] Go.Proofs.Try.f39 mtx_All_stand = true := by kernel_rfl
def mtx_All_in : RFunc := RFunc.mk 16 [.tmp 4] (
  RC.seq (RC.region 1 [
  ⟨some 4,.move (.c (.s (.bool false))),none,0,[]⟩]) (RC.seq (RC.region 12 [
  ⟨some 5,.move (.t 1),none,0,[]⟩,
  ⟨some 6,.bin .geq (.t 5) (.c (.s (.int .i64 1))),none,1,[]⟩,
  ⟨some 7,.move (.t 6),none,2,[]⟩,
  ⟨some 8,.move (.t 1),(some (7,true)),3,[]⟩,
  ⟨some 9,.move (.t 0),(some (7,true)),4,[]⟩,
  ⟨some 10,.nilCheck (.t 9),(some (7,true)),5,[]⟩,
  ⟨some 11,.fieldAddr 0 (.t 10),(some (7,true)),6,[]⟩,
  ⟨some 12,.load none (.t 11),(some (7,true)),7,[]⟩,
  ⟨some 13,.len (.t 12),(some (7,true)),8,[]⟩,
  ⟨some 14,.bin .lss (.t 8) (.t 13),(some (7,true)),9,[]⟩,
  ⟨some 15,.pick (.t 7) (.t 14) (.c (.s (.bool false))),none,10,[]⟩,
  ⟨some 4,.move (.t 15),none,11,[]⟩]) (RC.ret)))
theorem mtx_All_in_ok : chkFunc Go.Proofs.Try.prog [] Go.Proofs.Try.f40 mtx_All_in = true := by kernel_rfl
def slices_Delete__int_int : RFunc := RFunc.mk 33 [.tmp 6] (
  RC.seq (RC.region 1 [
  ⟨some 6,.move (.c (.s (.slice none 0 0 1))),none,0,[]⟩]) (RC.seq (RC.region 6 [
  ⟨some 8,.move (.t 0),none,0,[]⟩,
  ⟨some 9,.move (.t 1),none,1,[]⟩,
  ⟨some 10,.move (.t 2),none,2,[]⟩,
  ⟨some 11,.move (.t 0),none,3,[]⟩,
  ⟨some 12,.len (.t 11),none,4,[]⟩,
  ⟨some 13,.slSl 1 (.t 8) (some (.t 9)) (some (.t 10)) (some (.t 12)),none,5,[]⟩]) (RC.seq (RC.seq (RC.region 3 [
  ⟨some 14,.move (.t 1),none,0,[]⟩,
  ⟨some 15,.move (.t 2),none,1,[]⟩,
  ⟨some 16,.bin .eql (.t 14) (.t 15),none,2,[]⟩]) (RC.cond (.t 16) (RC.seq (RC.region 2 [
  ⟨some 17,.move (.t 0),none,0,[]⟩,
  ⟨some 6,.move (.t 17),none,1,[]⟩]) (RC.ret)) (RC.skip))) (RC.seq (RC.region 3 [
  ⟨some 18,.move (.t 0),none,0,[]⟩,
  ⟨some 19,.len (.t 18),none,1,[]⟩,
  ⟨some 7,.move (.t 19),none,2,[]⟩]) (RC.seq (RC.region 8 [
  ⟨some 20,.move (.t 0),none,0,[]⟩,
  ⟨some 21,.move (.t 1),none,1,[]⟩,
  ⟨some 22,.slSl 1 (.t 20) none (some (.t 21)) none,none,2,[]⟩,
  ⟨some 23,.move (.t 0),none,3,[]⟩,
  ⟨some 24,.move (.t 2),none,4,[]⟩,
  ⟨some 25,.slSl 1 (.t 23) (some (.t 24)) none none,none,5,[]⟩,
  ⟨some 26,.append 1 8 (.t 22) (.t 25),none,6,[]⟩,
  ⟨some 0,.move (.t 26),none,7,[]⟩]) (RC.seq (RC.region 6 [
  ⟨some 27,.move (.t 0),none,0,[]⟩,
  ⟨some 28,.move (.t 0),none,1,[]⟩,
  ⟨some 29,.len (.t 28),none,2,[]⟩,
  ⟨some 30,.move (.t 7),none,3,[]⟩,
  ⟨some 31,.slSl 1 (.t 27) (some (.t 29)) (some (.t 30)) none,none,4,[]⟩,
  ⟨none,.clear 1 [.int .i64 0] (.t 31),none,5,[]⟩]) (RC.seq (RC.region 2 [
  ⟨some 32,.move (.t 0),none,0,[]⟩,
  ⟨some 6,.move (.t 32),none,1,[]⟩]) (RC.ret))))))))
theorem slices_Delete__int_int_ok : chkFunc Go.Proofs.Try.prog [] Go.Proofs.Try.f41 slices_Delete__int_int = true := by kernel_rfl
def slices_Clip__int_int : RFunc := RFunc.mk 9 [.tmp 2] (
  RC.seq (RC.region 1 [
  ⟨some 2,.move (.c (.s (.slice none 0 0 1))),none,0,[]⟩]) (RC.seq (RC.region 7 [
  ⟨some 3,.move (.t 0),none,0,[]⟩,
  ⟨some 4,.move (.t 0),none,1,[]⟩,
  ⟨some 5,.len (.t 4),none,2,[]⟩,
  ⟨some 6,.move (.t 0),none,3,[]⟩,
  ⟨some 7,.len (.t 6),none,4,[]⟩,
  ⟨some 8,.slSl 1 (.t 3) none (some (.t 5)) (some (.t 7)),none,5,[]⟩,
  ⟨some 2,.move (.t 8),none,6,[]⟩]) (RC.ret)))
theorem slices_Clip__int_int_ok : chkFunc Go.Proofs.Try.prog [] Go.Proofs.Try.f42 slices_Clip__int_int = true := by kernel_rfl
def slices_Clone__int_int : RFunc := RFunc.mk 8 [.tmp 2] (
  RC.seq (RC.region 1 [
  ⟨some 2,.move (.c (.s (.slice none 0 0 1))),none,0,[]⟩]) (RC.seq (RC.seq (RC.region 2 [
  ⟨some 3,.move (.t 0),none,0,[]⟩,
  ⟨some 4,.eqs .slice false (.t 3) (.c (.s (.slice none 0 0 1))),none,1,[]⟩]) (RC.cond (.t 4) (RC.seq (RC.region 1 [
  ⟨some 2,.move (.c (.s (.slice none 0 0 1))),none,0,[]⟩]) (RC.ret)) (RC.skip))) (RC.seq (RC.region 4 [
  ⟨some 5,.buildSlice 1 0 [] [],none,0,[]⟩,
  ⟨some 6,.move (.t 0),none,1,[]⟩,
  ⟨some 7,.append 1 8 (.t 5) (.t 6),none,2,[]⟩,
  ⟨some 2,.move (.t 7),none,3,[]⟩]) (RC.ret))))
theorem slices_Clone__int_int_ok : chkFunc Go.Proofs.Try.prog [] Go.Proofs.Try.f43 slices_Clone__int_int = true := by kernel_rfl
def detentref15_All_try : RFunc := RFunc.mk 83 [.tmp 6,.tmp 7] (
  RC.seq (RC.region 2 [
  ⟨some 6,.move (.c (.s (.bool false))),none,0,[]⟩,
  ⟨some 7,.move (.c (.s (.int .i64 0))),none,1,[]⟩]) (RC.seq (RC.block 0 (RC.seq (RC.region 10 [
  ⟨some 9,.move (.t 0),none,0,[]⟩,
  ⟨some 10,.move (.t 1),none,1,[]⟩,
  ⟨some 11,.call F.detentref15_All_mutex [(.t 9),(.t 10)],none,2,[]⟩,
  ⟨some 12,.un .not (.t 11),none,3,[]⟩,
  ⟨some 13,.move (.t 12),none,4,[]⟩,
  ⟨some 14,.move (.t 2),(some (13,false)),5,[]⟩,
  ⟨some 15,.call F.detentref15_is [(.t 14)],(some (13,false)),6,[]⟩,
  ⟨some 16,.un .not (.t 15),(some (13,false)),7,[]⟩,
  ⟨some 17,.pick (.t 13) (.c (.s (.bool true))) (.t 16),none,8,[]⟩,
  ⟨some 8,.move (.t 17),none,9,[]⟩]) (RC.cond (.t 8) (RC.seq (RC.region 2 [
  ⟨some 6,.move (.c (.s (.bool false))),none,0,[]⟩,
  ⟨some 7,.move (.c (.s (.int .i64 (-18)))),none,1,[]⟩]) (RC.ret)) (RC.seq (RC.region 11 [
  ⟨some 19,.move (.t 0),none,0,[]⟩,
  ⟨some 20,.nilCheck (.t 19),none,1,[]⟩,
  ⟨some 21,.fieldAddr 1 (.t 20),none,2,[]⟩,
  ⟨some 22,.load none (.t 21),none,3,[]⟩,
  ⟨some 23,.move (.t 1),none,4,[]⟩,
  ⟨some 24,.bin .sub (.t 23) (.c (.s (.int .i64 1))),none,5,[]⟩,
  ⟨some 25,.indexSl 1 (.t 22) (.t 24),none,6,[]⟩,
  ⟨some 26,.load none (.t 25),none,7,[]⟩,
  ⟨some 27,.move (.t 2),none,8,[]⟩,
  ⟨some 28,.bin .eql (.t 26) (.t 27),none,9,[]⟩,
  ⟨some 18,.move (.t 28),none,10,[]⟩]) (RC.cond (.t 18) (RC.seq (RC.region 2 [
  ⟨some 6,.move (.c (.s (.bool false))),none,0,[]⟩,
  ⟨some 7,.move (.c (.s (.int .i64 (-28)))),none,1,[]⟩]) (RC.ret)) (RC.seq (RC.region 29 [
  ⟨some 30,.move (.t 0),none,0,[]⟩,
  ⟨some 31,.nilCheck (.t 30),none,1,[]⟩,
  ⟨some 32,.fieldAddr 0 (.t 31),none,2,[]⟩,
  ⟨some 33,.load none (.t 32),none,3,[]⟩,
  ⟨some 34,.move (.t 1),none,4,[]⟩,
  ⟨some 35,.bin .sub (.t 34) (.c (.s (.int .i64 1))),none,5,[]⟩,
  ⟨some 36,.indexSl 2 (.t 33) (.t 35),none,6,[]⟩,
  ⟨some 37,.fieldAddr 0 (.t 36),none,7,[]⟩,
  ⟨some 38,.load none (.t 37),none,8,[]⟩,
  ⟨some 39,.bin .eql (.t 38) (.c (.s (.int .i64 3))),none,9,[]⟩,
  ⟨some 40,.move (.t 39),none,10,[]⟩,
  ⟨some 41,.move (.t 0),(some (40,true)),11,[]⟩,
  ⟨some 42,.move (.t 2),(some (40,true)),12,[]⟩,
  ⟨some 43,.nilCheck (.t 41),(some (40,true)),13,[]⟩,
  ⟨some 44,.fieldAddr 3 (.t 43),(some (40,true)),14,[]⟩,
  ⟨some 45,.indexArr 17 1 (.t 44) (.t 42),(some (40,true)),15,[]⟩,
  ⟨some 46,.load none (.t 45),(some (40,true)),16,[]⟩,
  ⟨some 47,.move (.t 0),(some (40,true)),17,[]⟩,
  ⟨some 48,.nilCheck (.t 47),(some (40,true)),18,[]⟩,
  ⟨some 49,.fieldAddr 0 (.t 48),(some (40,true)),19,[]⟩,
  ⟨some 50,.load none (.t 49),(some (40,true)),20,[]⟩,
  ⟨some 51,.move (.t 1),(some (40,true)),21,[]⟩,
  ⟨some 52,.bin .sub (.t 51) (.c (.s (.int .i64 1))),(some (40,true)),22,[]⟩,
  ⟨some 53,.indexSl 2 (.t 50) (.t 52),(some (40,true)),23,[]⟩,
  ⟨some 54,.fieldAddr 1 (.t 53),(some (40,true)),24,[]⟩,
  ⟨some 55,.load none (.t 54),(some (40,true)),25,[]⟩,
  ⟨some 56,.bin .lss (.t 46) (.t 55),(some (40,true)),26,[]⟩,
  ⟨some 57,.pick (.t 40) (.t 56) (.c (.s (.bool false))),none,27,[]⟩,
  ⟨some 29,.move (.t 57),none,28,[]⟩]) (RC.cond (.t 29) (RC.seq (RC.region 2 [
  ⟨some 6,.move (.c (.s (.bool false))),none,0,[]⟩,
  ⟨some 7,.move (.c (.s (.int .i64 (-28)))),none,1,[]⟩]) (RC.ret)) (RC.seq (RC.region 5 [
  ⟨some 59,.move (.t 0),none,0,[]⟩,
  ⟨some 60,.move (.t 2),none,1,[]⟩,
  ⟨some 61,.call F.detentref15_All_waits [(.t 59),(.t 60)],none,2,[]⟩,
  ⟨some 62,.bin .geq (.t 61) (.c (.s (.int .i64 0))),none,3,[]⟩,
  ⟨some 58,.move (.t 62),none,4,[]⟩]) (RC.cond (.t 58) (RC.seq (RC.region 2 [
  ⟨some 6,.move (.c (.s (.bool false))),none,0,[]⟩,
  ⟨some 7,.move (.c (.s (.int .i64 (-41)))),none,1,[]⟩]) (RC.ret)) (RC.seq (RC.region 10 [
  ⟨some 64,.move (.t 0),none,0,[]⟩,
  ⟨some 65,.nilCheck (.t 64),none,1,[]⟩,
  ⟨some 66,.fieldAddr 1 (.t 65),none,2,[]⟩,
  ⟨some 67,.load none (.t 66),none,3,[]⟩,
  ⟨some 68,.move (.t 1),none,4,[]⟩,
  ⟨some 69,.bin .sub (.t 68) (.c (.s (.int .i64 1))),none,5,[]⟩,
  ⟨some 70,.indexSl 1 (.t 67) (.t 69),none,6,[]⟩,
  ⟨some 71,.load none (.t 70),none,7,[]⟩,
  ⟨some 72,.bin .eql (.t 71) (.c (.s (.int .i64 0))),none,8,[]⟩,
  ⟨some 63,.move (.t 72),none,9,[]⟩]) (RC.cond (.t 63) (RC.seq (RC.region 9 [
  ⟨some 73,.move (.t 0),none,0,[]⟩,
  ⟨some 74,.nilCheck (.t 73),none,1,[]⟩,
  ⟨some 75,.fieldAddr 1 (.t 74),none,2,[]⟩,
  ⟨some 76,.load none (.t 75),none,3,[]⟩,
  ⟨some 77,.move (.t 1),none,4,[]⟩,
  ⟨some 78,.bin .sub (.t 77) (.c (.s (.int .i64 1))),none,5,[]⟩,
  ⟨some 79,.move (.t 2),none,6,[]⟩,
  ⟨some 80,.indexSl 1 (.t 76) (.t 78),none,7,[]⟩,
  ⟨none,.store 1 (.t 80) (.t 79),none,8,[]⟩]) (RC.seq (RC.region 2 [
  ⟨some 81,.move (.t 0),none,0,[]⟩,
  ⟨some 82,.call F.detentref15_All_settle [(.t 81)],none,1,[]⟩]) (RC.seq (RC.region 2 [
  ⟨some 6,.move (.c (.s (.bool true))),none,0,[]⟩,
  ⟨some 7,.move (.c (.s (.int .i64 0))),none,1,[]⟩]) (RC.ret)))) (RC.skip)))))))))))) (RC.seq (RC.region 2 [
  ⟨some 6,.move (.c (.s (.bool false))),none,0,[]⟩,
  ⟨some 7,.move (.c (.s (.int .i64 0))),none,1,[]⟩]) (RC.ret))))
theorem detentref15_All_try_ok : chkFunc Go.Proofs.Try.prog [] Go.Proofs.Try.f44 detentref15_All_try = true := by kernel_rfl
def detentref15_All_round_l0 : RC :=
  RC.seq (RC.seq (RC.region 6 [
  ⟨some 17,.move (.t 8),none,0,[]⟩,
  ⟨some 18,.bin .leq (.t 17) (.c (.s (.int .i64 16))),none,1,[]⟩,
  ⟨some 19,.move (.t 18),none,2,[]⟩,
  ⟨some 20,.move (.t 7),(some (19,true)),3,[]⟩,
  ⟨some 21,.bin .neq (.t 20) (.c (.s (.int .i64 0))),(some (19,true)),4,[]⟩,
  ⟨some 22,.pick (.t 19) (.t 21) (.c (.s (.bool false))),none,5,[]⟩]) (RC.cond (.t 22) (RC.skip) (RC.exit 0))) (RC.seq (RC.block 1 (RC.seq (RC.seq (RC.region 3 [
  ⟨some 25,.move (.t 7),none,0,[]⟩,
  ⟨some 26,.move (.t 2),none,1,[]⟩,
  ⟨some 27,.bin .eql (.t 25) (.t 26),none,2,[]⟩]) (RC.cond (.t 27) (RC.seq (RC.region 1 [
  ⟨some 6,.move (.c (.s (.bool true))),none,0,[]⟩]) (RC.ret)) (RC.skip))) (RC.seq (RC.region 4 [
  ⟨some 28,.move (.t 0),none,0,[]⟩,
  ⟨some 29,.move (.t 7),none,1,[]⟩,
  ⟨some 30,.call F.detentref15_All_waits [(.t 28),(.t 29)],none,2,[]⟩,
  ⟨some 9,.move (.t 30),none,3,[]⟩]) (RC.seq (RC.seq (RC.region 2 [
  ⟨some 31,.move (.t 9),none,0,[]⟩,
  ⟨some 32,.bin .lss (.t 31) (.c (.s (.int .i64 0))),none,1,[]⟩]) (RC.cond (.t 32) (RC.seq (RC.region 1 [
  ⟨some 6,.move (.c (.s (.bool false))),none,0,[]⟩]) (RC.ret)) (RC.skip))) (RC.region 8 [
  ⟨some 33,.move (.t 0),none,0,[]⟩,
  ⟨some 34,.nilCheck (.t 33),none,1,[]⟩,
  ⟨some 35,.fieldAddr 1 (.t 34),none,2,[]⟩,
  ⟨some 36,.load none (.t 35),none,3,[]⟩,
  ⟨some 37,.move (.t 9),none,4,[]⟩,
  ⟨some 38,.indexSl 1 (.t 36) (.t 37),none,5,[]⟩,
  ⟨some 39,.load none (.t 38),none,6,[]⟩,
  ⟨some 7,.move (.t 39),none,7,[]⟩]))))) (RC.region 3 [
  ⟨some 23,.move (.t 8),none,0,[]⟩,
  ⟨some 24,.bin .add (.t 23) (.c (.s (.int .i64 1))),none,1,[]⟩,
  ⟨some 8,.move (.t 24),none,2,[]⟩]))
def detentref15_All_round_s1 : RC :=
  RC.seq (RC.region 1 [
  ⟨some 6,.move (.c (.s (.bool false))),none,0,[]⟩]) (RC.ret)
def detentref15_All_round : RFunc := RFunc.mk 40 [.tmp 6] (
  RC.seq (RC.region 1 [
  ⟨some 6,.move (.c (.s (.bool false))),none,0,[]⟩]) (RC.seq (RC.region 8 [
  ⟨some 10,.move (.t 0),none,0,[]⟩,
  ⟨some 11,.nilCheck (.t 10),none,1,[]⟩,
  ⟨some 12,.fieldAddr 1 (.t 11),none,2,[]⟩,
  ⟨some 13,.load none (.t 12),none,3,[]⟩,
  ⟨some 14,.move (.t 1),none,4,[]⟩,
  ⟨some 15,.indexSl 1 (.t 13) (.t 14),none,5,[]⟩,
  ⟨some 16,.load none (.t 15),none,6,[]⟩,
  ⟨some 7,.move (.t 16),none,7,[]⟩]) (RC.seq (RC.seq (RC.region 1 [
  ⟨some 8,.move (.c (.s (.int .i64 0))),none,0,[]⟩]) (RC.block 0 (RC.loop R.detentref15_All_round_l0))) R.detentref15_All_round_s1)))
theorem detentref15_All_round_ok : chkFunc Go.Proofs.Try.prog [] Go.Proofs.Try.f45 detentref15_All_round = true := by kernel_rfl
def detentref4_Queue_Add : RFunc := RFunc.mk 20 [.tmp 6] (
  RC.seq (RC.region 1 [
  ⟨some 6,.move (.c (.s (.int .i64 0))),none,0,[]⟩]) (RC.seq (RC.seq (RC.region 4 [
  ⟨some 7,.move (.t 1),none,0,[]⟩,
  ⟨some 8,.move (.t 2),none,1,[]⟩,
  ⟨some 9,.call F.detentref4_Good [(.t 7),(.t 8)],none,2,[]⟩,
  ⟨some 10,.un .not (.t 9),none,3,[]⟩]) (RC.cond (.t 10) (RC.seq (RC.region 1 [
  ⟨some 6,.move (.c (.s (.int .i64 (-17)))),none,0,[]⟩]) (RC.ret)) (RC.skip))) (RC.seq (RC.seq (RC.region 4 [
  ⟨some 11,.move (.t 0),none,0,[]⟩,
  ⟨some 12,.move (.t 1),none,1,[]⟩,
  ⟨some 13,.call F.detentref4_Queue_At [(.t 11),(.t 12)],none,2,[]⟩,
  ⟨some 14,.bin .geq (.t 13) (.c (.s (.int .i64 0))),none,3,[]⟩]) (RC.cond (.t 14) (RC.seq (RC.region 1 [
  ⟨some 6,.move (.c (.s (.int .i64 (-41)))),none,0,[]⟩]) (RC.ret)) (RC.skip))) (RC.seq (RC.region 5 [
  ⟨some 15,.move (.t 0),none,0,[]⟩,
  ⟨some 16,.move (.t 1),none,1,[]⟩,
  ⟨some 17,.move (.t 2),none,2,[]⟩,
  ⟨some 18,.build [.int .i64 0,.int .i64 0] [(0,1,(.t 16)),(1,1,(.t 17))],none,3,[]⟩,
  ⟨some 19,.call F.detentref4_Queue_put [(.t 15),(.t 18)],none,4,[]⟩]) (RC.seq (RC.region 1 [
  ⟨some 6,.move (.c (.s (.int .i64 0))),none,0,[]⟩]) (RC.ret))))))
theorem detentref4_Queue_Add_ok : chkFunc Go.Proofs.Try.prog [] Go.Proofs.Try.f46 detentref4_Queue_Add = true := by kernel_rfl
def detentref15_All_Pri : RFunc := RFunc.mk 14 [.tmp 4] (
  RC.seq (RC.region 1 [
  ⟨some 4,.move (.c (.s (.int .i64 0))),none,0,[]⟩]) (RC.seq (RC.seq (RC.region 6 [
  ⟨some 5,.move (.t 1),none,0,[]⟩,
  ⟨some 6,.bin .lss (.t 5) (.c (.s (.int .i64 1))),none,1,[]⟩,
  ⟨some 7,.move (.t 6),none,2,[]⟩,
  ⟨some 8,.move (.t 1),(some (7,false)),3,[]⟩,
  ⟨some 9,.bin .gtr (.t 8) (.c (.s (.int .i64 16))),(some (7,false)),4,[]⟩,
  ⟨some 10,.pick (.t 7) (.c (.s (.bool true))) (.t 9),none,5,[]⟩]) (RC.cond (.t 10) (RC.seq (RC.region 1 [
  ⟨some 4,.move (.c (.s (.int .i64 0))),none,0,[]⟩]) (RC.ret)) (RC.skip))) (RC.seq (RC.region 4 [
  ⟨some 11,.move (.t 0),none,0,[]⟩,
  ⟨some 12,.move (.t 1),none,1,[]⟩,
  ⟨some 13,.call F.detentref15_All_pri [(.t 11),(.t 12),(.c (.s (.int .i64 16)))],none,2,[]⟩,
  ⟨some 4,.move (.t 13),none,3,[]⟩]) (RC.ret))))
theorem detentref15_All_Pri_ok : chkFunc Go.Proofs.Try.prog [] Go.Proofs.Try.f47 detentref15_All_Pri = true := by kernel_rfl
def detentref15_All_settle_l0 : RC :=
  RC.seq (RC.seq (RC.region 2 [
  ⟨some 7,.move (.t 3),none,0,[]⟩,
  ⟨some 8,.bin .leq (.t 7) (.c (.s (.int .i64 16))),none,1,[]⟩]) (RC.cond (.t 8) (RC.skip) (RC.exit 0))) (RC.seq (RC.block 1 (RC.region 6 [
  ⟨some 11,.move (.t 3),none,0,[]⟩,
  ⟨some 12,.move (.t 0),none,1,[]⟩,
  ⟨some 13,.move (.t 3),none,2,[]⟩,
  ⟨some 14,.call F.detentref15_All_Pri [(.t 12),(.t 13)],none,3,[]⟩,
  ⟨some 15,.indexArr 17 1 (.t 2) (.t 11),none,4,[]⟩,
  ⟨none,.store 1 (.t 15) (.t 14),none,5,[]⟩])) (RC.region 3 [
  ⟨some 9,.move (.t 3),none,0,[]⟩,
  ⟨some 10,.bin .add (.t 9) (.c (.s (.int .i64 1))),none,1,[]⟩,
  ⟨some 3,.move (.t 10),none,2,[]⟩]))
def detentref15_All_settle_l1 : RC :=
  RC.seq (RC.seq (RC.region 4 [
  ⟨some 33,.move (.t 6),none,0,[]⟩,
  ⟨some 34,.move (.t 5),none,1,[]⟩,
  ⟨some 35,.len (.t 34),none,2,[]⟩,
  ⟨some 36,.bin .lss (.t 33) (.t 35),none,3,[]⟩]) (RC.cond (.t 36) (RC.skip) (RC.exit 4))) (RC.seq (RC.block 5 (RC.seq (RC.region 16 [
  ⟨some 39,.move (.t 5),none,0,[]⟩,
  ⟨some 40,.move (.t 6),none,1,[]⟩,
  ⟨some 41,.indexSl 1 (.t 39) (.t 40),none,2,[]⟩,
  ⟨some 42,.load none (.t 41),none,3,[]⟩,
  ⟨some 43,.indexArr 17 1 (.t 2) (.t 42),none,4,[]⟩,
  ⟨some 44,.load none (.t 43),none,5,[]⟩,
  ⟨some 45,.move (.t 0),none,6,[]⟩,
  ⟨some 46,.move (.t 5),none,7,[]⟩,
  ⟨some 47,.move (.t 6),none,8,[]⟩,
  ⟨some 48,.indexSl 1 (.t 46) (.t 47),none,9,[]⟩,
  ⟨some 49,.load none (.t 48),none,10,[]⟩,
  ⟨some 50,.nilCheck (.t 45),none,11,[]⟩,
  ⟨some 51,.fieldAddr 20 (.t 50),none,12,[]⟩,
  ⟨some 52,.indexArr 17 1 (.t 51) (.t 49),none,13,[]⟩,
  ⟨some 53,.load none (.t 52),none,14,[]⟩,
  ⟨some 54,.bin .neq (.t 44) (.t 53),none,15,[]⟩]) (RC.cond (.t 54) (RC.region 18 [
  ⟨some 55,.move (.t 0),none,0,[]⟩,
  ⟨some 56,.nilCheck (.t 55),none,1,[]⟩,
  ⟨some 57,.fieldAddr 2 (.t 56),none,2,[]⟩,
  ⟨some 58,.load none (.t 57),none,3,[]⟩,
  ⟨some 59,.move (.t 4),none,4,[]⟩,
  ⟨some 60,.indexSl 1 (.t 58) (.t 59),none,5,[]⟩,
  ⟨some 61,.load none (.t 60),none,6,[]⟩,
  ⟨some 62,.move (.t 5),none,7,[]⟩,
  ⟨some 63,.move (.t 6),none,8,[]⟩,
  ⟨some 64,.indexSl 1 (.t 62) (.t 63),none,9,[]⟩,
  ⟨some 65,.load none (.t 64),none,10,[]⟩,
  ⟨some 66,.move (.t 5),none,11,[]⟩,
  ⟨some 67,.move (.t 6),none,12,[]⟩,
  ⟨some 68,.indexSl 1 (.t 66) (.t 67),none,13,[]⟩,
  ⟨some 69,.load none (.t 68),none,14,[]⟩,
  ⟨some 70,.indexArr 17 1 (.t 2) (.t 69),none,15,[]⟩,
  ⟨some 71,.load none (.t 70),none,16,[]⟩,
  ⟨some 72,.call F.detentref4_Queue_Change [(.t 61),(.t 65),(.t 71)],none,17,[]⟩]) (RC.skip)))) (RC.region 3 [
  ⟨some 37,.move (.t 6),none,0,[]⟩,
  ⟨some 38,.bin .add (.t 37) (.c (.s (.int .i64 1))),none,1,[]⟩,
  ⟨some 6,.move (.t 38),none,2,[]⟩]))
def detentref15_All_settle_s2 : RC :=
  RC.region 3 [
  ⟨some 23,.move (.t 4),none,0,[]⟩,
  ⟨some 24,.bin .add (.t 23) (.c (.s (.int .i64 1))),none,1,[]⟩,
  ⟨some 4,.move (.t 24),none,2,[]⟩]
def detentref15_All_settle_l3 : RC :=
  RC.seq (RC.seq (RC.region 7 [
  ⟨some 16,.move (.t 4),none,0,[]⟩,
  ⟨some 17,.move (.t 0),none,1,[]⟩,
  ⟨some 18,.nilCheck (.t 17),none,2,[]⟩,
  ⟨some 19,.fieldAddr 2 (.t 18),none,3,[]⟩,
  ⟨some 20,.load none (.t 19),none,4,[]⟩,
  ⟨some 21,.len (.t 20),none,5,[]⟩,
  ⟨some 22,.bin .lss (.t 16) (.t 21),none,6,[]⟩]) (RC.cond (.t 22) (RC.skip) (RC.exit 2))) (RC.seq (RC.block 3 (RC.seq (RC.region 9 [
  ⟨some 25,.move (.t 0),none,0,[]⟩,
  ⟨some 26,.nilCheck (.t 25),none,1,[]⟩,
  ⟨some 27,.fieldAddr 2 (.t 26),none,2,[]⟩,
  ⟨some 28,.load none (.t 27),none,3,[]⟩,
  ⟨some 29,.move (.t 4),none,4,[]⟩,
  ⟨some 30,.indexSl 1 (.t 28) (.t 29),none,5,[]⟩,
  ⟨some 31,.load none (.t 30),none,6,[]⟩,
  ⟨some 32,.call F.detentref4_Queue_IDs [(.t 31)],none,7,[]⟩,
  ⟨some 5,.move (.t 32),none,8,[]⟩]) (RC.seq (RC.region 1 [
  ⟨some 6,.move (.c (.s (.int .i64 0))),none,0,[]⟩]) (RC.block 4 (RC.loop R.detentref15_All_settle_l1))))) R.detentref15_All_settle_s2)
def detentref15_All_settle_s4 : RC :=
  RC.region 5 [
  ⟨some 73,.move (.t 0),none,0,[]⟩,
  ⟨some 74,.load (some 17) (.t 2),none,1,[]⟩,
  ⟨some 75,.nilCheck (.t 73),none,2,[]⟩,
  ⟨some 76,.fieldAddr 20 (.t 75),none,3,[]⟩,
  ⟨none,.store 17 (.t 76) (.t 74),none,4,[]⟩]
def detentref15_All_settle_s5 : RC :=
  RC.seq (RC.seq (RC.region 1 [
  ⟨some 4,.move (.c (.s (.int .i64 0))),none,0,[]⟩]) (RC.block 2 (RC.loop R.detentref15_All_settle_l3))) R.detentref15_All_settle_s4
def detentref15_All_settle : RFunc := RFunc.mk 77 [] (
  RC.seq (RC.region 1 [
  ⟨some 2,.newc [.int .i64 0,.int .i64 0,.int .i64 0,.int .i64 0,.int .i64 0,.int .i64 0,.int .i64 0,.int .i64 0,.int .i64 0,.int .i64 0,.int .i64 0,.int .i64 0,.int .i64 0,.int .i64 0,.int .i64 0,.int .i64 0,.int .i64 0],none,0,[]⟩]) (RC.seq (RC.seq (RC.region 1 [
  ⟨some 3,.move (.c (.s (.int .i64 1))),none,0,[]⟩]) (RC.block 0 (RC.loop R.detentref15_All_settle_l0))) R.detentref15_All_settle_s5))
theorem detentref15_All_settle_ok : chkFunc Go.Proofs.Try.prog [] Go.Proofs.Try.f48 detentref15_All_settle = true := by kernel_rfl
def detentref15_All_mutex : RFunc := RFunc.mk 16 [.tmp 4] (
  RC.seq (RC.region 1 [
  ⟨some 4,.move (.c (.s (.bool false))),none,0,[]⟩]) (RC.seq (RC.region 12 [
  ⟨some 5,.move (.t 1),none,0,[]⟩,
  ⟨some 6,.bin .geq (.t 5) (.c (.s (.int .i64 1))),none,1,[]⟩,
  ⟨some 7,.move (.t 6),none,2,[]⟩,
  ⟨some 8,.move (.t 1),(some (7,true)),3,[]⟩,
  ⟨some 9,.move (.t 0),(some (7,true)),4,[]⟩,
  ⟨some 10,.nilCheck (.t 9),(some (7,true)),5,[]⟩,
  ⟨some 11,.fieldAddr 0 (.t 10),(some (7,true)),6,[]⟩,
  ⟨some 12,.load none (.t 11),(some (7,true)),7,[]⟩,
  ⟨some 13,.len (.t 12),(some (7,true)),8,[]⟩,
  ⟨some 14,.bin .leq (.t 8) (.t 13),(some (7,true)),9,[]⟩,
  ⟨some 15,.pick (.t 7) (.t 14) (.c (.s (.bool false))),none,10,[]⟩,
  ⟨some 4,.move (.t 15),none,11,[]⟩]) (RC.ret)))
theorem detentref15_All_mutex_ok : chkFunc Go.Proofs.Try.prog [] Go.Proofs.Try.f49 detentref15_All_mutex = true := by kernel_rfl
def detentref15_is : RFunc := RFunc.mk 9 [.tmp 2] (
  RC.seq (RC.region 1 [
  ⟨some 2,.move (.c (.s (.bool false))),none,0,[]⟩]) (RC.seq (RC.region 7 [
  ⟨some 3,.move (.t 0),none,0,[]⟩,
  ⟨some 4,.bin .geq (.t 3) (.c (.s (.int .i64 1))),none,1,[]⟩,
  ⟨some 5,.move (.t 4),none,2,[]⟩,
  ⟨some 6,.move (.t 0),(some (5,true)),3,[]⟩,
  ⟨some 7,.bin .leq (.t 6) (.c (.s (.int .i64 16))),(some (5,true)),4,[]⟩,
  ⟨some 8,.pick (.t 5) (.t 7) (.c (.s (.bool false))),none,5,[]⟩,
  ⟨some 2,.move (.t 8),none,6,[]⟩]) (RC.ret)))
theorem detentref15_is_ok : chkFunc Go.Proofs.Try.prog [] Go.Proofs.Try.f50 detentref15_is = true := by kernel_rfl
def detentref15_All_pass : RFunc := RFunc.mk 28 [.tmp 4] (
  RC.seq (RC.region 1 [
  ⟨some 4,.move (.c (.s (.int .i64 0))),none,0,[]⟩]) (RC.seq (RC.region 14 [
  ⟨some 8,.move (.t 0),none,0,[]⟩,
  ⟨some 9,.nilCheck (.t 8),none,1,[]⟩,
  ⟨some 10,.fieldAddr 2 (.t 9),none,2,[]⟩,
  ⟨some 11,.load none (.t 10),none,3,[]⟩,
  ⟨some 12,.move (.t 1),none,4,[]⟩,
  ⟨some 13,.indexSl 1 (.t 11) (.t 12),none,5,[]⟩,
  ⟨some 14,.load none (.t 13),none,6,[]⟩,
  ⟨some 15,.call F.detentref4_Queue_Take [(.t 14)],none,7,[]⟩,
  ⟨some 7,.move (.t 15),none,8,[]⟩,
  ⟨some 16,.extract 0 (.t 7),none,9,[]⟩,
  ⟨some 17,.extract 1 (.t 7),none,10,[]⟩,
  ⟨some 5,.newc [.int .i64 0,.int .i64 0],none,11,[]⟩,
  ⟨none,.store 2 (.t 5) (.t 16),none,12,[]⟩,
  ⟨some 6,.move (.t 17),none,13,[]⟩]) (RC.seq (RC.region 9 [
  ⟨some 18,.move (.t 0),none,0,[]⟩,
  ⟨some 19,.nilCheck (.t 18),none,1,[]⟩,
  ⟨some 20,.fieldAddr 1 (.t 19),none,2,[]⟩,
  ⟨some 21,.load none (.t 20),none,3,[]⟩,
  ⟨some 22,.move (.t 1),none,4,[]⟩,
  ⟨some 23,.fieldAddr 0 (.t 5),none,5,[]⟩,
  ⟨some 24,.load none (.t 23),none,6,[]⟩,
  ⟨some 25,.indexSl 1 (.t 21) (.t 22),none,7,[]⟩,
  ⟨none,.store 1 (.t 25) (.t 24),none,8,[]⟩]) (RC.seq (RC.region 3 [
  ⟨some 26,.fieldAddr 0 (.t 5),none,0,[]⟩,
  ⟨some 27,.load none (.t 26),none,1,[]⟩,
  ⟨some 4,.move (.t 27),none,2,[]⟩]) (RC.ret)))))
theorem detentref15_All_pass_ok : chkFunc Go.Proofs.Try.prog [] Go.Proofs.Try.f51 detentref15_All_pass = true := by kernel_rfl
def detentref4_Queue_At_l0 : RC :=
  RC.seq (RC.seq (RC.region 7 [
  ⟨some 6,.move (.t 5),none,0,[]⟩,
  ⟨some 7,.move (.t 0),none,1,[]⟩,
  ⟨some 8,.nilCheck (.t 7),none,2,[]⟩,
  ⟨some 9,.fieldAddr 1 (.t 8),none,3,[]⟩,
  ⟨some 10,.load none (.t 9),none,4,[]⟩,
  ⟨some 11,.len (.t 10),none,5,[]⟩,
  ⟨some 12,.bin .lss (.t 6) (.t 11),none,6,[]⟩]) (RC.cond (.t 12) (RC.skip) (RC.exit 0))) (RC.seq (RC.block 1 (RC.seq (RC.region 10 [
  ⟨some 15,.move (.t 0),none,0,[]⟩,
  ⟨some 16,.nilCheck (.t 15),none,1,[]⟩,
  ⟨some 17,.fieldAddr 1 (.t 16),none,2,[]⟩,
  ⟨some 18,.load none (.t 17),none,3,[]⟩,
  ⟨some 19,.move (.t 5),none,4,[]⟩,
  ⟨some 20,.indexSl 2 (.t 18) (.t 19),none,5,[]⟩,
  ⟨some 21,.fieldAddr 0 (.t 20),none,6,[]⟩,
  ⟨some 22,.load none (.t 21),none,7,[]⟩,
  ⟨some 23,.move (.t 1),none,8,[]⟩,
  ⟨some 24,.bin .eql (.t 22) (.t 23),none,9,[]⟩]) (RC.cond (.t 24) (RC.seq (RC.region 2 [
  ⟨some 25,.move (.t 5),none,0,[]⟩,
  ⟨some 4,.move (.t 25),none,1,[]⟩]) (RC.ret)) (RC.skip)))) (RC.region 3 [
  ⟨some 13,.move (.t 5),none,0,[]⟩,
  ⟨some 14,.bin .add (.t 13) (.c (.s (.int .i64 1))),none,1,[]⟩,
  ⟨some 5,.move (.t 14),none,2,[]⟩]))
def detentref4_Queue_At_s1 : RC :=
  RC.seq (RC.region 1 [
  ⟨some 4,.move (.c (.s (.int .i64 (-1)))),none,0,[]⟩]) (RC.ret)
def detentref4_Queue_At : RFunc := RFunc.mk 26 [.tmp 4] (
  RC.seq (RC.region 1 [
  ⟨some 4,.move (.c (.s (.int .i64 0))),none,0,[]⟩]) (RC.seq (RC.seq (RC.region 1 [
  ⟨some 5,.move (.c (.s (.int .i64 0))),none,0,[]⟩]) (RC.block 0 (RC.loop R.detentref4_Queue_At_l0))) R.detentref4_Queue_At_s1))
theorem detentref4_Queue_At_ok : chkFunc Go.Proofs.Try.prog [] Go.Proofs.Try.f52 detentref4_Queue_At = true := by kernel_rfl
def slices_DeleteFunc__int_int_l0 : RC :=
  RC.seq (RC.seq (RC.region 4 [
  ⟨some 16,.move (.t 6),none,0,[]⟩,
  ⟨some 17,.move (.t 0),none,1,[]⟩,
  ⟨some 18,.len (.t 17),none,2,[]⟩,
  ⟨some 19,.bin .lss (.t 16) (.t 18),none,3,[]⟩]) (RC.cond (.t 19) (RC.skip) (RC.exit 0))) (RC.seq (RC.block 1 (RC.seq (RC.region 5 [
  ⟨some 22,.move (.t 0),none,0,[]⟩,
  ⟨some 23,.move (.t 6),none,1,[]⟩,
  ⟨some 24,.indexSl 1 (.t 22) (.t 23),none,2,[]⟩,
  ⟨some 25,.load none (.t 24),none,3,[]⟩,
  ⟨some 7,.move (.t 25),none,4,[]⟩]) (RC.seq (RC.region 4 [
  ⟨some 26,.move (.t 1),none,0,[]⟩,
  ⟨some 27,.move (.t 7),none,1,[]⟩,
  ⟨some 28,.callv (.t 26) [(.t 27)],none,2,[]⟩,
  ⟨some 29,.un .not (.t 28),none,3,[]⟩]) (RC.cond (.t 29) (RC.seq (RC.region 5 [
  ⟨some 30,.move (.t 0),none,0,[]⟩,
  ⟨some 31,.move (.t 5),none,1,[]⟩,
  ⟨some 32,.move (.t 7),none,2,[]⟩,
  ⟨some 33,.indexSl 1 (.t 30) (.t 31),none,3,[]⟩,
  ⟨none,.store 1 (.t 33) (.t 32),none,4,[]⟩]) (RC.region 3 [
  ⟨some 34,.move (.t 5),none,0,[]⟩,
  ⟨some 35,.bin .add (.t 34) (.c (.s (.int .i64 1))),none,1,[]⟩,
  ⟨some 5,.move (.t 35),none,2,[]⟩])) (RC.skip))))) (RC.region 3 [
  ⟨some 20,.move (.t 6),none,0,[]⟩,
  ⟨some 21,.bin .add (.t 20) (.c (.s (.int .i64 1))),none,1,[]⟩,
  ⟨some 6,.move (.t 21),none,2,[]⟩]))
def slices_DeleteFunc__int_int_s1 : RC :=
  RC.seq (RC.region 4 [
  ⟨some 36,.move (.t 0),none,0,[]⟩,
  ⟨some 37,.move (.t 5),none,1,[]⟩,
  ⟨some 38,.slSl 1 (.t 36) (some (.t 37)) none none,none,2,[]⟩,
  ⟨none,.clear 1 [.int .i64 0] (.t 38),none,3,[]⟩]) (RC.seq (RC.region 4 [
  ⟨some 39,.move (.t 0),none,0,[]⟩,
  ⟨some 40,.move (.t 5),none,1,[]⟩,
  ⟨some 41,.slSl 1 (.t 39) none (some (.t 40)) none,none,2,[]⟩,
  ⟨some 4,.move (.t 41),none,3,[]⟩]) (RC.ret))
def slices_DeleteFunc__int_int : RFunc := RFunc.mk 42 [.tmp 4] (
  RC.seq (RC.region 1 [
  ⟨some 4,.move (.c (.s (.slice none 0 0 1))),none,0,[]⟩]) (RC.seq (RC.region 4 [
  ⟨some 8,.move (.t 0),none,0,[]⟩,
  ⟨some 9,.move (.t 1),none,1,[]⟩,
  ⟨some 10,.call F.slices_IndexFunc__int_int [(.t 8),(.t 9)],none,2,[]⟩,
  ⟨some 5,.move (.t 10),none,3,[]⟩]) (RC.seq (RC.seq (RC.region 2 [
  ⟨some 11,.move (.t 5),none,0,[]⟩,
  ⟨some 12,.bin .eql (.t 11) (.c (.s (.int .i64 (-1)))),none,1,[]⟩]) (RC.cond (.t 12) (RC.seq (RC.region 2 [
  ⟨some 13,.move (.t 0),none,0,[]⟩,
  ⟨some 4,.move (.t 13),none,1,[]⟩]) (RC.ret)) (RC.skip))) (RC.seq (RC.seq (RC.region 3 [
  ⟨some 14,.move (.t 5),none,0,[]⟩,
  ⟨some 15,.bin .add (.t 14) (.c (.s (.int .i64 1))),none,1,[]⟩,
  ⟨some 6,.move (.t 15),none,2,[]⟩]) (RC.block 0 (RC.loop R.slices_DeleteFunc__int_int_l0))) R.slices_DeleteFunc__int_int_s1))))
theorem slices_DeleteFunc__int_int_ok : chkFunc Go.Proofs.Try.prog [] Go.Proofs.Try.f53 slices_DeleteFunc__int_int = true := by kernel_rfl
def mtx_All_Drop_1 : RFunc := RFunc.mk 7 [.tmp 3] (
  RC.seq (RC.region 1 [
  ⟨some 3,.move (.c (.s (.bool false))),none,0,[]⟩]) (RC.seq (RC.region 4 [
  ⟨some 4,.move (.t 0),none,0,[]⟩,
  ⟨some 5,.load none (.t 1),none,1,[]⟩,
  ⟨some 6,.bin .eql (.t 4) (.t 5),none,2,[]⟩,
  ⟨some 3,.move (.t 6),none,3,[]⟩]) (RC.ret)))
theorem mtx_All_Drop_1_ok : chkFunc Go.Proofs.Try.prog [] Go.Proofs.Try.f54 mtx_All_Drop_1 = true := by kernel_rfl
def detentref15_All_waits_l0 : RC :=
  RC.seq (RC.seq (RC.region 7 [
  ⟨some 6,.move (.t 5),none,0,[]⟩,
  ⟨some 7,.move (.t 0),none,1,[]⟩,
  ⟨some 8,.nilCheck (.t 7),none,2,[]⟩,
  ⟨some 9,.fieldAddr 2 (.t 8),none,3,[]⟩,
  ⟨some 10,.load none (.t 9),none,4,[]⟩,
  ⟨some 11,.len (.t 10),none,5,[]⟩,
  ⟨some 12,.bin .lss (.t 6) (.t 11),none,6,[]⟩]) (RC.cond (.t 12) (RC.skip) (RC.exit 0))) (RC.seq (RC.block 1 (RC.seq (RC.region 10 [
  ⟨some 15,.move (.t 0),none,0,[]⟩,
  ⟨some 16,.nilCheck (.t 15),none,1,[]⟩,
  ⟨some 17,.fieldAddr 2 (.t 16),none,2,[]⟩,
  ⟨some 18,.load none (.t 17),none,3,[]⟩,
  ⟨some 19,.move (.t 5),none,4,[]⟩,
  ⟨some 20,.indexSl 1 (.t 18) (.t 19),none,5,[]⟩,
  ⟨some 21,.load none (.t 20),none,6,[]⟩,
  ⟨some 22,.move (.t 1),none,7,[]⟩,
  ⟨some 23,.call F.detentref4_Queue_At [(.t 21),(.t 22)],none,8,[]⟩,
  ⟨some 24,.bin .geq (.t 23) (.c (.s (.int .i64 0))),none,9,[]⟩]) (RC.cond (.t 24) (RC.seq (RC.region 2 [
  ⟨some 25,.move (.t 5),none,0,[]⟩,
  ⟨some 4,.move (.t 25),none,1,[]⟩]) (RC.ret)) (RC.skip)))) (RC.region 3 [
  ⟨some 13,.move (.t 5),none,0,[]⟩,
  ⟨some 14,.bin .add (.t 13) (.c (.s (.int .i64 1))),none,1,[]⟩,
  ⟨some 5,.move (.t 14),none,2,[]⟩]))
def detentref15_All_waits_s1 : RC :=
  RC.seq (RC.region 1 [
  ⟨some 4,.move (.c (.s (.int .i64 (-1)))),none,0,[]⟩]) (RC.ret)
def detentref15_All_waits : RFunc := RFunc.mk 26 [.tmp 4] (
  RC.seq (RC.region 1 [
  ⟨some 4,.move (.c (.s (.int .i64 0))),none,0,[]⟩]) (RC.seq (RC.seq (RC.region 1 [
  ⟨some 5,.move (.c (.s (.int .i64 0))),none,0,[]⟩]) (RC.block 0 (RC.loop R.detentref15_All_waits_l0))) R.detentref15_All_waits_s1))
theorem detentref15_All_waits_ok : chkFunc Go.Proofs.Try.prog [] Go.Proofs.Try.f55 detentref15_All_waits = true := by kernel_rfl
def detentref4_Queue_Remove : RFunc := RFunc.mk 32 [.tmp 4] (
  RC.seq (RC.region 1 [
  ⟨some 4,.move (.c (.s (.bool false))),none,0,[]⟩]) (RC.seq (RC.region 4 [
  ⟨some 7,.move (.t 0),none,0,[]⟩,
  ⟨some 8,.move (.t 1),none,1,[]⟩,
  ⟨some 9,.call F.detentref4_Queue_At [(.t 7),(.t 8)],none,2,[]⟩,
  ⟨some 5,.move (.t 9),none,3,[]⟩]) (RC.seq (RC.seq (RC.region 2 [
  ⟨some 10,.move (.t 5),none,0,[]⟩,
  ⟨some 11,.bin .lss (.t 10) (.c (.s (.int .i64 0))),none,1,[]⟩]) (RC.cond (.t 11) (RC.seq (RC.region 1 [
  ⟨some 4,.move (.c (.s (.bool false))),none,0,[]⟩]) (RC.ret)) (RC.skip))) (RC.seq (RC.region 9 [
  ⟨some 12,.buildSlice 2 0 [] [],none,0,[]⟩,
  ⟨some 13,.move (.t 0),none,1,[]⟩,
  ⟨some 14,.nilCheck (.t 13),none,2,[]⟩,
  ⟨some 15,.fieldAddr 1 (.t 14),none,3,[]⟩,
  ⟨some 16,.load none (.t 15),none,4,[]⟩,
  ⟨some 17,.move (.t 5),none,5,[]⟩,
  ⟨some 18,.slSl 2 (.t 16) none (some (.t 17)) none,none,6,[]⟩,
  ⟨some 19,.append 2 16 (.t 12) (.t 18),none,7,[]⟩,
  ⟨some 6,.move (.t 19),none,8,[]⟩]) (RC.seq (RC.region 13 [
  ⟨some 20,.move (.t 0),none,0,[]⟩,
  ⟨some 21,.move (.t 6),none,1,[]⟩,
  ⟨some 22,.move (.t 0),none,2,[]⟩,
  ⟨some 23,.nilCheck (.t 22),none,3,[]⟩,
  ⟨some 24,.fieldAddr 1 (.t 23),none,4,[]⟩,
  ⟨some 25,.load none (.t 24),none,5,[]⟩,
  ⟨some 26,.move (.t 5),none,6,[]⟩,
  ⟨some 27,.bin .add (.t 26) (.c (.s (.int .i64 1))),none,7,[]⟩,
  ⟨some 28,.slSl 2 (.t 25) (some (.t 27)) none none,none,8,[]⟩,
  ⟨some 29,.append 2 16 (.t 21) (.t 28),none,9,[]⟩,
  ⟨some 30,.nilCheck (.t 20),none,10,[]⟩,
  ⟨some 31,.fieldAddr 1 (.t 30),none,11,[]⟩,
  ⟨none,.store 1 (.t 31) (.t 29),none,12,[]⟩]) (RC.seq (RC.region 1 [
  ⟨some 4,.move (.c (.s (.bool true))),none,0,[]⟩]) (RC.ret)))))))
theorem detentref4_Queue_Remove_ok : chkFunc Go.Proofs.Try.prog [] Go.Proofs.Try.f56 detentref4_Queue_Remove = true := by kernel_rfl
def slices_Clone__mtx_mutex_mtx_mutex : RFunc := RFunc.mk 8 [.tmp 2] (
  RC.seq (RC.region 1 [
  ⟨some 2,.move (.c (.s (.slice none 0 0 1))),none,0,[]⟩]) (RC.seq (RC.seq (RC.region 2 [
  ⟨some 3,.move (.t 0),none,0,[]⟩,
  ⟨some 4,.eqs .slice false (.t 3) (.c (.s (.slice none 0 0 1))),none,1,[]⟩]) (RC.cond (.t 4) (RC.seq (RC.region 1 [
  ⟨some 2,.move (.c (.s (.slice none 0 0 1))),none,0,[]⟩]) (RC.ret)) (RC.skip))) (RC.seq (RC.region 4 [
  ⟨some 5,.buildSlice 4 0 [] [],none,0,[]⟩,
  ⟨some 6,.move (.t 0),none,1,[]⟩,
  ⟨some 7,.append 4 48 (.t 5) (.t 6),none,2,[]⟩,
  ⟨some 2,.move (.t 7),none,3,[]⟩]) (RC.ret))))
theorem slices_Clone__mtx_mutex_mtx_mutex_ok : chkFunc Go.Proofs.Try.prog [] Go.Proofs.Try.f57 slices_Clone__mtx_mutex_mtx_mutex = true := by kernel_rfl
def detentref4_Queue_IDs_l0 : RC :=
  RC.seq (RC.seq (RC.region 7 [
  ⟨some 5,.move (.t 4),none,0,[]⟩,
  ⟨some 6,.move (.t 0),none,1,[]⟩,
  ⟨some 7,.nilCheck (.t 6),none,2,[]⟩,
  ⟨some 8,.fieldAddr 1 (.t 7),none,3,[]⟩,
  ⟨some 9,.load none (.t 8),none,4,[]⟩,
  ⟨some 10,.len (.t 9),none,5,[]⟩,
  ⟨some 11,.bin .lss (.t 5) (.t 10),none,6,[]⟩]) (RC.cond (.t 11) (RC.skip) (RC.exit 0))) (RC.seq (RC.block 1 (RC.region 12 [
  ⟨some 14,.move (.t 3),none,0,[]⟩,
  ⟨some 15,.move (.t 0),none,1,[]⟩,
  ⟨some 16,.nilCheck (.t 15),none,2,[]⟩,
  ⟨some 17,.fieldAddr 1 (.t 16),none,3,[]⟩,
  ⟨some 18,.load none (.t 17),none,4,[]⟩,
  ⟨some 19,.move (.t 4),none,5,[]⟩,
  ⟨some 20,.indexSl 2 (.t 18) (.t 19),none,6,[]⟩,
  ⟨some 21,.fieldAddr 0 (.t 20),none,7,[]⟩,
  ⟨some 22,.load none (.t 21),none,8,[]⟩,
  ⟨some 23,.buildSlice 1 1 [.int .i64 0] [(0,1,(.t 22))],none,9,[]⟩,
  ⟨some 24,.append 1 8 (.t 14) (.t 23),none,10,[]⟩,
  ⟨some 3,.move (.t 24),none,11,[]⟩])) (RC.region 3 [
  ⟨some 12,.move (.t 4),none,0,[]⟩,
  ⟨some 13,.bin .add (.t 12) (.c (.s (.int .i64 1))),none,1,[]⟩,
  ⟨some 4,.move (.t 13),none,2,[]⟩]))
def detentref4_Queue_IDs_s1 : RC :=
  RC.seq (RC.region 2 [
  ⟨some 25,.move (.t 3),none,0,[]⟩,
  ⟨some 2,.move (.t 25),none,1,[]⟩]) (RC.ret)
def detentref4_Queue_IDs : RFunc := RFunc.mk 26 [.tmp 2] (
  RC.seq (RC.region 1 [
  ⟨some 2,.move (.c (.s (.slice none 0 0 1))),none,0,[]⟩]) (RC.seq (RC.region 1 [
  ⟨some 3,.move (.c (.s (.slice none 0 0 1))),none,0,[]⟩]) (RC.seq (RC.seq (RC.region 1 [
  ⟨some 4,.move (.c (.s (.int .i64 0))),none,0,[]⟩]) (RC.block 0 (RC.loop R.detentref4_Queue_IDs_l0))) R.detentref4_Queue_IDs_s1)))
theorem detentref4_Queue_IDs_ok : chkFunc Go.Proofs.Try.prog [] Go.Proofs.Try.f58 detentref4_Queue_IDs = true := by kernel_rfl
def detentref15_All_Held_l0 : RC :=
  RC.seq (RC.seq (RC.region 11 [
  ⟨some 7,.move (.t 6),none,0,[]⟩,
  ⟨some 8,.move (.t 0),none,1,[]⟩,
  ⟨some 9,.nilCheck (.t 8),none,2,[]⟩,
  ⟨some 10,.fieldAddr 0 (.t 9),none,3,[]⟩,
  ⟨some 11,.load none (.t 10),none,4,[]⟩,
  ⟨some 12,.len (.t 11),none,5,[]⟩,
  ⟨some 13,.bin .lss (.t 7) (.t 12),none,6,[]⟩,
  ⟨some 14,.move (.t 13),none,7,[]⟩,
  ⟨some 15,.move (.t 1),(some (14,true)),8,[]⟩,
  ⟨some 16,.call F.detentref15_is [(.t 15)],(some (14,true)),9,[]⟩,
  ⟨some 17,.pick (.t 14) (.t 16) (.c (.s (.bool false))),none,10,[]⟩]) (RC.cond (.t 17) (RC.skip) (RC.exit 0))) (RC.seq (RC.block 1 (RC.seq (RC.region 9 [
  ⟨some 20,.move (.t 0),none,0,[]⟩,
  ⟨some 21,.nilCheck (.t 20),none,1,[]⟩,
  ⟨some 22,.fieldAddr 1 (.t 21),none,2,[]⟩,
  ⟨some 23,.load none (.t 22),none,3,[]⟩,
  ⟨some 24,.move (.t 6),none,4,[]⟩,
  ⟨some 25,.indexSl 1 (.t 23) (.t 24),none,5,[]⟩,
  ⟨some 26,.load none (.t 25),none,6,[]⟩,
  ⟨some 27,.move (.t 1),none,7,[]⟩,
  ⟨some 28,.bin .eql (.t 26) (.t 27),none,8,[]⟩]) (RC.cond (.t 28) (RC.region 6 [
  ⟨some 29,.move (.t 5),none,0,[]⟩,
  ⟨some 30,.move (.t 6),none,1,[]⟩,
  ⟨some 31,.bin .add (.t 30) (.c (.s (.int .i64 1))),none,2,[]⟩,
  ⟨some 32,.buildSlice 1 1 [.int .i64 0] [(0,1,(.t 31))],none,3,[]⟩,
  ⟨some 33,.append 1 8 (.t 29) (.t 32),none,4,[]⟩,
  ⟨some 5,.move (.t 33),none,5,[]⟩]) (RC.skip)))) (RC.region 3 [
  ⟨some 18,.move (.t 6),none,0,[]⟩,
  ⟨some 19,.bin .add (.t 18) (.c (.s (.int .i64 1))),none,1,[]⟩,
  ⟨some 6,.move (.t 19),none,2,[]⟩]))
def detentref15_All_Held_s1 : RC :=
  RC.seq (RC.region 2 [
  ⟨some 34,.move (.t 5),none,0,[]⟩,
  ⟨some 4,.move (.t 34),none,1,[]⟩]) (RC.ret)
def detentref15_All_Held : RFunc := RFunc.mk 35 [.tmp 4] (
  RC.seq (RC.region 1 [
  ⟨some 4,.move (.c (.s (.slice none 0 0 1))),none,0,[]⟩]) (RC.seq (RC.region 1 [
  ⟨some 5,.move (.c (.s (.slice none 0 0 1))),none,0,[]⟩]) (RC.seq (RC.seq (RC.region 1 [
  ⟨some 6,.move (.c (.s (.int .i64 0))),none,0,[]⟩]) (RC.block 0 (RC.loop R.detentref15_All_Held_l0))) R.detentref15_All_Held_s1)))
theorem detentref15_All_Held_ok : chkFunc Go.Proofs.Try.prog [] Go.Proofs.Try.f59 detentref15_All_Held = true := by kernel_rfl
def mtx_All_reckon_l0 : RC :=
  RC.seq (RC.region 1 [
  ⟨some 57,.bin .lss (.t 56) (.t 55),none,0,[]⟩]) (RC.seq (RC.cond (.t 57) (RC.skip) (RC.exit 3)) (RC.seq (RC.block 4 (RC.seq (RC.region 3 [
  ⟨some 58,.indexSl 1 (.t 54) (.t 56),none,0,[]⟩,
  ⟨some 59,.load none (.t 58),none,1,[]⟩,
  ⟨some 11,.move (.t 59),none,2,[]⟩]) (RC.region 8 [
  ⟨some 60,.move (.t 7),none,0,[]⟩,
  ⟨some 61,.move (.t 0),none,1,[]⟩,
  ⟨some 62,.move (.t 11),none,2,[]⟩,
  ⟨some 63,.move (.t 2),none,3,[]⟩,
  ⟨some 64,.bin .add (.t 63) (.c (.s (.int .i64 1))),none,4,[]⟩,
  ⟨some 65,.call F.mtx_All_reckon [(.t 61),(.t 62),(.t 64)],none,5,[]⟩,
  ⟨some 66,.minmax false (.t 60) (.t 65),none,6,[]⟩,
  ⟨some 7,.move (.t 66),none,7,[]⟩]))) (RC.region 2 [
  ⟨some 67,.bin .add (.t 56) (.c (.s (.int .i64 1))),none,0,[]⟩,
  ⟨some 56,.move (.t 67),none,1,[]⟩])))
def mtx_All_reckon_s1 : RC :=
  RC.region 2 [
  ⟨some 68,.bin .add (.t 25) (.c (.s (.int .i64 1))),none,0,[]⟩,
  ⟨some 25,.move (.t 68),none,1,[]⟩]
def mtx_All_reckon_l2 : RC :=
  RC.seq (RC.region 1 [
  ⟨some 26,.bin .lss (.t 25) (.t 24),none,0,[]⟩]) (RC.seq (RC.cond (.t 26) (RC.skip) (RC.exit 0)) (RC.seq (RC.block 1 (RC.seq (RC.region 4 [
  ⟨some 27,.indexSl 4 (.t 23) (.t 25),none,0,[]⟩,
  ⟨some 28,.load (some 4) (.t 27),none,1,[]⟩,
  ⟨some 9,.newc [.int .i64 0,.int .i64 0,.int .i64 0,.slice none 0 0 1],none,2,[]⟩,
  ⟨none,.store 4 (.t 9) (.t 28),none,3,[]⟩]) (RC.block 2 (RC.seq (RC.region 9 [
  ⟨some 30,.fieldAddr 2 (.t 9),none,0,[]⟩,
  ⟨some 31,.load none (.t 30),none,1,[]⟩,
  ⟨some 32,.move (.t 1),none,2,[]⟩,
  ⟨some 33,.bin .neq (.t 31) (.t 32),none,3,[]⟩,
  ⟨some 34,.move (.t 33),none,4,[]⟩,
  ⟨some 35,.move (.t 2),(some (34,false)),5,[]⟩,
  ⟨some 36,.bin .gtr (.t 35) (.c (.s (.int .i64 16))),(some (34,false)),6,[]⟩,
  ⟨some 37,.pick (.t 34) (.c (.s (.bool true))) (.t 36),none,7,[]⟩,
  ⟨some 29,.move (.t 37),none,8,[]⟩]) (RC.cond (.t 29) (RC.skip) (RC.seq (RC.region 5 [
  ⟨some 39,.fieldAddr 0 (.t 9),none,0,[]⟩,
  ⟨some 40,.fieldAddr 0 (.t 39),none,1,[]⟩,
  ⟨some 41,.load none (.t 40),none,2,[]⟩,
  ⟨some 42,.bin .eql (.t 41) (.c (.s (.int .i64 3))),none,3,[]⟩,
  ⟨some 38,.move (.t 42),none,4,[]⟩]) (RC.cond (.t 38) (RC.region 6 [
  ⟨some 43,.move (.t 7),none,0,[]⟩,
  ⟨some 44,.fieldAddr 0 (.t 9),none,1,[]⟩,
  ⟨some 45,.fieldAddr 1 (.t 44),none,2,[]⟩,
  ⟨some 46,.load none (.t 45),none,3,[]⟩,
  ⟨some 47,.minmax false (.t 43) (.t 46),none,4,[]⟩,
  ⟨some 7,.move (.t 47),none,5,[]⟩]) (RC.seq (RC.region 5 [
  ⟨some 49,.fieldAddr 0 (.t 9),none,0,[]⟩,
  ⟨some 50,.fieldAddr 0 (.t 49),none,1,[]⟩,
  ⟨some 51,.load none (.t 50),none,2,[]⟩,
  ⟨some 52,.bin .eql (.t 51) (.c (.s (.int .i64 2))),none,3,[]⟩,
  ⟨some 48,.move (.t 52),none,4,[]⟩]) (RC.cond (.t 48) (RC.seq (RC.region 4 [
  ⟨some 53,.fieldAddr 3 (.t 9),none,0,[]⟩,
  ⟨some 54,.load none (.t 53),none,1,[]⟩,
  ⟨some 55,.len (.t 54),none,2,[]⟩,
  ⟨some 56,.move (.c (.s (.int .i64 0))),none,3,[]⟩]) (RC.block 3 (RC.loop R.mtx_All_reckon_l0))) (RC.skip)))))))))) R.mtx_All_reckon_s1))
def mtx_All_reckon_s3 : RC :=
  RC.seq (RC.region 2 [
  ⟨some 69,.move (.t 7),none,0,[]⟩,
  ⟨some 6,.move (.t 69),none,1,[]⟩]) (RC.ret)
def mtx_All_reckon : RFunc := RFunc.mk 70 [.tmp 6] (
  RC.seq (RC.region 1 [
  ⟨some 6,.move (.c (.s (.int .i64 0))),none,0,[]⟩]) (RC.seq (RC.region 8 [
  ⟨some 12,.move (.t 0),none,0,[]⟩,
  ⟨some 13,.move (.t 1),none,1,[]⟩,
  ⟨some 14,.nilCheck (.t 12),none,2,[]⟩,
  ⟨some 15,.fieldAddr 1 (.t 14),none,3,[]⟩,
  ⟨some 16,.indexArr 17 3 (.t 15) (.t 13),none,4,[]⟩,
  ⟨some 17,.fieldAddr 0 (.t 16),none,5,[]⟩,
  ⟨some 18,.load none (.t 17),none,6,[]⟩,
  ⟨some 7,.move (.t 18),none,7,[]⟩]) (RC.seq (RC.seq (RC.region 7 [
  ⟨some 19,.move (.t 0),none,0,[]⟩,
  ⟨some 20,.nilCheck (.t 19),none,1,[]⟩,
  ⟨some 21,.fieldAddr 0 (.t 20),none,2,[]⟩,
  ⟨some 22,.load none (.t 21),none,3,[]⟩,
  ⟨some 23,.slSl 4 (.t 22) (some (.c (.s (.int .i64 1)))) none none,none,4,[]⟩,
  ⟨some 24,.len (.t 23),none,5,[]⟩,
  ⟨some 25,.move (.c (.s (.int .i64 0))),none,6,[]⟩]) (RC.block 0 (RC.loop R.mtx_All_reckon_l2))) R.mtx_All_reckon_s3)))
theorem mtx_All_reckon_ok : chkFunc Go.Proofs.Try.prog [] Go.Proofs.Try.f60 mtx_All_reckon = true := by kernel_rfl
def mtx_All_leave : RFunc := RFunc.mk 28 [] (
  RC.seq (RC.region 1 [
  ⟨some 5,.box (.t 2),none,0,[]⟩]) (RC.seq (RC.region 7 [
  ⟨some 7,.move (.t 0),none,0,[]⟩,
  ⟨some 8,.nilCheck (.t 7),none,1,[]⟩,
  ⟨some 9,.fieldAddr 0 (.t 8),none,2,[]⟩,
  ⟨some 10,.load none (.t 9),none,3,[]⟩,
  ⟨some 11,.move (.t 1),none,4,[]⟩,
  ⟨some 12,.indexSl 4 (.t 10) (.t 11),none,5,[]⟩,
  ⟨some 6,.move (.t 12),none,6,[]⟩]) (RC.seq (RC.region 6 [
  ⟨some 13,.move (.t 6),none,0,[]⟩,
  ⟨some 14,.nilCheck (.t 13),none,1,[]⟩,
  ⟨some 15,.fieldAddr 0 (.t 14),none,2,[]⟩,
  ⟨some 16,.fieldAddr 0 (.t 15),none,3,[]⟩,
  ⟨some 17,.load none (.t 16),none,4,[]⟩,
  ⟨some 18,.bin .neq (.t 17) (.c (.s (.int .i64 0))),none,5,[]⟩]) (RC.cond (.t 18) (RC.region 10 [
  ⟨some 19,.move (.t 6),none,0,[]⟩,
  ⟨some 20,.move (.t 6),none,1,[]⟩,
  ⟨some 21,.nilCheck (.t 20),none,2,[]⟩,
  ⟨some 22,.fieldAddr 3 (.t 21),none,3,[]⟩,
  ⟨some 23,.load none (.t 22),none,4,[]⟩,
  ⟨some 24,.makeFunc F.mtx_All_leave_1 [(.t 5)],none,5,[]⟩,
  ⟨some 25,.call F.slices_DeleteFunc__int_int [(.t 23),(.t 24)],none,6,[]⟩,
  ⟨some 26,.nilCheck (.t 19),none,7,[]⟩,
  ⟨some 27,.fieldAddr 3 (.t 26),none,8,[]⟩,
  ⟨none,.store 1 (.t 27) (.t 25),none,9,[]⟩]) (RC.skip)))))
theorem mtx_All_leave_ok : chkFunc Go.Proofs.Try.prog [] Go.Proofs.Try.f61 mtx_All_leave = true := by kernel_rfl
def mtx_All_rejoin : RFunc := RFunc.mk 20 [] (
  RC.seq (RC.region 10 [
  ⟨some 6,.move (.t 0),none,0,[]⟩,
  ⟨some 7,.nilCheck (.t 6),none,1,[]⟩,
  ⟨some 8,.fieldAddr 0 (.t 7),none,2,[]⟩,
  ⟨some 9,.load none (.t 8),none,3,[]⟩,
  ⟨some 10,.move (.t 1),none,4,[]⟩,
  ⟨some 11,.indexSl 4 (.t 9) (.t 10),none,5,[]⟩,
  ⟨some 12,.fieldAddr 0 (.t 11),none,6,[]⟩,
  ⟨some 13,.fieldAddr 0 (.t 12),none,7,[]⟩,
  ⟨some 14,.load none (.t 13),none,8,[]⟩,
  ⟨some 15,.bin .neq (.t 14) (.c (.s (.int .i64 0))),none,9,[]⟩]) (RC.cond (.t 15) (RC.region 4 [
  ⟨some 16,.move (.t 0),none,0,[]⟩,
  ⟨some 17,.move (.t 1),none,1,[]⟩,
  ⟨some 18,.move (.t 2),none,2,[]⟩,
  ⟨some 19,.call F.mtx_All_stand [(.t 16),(.t 17),(.t 18)],none,3,[]⟩]) (RC.skip)))
theorem mtx_All_rejoin_ok : chkFunc Go.Proofs.Try.prog [] Go.Proofs.Try.f62 mtx_All_rejoin = true := by kernel_rfl
def detentref4_Good : RFunc := RFunc.mk 19 [.tmp 4] (
  RC.seq (RC.region 1 [
  ⟨some 4,.move (.c (.s (.bool false))),none,0,[]⟩]) (RC.seq (RC.region 15 [
  ⟨some 5,.move (.t 0),none,0,[]⟩,
  ⟨some 6,.bin .geq (.t 5) (.c (.s (.int .i64 1))),none,1,[]⟩,
  ⟨some 7,.move (.t 6),none,2,[]⟩,
  ⟨some 8,.move (.t 0),(some (7,true)),3,[]⟩,
  ⟨some 9,.bin .leq (.t 8) (.c (.s (.int .i64 16))),(some (7,true)),4,[]⟩,
  ⟨some 10,.pick (.t 7) (.t 9) (.c (.s (.bool false))),none,5,[]⟩,
  ⟨some 11,.move (.t 10),none,6,[]⟩,
  ⟨some 12,.move (.t 1),(some (11,true)),7,[]⟩,
  ⟨some 13,.bin .geq (.t 12) (.c (.s (.int .i64 1))),(some (11,true)),8,[]⟩,
  ⟨some 14,.pick (.t 11) (.t 13) (.c (.s (.bool false))),none,9,[]⟩,
  ⟨some 15,.move (.t 14),none,10,[]⟩,
  ⟨some 16,.move (.t 1),(some (15,true)),11,[]⟩,
  ⟨some 17,.bin .leq (.t 16) (.c (.s (.int .i64 16))),(some (15,true)),12,[]⟩,
  ⟨some 18,.pick (.t 15) (.t 17) (.c (.s (.bool false))),none,13,[]⟩,
  ⟨some 4,.move (.t 18),none,14,[]⟩]) (RC.ret)))
theorem detentref4_Good_ok : chkFunc Go.Proofs.Try.prog [] Go.Proofs.Try.f64 detentref4_Good = true := by kernel_rfl
def detentref4_Queue_put_l0 : RC :=
  RC.seq (RC.seq (RC.region 16 [
  ⟨some 15,.move (.t 4),none,0,[]⟩,
  ⟨some 16,.bin .gtr (.t 15) (.c (.s (.int .i64 0))),none,1,[]⟩,
  ⟨some 17,.move (.t 16),none,2,[]⟩,
  ⟨some 18,.move (.t 0),(some (17,true)),3,[]⟩,
  ⟨some 19,.nilCheck (.t 18),(some (17,true)),4,[]⟩,
  ⟨some 20,.fieldAddr 1 (.t 19),(some (17,true)),5,[]⟩,
  ⟨some 21,.load none (.t 20),(some (17,true)),6,[]⟩,
  ⟨some 22,.move (.t 4),(some (17,true)),7,[]⟩,
  ⟨some 23,.bin .sub (.t 22) (.c (.s (.int .i64 1))),(some (17,true)),8,[]⟩,
  ⟨some 24,.indexSl 2 (.t 21) (.t 23),(some (17,true)),9,[]⟩,
  ⟨some 25,.fieldAddr 1 (.t 24),(some (17,true)),10,[]⟩,
  ⟨some 26,.load none (.t 25),(some (17,true)),11,[]⟩,
  ⟨some 27,.fieldAddr 1 (.t 3),(some (17,true)),12,[]⟩,
  ⟨some 28,.load none (.t 27),(some (17,true)),13,[]⟩,
  ⟨some 29,.bin .gtr (.t 26) (.t 28),(some (17,true)),14,[]⟩,
  ⟨some 30,.pick (.t 17) (.t 29) (.c (.s (.bool false))),none,15,[]⟩]) (RC.cond (.t 30) (RC.skip) (RC.exit 0))) (RC.block 1 (RC.region 3 [
  ⟨some 31,.move (.t 4),none,0,[]⟩,
  ⟨some 32,.bin .sub (.t 31) (.c (.s (.int .i64 1))),none,1,[]⟩,
  ⟨some 4,.move (.t 32),none,2,[]⟩]))
def detentref4_Queue_put_s1 : RC :=
  RC.seq (RC.region 12 [
  ⟨some 34,.move (.t 0),none,1,[]⟩,
  ⟨some 35,.nilCheck (.t 34),none,2,[]⟩,
  ⟨some 36,.fieldAddr 1 (.t 35),none,3,[]⟩,
  ⟨some 37,.load none (.t 36),none,4,[]⟩,
  ⟨some 38,.move (.t 4),none,5,[]⟩,
  ⟨some 39,.slSl 2 (.t 37) none (some (.t 38)) none,none,6,[]⟩,
  ⟨some 41,.load (some 2) (.t 3),none,8,[]⟩,
  ⟨some 33,.buildSlice 2 0 [] [],none,0,[]⟩,
  ⟨some 40,.append 2 16 (.t 33) (.t 39),none,7,[⟨41,(some 2),(.t 3),none⟩]⟩,
  ⟨some 42,.buildSlice 2 1 [.int .i64 0,.int .i64 0] [(0,2,(.t 41))],none,9,[]⟩,
  ⟨some 43,.append 2 16 (.t 40) (.t 42),none,10,[]⟩,
  ⟨some 5,.move (.t 43),none,11,[]⟩]) (RC.region 12 [
  ⟨some 44,.move (.t 0),none,0,[]⟩,
  ⟨some 45,.move (.t 5),none,1,[]⟩,
  ⟨some 46,.move (.t 0),none,2,[]⟩,
  ⟨some 47,.nilCheck (.t 46),none,3,[]⟩,
  ⟨some 48,.fieldAddr 1 (.t 47),none,4,[]⟩,
  ⟨some 49,.load none (.t 48),none,5,[]⟩,
  ⟨some 50,.move (.t 4),none,6,[]⟩,
  ⟨some 51,.slSl 2 (.t 49) (some (.t 50)) none none,none,7,[]⟩,
  ⟨some 52,.append 2 16 (.t 45) (.t 51),none,8,[]⟩,
  ⟨some 53,.nilCheck (.t 44),none,9,[]⟩,
  ⟨some 54,.fieldAddr 1 (.t 53),none,10,[]⟩,
  ⟨none,.store 1 (.t 54) (.t 52),none,11,[]⟩])
def detentref4_Queue_put : RFunc := RFunc.mk 55 [] (
  RC.seq (RC.region 1 [
  ⟨some 3,.box (.t 1),none,0,[]⟩]) (RC.seq (RC.region 6 [
  ⟨some 6,.move (.t 0),none,0,[]⟩,
  ⟨some 7,.nilCheck (.t 6),none,1,[]⟩,
  ⟨some 8,.fieldAddr 1 (.t 7),none,2,[]⟩,
  ⟨some 9,.load none (.t 8),none,3,[]⟩,
  ⟨some 10,.len (.t 9),none,4,[]⟩,
  ⟨some 4,.move (.t 10),none,5,[]⟩]) (RC.seq (RC.seq (RC.region 4 [
  ⟨some 11,.move (.t 0),none,0,[]⟩,
  ⟨some 12,.nilCheck (.t 11),none,1,[]⟩,
  ⟨some 13,.fieldAddr 0 (.t 12),none,2,[]⟩,
  ⟨some 14,.load none (.t 13),none,3,[]⟩]) (RC.cond (.t 14) (RC.block 0 (RC.loop R.detentref4_Queue_put_l0)) (RC.skip))) R.detentref4_Queue_put_s1)))
theorem detentref4_Queue_put_ok : chkFunc Go.Proofs.Try.prog [] Go.Proofs.Try.f65 detentref4_Queue_put = true := by kernel_rfl
def detentref15_All_pri_l0 : RC :=
  RC.seq (RC.seq (RC.region 28 [
  ⟨some 64,.move (.t 0),none,0,[]⟩,
  ⟨some 65,.nilCheck (.t 64),none,1,[]⟩,
  ⟨some 66,.fieldAddr 0 (.t 65),none,2,[]⟩,
  ⟨some 67,.load none (.t 66),none,3,[]⟩,
  ⟨some 68,.move (.t 8),none,4,[]⟩,
  ⟨some 69,.indexSl 2 (.t 67) (.t 68),none,5,[]⟩,
  ⟨some 70,.fieldAddr 0 (.t 69),none,6,[]⟩,
  ⟨some 71,.load none (.t 70),none,7,[]⟩,
  ⟨some 72,.bin .eql (.t 71) (.c (.s (.int .i64 2))),none,8,[]⟩,
  ⟨some 73,.move (.t 72),none,9,[]⟩,
  ⟨some 74,.move (.t 2),(some (73,true)),10,[]⟩,
  ⟨some 75,.bin .gtr (.t 74) (.c (.s (.int .i64 0))),(some (73,true)),11,[]⟩,
  ⟨some 76,.pick (.t 73) (.t 75) (.c (.s (.bool false))),none,12,[]⟩,
  ⟨some 77,.move (.t 76),none,13,[]⟩,
  ⟨some 78,.move (.t 9),(some (77,true)),14,[]⟩,
  ⟨some 79,.move (.t 0),(some (77,true)),15,[]⟩,
  ⟨some 80,.nilCheck (.t 79),(some (77,true)),16,[]⟩,
  ⟨some 81,.fieldAddr 2 (.t 80),(some (77,true)),17,[]⟩,
  ⟨some 82,.load none (.t 81),(some (77,true)),18,[]⟩,
  ⟨some 83,.move (.t 8),(some (77,true)),19,[]⟩,
  ⟨some 84,.indexSl 1 (.t 82) (.t 83),(some (77,true)),20,[]⟩,
  ⟨some 85,.load none (.t 84),(some (77,true)),21,[]⟩,
  ⟨some 86,.nilCheck (.t 85),(some (77,true)),22,[]⟩,
  ⟨some 87,.fieldAddr 1 (.t 86),(some (77,true)),23,[]⟩,
  ⟨some 88,.load none (.t 87),(some (77,true)),24,[]⟩,
  ⟨some 89,.len (.t 88),(some (77,true)),25,[]⟩,
  ⟨some 90,.bin .lss (.t 78) (.t 89),(some (77,true)),26,[]⟩,
  ⟨some 91,.pick (.t 77) (.t 90) (.c (.s (.bool false))),none,27,[]⟩]) (RC.cond (.t 91) (RC.skip) (RC.exit 2))) (RC.seq (RC.block 3 (RC.seq (RC.region 19 [
  ⟨some 94,.move (.t 0),none,0,[]⟩,
  ⟨some 95,.move (.t 0),none,1,[]⟩,
  ⟨some 96,.nilCheck (.t 95),none,2,[]⟩,
  ⟨some 97,.fieldAddr 2 (.t 96),none,3,[]⟩,
  ⟨some 98,.load none (.t 97),none,4,[]⟩,
  ⟨some 99,.move (.t 8),none,5,[]⟩,
  ⟨some 100,.indexSl 1 (.t 98) (.t 99),none,6,[]⟩,
  ⟨some 101,.load none (.t 100),none,7,[]⟩,
  ⟨some 102,.nilCheck (.t 101),none,8,[]⟩,
  ⟨some 103,.fieldAddr 1 (.t 102),none,9,[]⟩,
  ⟨some 104,.load none (.t 103),none,10,[]⟩,
  ⟨some 105,.move (.t 9),none,11,[]⟩,
  ⟨some 106,.indexSl 2 (.t 104) (.t 105),none,12,[]⟩,
  ⟨some 107,.fieldAddr 0 (.t 106),none,13,[]⟩,
  ⟨some 108,.load none (.t 107),none,14,[]⟩,
  ⟨some 109,.move (.t 2),none,15,[]⟩,
  ⟨some 110,.bin .sub (.t 109) (.c (.s (.int .i64 1))),none,16,[]⟩,
  ⟨some 111,.call F.detentref15_All_pri [(.t 94),(.t 108),(.t 110)],none,17,[]⟩,
  ⟨some 10,.move (.t 111),none,18,[]⟩]) (RC.seq (RC.region 3 [
  ⟨some 112,.move (.t 10),none,0,[]⟩,
  ⟨some 113,.move (.t 7),none,1,[]⟩,
  ⟨some 114,.bin .lss (.t 112) (.t 113),none,2,[]⟩]) (RC.cond (.t 114) (RC.region 2 [
  ⟨some 115,.move (.t 10),none,0,[]⟩,
  ⟨some 7,.move (.t 115),none,1,[]⟩]) (RC.skip))))) (RC.region 3 [
  ⟨some 92,.move (.t 9),none,0,[]⟩,
  ⟨some 93,.bin .add (.t 92) (.c (.s (.int .i64 1))),none,1,[]⟩,
  ⟨some 9,.move (.t 93),none,2,[]⟩]))
def detentref15_All_pri_s1 : RC :=
  RC.seq (RC.region 1 [
  ⟨some 9,.move (.c (.s (.int .i64 0))),none,0,[]⟩]) (RC.block 2 (RC.loop R.detentref15_All_pri_l0))
def detentref15_All_pri_s2 : RC :=
  RC.region 3 [
  ⟨some 24,.move (.t 8),none,0,[]⟩,
  ⟨some 25,.bin .add (.t 24) (.c (.s (.int .i64 1))),none,1,[]⟩,
  ⟨some 8,.move (.t 25),none,2,[]⟩]
def detentref15_All_pri_l3 : RC :=
  RC.seq (RC.seq (RC.region 7 [
  ⟨some 17,.move (.t 8),none,0,[]⟩,
  ⟨some 18,.move (.t 0),none,1,[]⟩,
  ⟨some 19,.nilCheck (.t 18),none,2,[]⟩,
  ⟨some 20,.fieldAddr 0 (.t 19),none,3,[]⟩,
  ⟨some 21,.load none (.t 20),none,4,[]⟩,
  ⟨some 22,.len (.t 21),none,5,[]⟩,
  ⟨some 23,.bin .lss (.t 17) (.t 22),none,6,[]⟩]) (RC.cond (.t 23) (RC.skip) (RC.exit 0))) (RC.seq (RC.block 1 (RC.seq (RC.seq (RC.region 9 [
  ⟨some 26,.move (.t 0),none,0,[]⟩,
  ⟨some 27,.nilCheck (.t 26),none,1,[]⟩,
  ⟨some 28,.fieldAddr 1 (.t 27),none,2,[]⟩,
  ⟨some 29,.load none (.t 28),none,3,[]⟩,
  ⟨some 30,.move (.t 8),none,4,[]⟩,
  ⟨some 31,.indexSl 1 (.t 29) (.t 30),none,5,[]⟩,
  ⟨some 32,.load none (.t 31),none,6,[]⟩,
  ⟨some 33,.move (.t 1),none,7,[]⟩,
  ⟨some 34,.bin .neq (.t 32) (.t 33),none,8,[]⟩]) (RC.cond (.t 34) (RC.exit 1) (RC.skip))) (RC.seq (RC.seq (RC.region 21 [
  ⟨some 35,.move (.t 0),none,0,[]⟩,
  ⟨some 36,.nilCheck (.t 35),none,1,[]⟩,
  ⟨some 37,.fieldAddr 0 (.t 36),none,2,[]⟩,
  ⟨some 38,.load none (.t 37),none,3,[]⟩,
  ⟨some 39,.move (.t 8),none,4,[]⟩,
  ⟨some 40,.indexSl 2 (.t 38) (.t 39),none,5,[]⟩,
  ⟨some 41,.fieldAddr 0 (.t 40),none,6,[]⟩,
  ⟨some 42,.load none (.t 41),none,7,[]⟩,
  ⟨some 43,.bin .eql (.t 42) (.c (.s (.int .i64 3))),none,8,[]⟩,
  ⟨some 44,.move (.t 43),none,9,[]⟩,
  ⟨some 45,.move (.t 0),(some (44,true)),10,[]⟩,
  ⟨some 46,.nilCheck (.t 45),(some (44,true)),11,[]⟩,
  ⟨some 47,.fieldAddr 0 (.t 46),(some (44,true)),12,[]⟩,
  ⟨some 48,.load none (.t 47),(some (44,true)),13,[]⟩,
  ⟨some 49,.move (.t 8),(some (44,true)),14,[]⟩,
  ⟨some 50,.indexSl 2 (.t 48) (.t 49),(some (44,true)),15,[]⟩,
  ⟨some 51,.fieldAddr 1 (.t 50),(some (44,true)),16,[]⟩,
  ⟨some 52,.load none (.t 51),(some (44,true)),17,[]⟩,
  ⟨some 53,.move (.t 7),(some (44,true)),18,[]⟩,
  ⟨some 54,.bin .lss (.t 52) (.t 53),(some (44,true)),19,[]⟩,
  ⟨some 55,.pick (.t 44) (.t 54) (.c (.s (.bool false))),none,20,[]⟩]) (RC.cond (.t 55) (RC.region 9 [
  ⟨some 56,.move (.t 0),none,0,[]⟩,
  ⟨some 57,.nilCheck (.t 56),none,1,[]⟩,
  ⟨some 58,.fieldAddr 0 (.t 57),none,2,[]⟩,
  ⟨some 59,.load none (.t 58),none,3,[]⟩,
  ⟨some 60,.move (.t 8),none,4,[]⟩,
  ⟨some 61,.indexSl 2 (.t 59) (.t 60),none,5,[]⟩,
  ⟨some 62,.fieldAddr 1 (.t 61),none,6,[]⟩,
  ⟨some 63,.load none (.t 62),none,7,[]⟩,
  ⟨some 7,.move (.t 63),none,8,[]⟩]) (RC.skip))) R.detentref15_All_pri_s1))) R.detentref15_All_pri_s2)
def detentref15_All_pri_s4 : RC :=
  RC.seq (RC.region 2 [
  ⟨some 116,.move (.t 7),none,0,[]⟩,
  ⟨some 6,.move (.t 116),none,1,[]⟩]) (RC.ret)
def detentref15_All_pri : RFunc := RFunc.mk 117 [.tmp 6] (
  RC.seq (RC.region 1 [
  ⟨some 6,.move (.c (.s (.int .i64 0))),none,0,[]⟩]) (RC.seq (RC.region 7 [
  ⟨some 11,.move (.t 0),none,0,[]⟩,
  ⟨some 12,.move (.t 1),none,1,[]⟩,
  ⟨some 13,.nilCheck (.t 11),none,2,[]⟩,
  ⟨some 14,.fieldAddr 3 (.t 13),none,3,[]⟩,
  ⟨some 15,.indexArr 17 1 (.t 14) (.t 12),none,4,[]⟩,
  ⟨some 16,.load none (.t 15),none,5,[]⟩,
  ⟨some 7,.move (.t 16),none,6,[]⟩]) (RC.seq (RC.seq (RC.region 1 [
  ⟨some 8,.move (.c (.s (.int .i64 0))),none,0,[]⟩]) (RC.block 0 (RC.loop R.detentref15_All_pri_l3))) R.detentref15_All_pri_s4)))
theorem detentref15_All_pri_ok : chkFunc Go.Proofs.Try.prog [] Go.Proofs.Try.f66 detentref15_All_pri = true := by kernel_rfl
def detentref4_Queue_Change : RFunc := RFunc.mk 50 [.tmp 6] (
  RC.seq (RC.region 1 [
  ⟨some 6,.move (.c (.s (.bool false))),none,0,[]⟩]) (RC.seq (RC.region 4 [
  ⟨some 8,.move (.t 0),none,0,[]⟩,
  ⟨some 9,.move (.t 1),none,1,[]⟩,
  ⟨some 10,.call F.detentref4_Queue_At [(.t 8),(.t 9)],none,2,[]⟩,
  ⟨some 7,.move (.t 10),none,3,[]⟩]) (RC.seq (RC.seq (RC.region 10 [
  ⟨some 11,.move (.t 7),none,0,[]⟩,
  ⟨some 12,.bin .lss (.t 11) (.c (.s (.int .i64 0))),none,1,[]⟩,
  ⟨some 13,.move (.t 12),none,2,[]⟩,
  ⟨some 14,.move (.t 2),(some (13,false)),3,[]⟩,
  ⟨some 15,.bin .lss (.t 14) (.c (.s (.int .i64 1))),(some (13,false)),4,[]⟩,
  ⟨some 16,.pick (.t 13) (.c (.s (.bool true))) (.t 15),none,5,[]⟩,
  ⟨some 17,.move (.t 16),none,6,[]⟩,
  ⟨some 18,.move (.t 2),(some (17,false)),7,[]⟩,
  ⟨some 19,.bin .gtr (.t 18) (.c (.s (.int .i64 16))),(some (17,false)),8,[]⟩,
  ⟨some 20,.pick (.t 17) (.c (.s (.bool true))) (.t 19),none,9,[]⟩]) (RC.cond (.t 20) (RC.seq (RC.region 1 [
  ⟨some 6,.move (.c (.s (.bool false))),none,0,[]⟩]) (RC.ret)) (RC.skip))) (RC.seq (RC.seq (RC.region 4 [
  ⟨some 21,.move (.t 0),none,0,[]⟩,
  ⟨some 22,.nilCheck (.t 21),none,1,[]⟩,
  ⟨some 23,.fieldAddr 0 (.t 22),none,2,[]⟩,
  ⟨some 24,.load none (.t 23),none,3,[]⟩]) (RC.cond (.t 24) (RC.seq (RC.region 3 [
  ⟨some 25,.move (.t 0),none,0,[]⟩,
  ⟨some 26,.move (.t 1),none,1,[]⟩,
  ⟨some 27,.call F.detentref4_Queue_Remove [(.t 25),(.t 26)],none,2,[]⟩]) (RC.region 5 [
  ⟨some 28,.move (.t 0),none,0,[]⟩,
  ⟨some 29,.move (.t 1),none,1,[]⟩,
  ⟨some 30,.move (.t 2),none,2,[]⟩,
  ⟨some 31,.build [.int .i64 0,.int .i64 0] [(0,1,(.t 29)),(1,1,(.t 30))],none,3,[]⟩,
  ⟨some 32,.call F.detentref4_Queue_put [(.t 28),(.t 31)],none,4,[]⟩])) (RC.seq (RC.region 10 [
  ⟨some 33,.move (.t 0),none,0,[]⟩,
  ⟨some 34,.buildSlice 2 0 [] [],none,1,[]⟩,
  ⟨some 35,.move (.t 0),none,2,[]⟩,
  ⟨some 36,.nilCheck (.t 35),none,3,[]⟩,
  ⟨some 37,.fieldAddr 1 (.t 36),none,4,[]⟩,
  ⟨some 38,.load none (.t 37),none,5,[]⟩,
  ⟨some 39,.append 2 16 (.t 34) (.t 38),none,6,[]⟩,
  ⟨some 40,.nilCheck (.t 33),none,7,[]⟩,
  ⟨some 41,.fieldAddr 1 (.t 40),none,8,[]⟩,
  ⟨none,.store 1 (.t 41) (.t 39),none,9,[]⟩]) (RC.region 9 [
  ⟨some 42,.move (.t 0),none,0,[]⟩,
  ⟨some 43,.nilCheck (.t 42),none,1,[]⟩,
  ⟨some 44,.fieldAddr 1 (.t 43),none,2,[]⟩,
  ⟨some 45,.load none (.t 44),none,3,[]⟩,
  ⟨some 46,.move (.t 7),none,4,[]⟩,
  ⟨some 47,.move (.t 2),none,5,[]⟩,
  ⟨some 48,.indexSl 2 (.t 45) (.t 46),none,6,[]⟩,
  ⟨some 49,.fieldAddr 1 (.t 48),none,7,[]⟩,
  ⟨none,.store 1 (.t 49) (.t 47),none,8,[]⟩])))) (RC.seq (RC.region 1 [
  ⟨some 6,.move (.c (.s (.bool true))),none,0,[]⟩]) (RC.ret))))))
theorem detentref4_Queue_Change_ok : chkFunc Go.Proofs.Try.prog [] Go.Proofs.Try.f67 detentref4_Queue_Change = true := by kernel_rfl
def detentref4_Queue_Take : RFunc := RFunc.mk 29 [.cell 2 (some 2),.tmp 3] (
  RC.seq (RC.region 2 [
  ⟨some 2,.newc [.int .i64 0,.int .i64 0],none,0,[]⟩,
  ⟨some 3,.move (.c (.s (.bool false))),none,1,[]⟩]) (RC.seq (RC.seq (RC.region 6 [
  ⟨some 5,.move (.t 0),none,0,[]⟩,
  ⟨some 6,.nilCheck (.t 5),none,1,[]⟩,
  ⟨some 7,.fieldAddr 1 (.t 6),none,2,[]⟩,
  ⟨some 8,.load none (.t 7),none,3,[]⟩,
  ⟨some 9,.len (.t 8),none,4,[]⟩,
  ⟨some 10,.bin .eql (.t 9) (.c (.s (.int .i64 0))),none,5,[]⟩]) (RC.cond (.t 10) (RC.seq (RC.region 3 [
  ⟨some 11,.build [.int .i64 0,.int .i64 0] [],none,0,[]⟩,
  ⟨none,.store 2 (.t 2) (.t 11),none,1,[]⟩,
  ⟨some 3,.move (.c (.s (.bool false))),none,2,[]⟩]) (RC.ret)) (RC.skip))) (RC.seq (RC.region 8 [
  ⟨some 12,.move (.t 0),none,0,[]⟩,
  ⟨some 13,.nilCheck (.t 12),none,1,[]⟩,
  ⟨some 14,.fieldAddr 1 (.t 13),none,2,[]⟩,
  ⟨some 15,.load none (.t 14),none,3,[]⟩,
  ⟨some 16,.indexSl 2 (.t 15) (.c (.s (.int .i64 0))),none,4,[]⟩,
  ⟨some 17,.load (some 2) (.t 16),none,5,[]⟩,
  ⟨some 4,.newc [.int .i64 0,.int .i64 0],none,6,[]⟩,
  ⟨none,.store 2 (.t 4) (.t 17),none,7,[]⟩]) (RC.seq (RC.region 11 [
  ⟨some 18,.move (.t 0),none,0,[]⟩,
  ⟨some 19,.buildSlice 2 0 [] [],none,1,[]⟩,
  ⟨some 20,.move (.t 0),none,2,[]⟩,
  ⟨some 21,.nilCheck (.t 20),none,3,[]⟩,
  ⟨some 22,.fieldAddr 1 (.t 21),none,4,[]⟩,
  ⟨some 23,.load none (.t 22),none,5,[]⟩,
  ⟨some 24,.slSl 2 (.t 23) (some (.c (.s (.int .i64 1)))) none none,none,6,[]⟩,
  ⟨some 25,.append 2 16 (.t 19) (.t 24),none,7,[]⟩,
  ⟨some 26,.nilCheck (.t 18),none,8,[]⟩,
  ⟨some 27,.fieldAddr 1 (.t 26),none,9,[]⟩,
  ⟨none,.store 1 (.t 27) (.t 25),none,10,[]⟩]) (RC.seq (RC.region 3 [
  ⟨some 28,.load (some 2) (.t 4),none,0,[]⟩,
  ⟨none,.store 2 (.t 2) (.t 28),none,1,[]⟩,
  ⟨some 3,.move (.c (.s (.bool true))),none,2,[]⟩]) (RC.ret))))))
theorem detentref4_Queue_Take_ok : chkFunc Go.Proofs.Try.prog [] Go.Proofs.Try.f68 detentref4_Queue_Take = true := by kernel_rfl
def slices_IndexFunc__int_int_l0 : RC :=
  RC.seq (RC.region 1 [
  ⟨some 9,.bin .lss (.t 8) (.t 7),none,0,[]⟩]) (RC.seq (RC.cond (.t 9) (RC.skip) (RC.exit 0)) (RC.seq (RC.block 1 (RC.seq (RC.region 2 [
  ⟨some 10,.move (.t 8),none,0,[]⟩,
  ⟨some 5,.move (.t 10),none,1,[]⟩]) (RC.seq (RC.region 6 [
  ⟨some 11,.move (.t 1),none,0,[]⟩,
  ⟨some 12,.move (.t 0),none,1,[]⟩,
  ⟨some 13,.move (.t 5),none,2,[]⟩,
  ⟨some 14,.indexSl 1 (.t 12) (.t 13),none,3,[]⟩,
  ⟨some 15,.load none (.t 14),none,4,[]⟩,
  ⟨some 16,.callv (.t 11) [(.t 15)],none,5,[]⟩]) (RC.cond (.t 16) (RC.seq (RC.region 2 [
  ⟨some 17,.move (.t 5),none,0,[]⟩,
  ⟨some 4,.move (.t 17),none,1,[]⟩]) (RC.ret)) (RC.skip))))) (RC.region 2 [
  ⟨some 18,.bin .add (.t 8) (.c (.s (.int .i64 1))),none,0,[]⟩,
  ⟨some 8,.move (.t 18),none,1,[]⟩])))
def slices_IndexFunc__int_int_s1 : RC :=
  RC.seq (RC.region 1 [
  ⟨some 4,.move (.c (.s (.int .i64 (-1)))),none,0,[]⟩]) (RC.ret)
def slices_IndexFunc__int_int : RFunc := RFunc.mk 19 [.tmp 4] (
  RC.seq (RC.region 1 [
  ⟨some 4,.move (.c (.s (.int .i64 0))),none,0,[]⟩]) (RC.seq (RC.seq (RC.region 3 [
  ⟨some 6,.move (.t 0),none,0,[]⟩,
  ⟨some 7,.len (.t 6),none,1,[]⟩,
  ⟨some 8,.move (.c (.s (.int .i64 0))),none,2,[]⟩]) (RC.block 0 (RC.loop R.slices_IndexFunc__int_int_l0))) R.slices_IndexFunc__int_int_s1))
theorem slices_IndexFunc__int_int_ok : chkFunc Go.Proofs.Try.prog [] Go.Proofs.Try.f69 slices_IndexFunc__int_int = true := by kernel_rfl
def mtx_All_leave_1 : RFunc := RFunc.mk 7 [.tmp 3] (
  RC.seq (RC.region 1 [
  ⟨some 3,.move (.c (.s (.bool false))),none,0,[]⟩]) (RC.seq (RC.region 4 [
  ⟨some 4,.move (.t 0),none,0,[]⟩,
  ⟨some 5,.load none (.t 1),none,1,[]⟩,
  ⟨some 6,.bin .eql (.t 4) (.t 5),none,2,[]⟩,
  ⟨some 3,.move (.t 6),none,3,[]⟩]) (RC.ret)))
theorem mtx_All_leave_1_ok : chkFunc Go.Proofs.Try.prog [] Go.Proofs.Try.f70 mtx_All_leave_1 = true := by kernel_rfl
def slices_rotateRight_int : RFunc := RFunc.mk 10 [] (
  RC.region 6 [
  ⟨some 4,.move (.t 0),none,0,[]⟩,
  ⟨some 5,.move (.t 0),none,1,[]⟩,
  ⟨some 6,.len (.t 5),none,2,[]⟩,
  ⟨some 7,.move (.t 1),none,3,[]⟩,
  ⟨some 8,.bin .sub (.t 6) (.t 7),none,4,[]⟩,
  ⟨some 9,.call F.slices_rotateLeft_int [(.t 4),(.t 8)],none,5,[]⟩])
theorem slices_rotateRight_int_ok : chkFunc Go.Proofs.Try.prog [] Go.Proofs.Try.f72 slices_rotateRight_int = true := by kernel_rfl
def slices_rotateLeft_int : RFunc := RFunc.mk 14 [] (
  RC.seq (RC.region 4 [
  ⟨some 4,.move (.t 0),none,0,[]⟩,
  ⟨some 5,.move (.t 1),none,1,[]⟩,
  ⟨some 6,.slSl 1 (.t 4) none (some (.t 5)) none,none,2,[]⟩,
  ⟨some 7,.call F.slices_Reverse__int_int [(.t 6)],none,3,[]⟩]) (RC.seq (RC.region 4 [
  ⟨some 8,.move (.t 0),none,0,[]⟩,
  ⟨some 9,.move (.t 1),none,1,[]⟩,
  ⟨some 10,.slSl 1 (.t 8) (some (.t 9)) none none,none,2,[]⟩,
  ⟨some 11,.call F.slices_Reverse__int_int [(.t 10)],none,3,[]⟩]) (RC.region 2 [
  ⟨some 12,.move (.t 0),none,0,[]⟩,
  ⟨some 13,.call F.slices_Reverse__int_int [(.t 12)],none,1,[]⟩])))
theorem slices_rotateLeft_int_ok : chkFunc Go.Proofs.Try.prog [] Go.Proofs.Try.f73 slices_rotateLeft_int = true := by kernel_rfl
def slices_Reverse__int_int_l0 : RC :=
  RC.seq (RC.seq (RC.region 3 [
  ⟨some 7,.move (.t 2),none,0,[]⟩,
  ⟨some 8,.move (.t 3),none,1,[]⟩,
  ⟨some 9,.bin .lss (.t 7) (.t 8),none,2,[]⟩]) (RC.cond (.t 9) (RC.skip) (RC.exit 0))) (RC.seq (RC.block 1 (RC.region 16 [
  ⟨some 14,.move (.t 0),none,0,[]⟩,
  ⟨some 15,.move (.t 2),none,1,[]⟩,
  ⟨some 16,.move (.t 0),none,2,[]⟩,
  ⟨some 17,.move (.t 3),none,3,[]⟩,
  ⟨some 18,.move (.t 0),none,4,[]⟩,
  ⟨some 19,.move (.t 3),none,5,[]⟩,
  ⟨some 20,.indexSl 1 (.t 18) (.t 19),none,6,[]⟩,
  ⟨some 21,.load none (.t 20),none,7,[]⟩,
  ⟨some 22,.move (.t 0),none,8,[]⟩,
  ⟨some 23,.move (.t 2),none,9,[]⟩,
  ⟨some 24,.indexSl 1 (.t 22) (.t 23),none,10,[]⟩,
  ⟨some 25,.load none (.t 24),none,11,[]⟩,
  ⟨some 26,.indexSl 1 (.t 14) (.t 15),none,12,[]⟩,
  ⟨none,.store 1 (.t 26) (.t 21),none,13,[]⟩,
  ⟨some 27,.indexSl 1 (.t 16) (.t 17),none,14,[]⟩,
  ⟨none,.store 1 (.t 27) (.t 25),none,15,[]⟩])) (RC.region 6 [
  ⟨some 10,.move (.t 2),none,0,[]⟩,
  ⟨some 11,.bin .add (.t 10) (.c (.s (.int .i64 1))),none,1,[]⟩,
  ⟨some 12,.move (.t 3),none,2,[]⟩,
  ⟨some 13,.bin .sub (.t 12) (.c (.s (.int .i64 1))),none,3,[]⟩,
  ⟨some 2,.move (.t 11),none,4,[]⟩,
  ⟨some 3,.move (.t 13),none,5,[]⟩]))
def slices_Reverse__int_int : RFunc := RFunc.mk 28 [] (
  RC.seq (RC.region 5 [
  ⟨some 4,.move (.t 0),none,0,[]⟩,
  ⟨some 5,.len (.t 4),none,1,[]⟩,
  ⟨some 6,.bin .sub (.t 5) (.c (.s (.int .i64 1))),none,2,[]⟩,
  ⟨some 2,.move (.c (.s (.int .i64 0))),none,3,[]⟩,
  ⟨some 3,.move (.t 6),none,4,[]⟩]) (RC.block 0 (RC.loop R.slices_Reverse__int_int_l0)))
theorem slices_Reverse__int_int_ok : chkFunc Go.Proofs.Try.prog [] Go.Proofs.Try.f74 slices_Reverse__int_int = true := by kernel_rfl
end Go.AM.R

/-
  The table of the functions' codes.
-/
set_option maxRecDepth 100000
namespace Go.AM
def tabL : List (Option RFunc) := [none, none, none, none, none, none, none, some R.detentlaw15_MutexCeilings, none, none, some R.detentlaw15_known, some R.mtx_New, some R.mtx_All_SetBase, some R.mtx_All_Lock, some R.mtx_All_Pri, some R.mtx_All_Unlock, some R.mtx_All_Owner, some R.mtx_All_TryLock, some R.mtx_All_Waiting, some R.mtx_All_Free, some R.mtx_All_Held, some R.detentref15_New, some R.detentlaw15_Kinds, some R.detentref15_All_Lock, some R.detentref15_All_TryLock, some R.detentref15_All_Unlock, some R.detentref15_All_SetBase, some R.mtx_All_Drop, some R.detentref15_All_Drop, some R.detentlaw3_Same, some R.detentref15_All_Free, some R.mtx_All_Twin, some R.detentlaw15_same, some R.mtx_All_Base, some R.mtx_Kind_right, some R.mtx_is, some R.mtx_may, some R.mtx_All_settle, some R.mtx_All_over, some R.mtx_All_stand, some R.mtx_All_in, some R.slices_Delete__int_int, some R.slices_Clip__int_int, some R.slices_Clone__int_int, some R.detentref15_All_try, some R.detentref15_All_round, some R.detentref4_Queue_Add, some R.detentref15_All_Pri, some R.detentref15_All_settle, some R.detentref15_All_mutex, some R.detentref15_is, some R.detentref15_All_pass, some R.detentref4_Queue_At, some R.slices_DeleteFunc__int_int, some R.mtx_All_Drop_1, some R.detentref15_All_waits, some R.detentref4_Queue_Remove, some R.slices_Clone__mtx_mutex_mtx_mutex, some R.detentref4_Queue_IDs, some R.detentref15_All_Held, some R.mtx_All_reckon, some R.mtx_All_leave, some R.mtx_All_rejoin, none, some R.detentref4_Good, some R.detentref4_Queue_put, some R.detentref15_All_pri, some R.detentref4_Queue_Change, some R.detentref4_Queue_Take, some R.slices_IndexFunc__int_int, some R.mtx_All_leave_1, none, some R.slices_rotateRight_int, some R.slices_rotateLeft_int, some R.slices_Reverse__int_int]
def tab (f : Nat) : Option RFunc := (tabL[f]?).join
theorem tab_ok : TabOk Go.Proofs.Try.prog [] tab := tabOk_of (l := tabL) (⟨⟨_, Go.Proofs.Try.func7, R.detentlaw15_MutexCeilings_ok⟩, ⟨⟨_, Go.Proofs.Try.func10, R.detentlaw15_known_ok⟩, ⟨⟨_, Go.Proofs.Try.func11, R.mtx_New_ok⟩, ⟨⟨_, Go.Proofs.Try.func12, R.mtx_All_SetBase_ok⟩, ⟨⟨_, Go.Proofs.Try.func13, R.mtx_All_Lock_ok⟩, ⟨⟨_, Go.Proofs.Try.func14, R.mtx_All_Pri_ok⟩, ⟨⟨_, Go.Proofs.Try.func15, R.mtx_All_Unlock_ok⟩, ⟨⟨_, Go.Proofs.Try.func16, R.mtx_All_Owner_ok⟩, ⟨⟨_, Go.Proofs.Try.func17, R.mtx_All_TryLock_ok⟩, ⟨⟨_, Go.Proofs.Try.func18, R.mtx_All_Waiting_ok⟩, ⟨⟨_, Go.Proofs.Try.func19, R.mtx_All_Free_ok⟩, ⟨⟨_, Go.Proofs.Try.func20, R.mtx_All_Held_ok⟩, ⟨⟨_, Go.Proofs.Try.func21, R.detentref15_New_ok⟩, ⟨⟨_, Go.Proofs.Try.func22, R.detentlaw15_Kinds_ok⟩, ⟨⟨_, Go.Proofs.Try.func23, R.detentref15_All_Lock_ok⟩, ⟨⟨_, Go.Proofs.Try.func24, R.detentref15_All_TryLock_ok⟩, ⟨⟨_, Go.Proofs.Try.func25, R.detentref15_All_Unlock_ok⟩, ⟨⟨_, Go.Proofs.Try.func26, R.detentref15_All_SetBase_ok⟩, ⟨⟨_, Go.Proofs.Try.func27, R.mtx_All_Drop_ok⟩, ⟨⟨_, Go.Proofs.Try.func28, R.detentref15_All_Drop_ok⟩, ⟨⟨_, Go.Proofs.Try.func29, R.detentlaw3_Same_ok⟩, ⟨⟨_, Go.Proofs.Try.func30, R.detentref15_All_Free_ok⟩, ⟨⟨_, Go.Proofs.Try.func31, R.mtx_All_Twin_ok⟩, ⟨⟨_, Go.Proofs.Try.func32, R.detentlaw15_same_ok⟩, ⟨⟨_, Go.Proofs.Try.func33, R.mtx_All_Base_ok⟩, ⟨⟨_, Go.Proofs.Try.func34, R.mtx_Kind_right_ok⟩, ⟨⟨_, Go.Proofs.Try.func35, R.mtx_is_ok⟩, ⟨⟨_, Go.Proofs.Try.func36, R.mtx_may_ok⟩, ⟨⟨_, Go.Proofs.Try.func37, R.mtx_All_settle_ok⟩, ⟨⟨_, Go.Proofs.Try.func38, R.mtx_All_over_ok⟩, ⟨⟨_, Go.Proofs.Try.func39, R.mtx_All_stand_ok⟩, ⟨⟨_, Go.Proofs.Try.func40, R.mtx_All_in_ok⟩, ⟨⟨_, Go.Proofs.Try.func41, R.slices_Delete__int_int_ok⟩, ⟨⟨_, Go.Proofs.Try.func42, R.slices_Clip__int_int_ok⟩, ⟨⟨_, Go.Proofs.Try.func43, R.slices_Clone__int_int_ok⟩, ⟨⟨_, Go.Proofs.Try.func44, R.detentref15_All_try_ok⟩, ⟨⟨_, Go.Proofs.Try.func45, R.detentref15_All_round_ok⟩, ⟨⟨_, Go.Proofs.Try.func46, R.detentref4_Queue_Add_ok⟩, ⟨⟨_, Go.Proofs.Try.func47, R.detentref15_All_Pri_ok⟩, ⟨⟨_, Go.Proofs.Try.func48, R.detentref15_All_settle_ok⟩, ⟨⟨_, Go.Proofs.Try.func49, R.detentref15_All_mutex_ok⟩, ⟨⟨_, Go.Proofs.Try.func50, R.detentref15_is_ok⟩, ⟨⟨_, Go.Proofs.Try.func51, R.detentref15_All_pass_ok⟩, ⟨⟨_, Go.Proofs.Try.func52, R.detentref4_Queue_At_ok⟩, ⟨⟨_, Go.Proofs.Try.func53, R.slices_DeleteFunc__int_int_ok⟩, ⟨⟨_, Go.Proofs.Try.func54, R.mtx_All_Drop_1_ok⟩, ⟨⟨_, Go.Proofs.Try.func55, R.detentref15_All_waits_ok⟩, ⟨⟨_, Go.Proofs.Try.func56, R.detentref4_Queue_Remove_ok⟩, ⟨⟨_, Go.Proofs.Try.func57, R.slices_Clone__mtx_mutex_mtx_mutex_ok⟩, ⟨⟨_, Go.Proofs.Try.func58, R.detentref4_Queue_IDs_ok⟩, ⟨⟨_, Go.Proofs.Try.func59, R.detentref15_All_Held_ok⟩, ⟨⟨_, Go.Proofs.Try.func60, R.mtx_All_reckon_ok⟩, ⟨⟨_, Go.Proofs.Try.func61, R.mtx_All_leave_ok⟩, ⟨⟨_, Go.Proofs.Try.func62, R.mtx_All_rejoin_ok⟩, ⟨⟨_, Go.Proofs.Try.func64, R.detentref4_Good_ok⟩, ⟨⟨_, Go.Proofs.Try.func65, R.detentref4_Queue_put_ok⟩, ⟨⟨_, Go.Proofs.Try.func66, R.detentref15_All_pri_ok⟩, ⟨⟨_, Go.Proofs.Try.func67, R.detentref4_Queue_Change_ok⟩, ⟨⟨_, Go.Proofs.Try.func68, R.detentref4_Queue_Take_ok⟩, ⟨⟨_, Go.Proofs.Try.func69, R.slices_IndexFunc__int_int_ok⟩, ⟨⟨_, Go.Proofs.Try.func70, R.mtx_All_leave_1_ok⟩, ⟨⟨_, Go.Proofs.Try.func72, R.slices_rotateRight_int_ok⟩, ⟨⟨_, Go.Proofs.Try.func73, R.slices_rotateLeft_int_ok⟩, ⟨⟨_, Go.Proofs.Try.func74, R.slices_Reverse__int_int_ok⟩, trivial⟩⟩⟩⟩⟩⟩⟩⟩⟩⟩⟩⟩⟩⟩⟩⟩⟩⟩⟩⟩⟩⟩⟩⟩⟩⟩⟩⟩⟩⟩⟩⟩⟩⟩⟩⟩⟩⟩⟩⟩⟩⟩⟩⟩⟩⟩⟩⟩⟩⟩⟩⟩⟩⟩⟩⟩⟩⟩⟩⟩⟩⟩⟩⟩)
theorem tab_detentlaw15_MutexCeilings : tab F.detentlaw15_MutexCeilings = some R.detentlaw15_MutexCeilings := rfl
theorem tab_detentlaw15_known : tab F.detentlaw15_known = some R.detentlaw15_known := rfl
theorem tab_mtx_New : tab F.mtx_New = some R.mtx_New := rfl
theorem tab_mtx_All_SetBase : tab F.mtx_All_SetBase = some R.mtx_All_SetBase := rfl
theorem tab_mtx_All_Lock : tab F.mtx_All_Lock = some R.mtx_All_Lock := rfl
theorem tab_mtx_All_Pri : tab F.mtx_All_Pri = some R.mtx_All_Pri := rfl
theorem tab_mtx_All_Unlock : tab F.mtx_All_Unlock = some R.mtx_All_Unlock := rfl
theorem tab_mtx_All_Owner : tab F.mtx_All_Owner = some R.mtx_All_Owner := rfl
theorem tab_mtx_All_TryLock : tab F.mtx_All_TryLock = some R.mtx_All_TryLock := rfl
theorem tab_mtx_All_Free : tab F.mtx_All_Free = some R.mtx_All_Free := rfl
theorem tab_mtx_All_Held : tab F.mtx_All_Held = some R.mtx_All_Held := rfl
theorem tab_mtx_All_Base : tab F.mtx_All_Base = some R.mtx_All_Base := rfl
theorem tab_mtx_Kind_right : tab F.mtx_Kind_right = some R.mtx_Kind_right := rfl
theorem tab_mtx_is : tab F.mtx_is = some R.mtx_is := rfl
theorem tab_mtx_may : tab F.mtx_may = some R.mtx_may := rfl
theorem tab_mtx_All_settle : tab F.mtx_All_settle = some R.mtx_All_settle := rfl
theorem tab_mtx_All_over : tab F.mtx_All_over = some R.mtx_All_over := rfl
theorem tab_mtx_All_stand : tab F.mtx_All_stand = some R.mtx_All_stand := rfl
theorem tab_mtx_All_in : tab F.mtx_All_in = some R.mtx_All_in := rfl
theorem tab_slices_Delete__int_int : tab F.slices_Delete__int_int = some R.slices_Delete__int_int := rfl
theorem tab_slices_Clip__int_int : tab F.slices_Clip__int_int = some R.slices_Clip__int_int := rfl
theorem tab_slices_Clone__int_int : tab F.slices_Clone__int_int = some R.slices_Clone__int_int := rfl
theorem tab_slices_DeleteFunc__int_int : tab F.slices_DeleteFunc__int_int = some R.slices_DeleteFunc__int_int := rfl
theorem tab_mtx_All_reckon : tab F.mtx_All_reckon = some R.mtx_All_reckon := rfl
theorem tab_mtx_All_leave : tab F.mtx_All_leave = some R.mtx_All_leave := rfl
theorem tab_mtx_All_rejoin : tab F.mtx_All_rejoin = some R.mtx_All_rejoin := rfl
theorem tab_slices_IndexFunc__int_int : tab F.slices_IndexFunc__int_int = some R.slices_IndexFunc__int_int := rfl
theorem tab_mtx_All_leave_1 : tab F.mtx_All_leave_1 = some R.mtx_All_leave_1 := rfl
end Go.AM
