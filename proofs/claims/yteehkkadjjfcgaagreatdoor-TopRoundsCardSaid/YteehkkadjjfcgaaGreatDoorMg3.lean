/-
  The code of the functions,as the abstract machine has it; it is the program's.
-/
import Derived.Test.YteehkkadjjfcgaaGreatDoorMg1
import Derived.Test.YteehkkadjjfcgaaGreatDoorMg2
import Derived.Test.YteehkkadjjfcgaaGreatDoorProg
import Derived.KernelRfl
set_option maxRecDepth 100000
namespace Go.AM.R
open Go.AM
def detenttop_TopRounds_l0 : RC :=
  RC.seq (RC.region 1 [
  ⟨some 81,.bin .lss (.t 80) (.t 79),none,0,[]⟩]) (RC.seq (RC.cond (.t 81) (RC.skip) (RC.exit 2)) (RC.seq (RC.block 3 (RC.seq (RC.region 4 [
  ⟨some 82,.indexSl 5 (.t 78) (.t 80),none,0,[]⟩,
  ⟨some 83,.load (some 5) (.t 82),none,1,[]⟩,
  ⟨some 11,.newc [.int .i64 0,.int .i64 0,.int .i64 0,.int .i64 0,.int .i64 0],none,2,[]⟩,
  ⟨none,.store 5 (.t 11) (.t 83),none,3,[]⟩]) (RC.seq (RC.region 5 [
  ⟨some 84,.move (.t 4),none,0,[]⟩,
  ⟨some 85,.load (some 5) (.t 11),none,1,[]⟩,
  ⟨some 86,.call F.kern_Kernel_Do [(.t 84),(.t 85)],none,2,[]⟩,
  ⟨some 12,.newc [.int .i64 0,.int .i64 0],none,3,[]⟩,
  ⟨none,.store 2 (.t 12) (.t 86),none,4,[]⟩]) (RC.seq (RC.region 3 [
  ⟨some 87,.fieldAddr 0 (.t 12),none,0,[]⟩,
  ⟨some 88,.load none (.t 87),none,1,[]⟩,
  ⟨some 89,.bin .neq (.t 88) (.c (.s (.int .i64 0))),none,2,[]⟩]) (RC.cond (.t 89) (RC.seq (RC.region 1 [
  ⟨some 2,.move (.c (.s (.bool false))),none,0,[]⟩]) (RC.ret)) (RC.skip)))))) (RC.region 2 [
  ⟨some 90,.bin .add (.t 80) (.c (.s (.int .i64 1))),none,0,[]⟩,
  ⟨some 80,.move (.t 90),none,1,[]⟩])))
def detenttop_TopRounds_s1 : RC :=
  RC.region 2 [
  ⟨some 91,.move (.t 4),none,0,[]⟩,
  ⟨some 92,.call F.kern_Kernel_Tick [(.t 91)],none,1,[]⟩]
def detenttop_TopRounds_s2 : RC :=
  RC.region 3 [
  ⟨some 57,.move (.t 8),none,0,[]⟩,
  ⟨some 58,.bin .add (.t 57) (.c (.s (.int .i64 1))),none,1,[]⟩,
  ⟨some 8,.move (.t 58),none,2,[]⟩]
def detenttop_TopRounds_l3 : RC :=
  RC.seq (RC.seq (RC.region 5 [
  ⟨some 52,.move (.t 8),none,0,[]⟩,
  ⟨some 53,.move (.t 0),none,1,[]⟩,
  ⟨some 54,.bin .rem (.t 53) (.c (.s (.int .u8 30))),none,2,[]⟩,
  ⟨some 55,.conv .i64 (.t 54),none,3,[]⟩,
  ⟨some 56,.bin .lss (.t 52) (.t 55),none,4,[]⟩]) (RC.cond (.t 56) (RC.skip) (RC.exit 0))) (RC.seq (RC.block 1 (RC.seq (RC.region 6 [
  ⟨some 59,.move (.t 4),none,0,[]⟩,
  ⟨some 60,.buildSlice 1 1 [.int .i64 0] [(0,1,(.c (.s (.int .i64 1))))],none,1,[]⟩,
  ⟨some 61,.call F.calls_Make [(.c (.s (.int .i64 47))),(.t 60)],none,2,[]⟩,
  ⟨some 62,.call F.kern_Kernel_Do [(.t 59),(.t 61)],none,3,[]⟩,
  ⟨some 9,.newc [.int .i64 0,.int .i64 0],none,4,[]⟩,
  ⟨none,.store 2 (.t 9) (.t 62),none,5,[]⟩]) (RC.seq (RC.seq (RC.region 18 [
  ⟨some 74,.fieldAddr 1 (.t 9),none,11,[]⟩,
  ⟨some 75,.load none (.t 74),none,12,[]⟩,
  ⟨some 80,.move (.c (.s (.int .i64 0))),none,17,[]⟩,
  ⟨some 63,.buildSlice 1 1 [.int .i64 0] [(0,1,(.c (.s (.int .i64 1))))],none,0,[]⟩,
  ⟨some 64,.call F.calls_Make [(.c (.s (.int .i64 25))),(.t 63)],none,1,[⟨75,none,(.t 74),none⟩]⟩,
  ⟨some 65,.buildSlice 1 1 [.int .i64 0] [(0,1,(.c (.s (.int .i64 1))))],none,2,[]⟩,
  ⟨some 66,.call F.calls_Make [(.c (.s (.int .i64 43))),(.t 65)],none,3,[⟨75,none,(.t 74),none⟩]⟩,
  ⟨some 67,.buildSlice 1 1 [.int .i64 0] [(0,1,(.c (.s (.int .i64 2))))],none,4,[]⟩,
  ⟨some 68,.call F.calls_Make [(.c (.s (.int .i64 1))),(.t 67)],none,5,[⟨75,none,(.t 74),none⟩]⟩,
  ⟨some 69,.buildSlice 1 1 [.int .i64 0] [(0,1,(.c (.s (.int .i64 1))))],none,6,[]⟩,
  ⟨some 70,.call F.calls_Make [(.c (.s (.int .i64 46))),(.t 69)],none,7,[⟨75,none,(.t 74),none⟩]⟩,
  ⟨some 71,.call F.calls_Make [(.c (.s (.int .i64 4))),(.c (.s (.slice none 0 0 1)))],none,8,[⟨75,none,(.t 74),none⟩]⟩,
  ⟨some 72,.buildSlice 1 1 [.int .i64 0] [(0,1,(.c (.s (.int .i64 1))))],none,9,[]⟩,
  ⟨some 73,.call F.calls_Make [(.c (.s (.int .i64 23))),(.t 72)],none,10,[⟨75,none,(.t 74),none⟩]⟩,
  ⟨some 76,.buildSlice 1 2 [.int .i64 0,.int .i64 0] [(0,1,(.c (.s (.int .i64 1)))),(1,1,(.t 75))],none,13,[]⟩,
  ⟨some 77,.call F.calls_Make [(.c (.s (.int .i64 50))),(.t 76)],none,14,[]⟩,
  ⟨some 78,.buildSlice 5 7 [.int .i64 0,.int .i64 0,.int .i64 0,.int .i64 0,.int .i64 0,.int .i64 0,.int .i64 0,.int .i64 0,.int .i64 0,.int .i64 0,.int .i64 0,.int .i64 0,.int .i64 0,.int .i64 0,.int .i64 0,.int .i64 0,.int .i64 0,.int .i64 0,.int .i64 0,.int .i64 0,.int .i64 0,.int .i64 0,.int .i64 0,.int .i64 0,.int .i64 0,.int .i64 0,.int .i64 0,.int .i64 0,.int .i64 0,.int .i64 0,.int .i64 0,.int .i64 0,.int .i64 0,.int .i64 0,.int .i64 0] [(0,5,(.t 64)),(5,5,(.t 66)),(10,5,(.t 68)),(15,5,(.t 70)),(20,5,(.t 71)),(25,5,(.t 73)),(30,5,(.t 77))],none,15,[]⟩,
  ⟨some 79,.len (.t 78),none,16,[]⟩]) (RC.block 2 (RC.loop R.detenttop_TopRounds_l0))) R.detenttop_TopRounds_s1))) R.detenttop_TopRounds_s2)
def detenttop_TopRounds_s4 : RC :=
  RC.seq (RC.region 11 [
  ⟨some 94,.move (.t 4),none,0,[]⟩,
  ⟨some 95,.call F.kern_Kernel_Task [(.t 94),(.c (.s (.int .i64 1)))],none,1,[]⟩,
  ⟨some 93,.move (.t 95),none,2,[]⟩,
  ⟨some 96,.extract 0 (.t 93),none,3,[]⟩,
  ⟨some 97,.extract 1 (.t 93),none,4,[]⟩,
  ⟨some 98,.extract 2 (.t 93),none,5,[]⟩,
  ⟨some 13,.newc [.int .i64 0,.int .i64 0,.int .i64 0,.int .i64 0,.int .i64 0,.int .i64 0,.int .i64 0,.int .i64 0],none,6,[]⟩,
  ⟨some 14,.newc [.int .i64 0,.int .i64 0,.int .i64 0],none,7,[]⟩,
  ⟨none,.store 8 (.t 13) (.t 96),none,8,[]⟩,
  ⟨none,.store 3 (.t 14) (.t 97),none,9,[]⟩,
  ⟨some 15,.move (.t 98),none,10,[]⟩]) (RC.seq (RC.region 9 [
  ⟨some 100,.move (.t 4),none,0,[]⟩,
  ⟨some 101,.call F.kern_Kernel_Sem [(.t 100),(.c (.s (.int .i64 1)))],none,1,[]⟩,
  ⟨some 99,.move (.t 101),none,2,[]⟩,
  ⟨some 102,.extract 0 (.t 99),none,3,[]⟩,
  ⟨some 103,.extract 1 (.t 99),none,4,[]⟩,
  ⟨some 104,.extract 2 (.t 99),none,5,[]⟩,
  ⟨some 16,.move (.t 102),none,6,[]⟩,
  ⟨some 17,.move (.t 103),none,7,[]⟩,
  ⟨some 18,.move (.t 104),none,8,[]⟩]) (RC.seq (RC.region 9 [
  ⟨some 106,.move (.t 4),none,0,[]⟩,
  ⟨some 107,.call F.kern_Kernel_Pool [(.t 106),(.c (.s (.int .i64 1)))],none,1,[]⟩,
  ⟨some 105,.move (.t 107),none,2,[]⟩,
  ⟨some 108,.extract 0 (.t 105),none,3,[]⟩,
  ⟨some 109,.extract 1 (.t 105),none,4,[]⟩,
  ⟨some 110,.extract 2 (.t 105),none,5,[]⟩,
  ⟨some 19,.move (.t 108),none,6,[]⟩,
  ⟨some 20,.move (.t 109),none,7,[]⟩,
  ⟨some 21,.move (.t 110),none,8,[]⟩]) (RC.seq (RC.region 9 [
  ⟨some 112,.move (.t 4),none,0,[]⟩,
  ⟨some 113,.call F.kern_Kernel_Mtx [(.t 112),(.c (.s (.int .i64 1)))],none,1,[]⟩,
  ⟨some 111,.move (.t 113),none,2,[]⟩,
  ⟨some 114,.extract 0 (.t 111),none,3,[]⟩,
  ⟨some 115,.extract 1 (.t 111),none,4,[]⟩,
  ⟨some 116,.extract 2 (.t 111),none,5,[]⟩,
  ⟨some 22,.move (.t 114),none,6,[]⟩,
  ⟨some 23,.move (.t 115),none,7,[]⟩,
  ⟨some 24,.move (.t 116),none,8,[]⟩]) (RC.seq (RC.region 39 [
  ⟨some 117,.load (some 8) (.t 5),none,0,[]⟩,
  ⟨some 118,.load (some 8) (.t 13),none,1,[]⟩,
  ⟨some 119,.eqAgg [false,false,false,false,false,false,false,false] false (.t 117) (.t 118),none,2,[]⟩,
  ⟨some 120,.move (.t 119),none,3,[]⟩,
  ⟨some 121,.load (some 3) (.t 14),(some (120,true)),4,[]⟩,
  ⟨some 122,.call F.tcb_Counts_Any [(.t 121)],(some (120,true)),5,[]⟩,
  ⟨some 123,.un .not (.t 122),(some (120,true)),6,[]⟩,
  ⟨some 124,.pick (.t 120) (.t 123) (.c (.s (.bool false))),none,7,[]⟩,
  ⟨some 125,.move (.t 124),none,8,[]⟩,
  ⟨some 126,.move (.t 16),(some (125,true)),9,[]⟩,
  ⟨some 127,.bin .eql (.t 126) (.c (.s (.int .i64 1))),(some (125,true)),10,[]⟩,
  ⟨some 128,.pick (.t 125) (.t 127) (.c (.s (.bool false))),none,11,[]⟩,
  ⟨some 129,.move (.t 128),none,12,[]⟩,
  ⟨some 130,.move (.t 19),(some (129,true)),13,[]⟩,
  ⟨some 131,.bin .eql (.t 130) (.c (.s (.int .i64 1))),(some (129,true)),14,[]⟩,
  ⟨some 132,.pick (.t 129) (.t 131) (.c (.s (.bool false))),none,15,[]⟩,
  ⟨some 133,.move (.t 132),none,16,[]⟩,
  ⟨some 134,.move (.t 22),(some (133,true)),17,[]⟩,
  ⟨some 135,.bin .eql (.t 134) (.c (.s (.int .i64 0))),(some (133,true)),18,[]⟩,
  ⟨some 136,.pick (.t 133) (.t 135) (.c (.s (.bool false))),none,19,[]⟩,
  ⟨some 137,.move (.t 136),none,20,[]⟩,
  ⟨some 138,.move (.t 4),(some (137,true)),21,[]⟩,
  ⟨some 139,.call F.kern_Kernel_Running [(.t 138)],(some (137,true)),22,[]⟩,
  ⟨some 140,.bin .eql (.t 139) (.c (.s (.int .i64 1))),(some (137,true)),23,[]⟩,
  ⟨some 141,.pick (.t 137) (.t 140) (.c (.s (.bool false))),none,24,[]⟩,
  ⟨some 142,.move (.t 141),none,25,[]⟩,
  ⟨some 143,.move (.t 4),(some (142,true)),26,[]⟩,
  ⟨some 144,.call F.detenttop_state [(.t 143),(.c (.s (.int .i64 2)))],(some (142,true)),27,[]⟩,
  ⟨some 145,.bin .eql (.t 144) (.c (.s (.int .i64 16))),(some (142,true)),28,[]⟩,
  ⟨some 146,.pick (.t 142) (.t 145) (.c (.s (.bool false))),none,29,[]⟩,
  ⟨some 147,.move (.t 146),none,30,[]⟩,
  ⟨some 148,.move (.t 4),(some (147,true)),31,[]⟩,
  ⟨some 149,.call F.kern_Kernel_Now [(.t 148)],(some (147,true)),32,[]⟩,
  ⟨some 150,.move (.t 0),(some (147,true)),33,[]⟩,
  ⟨some 151,.bin .rem (.t 150) (.c (.s (.int .u8 30))),(some (147,true)),34,[]⟩,
  ⟨some 152,.conv .u64 (.t 151),(some (147,true)),35,[]⟩,
  ⟨some 153,.bin .eql (.t 149) (.t 152),(some (147,true)),36,[]⟩,
  ⟨some 154,.pick (.t 147) (.t 153) (.c (.s (.bool false))),none,37,[]⟩,
  ⟨some 2,.move (.t 154),none,38,[]⟩]) (RC.ret)))))
def detenttop_TopRounds : RFunc := RFunc.mk 155 [.tmp 2] (
  RC.seq (RC.region 1 [
  ⟨some 2,.move (.c (.s (.bool false))),none,0,[]⟩]) (RC.seq (RC.seq (RC.region 2 [
  ⟨some 25,.call F.detenttop_known [],none,0,[]⟩,
  ⟨some 26,.un .not (.t 25),none,1,[]⟩]) (RC.cond (.t 26) (RC.seq (RC.region 1 [
  ⟨some 2,.move (.c (.s (.bool false))),none,0,[]⟩]) (RC.ret)) (RC.skip))) (RC.seq (RC.region 4 [
  ⟨some 27,.buildSlice 1 2 [.int .i64 0,.int .i64 0] [(0,1,(.c (.s (.int .i64 5)))),(1,1,(.c (.s (.int .i64 3))))],none,0,[]⟩,
  ⟨some 28,.call F.detenttop_tasks [(.t 27)],none,1,[]⟩,
  ⟨some 3,.newc [.int .i64 0,.slice none 0 0 1,.slice none 0 0 1,.slice none 0 0 1,.slice none 0 0 1,.slice none 0 0 1,.slice none 0 0 1,.slice none 0 0 1,.int .i64 0],none,2,[]⟩,
  ⟨none,.store 9 (.t 3) (.t 28),none,3,[]⟩]) (RC.seq (RC.region 5 [
  ⟨some 29,.fieldAddr 1 (.t 3),none,0,[]⟩,
  ⟨some 30,.load none (.t 29),none,1,[]⟩,
  ⟨some 31,.indexSl 2 (.t 30) (.c (.s (.int .i64 1))),none,2,[]⟩,
  ⟨some 32,.fieldAddr 1 (.t 31),none,3,[]⟩,
  ⟨none,.store 1 (.t 32) (.c (.s (.bool false))),none,4,[]⟩]) (RC.seq (RC.region 4 [
  ⟨some 33,.build [.bool false,.int .i64 0,.int .i64 0] [(1,1,(.c (.s (.int .i64 1)))),(2,1,(.c (.s (.int .i64 1))))],none,0,[]⟩,
  ⟨some 34,.buildSlice 3 1 [.bool false,.int .i64 0,.int .i64 0] [(0,3,(.t 33))],none,1,[]⟩,
  ⟨some 35,.fieldAddr 2 (.t 3),none,2,[]⟩,
  ⟨none,.store 1 (.t 35) (.t 34),none,3,[]⟩]) (RC.seq (RC.region 4 [
  ⟨some 36,.build [.int .i64 0,.int .i64 0] [(0,1,(.c (.s (.int .i64 3)))),(1,1,(.c (.s (.int .i64 1))))],none,0,[]⟩,
  ⟨some 37,.buildSlice 2 1 [.int .i64 0,.int .i64 0] [(0,2,(.t 36))],none,1,[]⟩,
  ⟨some 38,.fieldAddr 5 (.t 3),none,2,[]⟩,
  ⟨none,.store 1 (.t 38) (.t 37),none,3,[]⟩]) (RC.seq (RC.region 4 [
  ⟨some 39,.build [.bool false,.int .i64 0,.int .i64 0] [(1,1,(.c (.s (.int .i64 1)))),(2,1,(.c (.s (.int .i64 4))))],none,0,[]⟩,
  ⟨some 40,.buildSlice 3 1 [.bool false,.int .i64 0,.int .i64 0] [(0,3,(.t 39))],none,1,[]⟩,
  ⟨some 41,.fieldAddr 6 (.t 3),none,2,[]⟩,
  ⟨none,.store 1 (.t 41) (.t 40),none,3,[]⟩]) (RC.seq (RC.region 3 [
  ⟨some 42,.load (some 9) (.t 3),none,0,[]⟩,
  ⟨some 43,.call F.detenttop_open [(.t 42)],none,1,[]⟩,
  ⟨some 4,.move (.t 43),none,2,[]⟩]) (RC.seq (RC.seq (RC.region 2 [
  ⟨some 44,.move (.t 4),none,0,[]⟩,
  ⟨some 45,.eqs .ptr false (.t 44) (.c (.s (.ptr none))),none,1,[]⟩]) (RC.cond (.t 45) (RC.seq (RC.region 1 [
  ⟨some 2,.move (.c (.s (.bool false))),none,0,[]⟩]) (RC.ret)) (RC.skip))) (RC.seq (RC.region 11 [
  ⟨some 47,.move (.t 4),none,0,[]⟩,
  ⟨some 48,.call F.kern_Kernel_Task [(.t 47),(.c (.s (.int .i64 1)))],none,1,[]⟩,
  ⟨some 46,.move (.t 48),none,2,[]⟩,
  ⟨some 49,.extract 0 (.t 46),none,3,[]⟩,
  ⟨some 50,.extract 1 (.t 46),none,4,[]⟩,
  ⟨some 51,.extract 2 (.t 46),none,5,[]⟩,
  ⟨some 5,.newc [.int .i64 0,.int .i64 0,.int .i64 0,.int .i64 0,.int .i64 0,.int .i64 0,.int .i64 0,.int .i64 0],none,6,[]⟩,
  ⟨some 6,.newc [.int .i64 0,.int .i64 0,.int .i64 0],none,7,[]⟩,
  ⟨none,.store 8 (.t 5) (.t 49),none,8,[]⟩,
  ⟨none,.store 3 (.t 6) (.t 50),none,9,[]⟩,
  ⟨some 7,.move (.t 51),none,10,[]⟩]) (RC.seq (RC.seq (RC.region 1 [
  ⟨some 8,.move (.c (.s (.int .i64 0))),none,0,[]⟩]) (RC.block 0 (RC.loop R.detenttop_TopRounds_l3))) R.detenttop_TopRounds_s4)))))))))))
theorem detenttop_TopRounds_ok : chkFunc Go.Proofs.Tryz.prog [0] Go.Proofs.Tryz.f4 detenttop_TopRounds = true := by kernel_rfl
def detenttop_known : RFunc := RFunc.mk 46 [.tmp 0] (
  RC.seq (RC.region 1 [
  ⟨some 0,.move (.c (.s (.bool false))),none,0,[]⟩]) (RC.seq (RC.region 4 [
  ⟨some 5,.buildSlice 1 2 [.int .i64 0,.int .i64 0] [(0,1,(.c (.s (.int .i64 5)))),(1,1,(.c (.s (.int .i64 3))))],none,0,[]⟩,
  ⟨some 6,.call F.detenttop_tasks [(.t 5)],none,1,[]⟩,
  ⟨some 7,.call F.detenttop_open [(.t 6)],none,2,[]⟩,
  ⟨some 1,.move (.t 7),none,3,[]⟩]) (RC.seq (RC.seq (RC.region 7 [
  ⟨some 8,.move (.t 1),none,0,[]⟩,
  ⟨some 9,.eqs .ptr false (.t 8) (.c (.s (.ptr none))),none,1,[]⟩,
  ⟨some 10,.move (.t 9),none,2,[]⟩,
  ⟨some 11,.move (.t 1),(some (10,false)),3,[]⟩,
  ⟨some 12,.call F.kern_Kernel_Running [(.t 11)],(some (10,false)),4,[]⟩,
  ⟨some 13,.bin .neq (.t 12) (.c (.s (.int .i64 2))),(some (10,false)),5,[]⟩,
  ⟨some 14,.pick (.t 10) (.c (.s (.bool true))) (.t 13),none,6,[]⟩]) (RC.cond (.t 14) (RC.seq (RC.region 1 [
  ⟨some 0,.move (.c (.s (.bool false))),none,0,[]⟩]) (RC.ret)) (RC.skip))) (RC.seq (RC.region 8 [
  ⟨some 16,.move (.t 1),none,0,[]⟩,
  ⟨some 17,.buildSlice 1 1 [.int .i64 0] [(0,1,(.c (.s (.int .i64 0))))],none,1,[]⟩,
  ⟨some 18,.call F.detenttop_do [(.t 16),(.c (.s (.int .i64 22))),(.t 17)],none,2,[]⟩,
  ⟨some 15,.move (.t 18),none,3,[]⟩,
  ⟨some 19,.extract 0 (.t 15),none,4,[]⟩,
  ⟨some 20,.extract 1 (.t 15),none,5,[]⟩,
  ⟨some 2,.move (.t 19),none,6,[]⟩,
  ⟨some 3,.move (.t 20),none,7,[]⟩]) (RC.seq (RC.region 3 [
  ⟨some 21,.move (.t 1),none,0,[]⟩,
  ⟨some 22,.call F.kern_Kernel_Running [(.t 21)],none,1,[]⟩,
  ⟨some 4,.move (.t 22),none,2,[]⟩]) (RC.seq (RC.region 2 [
  ⟨some 23,.move (.t 1),none,0,[]⟩,
  ⟨some 24,.call F.kern_Kernel_Tick [(.t 23)],none,1,[]⟩]) (RC.seq (RC.region 22 [
  ⟨some 25,.move (.t 2),none,0,[]⟩,
  ⟨some 26,.bin .eql (.t 25) (.c (.s (.int .i64 1))),none,1,[]⟩,
  ⟨some 27,.move (.t 26),none,2,[]⟩,
  ⟨some 28,.move (.t 4),(some (27,true)),3,[]⟩,
  ⟨some 29,.bin .eql (.t 28) (.c (.s (.int .i64 1))),(some (27,true)),4,[]⟩,
  ⟨some 30,.pick (.t 27) (.t 29) (.c (.s (.bool false))),none,5,[]⟩,
  ⟨some 31,.move (.t 30),none,6,[]⟩,
  ⟨some 32,.move (.t 1),(some (31,true)),7,[]⟩,
  ⟨some 33,.call F.kern_Kernel_Running [(.t 32)],(some (31,true)),8,[]⟩,
  ⟨some 34,.bin .eql (.t 33) (.c (.s (.int .i64 2))),(some (31,true)),9,[]⟩,
  ⟨some 35,.pick (.t 31) (.t 34) (.c (.s (.bool false))),none,10,[]⟩,
  ⟨some 36,.move (.t 35),none,11,[]⟩,
  ⟨some 37,.move (.t 1),(some (36,true)),12,[]⟩,
  ⟨some 38,.call F.detenttop_state [(.t 37),(.c (.s (.int .i64 1)))],(some (36,true)),13,[]⟩,
  ⟨some 39,.bin .eql (.t 38) (.c (.s (.int .i64 2))),(some (36,true)),14,[]⟩,
  ⟨some 40,.pick (.t 36) (.t 39) (.c (.s (.bool false))),none,15,[]⟩,
  ⟨some 41,.move (.t 40),none,16,[]⟩,
  ⟨some 42,.move (.t 1),(some (41,true)),17,[]⟩,
  ⟨some 43,.call F.detenttop_state [(.t 42),(.c (.s (.int .i64 2)))],(some (41,true)),18,[]⟩,
  ⟨some 44,.bin .eql (.t 43) (.c (.s (.int .i64 1))),(some (41,true)),19,[]⟩,
  ⟨some 45,.pick (.t 41) (.t 44) (.c (.s (.bool false))),none,20,[]⟩,
  ⟨some 0,.move (.t 45),none,21,[]⟩]) (RC.ret))))))))
theorem detenttop_known_ok : chkFunc Go.Proofs.Tryz.prog [0] Go.Proofs.Tryz.f8 detenttop_known = true := by kernel_rfl
def detenttop_tasks_l0 : RC :=
  RC.seq (RC.seq (RC.region 4 [
  ⟨some 6,.move (.t 4),none,0,[]⟩,
  ⟨some 7,.move (.t 0),none,1,[]⟩,
  ⟨some 8,.len (.t 7),none,2,[]⟩,
  ⟨some 9,.bin .lss (.t 6) (.t 8),none,3,[]⟩]) (RC.cond (.t 9) (RC.skip) (RC.exit 0))) (RC.seq (RC.block 1 (RC.region 11 [
  ⟨some 12,.fieldAddr 1 (.t 3),none,0,[]⟩,
  ⟨some 13,.load none (.t 12),none,1,[]⟩,
  ⟨some 14,.move (.t 0),none,2,[]⟩,
  ⟨some 15,.move (.t 4),none,3,[]⟩,
  ⟨some 16,.indexSl 1 (.t 14) (.t 15),none,4,[]⟩,
  ⟨some 17,.load none (.t 16),none,5,[]⟩,
  ⟨some 18,.build [.int .i64 0,.bool false] [(0,1,(.t 17)),(1,1,(.c (.s (.bool true))))],none,6,[]⟩,
  ⟨some 19,.buildSlice 2 1 [.int .i64 0,.bool false] [(0,2,(.t 18))],none,7,[]⟩,
  ⟨some 20,.append 2 16 (.t 13) (.t 19),none,8,[]⟩,
  ⟨some 21,.fieldAddr 1 (.t 3),none,9,[]⟩,
  ⟨none,.store 1 (.t 21) (.t 20),none,10,[]⟩])) (RC.region 3 [
  ⟨some 10,.move (.t 4),none,0,[]⟩,
  ⟨some 11,.bin .add (.t 10) (.c (.s (.int .i64 1))),none,1,[]⟩,
  ⟨some 4,.move (.t 11),none,2,[]⟩]))
def detenttop_tasks_s1 : RC :=
  RC.seq (RC.region 2 [
  ⟨some 22,.load (some 9) (.t 3),none,0,[]⟩,
  ⟨none,.store 9 (.t 2) (.t 22),none,1,[]⟩]) (RC.ret)
def detenttop_tasks : RFunc := RFunc.mk 23 [.cell 2 (some 9)] (
  RC.seq (RC.region 1 [
  ⟨some 2,.newc [.int .i64 0,.slice none 0 0 1,.slice none 0 0 1,.slice none 0 0 1,.slice none 0 0 1,.slice none 0 0 1,.slice none 0 0 1,.slice none 0 0 1,.int .i64 0],none,0,[]⟩]) (RC.seq (RC.region 3 [
  ⟨some 5,.build [.int .i64 0,.slice none 0 0 1,.slice none 0 0 1,.slice none 0 0 1,.slice none 0 0 1,.slice none 0 0 1,.slice none 0 0 1,.slice none 0 0 1,.int .i64 0] [(0,1,(.c (.s (.int .i64 1))))],none,0,[]⟩,
  ⟨some 3,.newc [.int .i64 0,.slice none 0 0 1,.slice none 0 0 1,.slice none 0 0 1,.slice none 0 0 1,.slice none 0 0 1,.slice none 0 0 1,.slice none 0 0 1,.int .i64 0],none,1,[]⟩,
  ⟨none,.store 9 (.t 3) (.t 5),none,2,[]⟩]) (RC.seq (RC.seq (RC.region 1 [
  ⟨some 4,.move (.c (.s (.int .i64 0))),none,0,[]⟩]) (RC.block 0 (RC.loop R.detenttop_tasks_l0))) R.detenttop_tasks_s1)))
theorem detenttop_tasks_ok : chkFunc Go.Proofs.Tryz.prog [0] Go.Proofs.Tryz.f9 detenttop_tasks = true := by kernel_rfl
def detenttop_open : RFunc := RFunc.mk 13 [.tmp 2] (
  RC.seq (RC.region 2 [
  ⟨some 1,.box (.t 0),none,0,[]⟩,
  ⟨some 2,.move (.c (.s (.ptr none))),none,1,[]⟩]) (RC.seq (RC.region 7 [
  ⟨some 6,.load (some 9) (.t 1),none,0,[]⟩,
  ⟨some 7,.call F.kern_New [(.t 6)],none,1,[]⟩,
  ⟨some 5,.move (.t 7),none,2,[]⟩,
  ⟨some 8,.extract 0 (.t 5),none,3,[]⟩,
  ⟨some 9,.extract 1 (.t 5),none,4,[]⟩,
  ⟨some 3,.move (.t 8),none,5,[]⟩,
  ⟨some 4,.move (.t 9),none,6,[]⟩]) (RC.seq (RC.seq (RC.region 2 [
  ⟨some 10,.move (.t 4),none,0,[]⟩,
  ⟨some 11,.bin .neq (.t 10) (.c (.s (.int .i64 0))),none,1,[]⟩]) (RC.cond (.t 11) (RC.seq (RC.region 1 [
  ⟨some 2,.move (.c (.s (.ptr none))),none,0,[]⟩]) (RC.ret)) (RC.skip))) (RC.seq (RC.region 2 [
  ⟨some 12,.move (.t 3),none,0,[]⟩,
  ⟨some 2,.move (.t 12),none,1,[]⟩]) (RC.ret)))))
theorem detenttop_open_ok : chkFunc Go.Proofs.Tryz.prog [0] Go.Proofs.Tryz.f10 detenttop_open = true := by kernel_rfl
def kern_Kernel_Task_s0 : RC :=
  RC.seq (RC.region 11 [
  ⟨some 70,.load (some 8) (.t 8),none,0,[]⟩,
  ⟨some 71,.move (.t 7),none,1,[]⟩,
  ⟨some 72,.nilCheck (.t 71),none,2,[]⟩,
  ⟨some 73,.fieldAddr 0 (.t 72),none,3,[]⟩,
  ⟨some 74,.load none (.t 73),none,4,[]⟩,
  ⟨some 75,.nilCheck (.t 74),none,5,[]⟩,
  ⟨some 76,.fieldAddr 0 (.t 75),none,6,[]⟩,
  ⟨some 77,.load (some 3) (.t 76),none,7,[]⟩,
  ⟨none,.store 8 (.t 4) (.t 70),none,8,[⟨74,none,(.t 73),none⟩,⟨77,(some 3),(.t 76),none⟩]⟩,
  ⟨none,.store 3 (.t 5) (.t 77),none,9,[]⟩,
  ⟨some 6,.move (.c (.s (.int .i64 0))),none,10,[]⟩]) (RC.ret)
def kern_Kernel_Task : RFunc := RFunc.mk 78 [.cell 4 (some 8),.cell 5 (some 3),.tmp 6] (
  RC.seq (RC.region 3 [
  ⟨some 4,.newc [.int .i64 0,.int .i64 0,.int .i64 0,.int .i64 0,.int .i64 0,.int .i64 0,.int .i64 0,.int .i64 0],none,0,[]⟩,
  ⟨some 5,.newc [.int .i64 0,.int .i64 0,.int .i64 0],none,1,[]⟩,
  ⟨some 6,.move (.c (.s (.int .i64 0))),none,2,[]⟩]) (RC.seq (RC.seq (RC.region 11 [
  ⟨some 9,.move (.t 1),none,0,[]⟩,
  ⟨some 10,.bin .lss (.t 9) (.c (.s (.int .i64 1))),none,1,[]⟩,
  ⟨some 11,.move (.t 10),none,2,[]⟩,
  ⟨some 12,.move (.t 1),(some (11,false)),3,[]⟩,
  ⟨some 13,.move (.t 0),(some (11,false)),4,[]⟩,
  ⟨some 14,.nilCheck (.t 13),(some (11,false)),5,[]⟩,
  ⟨some 15,.fieldAddr 9 (.t 14),(some (11,false)),6,[]⟩,
  ⟨some 16,.load none (.t 15),(some (11,false)),7,[]⟩,
  ⟨some 17,.len (.t 16),(some (11,false)),8,[]⟩,
  ⟨some 18,.bin .geq (.t 12) (.t 17),(some (11,false)),9,[]⟩,
  ⟨some 19,.pick (.t 11) (.c (.s (.bool true))) (.t 18),none,10,[]⟩]) (RC.cond (.t 19) (RC.seq (RC.region 5 [
  ⟨some 20,.build [.int .i64 0,.int .i64 0,.int .i64 0,.int .i64 0,.int .i64 0,.int .i64 0,.int .i64 0,.int .i64 0] [],none,0,[]⟩,
  ⟨some 21,.build [.int .i64 0,.int .i64 0,.int .i64 0] [],none,1,[]⟩,
  ⟨none,.store 8 (.t 4) (.t 20),none,2,[]⟩,
  ⟨none,.store 3 (.t 5) (.t 21),none,3,[]⟩,
  ⟨some 6,.move (.c (.s (.int .i64 (-18)))),none,4,[]⟩]) (RC.ret)) (RC.skip))) (RC.seq (RC.region 8 [
  ⟨some 22,.move (.t 0),none,0,[]⟩,
  ⟨some 23,.nilCheck (.t 22),none,1,[]⟩,
  ⟨some 24,.fieldAddr 9 (.t 23),none,2,[]⟩,
  ⟨some 25,.load none (.t 24),none,3,[]⟩,
  ⟨some 26,.move (.t 1),none,4,[]⟩,
  ⟨some 27,.indexSl 1 (.t 25) (.t 26),none,5,[]⟩,
  ⟨some 28,.load none (.t 27),none,6,[]⟩,
  ⟨some 7,.move (.t 28),none,7,[]⟩]) (RC.seq (RC.region 36 [
  ⟨some 29,.move (.t 7),none,0,[]⟩,
  ⟨some 30,.nilCheck (.t 29),none,1,[]⟩,
  ⟨some 31,.fieldAddr 0 (.t 30),none,2,[]⟩,
  ⟨some 32,.load none (.t 31),none,3,[]⟩,
  ⟨some 33,.nilCheck (.t 32),none,4,[]⟩,
  ⟨some 34,.fieldAddr 3 (.t 33),none,5,[]⟩,
  ⟨some 35,.load none (.t 34),none,6,[]⟩,
  ⟨some 36,.move (.t 0),none,7,[]⟩,
  ⟨some 37,.nilCheck (.t 36),none,8,[]⟩,
  ⟨some 38,.fieldAddr 0 (.t 37),none,9,[]⟩,
  ⟨some 39,.fieldAddr 5 (.t 38),none,10,[]⟩,
  ⟨some 40,.load none (.t 39),none,11,[]⟩,
  ⟨some 41,.move (.t 1),none,12,[]⟩,
  ⟨some 43,.move (.t 0),none,14,[]⟩,
  ⟨some 44,.nilCheck (.t 43),none,15,[]⟩,
  ⟨some 45,.fieldAddr 0 (.t 44),none,16,[]⟩,
  ⟨some 46,.fieldAddr 5 (.t 45),none,17,[]⟩,
  ⟨some 47,.load none (.t 46),none,18,[]⟩,
  ⟨some 48,.move (.t 1),none,19,[]⟩,
  ⟨some 50,.move (.t 7),none,21,[]⟩,
  ⟨some 51,.nilCheck (.t 50),none,22,[]⟩,
  ⟨some 52,.fieldAddr 3 (.t 51),none,23,[]⟩,
  ⟨some 53,.load none (.t 52),none,24,[]⟩,
  ⟨some 54,.move (.t 7),none,25,[]⟩,
  ⟨some 55,.nilCheck (.t 54),none,26,[]⟩,
  ⟨some 56,.fieldAddr 4 (.t 55),none,27,[]⟩,
  ⟨some 57,.load none (.t 56),none,28,[]⟩,
  ⟨some 58,.move (.t 7),none,29,[]⟩,
  ⟨some 59,.nilCheck (.t 58),none,30,[]⟩,
  ⟨some 60,.fieldAddr 6 (.t 59),none,31,[]⟩,
  ⟨some 61,.load (some 2) (.t 60),none,32,[]⟩,
  ⟨some 42,.call F.mtx_All_Pri [(.t 40),(.t 41)],none,13,[⟨32,none,(.t 31),none⟩,⟨35,none,(.t 34),none⟩,⟨47,none,(.t 46),none⟩,⟨53,none,(.t 52),none⟩,⟨57,none,(.t 56),none⟩,⟨61,(some 2),(.t 60),none⟩]⟩,
  ⟨some 49,.call F.mtx_All_Base [(.t 47),(.t 48)],none,20,[⟨32,none,(.t 31),none⟩,⟨35,none,(.t 34),none⟩,⟨53,none,(.t 52),none⟩,⟨57,none,(.t 56),none⟩,⟨61,(some 2),(.t 60),none⟩]⟩,
  ⟨some 62,.build [.int .i64 0,.int .i64 0,.int .i64 0,.int .i64 0,.int .i64 0,.int .i64 0,.int .i64 0,.int .i64 0] [(0,1,(.t 35)),(1,1,(.t 42)),(2,1,(.t 49)),(4,1,(.t 53)),(5,1,(.t 57)),(6,2,(.t 61))],none,33,[]⟩,
  ⟨some 8,.newc [.int .i64 0,.int .i64 0,.int .i64 0,.int .i64 0,.int .i64 0,.int .i64 0,.int .i64 0,.int .i64 0],none,34,[]⟩,
  ⟨none,.store 8 (.t 8) (.t 62),none,35,[]⟩]) (RC.seq (RC.seq (RC.region 6 [
  ⟨some 63,.move (.t 1),none,0,[]⟩,
  ⟨some 64,.move (.t 0),none,1,[]⟩,
  ⟨some 65,.nilCheck (.t 64),none,2,[]⟩,
  ⟨some 66,.fieldAddr 12 (.t 65),none,3,[]⟩,
  ⟨some 67,.load none (.t 66),none,4,[]⟩,
  ⟨some 68,.bin .eql (.t 63) (.t 67),none,5,[]⟩]) (RC.cond (.t 68) (RC.region 2 [
  ⟨some 69,.fieldAddr 0 (.t 8),none,0,[]⟩,
  ⟨none,.store 1 (.t 69) (.c (.s (.int .i64 1))),none,1,[]⟩]) (RC.skip))) R.kern_Kernel_Task_s0)))))
theorem kern_Kernel_Task_ok : chkFunc Go.Proofs.Tryz.prog [0] Go.Proofs.Tryz.f15 kern_Kernel_Task = true := by kernel_rfl
def kern_Kernel_Do_s0 : RC :=
  RC.seq (RC.region 2 [
  ⟨some 80,.move (.t 0),none,0,[]⟩,
  ⟨some 81,.call F.kern_Kernel_choose [(.t 80)],none,1,[]⟩]) (RC.seq (RC.region 2 [
  ⟨some 82,.load (some 2) (.t 6),none,0,[]⟩,
  ⟨none,.store 2 (.t 4) (.t 82),none,1,[]⟩]) (RC.ret))
def kern_Kernel_Do : RFunc := RFunc.mk 83 [.cell 4 (some 2)] (
  RC.seq (RC.region 2 [
  ⟨some 3,.box (.t 1),none,0,[]⟩,
  ⟨some 4,.newc [.int .i64 0,.int .i64 0],none,1,[]⟩]) (RC.seq (RC.seq (RC.region 4 [
  ⟨some 7,.fieldAddr 0 (.t 3),none,0,[]⟩,
  ⟨some 8,.load none (.t 7),none,1,[]⟩,
  ⟨some 9,.call F.calls_Known [(.t 8)],none,2,[]⟩,
  ⟨some 10,.un .not (.t 9),none,3,[]⟩]) (RC.cond (.t 10) (RC.seq (RC.region 2 [
  ⟨some 11,.call F.kern_say [(.c (.s (.int .i64 (-10)))),(.c (.s (.slice none 0 0 1)))],none,0,[]⟩,
  ⟨none,.store 2 (.t 4) (.t 11),none,1,[]⟩]) (RC.ret)) (RC.skip))) (RC.seq (RC.seq (RC.region 13 [
  ⟨some 12,.move (.t 0),none,0,[]⟩,
  ⟨some 13,.nilCheck (.t 12),none,1,[]⟩,
  ⟨some 14,.fieldAddr 6 (.t 13),none,2,[]⟩,
  ⟨some 15,.load none (.t 14),none,3,[]⟩,
  ⟨some 16,.load (some 5) (.t 3),none,4,[]⟩,
  ⟨some 18,.move (.t 0),none,6,[]⟩,
  ⟨some 19,.nilCheck (.t 18),none,7,[]⟩,
  ⟨some 20,.fieldAddr 12 (.t 19),none,8,[]⟩,
  ⟨some 21,.load none (.t 20),none,9,[]⟩,
  ⟨some 22,.bin .eql (.t 21) (.c (.s (.int .i64 0))),none,10,[]⟩,
  ⟨some 17,.call F.calls_Kind [(.t 16)],none,5,[⟨15,none,(.t 14),none⟩,⟨21,none,(.t 20),none⟩]⟩,
  ⟨some 23,.call F.ctx_Place_May [(.t 15),(.t 17),(.t 22)],none,11,[]⟩,
  ⟨some 5,.move (.t 23),none,12,[]⟩]) (RC.seq (RC.region 2 [
  ⟨some 24,.move (.t 5),none,0,[]⟩,
  ⟨some 25,.bin .neq (.t 24) (.c (.s (.int .i64 0))),none,1,[]⟩]) (RC.cond (.t 25) (RC.seq (RC.region 3 [
  ⟨some 26,.move (.t 5),none,0,[]⟩,
  ⟨some 27,.call F.kern_say [(.t 26),(.c (.s (.slice none 0 0 1)))],none,1,[]⟩,
  ⟨none,.store 2 (.t 4) (.t 27),none,2,[]⟩]) (RC.ret)) (RC.skip)))) (RC.seq (RC.region 1 [
  ⟨some 6,.newc [.int .i64 0,.int .i64 0],none,0,[]⟩]) (RC.seq (RC.block 0 (RC.seq (RC.region 4 [
  ⟨some 32,.fieldAddr 0 (.t 3),none,0,[]⟩,
  ⟨some 33,.load none (.t 32),none,1,[]⟩,
  ⟨some 34,.bin .leq (.t 33) (.c (.s (.int .i64 22))),none,2,[]⟩,
  ⟨some 31,.move (.t 34),none,3,[]⟩]) (RC.cond (.t 31) (RC.region 4 [
  ⟨some 35,.move (.t 0),none,0,[]⟩,
  ⟨some 36,.load (some 5) (.t 3),none,1,[]⟩,
  ⟨some 37,.call F.kern_Kernel_tasks [(.t 35),(.t 36)],none,2,[]⟩,
  ⟨none,.store 2 (.t 6) (.t 37),none,3,[]⟩]) (RC.seq (RC.region 4 [
  ⟨some 39,.fieldAddr 0 (.t 3),none,0,[]⟩,
  ⟨some 40,.load none (.t 39),none,1,[]⟩,
  ⟨some 41,.bin .leq (.t 40) (.c (.s (.int .i64 27))),none,2,[]⟩,
  ⟨some 38,.move (.t 41),none,3,[]⟩]) (RC.cond (.t 38) (RC.region 4 [
  ⟨some 42,.move (.t 0),none,0,[]⟩,
  ⟨some 43,.load (some 5) (.t 3),none,1,[]⟩,
  ⟨some 44,.call F.kern_Kernel_sem [(.t 42),(.t 43)],none,2,[]⟩,
  ⟨none,.store 2 (.t 6) (.t 44),none,3,[]⟩]) (RC.seq (RC.region 4 [
  ⟨some 46,.fieldAddr 0 (.t 3),none,0,[]⟩,
  ⟨some 47,.load none (.t 46),none,1,[]⟩,
  ⟨some 48,.bin .leq (.t 47) (.c (.s (.int .i64 33))),none,2,[]⟩,
  ⟨some 45,.move (.t 48),none,3,[]⟩]) (RC.cond (.t 45) (RC.region 4 [
  ⟨some 49,.move (.t 0),none,0,[]⟩,
  ⟨some 50,.load (some 5) (.t 3),none,1,[]⟩,
  ⟨some 51,.call F.kern_Kernel_flag [(.t 49),(.t 50)],none,2,[]⟩,
  ⟨none,.store 2 (.t 6) (.t 51),none,3,[]⟩]) (RC.seq (RC.region 4 [
  ⟨some 53,.fieldAddr 0 (.t 3),none,0,[]⟩,
  ⟨some 54,.load none (.t 53),none,1,[]⟩,
  ⟨some 55,.bin .leq (.t 54) (.c (.s (.int .i64 42))),none,2,[]⟩,
  ⟨some 52,.move (.t 55),none,3,[]⟩]) (RC.cond (.t 52) (RC.region 4 [
  ⟨some 56,.move (.t 0),none,0,[]⟩,
  ⟨some 57,.load (some 5) (.t 3),none,1,[]⟩,
  ⟨some 58,.call F.kern_Kernel_data [(.t 56),(.t 57)],none,2,[]⟩,
  ⟨none,.store 2 (.t 6) (.t 58),none,3,[]⟩]) (RC.seq (RC.region 4 [
  ⟨some 60,.fieldAddr 0 (.t 3),none,0,[]⟩,
  ⟨some 61,.load none (.t 60),none,1,[]⟩,
  ⟨some 62,.bin .leq (.t 61) (.c (.s (.int .i64 46))),none,2,[]⟩,
  ⟨some 59,.move (.t 62),none,3,[]⟩]) (RC.cond (.t 59) (RC.region 4 [
  ⟨some 63,.move (.t 0),none,0,[]⟩,
  ⟨some 64,.load (some 5) (.t 3),none,1,[]⟩,
  ⟨some 65,.call F.kern_Kernel_mutex [(.t 63),(.t 64)],none,2,[]⟩,
  ⟨none,.store 2 (.t 6) (.t 65),none,3,[]⟩]) (RC.seq (RC.region 4 [
  ⟨some 67,.fieldAddr 0 (.t 3),none,0,[]⟩,
  ⟨some 68,.load none (.t 67),none,1,[]⟩,
  ⟨some 69,.bin .leq (.t 68) (.c (.s (.int .i64 50))),none,2,[]⟩,
  ⟨some 66,.move (.t 69),none,3,[]⟩]) (RC.cond (.t 66) (RC.region 4 [
  ⟨some 70,.move (.t 0),none,0,[]⟩,
  ⟨some 71,.load (some 5) (.t 3),none,1,[]⟩,
  ⟨some 72,.call F.kern_Kernel_block [(.t 70),(.t 71)],none,2,[]⟩,
  ⟨none,.store 2 (.t 6) (.t 72),none,3,[]⟩]) (RC.seq (RC.region 4 [
  ⟨some 74,.fieldAddr 0 (.t 3),none,0,[]⟩,
  ⟨some 75,.load none (.t 74),none,1,[]⟩,
  ⟨some 76,.bin .leq (.t 75) (.c (.s (.int .i64 56))),none,2,[]⟩,
  ⟨some 73,.move (.t 76),none,3,[]⟩]) (RC.cond (.t 73) (RC.region 4 [
  ⟨some 77,.move (.t 0),none,0,[]⟩,
  ⟨some 78,.load (some 5) (.t 3),none,1,[]⟩,
  ⟨some 79,.call F.kern_Kernel_time [(.t 77),(.t 78)],none,2,[]⟩,
  ⟨none,.store 2 (.t 6) (.t 79),none,3,[]⟩]) (RC.region 4 [
  ⟨some 28,.move (.t 0),none,0,[]⟩,
  ⟨some 29,.load (some 5) (.t 3),none,1,[]⟩,
  ⟨some 30,.call F.kern_Kernel_state [(.t 28),(.t 29)],none,2,[]⟩,
  ⟨none,.store 2 (.t 6) (.t 30),none,3,[]⟩])))))))))))))))) R.kern_Kernel_Do_s0)))))
theorem kern_Kernel_Do_ok : chkFunc Go.Proofs.Tryz.prog [0] Go.Proofs.Tryz.f16 kern_Kernel_Do = true := by kernel_rfl
def calls_Make : RFunc := RFunc.mk 13 [.cell 4 (some 5)] (
  RC.seq (RC.region 1 [
  ⟨some 4,.newc [.int .i64 0,.int .i64 0,.int .i64 0,.int .i64 0,.int .i64 0],none,0,[]⟩]) (RC.seq (RC.region 4 [
  ⟨some 6,.move (.t 0),none,0,[]⟩,
  ⟨some 7,.build [.int .i64 0,.int .i64 0,.int .i64 0,.int .i64 0,.int .i64 0] [(0,1,(.t 6))],none,1,[]⟩,
  ⟨some 5,.newc [.int .i64 0,.int .i64 0,.int .i64 0,.int .i64 0,.int .i64 0],none,2,[]⟩,
  ⟨none,.store 5 (.t 5) (.t 7),none,3,[]⟩]) (RC.seq (RC.region 4 [
  ⟨some 8,.fieldAddr 1 (.t 5),none,0,[]⟩,
  ⟨some 9,.hop (.slArr 4 1) [(.t 8)],none,1,[]⟩,
  ⟨some 10,.move (.t 1),none,2,[]⟩,
  ⟨some 11,.copy 1 (.t 9) (.t 10),none,3,[]⟩]) (RC.seq (RC.region 2 [
  ⟨some 12,.load (some 5) (.t 5),none,0,[]⟩,
  ⟨none,.store 5 (.t 4) (.t 12),none,1,[]⟩]) (RC.ret)))))
theorem calls_Make_ok : chkFunc Go.Proofs.Tryz.prog [0] Go.Proofs.Tryz.f17 calls_Make = true := by kernel_rfl
def kern_Kernel_Tick_s0 : RC :=
  RC.seq (RC.region 3 [
  ⟨some 33,.move (.t 0),none,0,[]⟩,
  ⟨some 34,.move (.t 6),none,1,[]⟩,
  ⟨some 35,.call F.kern_Kernel_leave [(.t 33),(.t 34)],none,2,[]⟩]) (RC.seq (RC.region 5 [
  ⟨some 36,.move (.t 0),none,0,[]⟩,
  ⟨some 37,.move (.t 6),none,1,[]⟩,
  ⟨some 38,.move (.t 7),none,2,[]⟩,
  ⟨some 39,.build [.int .i64 0,.int .i64 0] [(0,1,(.t 38))],none,3,[]⟩,
  ⟨some 40,.call F.kern_Kernel_wake [(.t 36),(.t 37),(.t 39)],none,4,[]⟩]) (RC.region 2 [
  ⟨some 41,.move (.t 0),none,0,[]⟩,
  ⟨some 42,.call F.kern_Kernel_settle [(.t 41)],none,1,[]⟩]))
def kern_Kernel_Tick_s1 : RC :=
  RC.region 2 [
  ⟨some 43,.bin .add (.t 18) (.c (.s (.int .i64 1))),none,0,[]⟩,
  ⟨some 18,.move (.t 43),none,1,[]⟩]
def kern_Kernel_Tick_l2 : RC :=
  RC.seq (RC.region 1 [
  ⟨some 19,.bin .lss (.t 18) (.t 17),none,0,[]⟩]) (RC.seq (RC.cond (.t 19) (RC.skip) (RC.exit 0)) (RC.seq (RC.block 1 (RC.seq (RC.region 3 [
  ⟨some 20,.indexSl 1 (.t 16) (.t 18),none,0,[]⟩,
  ⟨some 21,.load none (.t 20),none,1,[]⟩,
  ⟨some 6,.move (.t 21),none,2,[]⟩]) (RC.seq (RC.region 1 [
  ⟨some 7,.move (.c (.s (.int .i64 (-50)))),none,0,[]⟩]) (RC.seq (RC.seq (RC.region 11 [
  ⟨some 22,.move (.t 0),none,0,[]⟩,
  ⟨some 23,.nilCheck (.t 22),none,1,[]⟩,
  ⟨some 24,.fieldAddr 9 (.t 23),none,2,[]⟩,
  ⟨some 25,.load none (.t 24),none,3,[]⟩,
  ⟨some 26,.move (.t 6),none,4,[]⟩,
  ⟨some 27,.indexSl 1 (.t 25) (.t 26),none,5,[]⟩,
  ⟨some 28,.load none (.t 27),none,6,[]⟩,
  ⟨some 29,.nilCheck (.t 28),none,7,[]⟩,
  ⟨some 30,.fieldAddr 3 (.t 29),none,8,[]⟩,
  ⟨some 31,.load none (.t 30),none,9,[]⟩,
  ⟨some 32,.bin .eql (.t 31) (.c (.s (.int .i64 2))),none,10,[]⟩]) (RC.cond (.t 32) (RC.region 1 [
  ⟨some 7,.move (.c (.s (.int .i64 0))),none,0,[]⟩]) (RC.skip))) R.kern_Kernel_Tick_s0)))) R.kern_Kernel_Tick_s1))
def kern_Kernel_Tick_s3 : RC :=
  RC.seq (RC.region 2 [
  ⟨some 44,.move (.t 0),none,0,[]⟩,
  ⟨some 45,.call F.kern_Kernel_choose [(.t 44)],none,1,[]⟩]) (RC.seq (RC.region 2 [
  ⟨some 46,.move (.t 3),none,0,[]⟩,
  ⟨some 2,.move (.t 46),none,1,[]⟩]) (RC.ret))
def kern_Kernel_Tick : RFunc := RFunc.mk 47 [.tmp 2] (
  RC.seq (RC.region 1 [
  ⟨some 2,.move (.c (.s (.slice none 0 0 1))),none,0,[]⟩]) (RC.seq (RC.region 10 [
  ⟨some 9,.move (.t 0),none,0,[]⟩,
  ⟨some 10,.nilCheck (.t 9),none,1,[]⟩,
  ⟨some 11,.fieldAddr 7 (.t 10),none,2,[]⟩,
  ⟨some 12,.load none (.t 11),none,3,[]⟩,
  ⟨some 13,.call F.cyc_Hands_Pass [(.t 12)],none,4,[]⟩,
  ⟨some 8,.move (.t 13),none,5,[]⟩,
  ⟨some 14,.extract 0 (.t 8),none,6,[]⟩,
  ⟨some 15,.extract 1 (.t 8),none,7,[]⟩,
  ⟨some 3,.move (.t 14),none,8,[]⟩,
  ⟨some 4,.move (.t 15),none,9,[]⟩]) (RC.seq (RC.seq (RC.region 3 [
  ⟨some 16,.move (.t 4),none,0,[]⟩,
  ⟨some 17,.len (.t 16),none,1,[]⟩,
  ⟨some 18,.move (.c (.s (.int .i64 0))),none,2,[]⟩]) (RC.block 0 (RC.loop R.kern_Kernel_Tick_l2))) R.kern_Kernel_Tick_s3)))
theorem kern_Kernel_Tick_ok : chkFunc Go.Proofs.Tryz.prog [0] Go.Proofs.Tryz.f18 kern_Kernel_Tick = true := by kernel_rfl
def kern_Kernel_Sem : RFunc := RFunc.mk 30 [.tmp 4,.tmp 5,.tmp 6] (
  RC.seq (RC.region 3 [
  ⟨some 4,.move (.c (.s (.int .i64 0))),none,0,[]⟩,
  ⟨some 5,.move (.c (.s (.slice none 0 0 1))),none,1,[]⟩,
  ⟨some 6,.move (.c (.s (.int .i64 0))),none,2,[]⟩]) (RC.seq (RC.region 12 [
  ⟨some 10,.move (.t 0),none,0,[]⟩,
  ⟨some 11,.nilCheck (.t 10),none,1,[]⟩,
  ⟨some 12,.fieldAddr 0 (.t 11),none,2,[]⟩,
  ⟨some 13,.fieldAddr 0 (.t 12),none,3,[]⟩,
  ⟨some 14,.load none (.t 13),none,4,[]⟩,
  ⟨some 15,.move (.t 1),none,5,[]⟩,
  ⟨some 16,.call F.kern_at__sem_Sem [(.t 14),(.t 15)],none,6,[]⟩,
  ⟨some 9,.move (.t 16),none,7,[]⟩,
  ⟨some 17,.extract 0 (.t 9),none,8,[]⟩,
  ⟨some 18,.extract 1 (.t 9),none,9,[]⟩,
  ⟨some 7,.move (.t 17),none,10,[]⟩,
  ⟨some 8,.move (.t 18),none,11,[]⟩]) (RC.seq (RC.seq (RC.region 2 [
  ⟨some 19,.move (.t 8),none,0,[]⟩,
  ⟨some 20,.un .not (.t 19),none,1,[]⟩]) (RC.cond (.t 20) (RC.seq (RC.region 3 [
  ⟨some 4,.move (.c (.s (.int .i64 0))),none,0,[]⟩,
  ⟨some 5,.move (.c (.s (.slice none 0 0 1))),none,1,[]⟩,
  ⟨some 6,.move (.c (.s (.int .i64 (-18)))),none,2,[]⟩]) (RC.ret)) (RC.skip))) (RC.seq (RC.region 12 [
  ⟨some 21,.move (.t 7),none,0,[]⟩,
  ⟨some 22,.nilCheck (.t 21),none,1,[]⟩,
  ⟨some 23,.fieldAddr 1 (.t 22),none,2,[]⟩,
  ⟨some 24,.load none (.t 23),none,3,[]⟩,
  ⟨some 25,.move (.t 7),none,4,[]⟩,
  ⟨some 26,.nilCheck (.t 25),none,5,[]⟩,
  ⟨some 27,.fieldAddr 0 (.t 26),none,6,[]⟩,
  ⟨some 28,.load none (.t 27),none,7,[]⟩,
  ⟨some 29,.call F.kern_ids [(.t 28)],none,8,[⟨24,none,(.t 23),none⟩]⟩,
  ⟨some 4,.move (.t 24),none,9,[]⟩,
  ⟨some 5,.move (.t 29),none,10,[]⟩,
  ⟨some 6,.move (.c (.s (.int .i64 0))),none,11,[]⟩]) (RC.ret)))))
theorem kern_Kernel_Sem_ok : chkFunc Go.Proofs.Tryz.prog [0] Go.Proofs.Tryz.f19 kern_Kernel_Sem = true := by kernel_rfl
def kern_Kernel_Pool : RFunc := RFunc.mk 28 [.tmp 4,.tmp 5,.tmp 6] (
  RC.seq (RC.region 3 [
  ⟨some 4,.move (.c (.s (.int .i64 0))),none,0,[]⟩,
  ⟨some 5,.move (.c (.s (.slice none 0 0 1))),none,1,[]⟩,
  ⟨some 6,.move (.c (.s (.int .i64 0))),none,2,[]⟩]) (RC.seq (RC.region 12 [
  ⟨some 10,.move (.t 0),none,0,[]⟩,
  ⟨some 11,.nilCheck (.t 10),none,1,[]⟩,
  ⟨some 12,.fieldAddr 0 (.t 11),none,2,[]⟩,
  ⟨some 13,.fieldAddr 3 (.t 12),none,3,[]⟩,
  ⟨some 14,.load none (.t 13),none,4,[]⟩,
  ⟨some 15,.move (.t 1),none,5,[]⟩,
  ⟨some 16,.call F.kern_at__mpf_Pool [(.t 14),(.t 15)],none,6,[]⟩,
  ⟨some 9,.move (.t 16),none,7,[]⟩,
  ⟨some 17,.extract 0 (.t 9),none,8,[]⟩,
  ⟨some 18,.extract 1 (.t 9),none,9,[]⟩,
  ⟨some 7,.move (.t 17),none,10,[]⟩,
  ⟨some 8,.move (.t 18),none,11,[]⟩]) (RC.seq (RC.seq (RC.region 2 [
  ⟨some 19,.move (.t 8),none,0,[]⟩,
  ⟨some 20,.un .not (.t 19),none,1,[]⟩]) (RC.cond (.t 20) (RC.seq (RC.region 3 [
  ⟨some 4,.move (.c (.s (.int .i64 0))),none,0,[]⟩,
  ⟨some 5,.move (.c (.s (.slice none 0 0 1))),none,1,[]⟩,
  ⟨some 6,.move (.c (.s (.int .i64 (-18)))),none,2,[]⟩]) (RC.ret)) (RC.skip))) (RC.seq (RC.region 10 [
  ⟨some 21,.move (.t 7),none,0,[]⟩,
  ⟨some 23,.move (.t 7),none,2,[]⟩,
  ⟨some 24,.nilCheck (.t 23),none,3,[]⟩,
  ⟨some 25,.fieldAddr 0 (.t 24),none,4,[]⟩,
  ⟨some 26,.load none (.t 25),none,5,[]⟩,
  ⟨some 22,.call F.mpf_Pool_Free [(.t 21)],none,1,[⟨26,none,(.t 25),none⟩]⟩,
  ⟨some 27,.call F.kern_ids [(.t 26)],none,6,[]⟩,
  ⟨some 4,.move (.t 22),none,7,[]⟩,
  ⟨some 5,.move (.t 27),none,8,[]⟩,
  ⟨some 6,.move (.c (.s (.int .i64 0))),none,9,[]⟩]) (RC.ret)))))
theorem kern_Kernel_Pool_ok : chkFunc Go.Proofs.Tryz.prog [0] Go.Proofs.Tryz.f20 kern_Kernel_Pool = true := by kernel_rfl
def kern_Kernel_Mtx : RFunc := RFunc.mk 32 [.tmp 4,.tmp 5,.tmp 6] (
  RC.seq (RC.region 3 [
  ⟨some 4,.move (.c (.s (.int .i64 0))),none,0,[]⟩,
  ⟨some 5,.move (.c (.s (.slice none 0 0 1))),none,1,[]⟩,
  ⟨some 6,.move (.c (.s (.int .i64 0))),none,2,[]⟩]) (RC.seq (RC.seq (RC.region 11 [
  ⟨some 7,.move (.t 1),none,0,[]⟩,
  ⟨some 8,.bin .lss (.t 7) (.c (.s (.int .i64 1))),none,1,[]⟩,
  ⟨some 9,.move (.t 8),none,2,[]⟩,
  ⟨some 10,.move (.t 1),(some (9,false)),3,[]⟩,
  ⟨some 11,.move (.t 0),(some (9,false)),4,[]⟩,
  ⟨some 12,.nilCheck (.t 11),(some (9,false)),5,[]⟩,
  ⟨some 13,.fieldAddr 0 (.t 12),(some (9,false)),6,[]⟩,
  ⟨some 14,.fieldAddr 4 (.t 13),(some (9,false)),7,[]⟩,
  ⟨some 15,.load none (.t 14),(some (9,false)),8,[]⟩,
  ⟨some 16,.bin .gtr (.t 10) (.t 15),(some (9,false)),9,[]⟩,
  ⟨some 17,.pick (.t 9) (.c (.s (.bool true))) (.t 16),none,10,[]⟩]) (RC.cond (.t 17) (RC.seq (RC.region 3 [
  ⟨some 4,.move (.c (.s (.int .i64 0))),none,0,[]⟩,
  ⟨some 5,.move (.c (.s (.slice none 0 0 1))),none,1,[]⟩,
  ⟨some 6,.move (.c (.s (.int .i64 (-18)))),none,2,[]⟩]) (RC.ret)) (RC.skip))) (RC.seq (RC.region 17 [
  ⟨some 18,.move (.t 0),none,0,[]⟩,
  ⟨some 19,.nilCheck (.t 18),none,1,[]⟩,
  ⟨some 20,.fieldAddr 0 (.t 19),none,2,[]⟩,
  ⟨some 21,.fieldAddr 5 (.t 20),none,3,[]⟩,
  ⟨some 22,.load none (.t 21),none,4,[]⟩,
  ⟨some 23,.move (.t 1),none,5,[]⟩,
  ⟨some 25,.move (.t 0),none,7,[]⟩,
  ⟨some 26,.nilCheck (.t 25),none,8,[]⟩,
  ⟨some 27,.fieldAddr 0 (.t 26),none,9,[]⟩,
  ⟨some 28,.fieldAddr 5 (.t 27),none,10,[]⟩,
  ⟨some 29,.load none (.t 28),none,11,[]⟩,
  ⟨some 30,.move (.t 1),none,12,[]⟩,
  ⟨some 24,.call F.mtx_All_Owner [(.t 22),(.t 23)],none,6,[⟨29,none,(.t 28),none⟩]⟩,
  ⟨some 31,.call F.mtx_All_Waiting [(.t 29),(.t 30)],none,13,[]⟩,
  ⟨some 4,.move (.t 24),none,14,[]⟩,
  ⟨some 5,.move (.t 31),none,15,[]⟩,
  ⟨some 6,.move (.c (.s (.int .i64 0))),none,16,[]⟩]) (RC.ret))))
theorem kern_Kernel_Mtx_ok : chkFunc Go.Proofs.Tryz.prog [0] Go.Proofs.Tryz.f21 kern_Kernel_Mtx = true := by kernel_rfl
def tcb_Counts_Any : RFunc := RFunc.mk 6 [.tmp 2] (
  RC.seq (RC.region 2 [
  ⟨some 1,.box (.t 0),none,0,[]⟩,
  ⟨some 2,.move (.c (.s (.bool false))),none,1,[]⟩]) (RC.seq (RC.region 4 [
  ⟨some 3,.load (some 3) (.t 1),none,0,[]⟩,
  ⟨some 4,.build [.int .i64 0,.int .i64 0,.int .i64 0] [],none,1,[]⟩,
  ⟨some 5,.eqAgg [false,false,false] true (.t 3) (.t 4),none,2,[]⟩,
  ⟨some 2,.move (.t 5),none,3,[]⟩]) (RC.ret)))
theorem tcb_Counts_Any_ok : chkFunc Go.Proofs.Tryz.prog [0] Go.Proofs.Tryz.f22 tcb_Counts_Any = true := by kernel_rfl
def kern_Kernel_Running : RFunc := RFunc.mk 7 [.tmp 2] (
  RC.seq (RC.region 1 [
  ⟨some 2,.move (.c (.s (.int .i64 0))),none,0,[]⟩]) (RC.seq (RC.region 5 [
  ⟨some 3,.move (.t 0),none,0,[]⟩,
  ⟨some 4,.nilCheck (.t 3),none,1,[]⟩,
  ⟨some 5,.fieldAddr 12 (.t 4),none,2,[]⟩,
  ⟨some 6,.load none (.t 5),none,3,[]⟩,
  ⟨some 2,.move (.t 6),none,4,[]⟩]) (RC.ret)))
theorem kern_Kernel_Running_ok : chkFunc Go.Proofs.Tryz.prog [0] Go.Proofs.Tryz.f23 kern_Kernel_Running = true := by kernel_rfl
def detenttop_state : RFunc := RFunc.mk 17 [.tmp 4] (
  RC.seq (RC.region 1 [
  ⟨some 4,.move (.c (.s (.int .i64 0))),none,0,[]⟩]) (RC.seq (RC.region 12 [
  ⟨some 9,.move (.t 0),none,0,[]⟩,
  ⟨some 10,.move (.t 1),none,1,[]⟩,
  ⟨some 11,.call F.kern_Kernel_Task [(.t 9),(.t 10)],none,2,[]⟩,
  ⟨some 8,.move (.t 11),none,3,[]⟩,
  ⟨some 12,.extract 0 (.t 8),none,4,[]⟩,
  ⟨some 13,.extract 1 (.t 8),none,5,[]⟩,
  ⟨some 14,.extract 2 (.t 8),none,6,[]⟩,
  ⟨some 5,.newc [.int .i64 0,.int .i64 0,.int .i64 0,.int .i64 0,.int .i64 0,.int .i64 0,.int .i64 0,.int .i64 0],none,7,[]⟩,
  ⟨some 6,.newc [.int .i64 0,.int .i64 0,.int .i64 0],none,8,[]⟩,
  ⟨none,.store 8 (.t 5) (.t 12),none,9,[]⟩,
  ⟨none,.store 3 (.t 6) (.t 13),none,10,[]⟩,
  ⟨some 7,.move (.t 14),none,11,[]⟩]) (RC.seq (RC.region 3 [
  ⟨some 15,.fieldAddr 0 (.t 5),none,0,[]⟩,
  ⟨some 16,.load none (.t 15),none,1,[]⟩,
  ⟨some 4,.move (.t 16),none,2,[]⟩]) (RC.ret))))
theorem detenttop_state_ok : chkFunc Go.Proofs.Tryz.prog [0] Go.Proofs.Tryz.f24 detenttop_state = true := by kernel_rfl
def kern_Kernel_Now : RFunc := RFunc.mk 11 [.tmp 2] (
  RC.seq (RC.region 1 [
  ⟨some 2,.move (.c (.s (.int .u64 0))),none,0,[]⟩]) (RC.seq (RC.region 9 [
  ⟨some 3,.move (.t 0),none,0,[]⟩,
  ⟨some 4,.nilCheck (.t 3),none,1,[]⟩,
  ⟨some 5,.fieldAddr 7 (.t 4),none,2,[]⟩,
  ⟨some 6,.load none (.t 5),none,3,[]⟩,
  ⟨some 7,.nilCheck (.t 6),none,4,[]⟩,
  ⟨some 8,.fieldAddr 0 (.t 7),none,5,[]⟩,
  ⟨some 9,.load none (.t 8),none,6,[]⟩,
  ⟨some 10,.call F.clock_Clock_Now [(.t 9)],none,7,[]⟩,
  ⟨some 2,.move (.t 10),none,8,[]⟩]) (RC.ret)))
theorem kern_Kernel_Now_ok : chkFunc Go.Proofs.Tryz.prog [0] Go.Proofs.Tryz.f25 kern_Kernel_Now = true := by kernel_rfl
def detenttop_do : RFunc := RFunc.mk 18 [.tmp 6,.tmp 7] (
  RC.seq (RC.region 2 [
  ⟨some 6,.move (.c (.s (.int .i64 0))),none,0,[]⟩,
  ⟨some 7,.move (.c (.s (.int .i64 0))),none,1,[]⟩]) (RC.seq (RC.region 7 [
  ⟨some 9,.move (.t 0),none,0,[]⟩,
  ⟨some 10,.move (.t 1),none,1,[]⟩,
  ⟨some 11,.move (.t 2),none,2,[]⟩,
  ⟨some 12,.call F.calls_Make [(.t 10),(.t 11)],none,3,[]⟩,
  ⟨some 13,.call F.kern_Kernel_Do [(.t 9),(.t 12)],none,4,[]⟩,
  ⟨some 8,.newc [.int .i64 0,.int .i64 0],none,5,[]⟩,
  ⟨none,.store 2 (.t 8) (.t 13),none,6,[]⟩]) (RC.seq (RC.region 6 [
  ⟨some 14,.fieldAddr 0 (.t 8),none,0,[]⟩,
  ⟨some 15,.load none (.t 14),none,1,[]⟩,
  ⟨some 16,.fieldAddr 1 (.t 8),none,2,[]⟩,
  ⟨some 17,.load none (.t 16),none,3,[]⟩,
  ⟨some 6,.move (.t 15),none,4,[]⟩,
  ⟨some 7,.move (.t 17),none,5,[]⟩]) (RC.ret))))
theorem detenttop_do_ok : chkFunc Go.Proofs.Tryz.prog [0] Go.Proofs.Tryz.f13 detenttop_do = true := by kernel_rfl
def kern_New_l0 : RC :=
  RC.seq (RC.region 1 [
  ⟨some 51,.bin .lss (.t 50) (.t 49),none,0,[]⟩]) (RC.seq (RC.cond (.t 51) (RC.skip) (RC.exit 0)) (RC.seq (RC.block 1 (RC.seq (RC.region 4 [
  ⟨some 52,.indexSl 4 (.t 48) (.t 50),none,0,[]⟩,
  ⟨some 53,.load (some 4) (.t 52),none,1,[]⟩,
  ⟨some 9,.newc [.int .i64 0,.int .i64 0,.bool false,.bool false],none,2,[]⟩,
  ⟨none,.store 4 (.t 9) (.t 53),none,3,[]⟩]) (RC.region 13 [
  ⟨some 54,.move (.t 7),none,0,[]⟩,
  ⟨some 55,.nilCheck (.t 54),none,1,[]⟩,
  ⟨some 56,.fieldAddr 7 (.t 55),none,2,[]⟩,
  ⟨some 57,.load none (.t 56),none,3,[]⟩,
  ⟨some 58,.fieldAddr 0 (.t 9),none,4,[]⟩,
  ⟨some 59,.load none (.t 58),none,5,[]⟩,
  ⟨some 60,.fieldAddr 1 (.t 9),none,6,[]⟩,
  ⟨some 61,.load none (.t 60),none,7,[]⟩,
  ⟨some 62,.fieldAddr 2 (.t 9),none,8,[]⟩,
  ⟨some 63,.load none (.t 62),none,9,[]⟩,
  ⟨some 64,.fieldAddr 3 (.t 9),none,10,[]⟩,
  ⟨some 65,.load none (.t 64),none,11,[]⟩,
  ⟨some 66,.call F.cyc_Hands_Cyclic [(.t 57),(.t 59),(.t 61),(.t 63),(.t 65)],none,12,[]⟩]))) (RC.region 2 [
  ⟨some 67,.bin .add (.t 50) (.c (.s (.int .i64 1))),none,0,[]⟩,
  ⟨some 50,.move (.t 67),none,1,[]⟩])))
def kern_New_l1 : RC :=
  RC.seq (RC.region 1 [
  ⟨some 71,.bin .lss (.t 70) (.t 69),none,0,[]⟩]) (RC.seq (RC.cond (.t 71) (RC.skip) (RC.exit 2)) (RC.seq (RC.block 3 (RC.region 5 [
  ⟨some 72,.move (.t 7),none,0,[]⟩,
  ⟨some 73,.nilCheck (.t 72),none,1,[]⟩,
  ⟨some 74,.fieldAddr 7 (.t 73),none,2,[]⟩,
  ⟨some 75,.load none (.t 74),none,3,[]⟩,
  ⟨some 76,.call F.cyc_Hands_Alarm [(.t 75)],none,4,[]⟩])) (RC.region 2 [
  ⟨some 77,.bin .add (.t 70) (.c (.s (.int .i64 1))),none,0,[]⟩,
  ⟨some 70,.move (.t 77),none,1,[]⟩])))
def kern_New_l2 : RC :=
  RC.seq (RC.region 1 [
  ⟨some 82,.bin .lss (.t 81) (.t 80),none,0,[]⟩]) (RC.seq (RC.cond (.t 82) (RC.skip) (RC.exit 4)) (RC.seq (RC.block 5 (RC.seq (RC.region 6 [
  ⟨some 83,.move (.t 81),none,0,[]⟩,
  ⟨some 84,.indexSl 2 (.t 79) (.t 81),none,1,[]⟩,
  ⟨some 85,.load (some 2) (.t 84),none,2,[]⟩,
  ⟨some 11,.newc [.int .i64 0,.bool false],none,3,[]⟩,
  ⟨some 10,.move (.t 83),none,4,[]⟩,
  ⟨none,.store 2 (.t 11) (.t 85),none,5,[]⟩]) (RC.seq (RC.region 10 [
  ⟨some 86,.move (.t 7),none,0,[]⟩,
  ⟨some 87,.nilCheck (.t 86),none,1,[]⟩,
  ⟨some 88,.fieldAddr 0 (.t 87),none,2,[]⟩,
  ⟨some 89,.fieldAddr 5 (.t 88),none,3,[]⟩,
  ⟨some 90,.load none (.t 89),none,4,[]⟩,
  ⟨some 91,.move (.t 10),none,5,[]⟩,
  ⟨some 92,.bin .add (.t 91) (.c (.s (.int .i64 1))),none,6,[]⟩,
  ⟨some 93,.fieldAddr 0 (.t 11),none,7,[]⟩,
  ⟨some 94,.load none (.t 93),none,8,[]⟩,
  ⟨some 95,.call F.mtx_All_SetBase [(.t 90),(.t 92),(.t 94)],none,9,[]⟩]) (RC.region 17 [
  ⟨some 96,.move (.t 7),none,0,[]⟩,
  ⟨some 97,.move (.t 7),none,1,[]⟩,
  ⟨some 98,.nilCheck (.t 97),none,2,[]⟩,
  ⟨some 99,.fieldAddr 9 (.t 98),none,3,[]⟩,
  ⟨some 100,.load none (.t 99),none,4,[]⟩,
  ⟨some 102,.fieldAddr 0 (.t 11),none,6,[]⟩,
  ⟨some 103,.load none (.t 102),none,7,[]⟩,
  ⟨some 104,.fieldAddr 0 (.t 11),none,8,[]⟩,
  ⟨some 105,.load none (.t 104),none,9,[]⟩,
  ⟨some 101,.call F.tcb_New [],none,5,[⟨100,none,(.t 99),none⟩,⟨103,none,(.t 102),none⟩,⟨105,none,(.t 104),none⟩]⟩,
  ⟨some 106,.build [.ptr none,.int .i64 0,.int .i64 0,.int .i64 0,.int .i64 0,.int .i64 0,.int .i64 0,.int .i64 0] [(0,1,(.t 101)),(1,1,(.t 103)),(2,1,(.t 105))],none,10,[]⟩,
  ⟨some 107,.box (.t 106),none,11,[]⟩,
  ⟨some 108,.buildSlice 1 1 [.ptr none] [(0,1,(.t 107))],none,12,[]⟩,
  ⟨some 109,.append 1 8 (.t 100) (.t 108),none,13,[]⟩,
  ⟨some 110,.nilCheck (.t 96),none,14,[]⟩,
  ⟨some 111,.fieldAddr 9 (.t 110),none,15,[]⟩,
  ⟨none,.store 1 (.t 111) (.t 109),none,16,[]⟩])))) (RC.region 2 [
  ⟨some 112,.bin .add (.t 81) (.c (.s (.int .i64 1))),none,0,[]⟩,
  ⟨some 81,.move (.t 112),none,1,[]⟩])))
def kern_New_l3 : RC :=
  RC.seq (RC.region 1 [
  ⟨some 117,.bin .lss (.t 116) (.t 115),none,0,[]⟩]) (RC.seq (RC.cond (.t 117) (RC.skip) (RC.exit 6)) (RC.seq (RC.block 7 (RC.seq (RC.region 6 [
  ⟨some 118,.move (.t 116),none,0,[]⟩,
  ⟨some 119,.indexSl 2 (.t 114) (.t 116),none,1,[]⟩,
  ⟨some 120,.load (some 2) (.t 119),none,2,[]⟩,
  ⟨some 13,.newc [.int .i64 0,.bool false],none,3,[]⟩,
  ⟨some 12,.move (.t 118),none,4,[]⟩,
  ⟨none,.store 2 (.t 13) (.t 120),none,5,[]⟩]) (RC.seq (RC.region 2 [
  ⟨some 121,.fieldAddr 1 (.t 13),none,0,[]⟩,
  ⟨some 122,.load none (.t 121),none,1,[]⟩]) (RC.cond (.t 122) (RC.region 4 [
  ⟨some 123,.move (.t 7),none,0,[]⟩,
  ⟨some 124,.move (.t 12),none,1,[]⟩,
  ⟨some 125,.bin .add (.t 124) (.c (.s (.int .i64 1))),none,2,[]⟩,
  ⟨some 126,.call F.kern_Kernel_act [(.t 123),(.t 125)],none,3,[]⟩]) (RC.skip))))) (RC.region 2 [
  ⟨some 127,.bin .add (.t 116) (.c (.s (.int .i64 1))),none,0,[]⟩,
  ⟨some 116,.move (.t 127),none,1,[]⟩])))
def kern_New_s4 : RC :=
  RC.seq (RC.region 2 [
  ⟨some 128,.move (.t 7),none,0,[]⟩,
  ⟨some 129,.call F.kern_Kernel_choose [(.t 128)],none,1,[]⟩]) (RC.seq (RC.region 3 [
  ⟨some 130,.move (.t 7),none,0,[]⟩,
  ⟨some 2,.move (.t 130),none,1,[]⟩,
  ⟨some 3,.move (.c (.s (.int .i64 0))),none,2,[]⟩]) (RC.ret))
def kern_New_s5 : RC :=
  RC.seq (RC.seq (RC.region 4 [
  ⟨some 113,.fieldAddr 1 (.t 1),none,0,[]⟩,
  ⟨some 114,.load none (.t 113),none,1,[]⟩,
  ⟨some 115,.len (.t 114),none,2,[]⟩,
  ⟨some 116,.move (.c (.s (.int .i64 0))),none,3,[]⟩]) (RC.block 6 (RC.loop R.kern_New_l3))) R.kern_New_s4
def kern_New_s6 : RC :=
  RC.seq (RC.seq (RC.region 4 [
  ⟨some 78,.fieldAddr 1 (.t 1),none,0,[]⟩,
  ⟨some 79,.load none (.t 78),none,1,[]⟩,
  ⟨some 80,.len (.t 79),none,2,[]⟩,
  ⟨some 81,.move (.c (.s (.int .i64 0))),none,3,[]⟩]) (RC.block 4 (RC.loop R.kern_New_l2))) R.kern_New_s5
def kern_New_s7 : RC :=
  RC.seq (RC.seq (RC.region 3 [
  ⟨some 68,.fieldAddr 8 (.t 1),none,0,[]⟩,
  ⟨some 69,.load none (.t 68),none,1,[]⟩,
  ⟨some 70,.move (.c (.s (.int .i64 0))),none,2,[]⟩]) (RC.block 2 (RC.loop R.kern_New_l1))) R.kern_New_s6
def kern_New : RFunc := RFunc.mk 131 [.tmp 2,.tmp 3] (
  RC.seq (RC.region 3 [
  ⟨some 1,.box (.t 0),none,0,[]⟩,
  ⟨some 2,.move (.c (.s (.ptr none))),none,1,[]⟩,
  ⟨some 3,.move (.c (.s (.int .i64 0))),none,2,[]⟩]) (RC.seq (RC.seq (RC.region 9 [
  ⟨some 15,.load (some 9) (.t 1),none,0,[]⟩,
  ⟨some 16,.call F.conf_Check [(.t 15)],none,1,[]⟩,
  ⟨some 14,.move (.t 16),none,2,[]⟩,
  ⟨some 17,.extract 0 (.t 14),none,3,[]⟩,
  ⟨some 18,.extract 1 (.t 14),none,4,[]⟩,
  ⟨some 19,.extract 2 (.t 14),none,5,[]⟩,
  ⟨some 4,.move (.t 17),none,6,[]⟩,
  ⟨some 5,.move (.t 18),none,7,[]⟩,
  ⟨some 6,.move (.t 19),none,8,[]⟩]) (RC.seq (RC.region 2 [
  ⟨some 20,.move (.t 6),none,0,[]⟩,
  ⟨some 21,.bin .neq (.t 20) (.c (.s (.int .i64 0))),none,1,[]⟩]) (RC.cond (.t 21) (RC.seq (RC.region 3 [
  ⟨some 22,.move (.t 6),none,0,[]⟩,
  ⟨some 2,.move (.c (.s (.ptr none))),none,1,[]⟩,
  ⟨some 3,.move (.t 22),none,2,[]⟩]) (RC.ret)) (RC.skip)))) (RC.seq (RC.region 11 [
  ⟨some 26,.fieldAddr 7 (.t 1),none,3,[]⟩,
  ⟨some 27,.load none (.t 26),none,4,[]⟩,
  ⟨some 28,.len (.t 27),none,5,[]⟩,
  ⟨some 29,.fieldAddr 8 (.t 1),none,6,[]⟩,
  ⟨some 30,.load none (.t 29),none,7,[]⟩,
  ⟨some 23,.call F.ctx_New [],none,0,[⟨27,none,(.t 26),none⟩,⟨30,none,(.t 29),none⟩]⟩,
  ⟨some 24,.call F.ready_New [],none,1,[⟨27,none,(.t 26),none⟩,⟨30,none,(.t 29),none⟩]⟩,
  ⟨some 25,.buildSlice 1 1 [.ptr none] [(0,1,(.c (.s (.ptr none))))],none,2,[]⟩,
  ⟨some 31,.build [.slice none 0 0 1,.slice none 0 0 1,.slice none 0 0 1,.slice none 0 0 1,.int .i64 0,.ptr none,.ptr none,.ptr none,.ptr none,.slice none 0 0 1,.int .i64 0,.int .i64 0,.int .i64 0] [(6,1,(.t 23)),(8,1,(.t 24)),(9,1,(.t 25)),(10,1,(.t 28)),(11,1,(.t 30))],none,8,[]⟩,
  ⟨some 32,.box (.t 31),none,9,[]⟩,
  ⟨some 7,.move (.t 32),none,10,[]⟩]) (RC.seq (RC.region 5 [
  ⟨some 33,.move (.t 7),none,0,[]⟩,
  ⟨some 34,.nilCheck (.t 33),none,1,[]⟩,
  ⟨some 35,.fieldAddr 0 (.t 34),none,2,[]⟩,
  ⟨some 36,.load (some 9) (.t 1),none,3,[]⟩,
  ⟨some 37,.call F.kern_objects_build [(.t 35),(.t 36)],none,4,[]⟩]) (RC.seq (RC.region 10 [
  ⟨some 39,.move (.t 7),none,0,[]⟩,
  ⟨some 40,.fieldAddr 0 (.t 1),none,1,[]⟩,
  ⟨some 41,.load none (.t 40),none,2,[]⟩,
  ⟨some 42,.call F.cyc_NewHands [(.t 41)],none,3,[]⟩,
  ⟨some 38,.move (.t 42),none,4,[]⟩,
  ⟨some 43,.extract 0 (.t 38),none,5,[]⟩,
  ⟨some 44,.extract 1 (.t 38),none,6,[]⟩,
  ⟨some 45,.nilCheck (.t 39),none,7,[]⟩,
  ⟨some 46,.fieldAddr 7 (.t 45),none,8,[]⟩,
  ⟨none,.store 1 (.t 46) (.t 43),none,9,[]⟩]) (RC.seq (RC.seq (RC.region 4 [
  ⟨some 47,.fieldAddr 7 (.t 1),none,0,[]⟩,
  ⟨some 48,.load none (.t 47),none,1,[]⟩,
  ⟨some 49,.len (.t 48),none,2,[]⟩,
  ⟨some 50,.move (.c (.s (.int .i64 0))),none,3,[]⟩]) (RC.block 0 (RC.loop R.kern_New_l0))) R.kern_New_s7))))))
theorem kern_New_ok : chkFunc Go.Proofs.Tryz.prog [0] Go.Proofs.Tryz.f44 kern_New = true := by kernel_rfl
def mtx_All_Pri : RFunc := RFunc.mk 15 [.tmp 4] (
  RC.seq (RC.region 1 [
  ⟨some 4,.move (.c (.s (.int .i64 0))),none,0,[]⟩]) (RC.seq (RC.seq (RC.region 3 [
  ⟨some 5,.move (.t 1),none,0,[]⟩,
  ⟨some 6,.call F.mtx_is [(.t 5)],none,1,[]⟩,
  ⟨some 7,.un .not (.t 6),none,2,[]⟩]) (RC.cond (.t 7) (RC.seq (RC.region 1 [
  ⟨some 4,.move (.c (.s (.int .i64 0))),none,0,[]⟩]) (RC.ret)) (RC.skip))) (RC.seq (RC.region 8 [
  ⟨some 8,.move (.t 0),none,0,[]⟩,
  ⟨some 9,.move (.t 1),none,1,[]⟩,
  ⟨some 10,.nilCheck (.t 8),none,2,[]⟩,
  ⟨some 11,.fieldAddr 1 (.t 10),none,3,[]⟩,
  ⟨some 12,.indexArr 17 3 (.t 11) (.t 9),none,4,[]⟩,
  ⟨some 13,.fieldAddr 1 (.t 12),none,5,[]⟩,
  ⟨some 14,.load none (.t 13),none,6,[]⟩,
  ⟨some 4,.move (.t 14),none,7,[]⟩]) (RC.ret))))
theorem mtx_All_Pri_ok : chkFunc Go.Proofs.Tryz.prog [0] Go.Proofs.Tryz.f49 mtx_All_Pri = true := by kernel_rfl
def mtx_All_Base : RFunc := RFunc.mk 15 [.tmp 4] (
  RC.seq (RC.region 1 [
  ⟨some 4,.move (.c (.s (.int .i64 0))),none,0,[]⟩]) (RC.seq (RC.seq (RC.region 3 [
  ⟨some 5,.move (.t 1),none,0,[]⟩,
  ⟨some 6,.call F.mtx_is [(.t 5)],none,1,[]⟩,
  ⟨some 7,.un .not (.t 6),none,2,[]⟩]) (RC.cond (.t 7) (RC.seq (RC.region 1 [
  ⟨some 4,.move (.c (.s (.int .i64 0))),none,0,[]⟩]) (RC.ret)) (RC.skip))) (RC.seq (RC.region 8 [
  ⟨some 8,.move (.t 0),none,0,[]⟩,
  ⟨some 9,.move (.t 1),none,1,[]⟩,
  ⟨some 10,.nilCheck (.t 8),none,2,[]⟩,
  ⟨some 11,.fieldAddr 1 (.t 10),none,3,[]⟩,
  ⟨some 12,.indexArr 17 3 (.t 11) (.t 9),none,4,[]⟩,
  ⟨some 13,.fieldAddr 0 (.t 12),none,5,[]⟩,
  ⟨some 14,.load none (.t 13),none,6,[]⟩,
  ⟨some 4,.move (.t 14),none,7,[]⟩]) (RC.ret))))
theorem mtx_All_Base_ok : chkFunc Go.Proofs.Tryz.prog [0] Go.Proofs.Tryz.f50 mtx_All_Base = true := by kernel_rfl
def calls_Known : RFunc := RFunc.mk 7 [.tmp 2] (
  RC.seq (RC.region 1 [
  ⟨some 2,.move (.c (.s (.bool false))),none,0,[]⟩]) (RC.seq (RC.region 5 [
  ⟨some 3,.move (.t 0),none,0,[]⟩,
  ⟨some 4,.call F.calls_of [(.t 3)],none,1,[]⟩,
  ⟨some 5,.field none 0 (.t 4),none,2,[]⟩,
  ⟨some 6,.eqs .str true (.t 5) (.c (.s (.str ⟨#[]⟩))),none,3,[]⟩,
  ⟨some 2,.move (.t 6),none,4,[]⟩]) (RC.ret)))
theorem calls_Known_ok : chkFunc Go.Proofs.Tryz.prog [0] Go.Proofs.Tryz.f51 calls_Known = true := by kernel_rfl
def kern_say_l0 : RC :=
  RC.seq (RC.region 1 [
  ⟨some 13,.bin .lss (.t 12) (.t 11),none,0,[]⟩]) (RC.seq (RC.cond (.t 13) (RC.skip) (RC.exit 0)) (RC.seq (RC.block 1 (RC.seq (RC.region 3 [
  ⟨some 14,.indexSl 1 (.t 10) (.t 12),none,0,[]⟩,
  ⟨some 15,.load none (.t 14),none,1,[]⟩,
  ⟨some 7,.move (.t 15),none,2,[]⟩]) (RC.region 3 [
  ⟨some 16,.move (.t 7),none,0,[]⟩,
  ⟨some 17,.fieldAddr 1 (.t 5),none,1,[]⟩,
  ⟨none,.store 1 (.t 17) (.t 16),none,2,[]⟩]))) (RC.region 2 [
  ⟨some 18,.bin .add (.t 12) (.c (.s (.int .i64 1))),none,0,[]⟩,
  ⟨some 12,.move (.t 18),none,1,[]⟩])))
def kern_say_s1 : RC :=
  RC.seq (RC.region 2 [
  ⟨some 22,.load (some 2) (.t 5),none,0,[]⟩,
  ⟨none,.store 2 (.t 4) (.t 22),none,1,[]⟩]) (RC.ret)
def kern_say_s2 : RC :=
  RC.seq (RC.seq (RC.region 2 [
  ⟨some 19,.move (.t 0),none,0,[]⟩,
  ⟨some 20,.bin .neq (.t 19) (.c (.s (.int .i64 0))),none,1,[]⟩]) (RC.cond (.t 20) (RC.region 2 [
  ⟨some 21,.fieldAddr 1 (.t 5),none,0,[]⟩,
  ⟨none,.store 1 (.t 21) (.c (.s (.int .i64 0))),none,1,[]⟩]) (RC.skip))) R.kern_say_s1
def kern_say : RFunc := RFunc.mk 23 [.cell 4 (some 2)] (
  RC.seq (RC.region 1 [
  ⟨some 4,.newc [.int .i64 0,.int .i64 0],none,0,[]⟩]) (RC.seq (RC.region 4 [
  ⟨some 8,.move (.t 0),none,0,[]⟩,
  ⟨some 9,.build [.int .i64 0,.int .i64 0] [(0,1,(.t 8))],none,1,[]⟩,
  ⟨some 5,.newc [.int .i64 0,.int .i64 0],none,2,[]⟩,
  ⟨none,.store 2 (.t 5) (.t 9),none,3,[]⟩]) (RC.seq (RC.seq (RC.region 3 [
  ⟨some 10,.move (.t 1),none,0,[]⟩,
  ⟨some 11,.len (.t 10),none,1,[]⟩,
  ⟨some 12,.move (.c (.s (.int .i64 0))),none,2,[]⟩]) (RC.block 0 (RC.loop R.kern_say_l0))) R.kern_say_s2)))
theorem kern_say_ok : chkFunc Go.Proofs.Tryz.prog [0] Go.Proofs.Tryz.f52 kern_say = true := by kernel_rfl
def ctx_Place_May : RFunc := RFunc.mk 14 [.tmp 6] (
  RC.seq (RC.region 1 [
  ⟨some 6,.move (.c (.s (.int .i64 0))),none,0,[]⟩]) (RC.seq (RC.seq (RC.region 7 [
  ⟨some 7,.move (.t 0),none,0,[]⟩,
  ⟨some 8,.nilCheck (.t 7),none,1,[]⟩,
  ⟨some 9,.fieldAddr 0 (.t 8),none,2,[]⟩,
  ⟨some 10,.move (.t 1),none,3,[]⟩,
  ⟨some 11,.move (.t 2),none,4,[]⟩,
  ⟨some 12,.call F.ctx_state_may [(.t 9),(.t 10),(.t 11)],none,5,[]⟩,
  ⟨some 13,.un .not (.t 12),none,6,[]⟩]) (RC.cond (.t 13) (RC.seq (RC.region 1 [
  ⟨some 6,.move (.c (.s (.int .i64 (-25)))),none,0,[]⟩]) (RC.ret)) (RC.skip))) (RC.seq (RC.region 1 [
  ⟨some 6,.move (.c (.s (.int .i64 0))),none,0,[]⟩]) (RC.ret))))
theorem ctx_Place_May_ok : chkFunc Go.Proofs.Tryz.prog [0] Go.Proofs.Tryz.f53 ctx_Place_May = true := by kernel_rfl
def calls_Kind : RFunc := RFunc.mk 7 [.tmp 2] (
  RC.seq (RC.region 2 [
  ⟨some 1,.box (.t 0),none,0,[]⟩,
  ⟨some 2,.move (.c (.s (.int .i64 0))),none,1,[]⟩]) (RC.seq (RC.region 5 [
  ⟨some 3,.fieldAddr 0 (.t 1),none,0,[]⟩,
  ⟨some 4,.load none (.t 3),none,1,[]⟩,
  ⟨some 5,.call F.calls_of [(.t 4)],none,2,[]⟩,
  ⟨some 6,.field none 2 (.t 5),none,3,[]⟩,
  ⟨some 2,.move (.t 6),none,4,[]⟩]) (RC.ret)))
theorem calls_Kind_ok : chkFunc Go.Proofs.Tryz.prog [0] Go.Proofs.Tryz.f54 calls_Kind = true := by kernel_rfl
def kern_Kernel_tasks_s0 : RC :=
  RC.cond (.t 48) (RC.seq (RC.region 7 [
  ⟨some 51,.move (.t 0),none,0,[]⟩,
  ⟨some 52,.nilCheck (.t 51),none,1,[]⟩,
  ⟨some 53,.fieldAddr 12 (.t 52),none,2,[]⟩,
  ⟨some 54,.load none (.t 53),none,3,[]⟩,
  ⟨some 55,.buildSlice 1 1 [.int .i64 0] [(0,1,(.t 54))],none,4,[]⟩,
  ⟨some 56,.call F.kern_say [(.c (.s (.int .i64 0))),(.t 55)],none,5,[]⟩,
  ⟨none,.store 2 (.t 4) (.t 56),none,6,[]⟩]) (RC.ret)) (RC.seq (RC.region 2 [
  ⟨some 58,.bin .eql (.t 25) (.c (.s (.int .i64 12))),none,0,[]⟩,
  ⟨some 57,.move (.t 58),none,1,[]⟩]) (RC.cond (.t 57) (RC.seq (RC.region 3 [
  ⟨some 59,.move (.t 0),none,0,[]⟩,
  ⟨some 60,.call F.kern_Kernel_sleep [(.t 59),(.c (.s (.int .i64 (-1))))],none,1,[]⟩,
  ⟨none,.store 2 (.t 4) (.t 60),none,2,[]⟩]) (RC.ret)) (RC.seq (RC.region 2 [
  ⟨some 62,.bin .eql (.t 25) (.c (.s (.int .i64 13))),none,0,[]⟩,
  ⟨some 61,.move (.t 62),none,1,[]⟩]) (RC.cond (.t 61) (RC.seq (RC.seq (RC.region 5 [
  ⟨some 63,.fieldAddr 1 (.t 3),none,0,[]⟩,
  ⟨some 64,.indexArr 4 1 (.t 63) (.c (.s (.int .i64 0))),none,1,[]⟩,
  ⟨some 65,.load none (.t 64),none,2,[]⟩,
  ⟨some 66,.call F.kern_late [(.t 65)],none,3,[]⟩,
  ⟨some 67,.un .not (.t 66),none,4,[]⟩]) (RC.cond (.t 67) (RC.seq (RC.region 2 [
  ⟨some 68,.call F.kern_say [(.c (.s (.int .i64 (-17)))),(.c (.s (.slice none 0 0 1)))],none,0,[]⟩,
  ⟨none,.store 2 (.t 4) (.t 68),none,1,[]⟩]) (RC.ret)) (RC.skip))) (RC.seq (RC.region 6 [
  ⟨some 69,.move (.t 0),none,0,[]⟩,
  ⟨some 70,.fieldAddr 1 (.t 3),none,1,[]⟩,
  ⟨some 71,.indexArr 4 1 (.t 70) (.c (.s (.int .i64 0))),none,2,[]⟩,
  ⟨some 72,.load none (.t 71),none,3,[]⟩,
  ⟨some 73,.call F.kern_Kernel_sleep [(.t 69),(.t 72)],none,4,[]⟩,
  ⟨none,.store 2 (.t 4) (.t 73),none,5,[]⟩]) (RC.ret))) (RC.seq (RC.region 2 [
  ⟨some 75,.bin .eql (.t 25) (.c (.s (.int .i64 22))),none,0,[]⟩,
  ⟨some 74,.move (.t 75),none,1,[]⟩]) (RC.cond (.t 74) (RC.seq (RC.seq (RC.region 9 [
  ⟨some 77,.fieldAddr 1 (.t 3),none,0,[]⟩,
  ⟨some 78,.indexArr 4 1 (.t 77) (.c (.s (.int .i64 0))),none,1,[]⟩,
  ⟨some 79,.load none (.t 78),none,2,[]⟩,
  ⟨some 80,.call F.nums_Rel [(.t 79)],none,3,[]⟩,
  ⟨some 76,.move (.t 80),none,4,[]⟩,
  ⟨some 81,.extract 0 (.t 76),none,5,[]⟩,
  ⟨some 82,.extract 1 (.t 76),none,6,[]⟩,
  ⟨some 6,.move (.t 81),none,7,[]⟩,
  ⟨some 7,.move (.t 82),none,8,[]⟩]) (RC.seq (RC.region 2 [
  ⟨some 83,.move (.t 7),none,0,[]⟩,
  ⟨some 84,.bin .neq (.t 83) (.c (.s (.int .i64 0))),none,1,[]⟩]) (RC.cond (.t 84) (RC.seq (RC.region 3 [
  ⟨some 85,.move (.t 7),none,0,[]⟩,
  ⟨some 86,.call F.kern_say [(.t 85),(.c (.s (.slice none 0 0 1)))],none,1,[]⟩,
  ⟨none,.store 2 (.t 4) (.t 86),none,2,[]⟩]) (RC.ret)) (RC.skip)))) (RC.seq (RC.region 6 [
  ⟨some 87,.move (.t 0),none,0,[]⟩,
  ⟨some 88,.fieldAddr 1 (.t 3),none,1,[]⟩,
  ⟨some 89,.indexArr 4 1 (.t 88) (.c (.s (.int .i64 0))),none,2,[]⟩,
  ⟨some 90,.load none (.t 89),none,3,[]⟩,
  ⟨some 91,.call F.kern_Kernel_stay [(.t 87),(.c (.s (.int .i64 2))),(.c (.s (.int .i64 0))),(.t 90)],none,4,[]⟩,
  ⟨none,.store 2 (.t 4) (.t 91),none,5,[]⟩]) (RC.ret))) (RC.seq (RC.region 2 [
  ⟨some 93,.bin .eql (.t 25) (.c (.s (.int .i64 6))),none,0,[]⟩,
  ⟨some 92,.move (.t 93),none,1,[]⟩]) (RC.cond (.t 92) (RC.seq (RC.region 8 [
  ⟨some 94,.move (.t 0),none,0,[]⟩,
  ⟨some 95,.move (.t 5),none,1,[]⟩,
  ⟨some 96,.fieldAddr 1 (.t 3),none,2,[]⟩,
  ⟨some 97,.indexArr 4 1 (.t 96) (.c (.s (.int .i64 1))),none,3,[]⟩,
  ⟨some 98,.load none (.t 97),none,4,[]⟩,
  ⟨some 99,.call F.kern_Kernel_change [(.t 94),(.t 95),(.t 98)],none,5,[]⟩,
  ⟨some 100,.call F.kern_say [(.t 99),(.c (.s (.slice none 0 0 1)))],none,6,[]⟩,
  ⟨none,.store 2 (.t 4) (.t 100),none,7,[]⟩]) (RC.ret)) (RC.skip)))))))))
def kern_Kernel_tasks_s1 : RC :=
  RC.cond (.t 42) (RC.seq (RC.region 4 [
  ⟨some 45,.move (.t 0),none,0,[]⟩,
  ⟨some 46,.load (some 5) (.t 3),none,1,[]⟩,
  ⟨some 47,.call F.kern_Kernel_rotate [(.t 45),(.t 46)],none,2,[]⟩,
  ⟨none,.store 2 (.t 4) (.t 47),none,3,[]⟩]) (RC.ret)) (RC.seq (RC.seq (RC.region 2 [
  ⟨some 49,.bin .eql (.t 25) (.c (.s (.int .i64 10))),none,0,[]⟩,
  ⟨some 48,.move (.t 49),none,1,[]⟩]) (RC.cond (.t 48) (RC.skip) (RC.region 2 [
  ⟨some 50,.bin .eql (.t 25) (.c (.s (.int .i64 11))),none,0,[]⟩,
  ⟨some 48,.move (.t 50),none,1,[]⟩]))) R.kern_Kernel_tasks_s0)
def kern_Kernel_tasks_s2 : RC :=
  RC.seq (RC.region 15 [
  ⟨some 101,.move (.t 0),none,0,[]⟩,
  ⟨some 102,.load (some 5) (.t 3),none,1,[]⟩,
  ⟨some 103,.move (.t 5),none,2,[]⟩,
  ⟨some 104,.move (.t 0),none,3,[]⟩,
  ⟨some 105,.nilCheck (.t 104),none,4,[]⟩,
  ⟨some 106,.fieldAddr 9 (.t 105),none,5,[]⟩,
  ⟨some 107,.load none (.t 106),none,6,[]⟩,
  ⟨some 108,.move (.t 5),none,7,[]⟩,
  ⟨some 109,.indexSl 1 (.t 107) (.t 108),none,8,[]⟩,
  ⟨some 110,.load none (.t 109),none,9,[]⟩,
  ⟨some 111,.nilCheck (.t 110),none,10,[]⟩,
  ⟨some 112,.fieldAddr 0 (.t 111),none,11,[]⟩,
  ⟨some 113,.load none (.t 112),none,12,[]⟩,
  ⟨some 114,.call F.kern_Kernel_one [(.t 101),(.t 102),(.t 103),(.t 113)],none,13,[]⟩,
  ⟨none,.store 2 (.t 4) (.t 114),none,14,[]⟩]) (RC.ret)
def kern_Kernel_tasks : RFunc := RFunc.mk 115 [.cell 4 (some 2)] (
  RC.seq (RC.region 2 [
  ⟨some 3,.box (.t 1),none,0,[]⟩,
  ⟨some 4,.newc [.int .i64 0,.int .i64 0],none,1,[]⟩]) (RC.seq (RC.region 4 [
  ⟨some 8,.move (.t 0),none,0,[]⟩,
  ⟨some 9,.load (some 5) (.t 3),none,1,[]⟩,
  ⟨some 10,.call F.kern_Kernel_named [(.t 8),(.t 9)],none,2,[]⟩,
  ⟨some 5,.move (.t 10),none,3,[]⟩]) (RC.seq (RC.seq (RC.region 12 [
  ⟨some 11,.move (.t 5),none,0,[]⟩,
  ⟨some 12,.bin .eql (.t 11) (.c (.s (.int .i64 0))),none,1,[]⟩,
  ⟨some 13,.move (.t 12),none,2,[]⟩,
  ⟨some 14,.fieldAddr 0 (.t 3),(some (13,true)),3,[]⟩,
  ⟨some 15,.load none (.t 14),(some (13,true)),4,[]⟩,
  ⟨some 16,.bin .neq (.t 15) (.c (.s (.int .i64 9))),(some (13,true)),5,[]⟩,
  ⟨some 17,.pick (.t 13) (.t 16) (.c (.s (.bool false))),none,6,[]⟩,
  ⟨some 18,.move (.t 17),none,7,[]⟩,
  ⟨some 19,.fieldAddr 0 (.t 3),(some (18,true)),8,[]⟩,
  ⟨some 20,.load none (.t 19),(some (18,true)),9,[]⟩,
  ⟨some 21,.bin .neq (.t 20) (.c (.s (.int .i64 11))),(some (18,true)),10,[]⟩,
  ⟨some 22,.pick (.t 18) (.t 21) (.c (.s (.bool false))),none,11,[]⟩]) (RC.cond (.t 22) (RC.seq (RC.region 2 [
  ⟨some 23,.call F.kern_say [(.c (.s (.int .i64 (-18)))),(.c (.s (.slice none 0 0 1)))],none,0,[]⟩,
  ⟨none,.store 2 (.t 4) (.t 23),none,1,[]⟩]) (RC.ret)) (RC.skip))) (RC.seq (RC.seq (RC.region 2 [
  ⟨some 24,.fieldAddr 0 (.t 3),none,0,[]⟩,
  ⟨some 25,.load none (.t 24),none,1,[]⟩]) (RC.block 0 (RC.seq (RC.region 2 [
  ⟨some 27,.bin .eql (.t 25) (.c (.s (.int .i64 4))),none,0,[]⟩,
  ⟨some 26,.move (.t 27),none,1,[]⟩]) (RC.cond (.t 26) (RC.seq (RC.region 5 [
  ⟨some 28,.move (.t 0),none,0,[]⟩,
  ⟨some 29,.nilCheck (.t 28),none,1,[]⟩,
  ⟨some 30,.fieldAddr 6 (.t 29),none,2,[]⟩,
  ⟨some 31,.load none (.t 30),none,3,[]⟩,
  ⟨some 32,.call F.ctx_Place_Lock [(.t 31),(.c (.s (.bool false)))],none,4,[]⟩]) (RC.seq (RC.region 5 [
  ⟨some 33,.move (.t 0),none,0,[]⟩,
  ⟨some 34,.nilCheck (.t 33),none,1,[]⟩,
  ⟨some 35,.fieldAddr 6 (.t 34),none,2,[]⟩,
  ⟨some 36,.load none (.t 35),none,3,[]⟩,
  ⟨some 37,.call F.ctx_Place_Disable [(.t 36),(.c (.s (.bool false)))],none,4,[]⟩]) (RC.seq (RC.region 3 [
  ⟨some 38,.move (.t 0),none,0,[]⟩,
  ⟨some 39,.move (.t 5),none,1,[]⟩,
  ⟨some 40,.call F.kern_Kernel_over [(.t 38),(.t 39)],none,2,[]⟩]) (RC.seq (RC.region 2 [
  ⟨some 41,.call F.kern_say [(.c (.s (.int .i64 0))),(.c (.s (.slice none 0 0 1)))],none,0,[]⟩,
  ⟨none,.store 2 (.t 4) (.t 41),none,1,[]⟩]) (RC.ret))))) (RC.seq (RC.seq (RC.region 2 [
  ⟨some 43,.bin .eql (.t 25) (.c (.s (.int .i64 8))),none,0,[]⟩,
  ⟨some 42,.move (.t 43),none,1,[]⟩]) (RC.cond (.t 42) (RC.skip) (RC.region 2 [
  ⟨some 44,.bin .eql (.t 25) (.c (.s (.int .i64 9))),none,0,[]⟩,
  ⟨some 42,.move (.t 44),none,1,[]⟩]))) R.kern_Kernel_tasks_s1))))) R.kern_Kernel_tasks_s2))))
theorem kern_Kernel_tasks_ok : chkFunc Go.Proofs.Tryz.prog [0] Go.Proofs.Tryz.f55 kern_Kernel_tasks = true := by kernel_rfl
def kern_Kernel_sem : RFunc := RFunc.mk 85 [.cell 4 (some 2)] (
  RC.seq (RC.region 2 [
  ⟨some 3,.box (.t 1),none,0,[]⟩,
  ⟨some 4,.newc [.int .i64 0,.int .i64 0],none,1,[]⟩]) (RC.seq (RC.region 6 [
  ⟨some 11,.fieldAddr 1 (.t 3),none,0,[]⟩,
  ⟨some 12,.indexArr 4 1 (.t 11) (.c (.s (.int .i64 0))),none,1,[]⟩,
  ⟨some 13,.load none (.t 12),none,2,[]⟩,
  ⟨some 14,.minmax false (.t 13) (.c (.s (.int .i64 9))),none,3,[]⟩,
  ⟨some 15,.minmax true (.t 14) (.c (.s (.int .i64 0))),none,4,[]⟩,
  ⟨some 5,.move (.t 15),none,5,[]⟩]) (RC.seq (RC.region 12 [
  ⟨some 17,.move (.t 0),none,0,[]⟩,
  ⟨some 18,.nilCheck (.t 17),none,1,[]⟩,
  ⟨some 19,.fieldAddr 0 (.t 18),none,2,[]⟩,
  ⟨some 20,.fieldAddr 0 (.t 19),none,3,[]⟩,
  ⟨some 21,.load none (.t 20),none,4,[]⟩,
  ⟨some 22,.move (.t 5),none,5,[]⟩,
  ⟨some 23,.call F.kern_at__sem_Sem [(.t 21),(.t 22)],none,6,[]⟩,
  ⟨some 16,.move (.t 23),none,7,[]⟩,
  ⟨some 24,.extract 0 (.t 16),none,8,[]⟩,
  ⟨some 25,.extract 1 (.t 16),none,9,[]⟩,
  ⟨some 6,.move (.t 24),none,10,[]⟩,
  ⟨some 7,.move (.t 25),none,11,[]⟩]) (RC.seq (RC.region 3 [
  ⟨some 26,.load (some 5) (.t 3),none,0,[]⟩,
  ⟨some 27,.call F.kern_timeout [(.t 26),(.c (.s (.int .i64 26))),(.c (.s (.int .i64 27)))],none,1,[]⟩,
  ⟨some 8,.move (.t 27),none,2,[]⟩]) (RC.seq (RC.block 0 (RC.seq (RC.region 3 [
  ⟨some 29,.move (.t 7),none,0,[]⟩,
  ⟨some 30,.un .not (.t 29),none,1,[]⟩,
  ⟨some 28,.move (.t 30),none,2,[]⟩]) (RC.cond (.t 28) (RC.seq (RC.region 2 [
  ⟨some 31,.call F.kern_say [(.c (.s (.int .i64 (-18)))),(.c (.s (.slice none 0 0 1)))],none,0,[]⟩,
  ⟨none,.store 2 (.t 4) (.t 31),none,1,[]⟩]) (RC.ret)) (RC.seq (RC.region 4 [
  ⟨some 33,.move (.t 8),none,0,[]⟩,
  ⟨some 34,.call F.kern_late [(.t 33)],none,1,[]⟩,
  ⟨some 35,.un .not (.t 34),none,2,[]⟩,
  ⟨some 32,.move (.t 35),none,3,[]⟩]) (RC.cond (.t 32) (RC.seq (RC.region 2 [
  ⟨some 36,.call F.kern_say [(.c (.s (.int .i64 (-17)))),(.c (.s (.slice none 0 0 1)))],none,0,[]⟩,
  ⟨none,.store 2 (.t 4) (.t 36),none,1,[]⟩]) (RC.ret)) (RC.seq (RC.region 9 [
  ⟨some 38,.fieldAddr 0 (.t 3),none,0,[]⟩,
  ⟨some 39,.load none (.t 38),none,1,[]⟩,
  ⟨some 40,.bin .eql (.t 39) (.c (.s (.int .i64 23))),none,2,[]⟩,
  ⟨some 41,.move (.t 40),none,3,[]⟩,
  ⟨some 42,.fieldAddr 0 (.t 3),(some (41,false)),4,[]⟩,
  ⟨some 43,.load none (.t 42),(some (41,false)),5,[]⟩,
  ⟨some 44,.bin .eql (.t 43) (.c (.s (.int .i64 24))),(some (41,false)),6,[]⟩,
  ⟨some 45,.pick (.t 41) (.c (.s (.bool true))) (.t 44),none,7,[]⟩,
  ⟨some 37,.move (.t 45),none,8,[]⟩]) (RC.cond (.t 37) (RC.seq (RC.region 7 [
  ⟨some 47,.move (.t 6),none,0,[]⟩,
  ⟨some 48,.call F.sem_Sem_Signal [(.t 47)],none,1,[]⟩,
  ⟨some 46,.move (.t 48),none,2,[]⟩,
  ⟨some 49,.extract 0 (.t 46),none,3,[]⟩,
  ⟨some 50,.extract 1 (.t 46),none,4,[]⟩,
  ⟨some 9,.move (.t 49),none,5,[]⟩,
  ⟨some 10,.move (.t 50),none,6,[]⟩]) (RC.seq (RC.region 4 [
  ⟨some 51,.move (.t 0),none,0,[]⟩,
  ⟨some 52,.move (.t 9),none,1,[]⟩,
  ⟨some 53,.buildSlice 1 1 [.int .i64 0] [(0,1,(.t 52))],none,2,[]⟩,
  ⟨some 54,.call F.kern_Kernel_woken [(.t 51),(.c (.s (.int .i64 0))),(.t 53)],none,3,[]⟩]) (RC.seq (RC.region 3 [
  ⟨some 55,.move (.t 10),none,0,[]⟩,
  ⟨some 56,.call F.kern_say [(.t 55),(.c (.s (.slice none 0 0 1)))],none,1,[]⟩,
  ⟨none,.store 2 (.t 4) (.t 56),none,2,[]⟩]) (RC.ret)))) (RC.seq (RC.region 3 [
  ⟨some 58,.move (.t 6),none,0,[]⟩,
  ⟨some 59,.call F.sem_Sem_Poll [(.t 58)],none,1,[]⟩,
  ⟨some 57,.move (.t 59),none,2,[]⟩]) (RC.cond (.t 57) (RC.seq (RC.region 2 [
  ⟨some 60,.call F.kern_say [(.c (.s (.int .i64 0))),(.c (.s (.slice none 0 0 1)))],none,0,[]⟩,
  ⟨none,.store 2 (.t 4) (.t 60),none,1,[]⟩]) (RC.ret)) (RC.seq (RC.region 3 [
  ⟨some 62,.move (.t 8),none,0,[]⟩,
  ⟨some 63,.bin .eql (.t 62) (.c (.s (.int .i64 0))),none,1,[]⟩,
  ⟨some 61,.move (.t 63),none,2,[]⟩]) (RC.cond (.t 61) (RC.seq (RC.region 2 [
  ⟨some 64,.call F.kern_say [(.c (.s (.int .i64 (-50)))),(.c (.s (.slice none 0 0 1)))],none,0,[]⟩,
  ⟨none,.store 2 (.t 4) (.t 64),none,1,[]⟩]) (RC.ret)) (RC.skip)))))))))))) (RC.seq (RC.region 16 [
  ⟨some 65,.move (.t 6),none,0,[]⟩,
  ⟨some 66,.move (.t 0),none,1,[]⟩,
  ⟨some 67,.nilCheck (.t 66),none,2,[]⟩,
  ⟨some 68,.fieldAddr 12 (.t 67),none,3,[]⟩,
  ⟨some 69,.load none (.t 68),none,4,[]⟩,
  ⟨some 70,.move (.t 0),none,5,[]⟩,
  ⟨some 71,.nilCheck (.t 70),none,6,[]⟩,
  ⟨some 72,.fieldAddr 0 (.t 71),none,7,[]⟩,
  ⟨some 73,.fieldAddr 5 (.t 72),none,8,[]⟩,
  ⟨some 74,.load none (.t 73),none,9,[]⟩,
  ⟨some 75,.move (.t 0),none,10,[]⟩,
  ⟨some 76,.nilCheck (.t 75),none,11,[]⟩,
  ⟨some 77,.fieldAddr 12 (.t 76),none,12,[]⟩,
  ⟨some 78,.load none (.t 77),none,13,[]⟩,
  ⟨some 79,.call F.mtx_All_Pri [(.t 74),(.t 78)],none,14,[⟨69,none,(.t 68),none⟩]⟩,
  ⟨some 80,.call F.sem_Sem_Wait [(.t 65),(.t 69),(.t 79)],none,15,[]⟩]) (RC.seq (RC.region 5 [
  ⟨some 81,.move (.t 0),none,0,[]⟩,
  ⟨some 82,.move (.t 5),none,1,[]⟩,
  ⟨some 83,.move (.t 8),none,2,[]⟩,
  ⟨some 84,.call F.kern_Kernel_stay [(.t 81),(.c (.s (.int .i64 3))),(.t 82),(.t 83)],none,3,[]⟩,
  ⟨none,.store 2 (.t 4) (.t 84),none,4,[]⟩]) (RC.ret))))))))
theorem kern_Kernel_sem_ok : chkFunc Go.Proofs.Tryz.prog [0] Go.Proofs.Tryz.f56 kern_Kernel_sem = true := by kernel_rfl
def kern_Kernel_flag_l0 : RC :=
  RC.seq (RC.region 1 [
  ⟨some 68,.bin .lss (.t 67) (.t 66),none,0,[]⟩]) (RC.seq (RC.cond (.t 68) (RC.skip) (RC.exit 2)) (RC.seq (RC.block 3 (RC.seq (RC.region 4 [
  ⟨some 69,.indexSl 2 (.t 65) (.t 67),none,0,[]⟩,
  ⟨some 70,.load (some 2) (.t 69),none,1,[]⟩,
  ⟨some 11,.newc [.int .i64 0,.int .u32 0],none,2,[]⟩,
  ⟨none,.store 2 (.t 11) (.t 70),none,3,[]⟩]) (RC.region 8 [
  ⟨some 71,.move (.t 0),none,0,[]⟩,
  ⟨some 72,.fieldAddr 1 (.t 11),none,1,[]⟩,
  ⟨some 73,.load none (.t 72),none,2,[]⟩,
  ⟨some 74,.conv .i64 (.t 73),none,3,[]⟩,
  ⟨some 75,.fieldAddr 0 (.t 11),none,4,[]⟩,
  ⟨some 76,.load none (.t 75),none,5,[]⟩,
  ⟨some 77,.buildSlice 1 1 [.int .i64 0] [(0,1,(.t 76))],none,6,[]⟩,
  ⟨some 78,.call F.kern_Kernel_woken [(.t 71),(.t 74),(.t 77)],none,7,[]⟩]))) (RC.region 2 [
  ⟨some 79,.bin .add (.t 67) (.c (.s (.int .i64 1))),none,0,[]⟩,
  ⟨some 67,.move (.t 79),none,1,[]⟩])))
def kern_Kernel_flag_s1 : RC :=
  RC.seq (RC.region 2 [
  ⟨some 80,.call F.kern_say [(.c (.s (.int .i64 0))),(.c (.s (.slice none 0 0 1)))],none,0,[]⟩,
  ⟨none,.store 2 (.t 4) (.t 80),none,1,[]⟩]) (RC.ret)
def kern_Kernel_flag_s2 : RC :=
  RC.cond (.t 59) (RC.seq (RC.seq (RC.region 6 [
  ⟨some 62,.move (.t 6),none,0,[]⟩,
  ⟨some 63,.move (.t 9),none,1,[]⟩,
  ⟨some 64,.buildSlice 1 1 [.int .u32 0] [(0,1,(.t 63))],none,2,[]⟩,
  ⟨some 65,.call F.flag_Flag_Raise [(.t 62),(.t 64)],none,3,[]⟩,
  ⟨some 66,.len (.t 65),none,4,[]⟩,
  ⟨some 67,.move (.c (.s (.int .i64 0))),none,5,[]⟩]) (RC.block 2 (RC.loop R.kern_Kernel_flag_l0))) R.kern_Kernel_flag_s1) (RC.seq (RC.region 2 [
  ⟨some 82,.bin .eql (.t 58) (.c (.s (.int .i64 30))),none,0,[]⟩,
  ⟨some 81,.move (.t 82),none,1,[]⟩]) (RC.cond (.t 81) (RC.seq (RC.region 3 [
  ⟨some 83,.move (.t 6),none,0,[]⟩,
  ⟨some 84,.move (.t 9),none,1,[]⟩,
  ⟨some 85,.call F.flag_Flag_Lower [(.t 83),(.t 84)],none,2,[]⟩]) (RC.seq (RC.region 2 [
  ⟨some 86,.call F.kern_say [(.c (.s (.int .i64 0))),(.c (.s (.slice none 0 0 1)))],none,0,[]⟩,
  ⟨none,.store 2 (.t 4) (.t 86),none,1,[]⟩]) (RC.ret))) (RC.skip)))
def kern_Kernel_flag_s3 : RC :=
  RC.seq (RC.region 11 [
  ⟨some 95,.move (.t 6),none,0,[]⟩,
  ⟨some 96,.move (.t 9),none,1,[]⟩,
  ⟨some 97,.move (.t 12),none,2,[]⟩,
  ⟨some 98,.call F.flag_Flag_Poll [(.t 95),(.t 96),(.t 97)],none,3,[]⟩,
  ⟨some 94,.move (.t 98),none,4,[]⟩,
  ⟨some 99,.extract 0 (.t 94),none,5,[]⟩,
  ⟨some 100,.extract 1 (.t 94),none,6,[]⟩,
  ⟨some 101,.extract 2 (.t 94),none,7,[]⟩,
  ⟨some 13,.move (.t 99),none,8,[]⟩,
  ⟨some 7,.move (.t 100),none,9,[]⟩,
  ⟨some 14,.move (.t 101),none,10,[]⟩]) (RC.seq (RC.block 5 (RC.seq (RC.region 6 [
  ⟨some 103,.move (.t 7),none,0,[]⟩,
  ⟨some 104,.move (.t 103),none,1,[]⟩,
  ⟨some 105,.move (.t 14),(some (104,false)),2,[]⟩,
  ⟨some 106,.bin .neq (.t 105) (.c (.s (.int .i64 0))),(some (104,false)),3,[]⟩,
  ⟨some 107,.pick (.t 104) (.c (.s (.bool true))) (.t 106),none,4,[]⟩,
  ⟨some 102,.move (.t 107),none,5,[]⟩]) (RC.cond (.t 102) (RC.seq (RC.region 6 [
  ⟨some 108,.move (.t 14),none,0,[]⟩,
  ⟨some 109,.move (.t 13),none,1,[]⟩,
  ⟨some 110,.conv .i64 (.t 109),none,2,[]⟩,
  ⟨some 111,.buildSlice 1 1 [.int .i64 0] [(0,1,(.t 110))],none,3,[]⟩,
  ⟨some 112,.call F.kern_say [(.t 108),(.t 111)],none,4,[]⟩,
  ⟨none,.store 2 (.t 4) (.t 112),none,5,[]⟩]) (RC.ret)) (RC.seq (RC.region 3 [
  ⟨some 114,.move (.t 8),none,0,[]⟩,
  ⟨some 115,.bin .eql (.t 114) (.c (.s (.int .i64 0))),none,1,[]⟩,
  ⟨some 113,.move (.t 115),none,2,[]⟩]) (RC.cond (.t 113) (RC.seq (RC.region 2 [
  ⟨some 116,.call F.kern_say [(.c (.s (.int .i64 (-50)))),(.c (.s (.slice none 0 0 1)))],none,0,[]⟩,
  ⟨none,.store 2 (.t 4) (.t 116),none,1,[]⟩]) (RC.ret)) (RC.skip)))))) (RC.seq (RC.region 18 [
  ⟨some 117,.move (.t 6),none,0,[]⟩,
  ⟨some 118,.move (.t 0),none,1,[]⟩,
  ⟨some 119,.nilCheck (.t 118),none,2,[]⟩,
  ⟨some 120,.fieldAddr 12 (.t 119),none,3,[]⟩,
  ⟨some 121,.load none (.t 120),none,4,[]⟩,
  ⟨some 122,.move (.t 0),none,5,[]⟩,
  ⟨some 123,.nilCheck (.t 122),none,6,[]⟩,
  ⟨some 124,.fieldAddr 0 (.t 123),none,7,[]⟩,
  ⟨some 125,.fieldAddr 5 (.t 124),none,8,[]⟩,
  ⟨some 126,.load none (.t 125),none,9,[]⟩,
  ⟨some 127,.move (.t 0),none,10,[]⟩,
  ⟨some 128,.nilCheck (.t 127),none,11,[]⟩,
  ⟨some 129,.fieldAddr 12 (.t 128),none,12,[]⟩,
  ⟨some 130,.load none (.t 129),none,13,[]⟩,
  ⟨some 132,.move (.t 9),none,15,[]⟩,
  ⟨some 133,.move (.t 12),none,16,[]⟩,
  ⟨some 131,.call F.mtx_All_Pri [(.t 126),(.t 130)],none,14,[⟨121,none,(.t 120),none⟩]⟩,
  ⟨some 134,.call F.flag_Flag_Wait [(.t 117),(.t 121),(.t 131),(.t 132),(.t 133)],none,17,[]⟩]) (RC.seq (RC.region 5 [
  ⟨some 135,.move (.t 0),none,0,[]⟩,
  ⟨some 136,.move (.t 5),none,1,[]⟩,
  ⟨some 137,.move (.t 8),none,2,[]⟩,
  ⟨some 138,.call F.kern_Kernel_stay [(.t 135),(.c (.s (.int .i64 4))),(.t 136),(.t 137)],none,3,[]⟩,
  ⟨none,.store 2 (.t 4) (.t 138),none,4,[]⟩]) (RC.ret))))
def kern_Kernel_flag_s4 : RC :=
  RC.seq (RC.region 1 [
  ⟨some 12,.move (.c (.s (.int .i64 (-1)))),none,0,[]⟩]) (RC.seq (RC.seq (RC.region 3 [
  ⟨some 87,.fieldAddr 1 (.t 3),none,0,[]⟩,
  ⟨some 88,.indexArr 4 1 (.t 87) (.c (.s (.int .i64 2))),none,1,[]⟩,
  ⟨some 89,.load none (.t 88),none,2,[]⟩]) (RC.block 4 (RC.seq (RC.region 2 [
  ⟨some 91,.bin .eql (.t 89) (.c (.s (.int .i64 0))),none,0,[]⟩,
  ⟨some 90,.move (.t 91),none,1,[]⟩]) (RC.cond (.t 90) (RC.region 1 [
  ⟨some 12,.move (.c (.s (.int .i64 0))),none,0,[]⟩]) (RC.seq (RC.region 2 [
  ⟨some 93,.bin .eql (.t 89) (.c (.s (.int .i64 1))),none,0,[]⟩,
  ⟨some 92,.move (.t 93),none,1,[]⟩]) (RC.cond (.t 92) (RC.region 1 [
  ⟨some 12,.move (.c (.s (.int .i64 1))),none,0,[]⟩]) (RC.skip))))))) R.kern_Kernel_flag_s3)
def kern_Kernel_flag : RFunc := RFunc.mk 139 [.cell 4 (some 2)] (
  RC.seq (RC.region 2 [
  ⟨some 3,.box (.t 1),none,0,[]⟩,
  ⟨some 4,.newc [.int .i64 0,.int .i64 0],none,1,[]⟩]) (RC.seq (RC.region 6 [
  ⟨some 15,.fieldAddr 1 (.t 3),none,0,[]⟩,
  ⟨some 16,.indexArr 4 1 (.t 15) (.c (.s (.int .i64 0))),none,1,[]⟩,
  ⟨some 17,.load none (.t 16),none,2,[]⟩,
  ⟨some 18,.minmax false (.t 17) (.c (.s (.int .i64 9))),none,3,[]⟩,
  ⟨some 19,.minmax true (.t 18) (.c (.s (.int .i64 0))),none,4,[]⟩,
  ⟨some 5,.move (.t 19),none,5,[]⟩]) (RC.seq (RC.region 12 [
  ⟨some 21,.move (.t 0),none,0,[]⟩,
  ⟨some 22,.nilCheck (.t 21),none,1,[]⟩,
  ⟨some 23,.fieldAddr 0 (.t 22),none,2,[]⟩,
  ⟨some 24,.fieldAddr 1 (.t 23),none,3,[]⟩,
  ⟨some 25,.load none (.t 24),none,4,[]⟩,
  ⟨some 26,.move (.t 5),none,5,[]⟩,
  ⟨some 27,.call F.kern_at__flag_Flag [(.t 25),(.t 26)],none,6,[]⟩,
  ⟨some 20,.move (.t 27),none,7,[]⟩,
  ⟨some 28,.extract 0 (.t 20),none,8,[]⟩,
  ⟨some 29,.extract 1 (.t 20),none,9,[]⟩,
  ⟨some 6,.move (.t 28),none,10,[]⟩,
  ⟨some 7,.move (.t 29),none,11,[]⟩]) (RC.seq (RC.region 3 [
  ⟨some 30,.load (some 5) (.t 3),none,0,[]⟩,
  ⟨some 31,.call F.kern_timeout [(.t 30),(.c (.s (.int .i64 32))),(.c (.s (.int .i64 33)))],none,1,[]⟩,
  ⟨some 8,.move (.t 31),none,2,[]⟩]) (RC.seq (RC.block 0 (RC.seq (RC.region 3 [
  ⟨some 33,.move (.t 7),none,0,[]⟩,
  ⟨some 34,.un .not (.t 33),none,1,[]⟩,
  ⟨some 32,.move (.t 34),none,2,[]⟩]) (RC.cond (.t 32) (RC.seq (RC.region 2 [
  ⟨some 35,.call F.kern_say [(.c (.s (.int .i64 (-18)))),(.c (.s (.slice none 0 0 1)))],none,0,[]⟩,
  ⟨none,.store 2 (.t 4) (.t 35),none,1,[]⟩]) (RC.ret)) (RC.seq (RC.region 16 [
  ⟨some 37,.fieldAddr 1 (.t 3),none,0,[]⟩,
  ⟨some 38,.indexArr 4 1 (.t 37) (.c (.s (.int .i64 1))),none,1,[]⟩,
  ⟨some 39,.load none (.t 38),none,2,[]⟩,
  ⟨some 40,.bin .lss (.t 39) (.c (.s (.int .i64 0))),none,3,[]⟩,
  ⟨some 41,.move (.t 40),none,4,[]⟩,
  ⟨some 42,.fieldAddr 1 (.t 3),(some (41,false)),5,[]⟩,
  ⟨some 43,.indexArr 4 1 (.t 42) (.c (.s (.int .i64 1))),(some (41,false)),6,[]⟩,
  ⟨some 44,.load none (.t 43),(some (41,false)),7,[]⟩,
  ⟨some 45,.bin .gtr (.t 44) (.c (.s (.int .i64 4294967295))),(some (41,false)),8,[]⟩,
  ⟨some 46,.pick (.t 41) (.c (.s (.bool true))) (.t 45),none,9,[]⟩,
  ⟨some 47,.move (.t 46),none,10,[]⟩,
  ⟨some 48,.move (.t 8),(some (47,false)),11,[]⟩,
  ⟨some 49,.call F.kern_late [(.t 48)],(some (47,false)),12,[]⟩,
  ⟨some 50,.un .not (.t 49),(some (47,false)),13,[]⟩,
  ⟨some 51,.pick (.t 47) (.c (.s (.bool true))) (.t 50),none,14,[]⟩,
  ⟨some 36,.move (.t 51),none,15,[]⟩]) (RC.cond (.t 36) (RC.seq (RC.region 2 [
  ⟨some 52,.call F.kern_say [(.c (.s (.int .i64 (-17)))),(.c (.s (.slice none 0 0 1)))],none,0,[]⟩,
  ⟨none,.store 2 (.t 4) (.t 52),none,1,[]⟩]) (RC.ret)) (RC.skip)))))) (RC.seq (RC.region 5 [
  ⟨some 53,.fieldAddr 1 (.t 3),none,0,[]⟩,
  ⟨some 54,.indexArr 4 1 (.t 53) (.c (.s (.int .i64 1))),none,1,[]⟩,
  ⟨some 55,.load none (.t 54),none,2,[]⟩,
  ⟨some 56,.conv .u32 (.t 55),none,3,[]⟩,
  ⟨some 9,.move (.t 56),none,4,[]⟩]) (RC.seq (RC.seq (RC.region 2 [
  ⟨some 57,.fieldAddr 0 (.t 3),none,0,[]⟩,
  ⟨some 58,.load none (.t 57),none,1,[]⟩]) (RC.block 1 (RC.seq (RC.seq (RC.region 2 [
  ⟨some 60,.bin .eql (.t 58) (.c (.s (.int .i64 28))),none,0,[]⟩,
  ⟨some 59,.move (.t 60),none,1,[]⟩]) (RC.cond (.t 59) (RC.skip) (RC.region 2 [
  ⟨some 61,.bin .eql (.t 58) (.c (.s (.int .i64 29))),none,0,[]⟩,
  ⟨some 59,.move (.t 61),none,1,[]⟩]))) R.kern_Kernel_flag_s2))) R.kern_Kernel_flag_s4)))))))
theorem kern_Kernel_flag_ok : chkFunc Go.Proofs.Tryz.prog [0] Go.Proofs.Tryz.f57 kern_Kernel_flag = true := by kernel_rfl
def kern_Kernel_data_s0 : RC :=
  RC.seq (RC.block 0 (RC.seq (RC.region 3 [
  ⟨some 40,.move (.t 7),none,0,[]⟩,
  ⟨some 41,.un .not (.t 40),none,1,[]⟩,
  ⟨some 39,.move (.t 41),none,2,[]⟩]) (RC.cond (.t 39) (RC.seq (RC.region 2 [
  ⟨some 42,.call F.kern_say [(.c (.s (.int .i64 (-18)))),(.c (.s (.slice none 0 0 1)))],none,0,[]⟩,
  ⟨none,.store 2 (.t 4) (.t 42),none,1,[]⟩]) (RC.ret)) (RC.seq (RC.region 4 [
  ⟨some 44,.move (.t 8),none,0,[]⟩,
  ⟨some 45,.call F.kern_late [(.t 44)],none,1,[]⟩,
  ⟨some 46,.un .not (.t 45),none,2,[]⟩,
  ⟨some 43,.move (.t 46),none,3,[]⟩]) (RC.cond (.t 43) (RC.seq (RC.region 2 [
  ⟨some 47,.call F.kern_say [(.c (.s (.int .i64 (-17)))),(.c (.s (.slice none 0 0 1)))],none,0,[]⟩,
  ⟨none,.store 2 (.t 4) (.t 47),none,1,[]⟩]) (RC.ret)) (RC.seq (RC.region 9 [
  ⟨some 49,.fieldAddr 0 (.t 3),none,0,[]⟩,
  ⟨some 50,.load none (.t 49),none,1,[]⟩,
  ⟨some 51,.bin .eql (.t 50) (.c (.s (.int .i64 38))),none,2,[]⟩,
  ⟨some 52,.move (.t 51),none,3,[]⟩,
  ⟨some 53,.fieldAddr 0 (.t 3),(some (52,false)),4,[]⟩,
  ⟨some 54,.load none (.t 53),(some (52,false)),5,[]⟩,
  ⟨some 55,.bin .eql (.t 54) (.c (.s (.int .i64 39))),(some (52,false)),6,[]⟩,
  ⟨some 56,.pick (.t 52) (.c (.s (.bool true))) (.t 55),none,7,[]⟩,
  ⟨some 48,.move (.t 56),none,8,[]⟩]) (RC.cond (.t 48) (RC.seq (RC.region 10 [
  ⟨some 58,.move (.t 6),none,0,[]⟩,
  ⟨some 59,.fieldAddr 1 (.t 3),none,1,[]⟩,
  ⟨some 60,.indexArr 4 1 (.t 59) (.c (.s (.int .i64 1))),none,2,[]⟩,
  ⟨some 61,.load none (.t 60),none,3,[]⟩,
  ⟨some 62,.call F.dtq_Queue_Force [(.t 58),(.t 61)],none,4,[]⟩,
  ⟨some 57,.move (.t 62),none,5,[]⟩,
  ⟨some 63,.extract 0 (.t 57),none,6,[]⟩,
  ⟨some 64,.extract 1 (.t 57),none,7,[]⟩,
  ⟨some 9,.move (.t 63),none,8,[]⟩,
  ⟨some 10,.move (.t 64),none,9,[]⟩]) (RC.seq (RC.region 7 [
  ⟨some 65,.move (.t 0),none,0,[]⟩,
  ⟨some 66,.fieldAddr 1 (.t 3),none,1,[]⟩,
  ⟨some 67,.indexArr 4 1 (.t 66) (.c (.s (.int .i64 1))),none,2,[]⟩,
  ⟨some 68,.load none (.t 67),none,3,[]⟩,
  ⟨some 69,.move (.t 9),none,4,[]⟩,
  ⟨some 70,.buildSlice 1 1 [.int .i64 0] [(0,1,(.t 69))],none,5,[]⟩,
  ⟨some 71,.call F.kern_Kernel_woken [(.t 65),(.t 68),(.t 70)],none,6,[]⟩]) (RC.seq (RC.region 3 [
  ⟨some 72,.move (.t 10),none,0,[]⟩,
  ⟨some 73,.call F.kern_say [(.t 72),(.c (.s (.slice none 0 0 1)))],none,1,[]⟩,
  ⟨none,.store 2 (.t 4) (.t 73),none,2,[]⟩]) (RC.ret)))) (RC.seq (RC.region 4 [
  ⟨some 75,.fieldAddr 0 (.t 3),none,0,[]⟩,
  ⟨some 76,.load none (.t 75),none,1,[]⟩,
  ⟨some 77,.bin .lss (.t 76) (.c (.s (.int .i64 40))),none,2,[]⟩,
  ⟨some 74,.move (.t 77),none,3,[]⟩]) (RC.cond (.t 74) (RC.seq (RC.region 10 [
  ⟨some 79,.move (.t 6),none,0,[]⟩,
  ⟨some 80,.fieldAddr 1 (.t 3),none,1,[]⟩,
  ⟨some 81,.indexArr 4 1 (.t 80) (.c (.s (.int .i64 1))),none,2,[]⟩,
  ⟨some 82,.load none (.t 81),none,3,[]⟩,
  ⟨some 83,.call F.dtq_Queue_TrySend [(.t 79),(.t 82)],none,4,[]⟩,
  ⟨some 78,.move (.t 83),none,5,[]⟩,
  ⟨some 84,.extract 0 (.t 78),none,6,[]⟩,
  ⟨some 85,.extract 1 (.t 78),none,7,[]⟩,
  ⟨some 11,.move (.t 84),none,8,[]⟩,
  ⟨some 12,.move (.t 85),none,9,[]⟩]) (RC.seq (RC.region 7 [
  ⟨some 86,.move (.t 0),none,0,[]⟩,
  ⟨some 87,.fieldAddr 1 (.t 3),none,1,[]⟩,
  ⟨some 88,.indexArr 4 1 (.t 87) (.c (.s (.int .i64 1))),none,2,[]⟩,
  ⟨some 89,.load none (.t 88),none,3,[]⟩,
  ⟨some 90,.move (.t 12),none,4,[]⟩,
  ⟨some 91,.buildSlice 1 1 [.int .i64 0] [(0,1,(.t 90))],none,5,[]⟩,
  ⟨some 92,.call F.kern_Kernel_woken [(.t 86),(.t 89),(.t 91)],none,6,[]⟩]) (RC.seq (RC.block 1 (RC.seq (RC.region 2 [
  ⟨some 94,.move (.t 11),none,0,[]⟩,
  ⟨some 93,.move (.t 94),none,1,[]⟩]) (RC.cond (.t 93) (RC.seq (RC.region 2 [
  ⟨some 95,.call F.kern_say [(.c (.s (.int .i64 0))),(.c (.s (.slice none 0 0 1)))],none,0,[]⟩,
  ⟨none,.store 2 (.t 4) (.t 95),none,1,[]⟩]) (RC.ret)) (RC.seq (RC.region 3 [
  ⟨some 97,.move (.t 8),none,0,[]⟩,
  ⟨some 98,.bin .eql (.t 97) (.c (.s (.int .i64 0))),none,1,[]⟩,
  ⟨some 96,.move (.t 98),none,2,[]⟩]) (RC.cond (.t 96) (RC.seq (RC.region 2 [
  ⟨some 99,.call F.kern_say [(.c (.s (.int .i64 (-50)))),(.c (.s (.slice none 0 0 1)))],none,0,[]⟩,
  ⟨none,.store 2 (.t 4) (.t 99),none,1,[]⟩]) (RC.ret)) (RC.skip)))))) (RC.seq (RC.region 19 [
  ⟨some 100,.move (.t 6),none,0,[]⟩,
  ⟨some 101,.move (.t 0),none,1,[]⟩,
  ⟨some 102,.nilCheck (.t 101),none,2,[]⟩,
  ⟨some 103,.fieldAddr 12 (.t 102),none,3,[]⟩,
  ⟨some 104,.load none (.t 103),none,4,[]⟩,
  ⟨some 105,.move (.t 0),none,5,[]⟩,
  ⟨some 106,.nilCheck (.t 105),none,6,[]⟩,
  ⟨some 107,.fieldAddr 0 (.t 106),none,7,[]⟩,
  ⟨some 108,.fieldAddr 5 (.t 107),none,8,[]⟩,
  ⟨some 109,.load none (.t 108),none,9,[]⟩,
  ⟨some 110,.move (.t 0),none,10,[]⟩,
  ⟨some 111,.nilCheck (.t 110),none,11,[]⟩,
  ⟨some 112,.fieldAddr 12 (.t 111),none,12,[]⟩,
  ⟨some 113,.load none (.t 112),none,13,[]⟩,
  ⟨some 115,.fieldAddr 1 (.t 3),none,15,[]⟩,
  ⟨some 116,.indexArr 4 1 (.t 115) (.c (.s (.int .i64 1))),none,16,[]⟩,
  ⟨some 117,.load none (.t 116),none,17,[]⟩,
  ⟨some 114,.call F.mtx_All_Pri [(.t 109),(.t 113)],none,14,[⟨104,none,(.t 103),none⟩,⟨117,none,(.t 116),none⟩]⟩,
  ⟨some 118,.call F.dtq_Queue_Send [(.t 100),(.t 104),(.t 114),(.t 117)],none,18,[]⟩]) (RC.seq (RC.region 5 [
  ⟨some 119,.move (.t 0),none,0,[]⟩,
  ⟨some 120,.move (.t 5),none,1,[]⟩,
  ⟨some 121,.move (.t 8),none,2,[]⟩,
  ⟨some 122,.call F.kern_Kernel_stay [(.t 119),(.c (.s (.int .i64 5))),(.t 120),(.t 121)],none,3,[]⟩,
  ⟨none,.store 2 (.t 4) (.t 122),none,4,[]⟩]) (RC.ret)))))) (RC.skip)))))))))) (RC.seq (RC.region 4 [
  ⟨some 123,.move (.t 6),none,0,[]⟩,
  ⟨some 124,.call F.dtq_Queue_TryRecv [(.t 123)],none,1,[]⟩,
  ⟨some 13,.newc [.int .i64 0,.bool false,.int .i64 0],none,2,[]⟩,
  ⟨none,.store 3 (.t 13) (.t 124),none,3,[]⟩]) (RC.seq (RC.region 5 [
  ⟨some 125,.move (.t 0),none,0,[]⟩,
  ⟨some 126,.fieldAddr 2 (.t 13),none,1,[]⟩,
  ⟨some 127,.load none (.t 126),none,2,[]⟩,
  ⟨some 128,.buildSlice 1 1 [.int .i64 0] [(0,1,(.t 127))],none,3,[]⟩,
  ⟨some 129,.call F.kern_Kernel_woken [(.t 125),(.c (.s (.int .i64 0))),(.t 128)],none,4,[]⟩]) (RC.seq (RC.block 2 (RC.seq (RC.region 3 [
  ⟨some 131,.fieldAddr 1 (.t 13),none,0,[]⟩,
  ⟨some 132,.load none (.t 131),none,1,[]⟩,
  ⟨some 130,.move (.t 132),none,2,[]⟩]) (RC.cond (.t 130) (RC.seq (RC.region 5 [
  ⟨some 133,.fieldAddr 0 (.t 13),none,0,[]⟩,
  ⟨some 134,.load none (.t 133),none,1,[]⟩,
  ⟨some 135,.buildSlice 1 1 [.int .i64 0] [(0,1,(.t 134))],none,2,[]⟩,
  ⟨some 136,.call F.kern_say [(.c (.s (.int .i64 0))),(.t 135)],none,3,[]⟩,
  ⟨none,.store 2 (.t 4) (.t 136),none,4,[]⟩]) (RC.ret)) (RC.seq (RC.region 3 [
  ⟨some 138,.move (.t 8),none,0,[]⟩,
  ⟨some 139,.bin .eql (.t 138) (.c (.s (.int .i64 0))),none,1,[]⟩,
  ⟨some 137,.move (.t 139),none,2,[]⟩]) (RC.cond (.t 137) (RC.seq (RC.region 2 [
  ⟨some 140,.call F.kern_say [(.c (.s (.int .i64 (-50)))),(.c (.s (.slice none 0 0 1)))],none,0,[]⟩,
  ⟨none,.store 2 (.t 4) (.t 140),none,1,[]⟩]) (RC.ret)) (RC.skip)))))) (RC.seq (RC.region 16 [
  ⟨some 141,.move (.t 6),none,0,[]⟩,
  ⟨some 142,.move (.t 0),none,1,[]⟩,
  ⟨some 143,.nilCheck (.t 142),none,2,[]⟩,
  ⟨some 144,.fieldAddr 12 (.t 143),none,3,[]⟩,
  ⟨some 145,.load none (.t 144),none,4,[]⟩,
  ⟨some 146,.move (.t 0),none,5,[]⟩,
  ⟨some 147,.nilCheck (.t 146),none,6,[]⟩,
  ⟨some 148,.fieldAddr 0 (.t 147),none,7,[]⟩,
  ⟨some 149,.fieldAddr 5 (.t 148),none,8,[]⟩,
  ⟨some 150,.load none (.t 149),none,9,[]⟩,
  ⟨some 151,.move (.t 0),none,10,[]⟩,
  ⟨some 152,.nilCheck (.t 151),none,11,[]⟩,
  ⟨some 153,.fieldAddr 12 (.t 152),none,12,[]⟩,
  ⟨some 154,.load none (.t 153),none,13,[]⟩,
  ⟨some 155,.call F.mtx_All_Pri [(.t 150),(.t 154)],none,14,[⟨145,none,(.t 144),none⟩]⟩,
  ⟨some 156,.call F.dtq_Queue_Recv [(.t 141),(.t 145),(.t 155)],none,15,[]⟩]) (RC.seq (RC.region 5 [
  ⟨some 157,.move (.t 0),none,0,[]⟩,
  ⟨some 158,.move (.t 5),none,1,[]⟩,
  ⟨some 159,.move (.t 8),none,2,[]⟩,
  ⟨some 160,.call F.kern_Kernel_stay [(.t 157),(.c (.s (.int .i64 6))),(.t 158),(.t 159)],none,3,[]⟩,
  ⟨none,.store 2 (.t 4) (.t 160),none,4,[]⟩]) (RC.ret))))))
def kern_Kernel_data_s1 : RC :=
  RC.seq (RC.seq (RC.region 3 [
  ⟨some 34,.fieldAddr 0 (.t 3),none,0,[]⟩,
  ⟨some 35,.load none (.t 34),none,1,[]⟩,
  ⟨some 36,.bin .geq (.t 35) (.c (.s (.int .i64 40))),none,2,[]⟩]) (RC.cond (.t 36) (RC.region 3 [
  ⟨some 37,.load (some 5) (.t 3),none,0,[]⟩,
  ⟨some 38,.call F.kern_timeout [(.t 37),(.c (.s (.int .i64 41))),(.c (.s (.int .i64 42)))],none,1,[]⟩,
  ⟨some 8,.move (.t 38),none,2,[]⟩]) (RC.skip))) R.kern_Kernel_data_s0
def kern_Kernel_data : RFunc := RFunc.mk 161 [.cell 4 (some 2)] (
  RC.seq (RC.region 2 [
  ⟨some 3,.box (.t 1),none,0,[]⟩,
  ⟨some 4,.newc [.int .i64 0,.int .i64 0],none,1,[]⟩]) (RC.seq (RC.region 6 [
  ⟨some 14,.fieldAddr 1 (.t 3),none,0,[]⟩,
  ⟨some 15,.indexArr 4 1 (.t 14) (.c (.s (.int .i64 0))),none,1,[]⟩,
  ⟨some 16,.load none (.t 15),none,2,[]⟩,
  ⟨some 17,.minmax false (.t 16) (.c (.s (.int .i64 9))),none,3,[]⟩,
  ⟨some 18,.minmax true (.t 17) (.c (.s (.int .i64 0))),none,4,[]⟩,
  ⟨some 5,.move (.t 18),none,5,[]⟩]) (RC.seq (RC.region 12 [
  ⟨some 20,.move (.t 0),none,0,[]⟩,
  ⟨some 21,.nilCheck (.t 20),none,1,[]⟩,
  ⟨some 22,.fieldAddr 0 (.t 21),none,2,[]⟩,
  ⟨some 23,.fieldAddr 2 (.t 22),none,3,[]⟩,
  ⟨some 24,.load none (.t 23),none,4,[]⟩,
  ⟨some 25,.move (.t 5),none,5,[]⟩,
  ⟨some 26,.call F.kern_at__dtq_Queue [(.t 24),(.t 25)],none,6,[]⟩,
  ⟨some 19,.move (.t 26),none,7,[]⟩,
  ⟨some 27,.extract 0 (.t 19),none,8,[]⟩,
  ⟨some 28,.extract 1 (.t 19),none,9,[]⟩,
  ⟨some 6,.move (.t 27),none,10,[]⟩,
  ⟨some 7,.move (.t 28),none,11,[]⟩]) (RC.seq (RC.region 3 [
  ⟨some 29,.load (some 5) (.t 3),none,0,[]⟩,
  ⟨some 30,.call F.kern_timeout [(.t 29),(.c (.s (.int .i64 35))),(.c (.s (.int .i64 37)))],none,1,[]⟩,
  ⟨some 8,.move (.t 30),none,2,[]⟩]) (RC.seq (RC.seq (RC.region 3 [
  ⟨some 31,.fieldAddr 0 (.t 3),none,0,[]⟩,
  ⟨some 32,.load none (.t 31),none,1,[]⟩,
  ⟨some 33,.bin .eql (.t 32) (.c (.s (.int .i64 36))),none,2,[]⟩]) (RC.cond (.t 33) (RC.region 1 [
  ⟨some 8,.move (.c (.s (.int .i64 0))),none,0,[]⟩]) (RC.skip))) R.kern_Kernel_data_s1)))))
theorem kern_Kernel_data_ok : chkFunc Go.Proofs.Tryz.prog [0] Go.Proofs.Tryz.f58 kern_Kernel_data = true := by kernel_rfl
def kern_Kernel_mutex_s0 : RC :=
  RC.seq (RC.region 12 [
  ⟨some 78,.move (.t 9),none,0,[]⟩,
  ⟨some 79,.move (.t 5),none,1,[]⟩,
  ⟨some 80,.move (.t 0),none,2,[]⟩,
  ⟨some 81,.nilCheck (.t 80),none,3,[]⟩,
  ⟨some 82,.fieldAddr 12 (.t 81),none,4,[]⟩,
  ⟨some 83,.load none (.t 82),none,5,[]⟩,
  ⟨some 84,.callv (.t 78) [(.t 79),(.t 83)],none,6,[]⟩,
  ⟨some 77,.move (.t 84),none,7,[]⟩,
  ⟨some 85,.extract 0 (.t 77),none,8,[]⟩,
  ⟨some 86,.extract 1 (.t 77),none,9,[]⟩,
  ⟨some 10,.move (.t 85),none,10,[]⟩,
  ⟨some 11,.move (.t 86),none,11,[]⟩]) (RC.seq (RC.block 1 (RC.seq (RC.region 6 [
  ⟨some 88,.move (.t 10),none,0,[]⟩,
  ⟨some 89,.move (.t 88),none,1,[]⟩,
  ⟨some 90,.move (.t 11),(some (89,false)),2,[]⟩,
  ⟨some 91,.bin .neq (.t 90) (.c (.s (.int .i64 0))),(some (89,false)),3,[]⟩,
  ⟨some 92,.pick (.t 89) (.c (.s (.bool true))) (.t 91),none,4,[]⟩,
  ⟨some 87,.move (.t 92),none,5,[]⟩]) (RC.cond (.t 87) (RC.seq (RC.region 2 [
  ⟨some 93,.move (.t 0),none,0,[]⟩,
  ⟨some 94,.call F.kern_Kernel_settle [(.t 93)],none,1,[]⟩]) (RC.seq (RC.region 3 [
  ⟨some 95,.move (.t 11),none,0,[]⟩,
  ⟨some 96,.call F.kern_say [(.t 95),(.c (.s (.slice none 0 0 1)))],none,1,[]⟩,
  ⟨none,.store 2 (.t 4) (.t 96),none,2,[]⟩]) (RC.ret))) (RC.seq (RC.region 3 [
  ⟨some 98,.move (.t 6),none,0,[]⟩,
  ⟨some 99,.bin .eql (.t 98) (.c (.s (.int .i64 0))),none,1,[]⟩,
  ⟨some 97,.move (.t 99),none,2,[]⟩]) (RC.cond (.t 97) (RC.seq (RC.region 2 [
  ⟨some 100,.call F.kern_say [(.c (.s (.int .i64 (-50)))),(.c (.s (.slice none 0 0 1)))],none,0,[]⟩,
  ⟨none,.store 2 (.t 4) (.t 100),none,1,[]⟩]) (RC.ret)) (RC.skip)))))) (RC.seq (RC.region 5 [
  ⟨some 101,.move (.t 0),none,0,[]⟩,
  ⟨some 102,.move (.t 5),none,1,[]⟩,
  ⟨some 103,.move (.t 6),none,2,[]⟩,
  ⟨some 104,.call F.kern_Kernel_stay [(.t 101),(.c (.s (.int .i64 7))),(.t 102),(.t 103)],none,3,[]⟩,
  ⟨none,.store 2 (.t 4) (.t 104),none,4,[]⟩]) (RC.ret)))
def kern_Kernel_mutex : RFunc := RFunc.mk 105 [.cell 4 (some 2)] (
  RC.seq (RC.region 2 [
  ⟨some 3,.box (.t 1),none,0,[]⟩,
  ⟨some 4,.newc [.int .i64 0,.int .i64 0],none,1,[]⟩]) (RC.seq (RC.region 6 [
  ⟨some 12,.fieldAddr 1 (.t 3),none,0,[]⟩,
  ⟨some 13,.indexArr 4 1 (.t 12) (.c (.s (.int .i64 0))),none,1,[]⟩,
  ⟨some 14,.load none (.t 13),none,2,[]⟩,
  ⟨some 15,.minmax false (.t 14) (.c (.s (.int .i64 9))),none,3,[]⟩,
  ⟨some 16,.minmax true (.t 15) (.c (.s (.int .i64 0))),none,4,[]⟩,
  ⟨some 5,.move (.t 16),none,5,[]⟩]) (RC.seq (RC.region 3 [
  ⟨some 17,.load (some 5) (.t 3),none,0,[]⟩,
  ⟨some 18,.call F.kern_timeout [(.t 17),(.c (.s (.int .i64 44))),(.c (.s (.int .i64 45)))],none,1,[]⟩,
  ⟨some 6,.move (.t 18),none,2,[]⟩]) (RC.seq (RC.block 0 (RC.seq (RC.region 12 [
  ⟨some 20,.move (.t 5),none,0,[]⟩,
  ⟨some 21,.bin .lss (.t 20) (.c (.s (.int .i64 1))),none,1,[]⟩,
  ⟨some 22,.move (.t 21),none,2,[]⟩,
  ⟨some 23,.move (.t 5),(some (22,false)),3,[]⟩,
  ⟨some 24,.move (.t 0),(some (22,false)),4,[]⟩,
  ⟨some 25,.nilCheck (.t 24),(some (22,false)),5,[]⟩,
  ⟨some 26,.fieldAddr 0 (.t 25),(some (22,false)),6,[]⟩,
  ⟨some 27,.fieldAddr 4 (.t 26),(some (22,false)),7,[]⟩,
  ⟨some 28,.load none (.t 27),(some (22,false)),8,[]⟩,
  ⟨some 29,.bin .gtr (.t 23) (.t 28),(some (22,false)),9,[]⟩,
  ⟨some 30,.pick (.t 22) (.c (.s (.bool true))) (.t 29),none,10,[]⟩,
  ⟨some 19,.move (.t 30),none,11,[]⟩]) (RC.cond (.t 19) (RC.seq (RC.region 2 [
  ⟨some 31,.call F.kern_say [(.c (.s (.int .i64 (-18)))),(.c (.s (.slice none 0 0 1)))],none,0,[]⟩,
  ⟨none,.store 2 (.t 4) (.t 31),none,1,[]⟩]) (RC.ret)) (RC.seq (RC.region 4 [
  ⟨some 33,.move (.t 6),none,0,[]⟩,
  ⟨some 34,.call F.kern_late [(.t 33)],none,1,[]⟩,
  ⟨some 35,.un .not (.t 34),none,2,[]⟩,
  ⟨some 32,.move (.t 35),none,3,[]⟩]) (RC.cond (.t 32) (RC.seq (RC.region 2 [
  ⟨some 36,.call F.kern_say [(.c (.s (.int .i64 (-17)))),(.c (.s (.slice none 0 0 1)))],none,0,[]⟩,
  ⟨none,.store 2 (.t 4) (.t 36),none,1,[]⟩]) (RC.ret)) (RC.seq (RC.region 4 [
  ⟨some 38,.fieldAddr 0 (.t 3),none,0,[]⟩,
  ⟨some 39,.load none (.t 38),none,1,[]⟩,
  ⟨some 40,.bin .eql (.t 39) (.c (.s (.int .i64 46))),none,2,[]⟩,
  ⟨some 37,.move (.t 40),none,3,[]⟩]) (RC.cond (.t 37) (RC.seq (RC.region 16 [
  ⟨some 42,.move (.t 0),none,0,[]⟩,
  ⟨some 43,.nilCheck (.t 42),none,1,[]⟩,
  ⟨some 44,.fieldAddr 0 (.t 43),none,2,[]⟩,
  ⟨some 45,.fieldAddr 5 (.t 44),none,3,[]⟩,
  ⟨some 46,.load none (.t 45),none,4,[]⟩,
  ⟨some 47,.move (.t 5),none,5,[]⟩,
  ⟨some 48,.move (.t 0),none,6,[]⟩,
  ⟨some 49,.nilCheck (.t 48),none,7,[]⟩,
  ⟨some 50,.fieldAddr 12 (.t 49),none,8,[]⟩,
  ⟨some 51,.load none (.t 50),none,9,[]⟩,
  ⟨some 52,.call F.mtx_All_Unlock [(.t 46),(.t 47),(.t 51)],none,10,[]⟩,
  ⟨some 41,.move (.t 52),none,11,[]⟩,
  ⟨some 53,.extract 0 (.t 41),none,12,[]⟩,
  ⟨some 54,.extract 1 (.t 41),none,13,[]⟩,
  ⟨some 7,.move (.t 53),none,14,[]⟩,
  ⟨some 8,.move (.t 54),none,15,[]⟩]) (RC.seq (RC.region 4 [
  ⟨some 55,.move (.t 0),none,0,[]⟩,
  ⟨some 56,.move (.t 7),none,1,[]⟩,
  ⟨some 57,.buildSlice 1 1 [.int .i64 0] [(0,1,(.t 56))],none,2,[]⟩,
  ⟨some 58,.call F.kern_Kernel_woken [(.t 55),(.c (.s (.int .i64 0))),(.t 57)],none,3,[]⟩]) (RC.seq (RC.region 2 [
  ⟨some 59,.move (.t 0),none,0,[]⟩,
  ⟨some 60,.call F.kern_Kernel_settle [(.t 59)],none,1,[]⟩]) (RC.seq (RC.region 3 [
  ⟨some 61,.move (.t 8),none,0,[]⟩,
  ⟨some 62,.call F.kern_say [(.t 61),(.c (.s (.slice none 0 0 1)))],none,1,[]⟩,
  ⟨none,.store 2 (.t 4) (.t 62),none,2,[]⟩]) (RC.ret))))) (RC.skip)))))))) (RC.seq (RC.region 7 [
  ⟨some 63,.move (.t 0),none,0,[]⟩,
  ⟨some 64,.nilCheck (.t 63),none,1,[]⟩,
  ⟨some 65,.fieldAddr 0 (.t 64),none,2,[]⟩,
  ⟨some 66,.fieldAddr 5 (.t 65),none,3,[]⟩,
  ⟨some 67,.load none (.t 66),none,4,[]⟩,
  ⟨some 68,.bindf F.mtx_All_Lock (.t 67),none,5,[]⟩,
  ⟨some 9,.move (.t 68),none,6,[]⟩]) (RC.seq (RC.seq (RC.region 2 [
  ⟨some 69,.move (.t 6),none,0,[]⟩,
  ⟨some 70,.bin .eql (.t 69) (.c (.s (.int .i64 0))),none,1,[]⟩]) (RC.cond (.t 70) (RC.region 7 [
  ⟨some 71,.move (.t 0),none,0,[]⟩,
  ⟨some 72,.nilCheck (.t 71),none,1,[]⟩,
  ⟨some 73,.fieldAddr 0 (.t 72),none,2,[]⟩,
  ⟨some 74,.fieldAddr 5 (.t 73),none,3,[]⟩,
  ⟨some 75,.load none (.t 74),none,4,[]⟩,
  ⟨some 76,.bindf F.mtx_All_TryLock (.t 75),none,5,[]⟩,
  ⟨some 9,.move (.t 76),none,6,[]⟩]) (RC.skip))) R.kern_Kernel_mutex_s0))))))
theorem kern_Kernel_mutex_ok : chkFunc Go.Proofs.Tryz.prog [0] Go.Proofs.Tryz.f59 kern_Kernel_mutex = true := by kernel_rfl
def kern_Kernel_block : RFunc := RFunc.mk 93 [.cell 4 (some 2)] (
  RC.seq (RC.region 2 [
  ⟨some 3,.box (.t 1),none,0,[]⟩,
  ⟨some 4,.newc [.int .i64 0,.int .i64 0],none,1,[]⟩]) (RC.seq (RC.region 6 [
  ⟨some 12,.fieldAddr 1 (.t 3),none,0,[]⟩,
  ⟨some 13,.indexArr 4 1 (.t 12) (.c (.s (.int .i64 0))),none,1,[]⟩,
  ⟨some 14,.load none (.t 13),none,2,[]⟩,
  ⟨some 15,.minmax false (.t 14) (.c (.s (.int .i64 9))),none,3,[]⟩,
  ⟨some 16,.minmax true (.t 15) (.c (.s (.int .i64 0))),none,4,[]⟩,
  ⟨some 5,.move (.t 16),none,5,[]⟩]) (RC.seq (RC.region 12 [
  ⟨some 18,.move (.t 0),none,0,[]⟩,
  ⟨some 19,.nilCheck (.t 18),none,1,[]⟩,
  ⟨some 20,.fieldAddr 0 (.t 19),none,2,[]⟩,
  ⟨some 21,.fieldAddr 3 (.t 20),none,3,[]⟩,
  ⟨some 22,.load none (.t 21),none,4,[]⟩,
  ⟨some 23,.move (.t 5),none,5,[]⟩,
  ⟨some 24,.call F.kern_at__mpf_Pool [(.t 22),(.t 23)],none,6,[]⟩,
  ⟨some 17,.move (.t 24),none,7,[]⟩,
  ⟨some 25,.extract 0 (.t 17),none,8,[]⟩,
  ⟨some 26,.extract 1 (.t 17),none,9,[]⟩,
  ⟨some 6,.move (.t 25),none,10,[]⟩,
  ⟨some 7,.move (.t 26),none,11,[]⟩]) (RC.seq (RC.region 3 [
  ⟨some 27,.load (some 5) (.t 3),none,0,[]⟩,
  ⟨some 28,.call F.kern_timeout [(.t 27),(.c (.s (.int .i64 48))),(.c (.s (.int .i64 49)))],none,1,[]⟩,
  ⟨some 8,.move (.t 28),none,2,[]⟩]) (RC.seq (RC.block 0 (RC.seq (RC.region 3 [
  ⟨some 30,.move (.t 7),none,0,[]⟩,
  ⟨some 31,.un .not (.t 30),none,1,[]⟩,
  ⟨some 29,.move (.t 31),none,2,[]⟩]) (RC.cond (.t 29) (RC.seq (RC.region 2 [
  ⟨some 32,.call F.kern_say [(.c (.s (.int .i64 (-18)))),(.c (.s (.slice none 0 0 1)))],none,0,[]⟩,
  ⟨none,.store 2 (.t 4) (.t 32),none,1,[]⟩]) (RC.ret)) (RC.seq (RC.region 4 [
  ⟨some 34,.move (.t 8),none,0,[]⟩,
  ⟨some 35,.call F.kern_late [(.t 34)],none,1,[]⟩,
  ⟨some 36,.un .not (.t 35),none,2,[]⟩,
  ⟨some 33,.move (.t 36),none,3,[]⟩]) (RC.cond (.t 33) (RC.seq (RC.region 2 [
  ⟨some 37,.call F.kern_say [(.c (.s (.int .i64 (-17)))),(.c (.s (.slice none 0 0 1)))],none,0,[]⟩,
  ⟨none,.store 2 (.t 4) (.t 37),none,1,[]⟩]) (RC.ret)) (RC.seq (RC.region 4 [
  ⟨some 39,.fieldAddr 0 (.t 3),none,0,[]⟩,
  ⟨some 40,.load none (.t 39),none,1,[]⟩,
  ⟨some 41,.bin .eql (.t 40) (.c (.s (.int .i64 50))),none,2,[]⟩,
  ⟨some 38,.move (.t 41),none,3,[]⟩]) (RC.cond (.t 38) (RC.seq (RC.region 10 [
  ⟨some 43,.move (.t 6),none,0,[]⟩,
  ⟨some 44,.fieldAddr 1 (.t 3),none,1,[]⟩,
  ⟨some 45,.indexArr 4 1 (.t 44) (.c (.s (.int .i64 1))),none,2,[]⟩,
  ⟨some 46,.load none (.t 45),none,3,[]⟩,
  ⟨some 47,.call F.mpf_Pool_Put [(.t 43),(.t 46)],none,4,[]⟩,
  ⟨some 42,.move (.t 47),none,5,[]⟩,
  ⟨some 48,.extract 0 (.t 42),none,6,[]⟩,
  ⟨some 49,.extract 1 (.t 42),none,7,[]⟩,
  ⟨some 9,.move (.t 48),none,8,[]⟩,
  ⟨some 10,.move (.t 49),none,9,[]⟩]) (RC.seq (RC.region 7 [
  ⟨some 50,.move (.t 0),none,0,[]⟩,
  ⟨some 51,.fieldAddr 1 (.t 3),none,1,[]⟩,
  ⟨some 52,.indexArr 4 1 (.t 51) (.c (.s (.int .i64 1))),none,2,[]⟩,
  ⟨some 53,.load none (.t 52),none,3,[]⟩,
  ⟨some 54,.move (.t 9),none,4,[]⟩,
  ⟨some 55,.buildSlice 1 1 [.int .i64 0] [(0,1,(.t 54))],none,5,[]⟩,
  ⟨some 56,.call F.kern_Kernel_woken [(.t 50),(.t 53),(.t 55)],none,6,[]⟩]) (RC.seq (RC.region 3 [
  ⟨some 57,.move (.t 10),none,0,[]⟩,
  ⟨some 58,.call F.kern_say [(.t 57),(.c (.s (.slice none 0 0 1)))],none,1,[]⟩,
  ⟨none,.store 2 (.t 4) (.t 58),none,2,[]⟩]) (RC.ret)))) (RC.skip)))))))) (RC.seq (RC.region 7 [
  ⟨some 60,.move (.t 6),none,0,[]⟩,
  ⟨some 61,.call F.mpf_Pool_Poll [(.t 60)],none,1,[]⟩,
  ⟨some 59,.move (.t 61),none,2,[]⟩,
  ⟨some 62,.extract 0 (.t 59),none,3,[]⟩,
  ⟨some 63,.extract 1 (.t 59),none,4,[]⟩,
  ⟨some 11,.move (.t 62),none,5,[]⟩,
  ⟨some 7,.move (.t 63),none,6,[]⟩]) (RC.seq (RC.block 1 (RC.seq (RC.region 2 [
  ⟨some 65,.move (.t 7),none,0,[]⟩,
  ⟨some 64,.move (.t 65),none,1,[]⟩]) (RC.cond (.t 64) (RC.seq (RC.region 4 [
  ⟨some 66,.move (.t 11),none,0,[]⟩,
  ⟨some 67,.buildSlice 1 1 [.int .i64 0] [(0,1,(.t 66))],none,1,[]⟩,
  ⟨some 68,.call F.kern_say [(.c (.s (.int .i64 0))),(.t 67)],none,2,[]⟩,
  ⟨none,.store 2 (.t 4) (.t 68),none,3,[]⟩]) (RC.ret)) (RC.seq (RC.region 3 [
  ⟨some 70,.move (.t 8),none,0,[]⟩,
  ⟨some 71,.bin .eql (.t 70) (.c (.s (.int .i64 0))),none,1,[]⟩,
  ⟨some 69,.move (.t 71),none,2,[]⟩]) (RC.cond (.t 69) (RC.seq (RC.region 2 [
  ⟨some 72,.call F.kern_say [(.c (.s (.int .i64 (-50)))),(.c (.s (.slice none 0 0 1)))],none,0,[]⟩,
  ⟨none,.store 2 (.t 4) (.t 72),none,1,[]⟩]) (RC.ret)) (RC.skip)))))) (RC.seq (RC.region 16 [
  ⟨some 73,.move (.t 6),none,0,[]⟩,
  ⟨some 74,.move (.t 0),none,1,[]⟩,
  ⟨some 75,.nilCheck (.t 74),none,2,[]⟩,
  ⟨some 76,.fieldAddr 12 (.t 75),none,3,[]⟩,
  ⟨some 77,.load none (.t 76),none,4,[]⟩,
  ⟨some 78,.move (.t 0),none,5,[]⟩,
  ⟨some 79,.nilCheck (.t 78),none,6,[]⟩,
  ⟨some 80,.fieldAddr 0 (.t 79),none,7,[]⟩,
  ⟨some 81,.fieldAddr 5 (.t 80),none,8,[]⟩,
  ⟨some 82,.load none (.t 81),none,9,[]⟩,
  ⟨some 83,.move (.t 0),none,10,[]⟩,
  ⟨some 84,.nilCheck (.t 83),none,11,[]⟩,
  ⟨some 85,.fieldAddr 12 (.t 84),none,12,[]⟩,
  ⟨some 86,.load none (.t 85),none,13,[]⟩,
  ⟨some 87,.call F.mtx_All_Pri [(.t 82),(.t 86)],none,14,[⟨77,none,(.t 76),none⟩]⟩,
  ⟨some 88,.call F.mpf_Pool_Get [(.t 73),(.t 77),(.t 87)],none,15,[]⟩]) (RC.seq (RC.region 5 [
  ⟨some 89,.move (.t 0),none,0,[]⟩,
  ⟨some 90,.move (.t 5),none,1,[]⟩,
  ⟨some 91,.move (.t 8),none,2,[]⟩,
  ⟨some 92,.call F.kern_Kernel_stay [(.t 89),(.c (.s (.int .i64 8))),(.t 90),(.t 91)],none,3,[]⟩,
  ⟨none,.store 2 (.t 4) (.t 92),none,4,[]⟩]) (RC.ret))))))))))
theorem kern_Kernel_block_ok : chkFunc Go.Proofs.Tryz.prog [0] Go.Proofs.Tryz.f60 kern_Kernel_block = true := by kernel_rfl
def kern_Kernel_time_s0 : RC :=
  RC.seq (RC.region 2 [
  ⟨some 90,.call F.kern_say [(.c (.s (.int .i64 0))),(.c (.s (.slice none 0 0 1)))],none,0,[]⟩,
  ⟨none,.store 2 (.t 4) (.t 90),none,1,[]⟩]) (RC.ret)
def kern_Kernel_time : RFunc := RFunc.mk 91 [.cell 4 (some 2)] (
  RC.seq (RC.region 2 [
  ⟨some 3,.box (.t 1),none,0,[]⟩,
  ⟨some 4,.newc [.int .i64 0,.int .i64 0],none,1,[]⟩]) (RC.seq (RC.region 6 [
  ⟨some 6,.fieldAddr 1 (.t 3),none,0,[]⟩,
  ⟨some 7,.indexArr 4 1 (.t 6) (.c (.s (.int .i64 0))),none,1,[]⟩,
  ⟨some 8,.load none (.t 7),none,2,[]⟩,
  ⟨some 9,.minmax false (.t 8) (.c (.s (.int .i64 9))),none,3,[]⟩,
  ⟨some 10,.minmax true (.t 9) (.c (.s (.int .i64 0))),none,4,[]⟩,
  ⟨some 5,.move (.t 10),none,5,[]⟩]) (RC.seq (RC.seq (RC.region 2 [
  ⟨some 11,.fieldAddr 0 (.t 3),none,0,[]⟩,
  ⟨some 12,.load none (.t 11),none,1,[]⟩]) (RC.block 0 (RC.seq (RC.region 2 [
  ⟨some 14,.bin .eql (.t 12) (.c (.s (.int .i64 51))),none,0,[]⟩,
  ⟨some 13,.move (.t 14),none,1,[]⟩]) (RC.cond (.t 13) (RC.seq (RC.seq (RC.region 10 [
  ⟨some 15,.fieldAddr 1 (.t 3),none,0,[]⟩,
  ⟨some 16,.indexArr 4 1 (.t 15) (.c (.s (.int .i64 0))),none,1,[]⟩,
  ⟨some 17,.load none (.t 16),none,2,[]⟩,
  ⟨some 18,.bin .lss (.t 17) (.c (.s (.int .i64 0))),none,3,[]⟩,
  ⟨some 19,.move (.t 18),none,4,[]⟩,
  ⟨some 20,.fieldAddr 1 (.t 3),(some (19,false)),5,[]⟩,
  ⟨some 21,.indexArr 4 1 (.t 20) (.c (.s (.int .i64 0))),(some (19,false)),6,[]⟩,
  ⟨some 22,.load none (.t 21),(some (19,false)),7,[]⟩,
  ⟨some 23,.bin .geq (.t 22) (.c (.s (.int .i64 281474976710656))),(some (19,false)),8,[]⟩,
  ⟨some 24,.pick (.t 19) (.c (.s (.bool true))) (.t 23),none,9,[]⟩]) (RC.cond (.t 24) (RC.seq (RC.region 2 [
  ⟨some 25,.call F.kern_say [(.c (.s (.int .i64 (-17)))),(.c (.s (.slice none 0 0 1)))],none,0,[]⟩,
  ⟨none,.store 2 (.t 4) (.t 25),none,1,[]⟩]) (RC.ret)) (RC.skip))) (RC.region 12 [
  ⟨some 26,.move (.t 0),none,0,[]⟩,
  ⟨some 27,.nilCheck (.t 26),none,1,[]⟩,
  ⟨some 28,.fieldAddr 7 (.t 27),none,2,[]⟩,
  ⟨some 29,.load none (.t 28),none,3,[]⟩,
  ⟨some 30,.nilCheck (.t 29),none,4,[]⟩,
  ⟨some 31,.fieldAddr 0 (.t 30),none,5,[]⟩,
  ⟨some 32,.load none (.t 31),none,6,[]⟩,
  ⟨some 33,.fieldAddr 1 (.t 3),none,7,[]⟩,
  ⟨some 34,.indexArr 4 1 (.t 33) (.c (.s (.int .i64 0))),none,8,[]⟩,
  ⟨some 35,.load none (.t 34),none,9,[]⟩,
  ⟨some 36,.conv .u64 (.t 35),none,10,[]⟩,
  ⟨some 37,.call F.clock_Clock_Set [(.t 32),(.t 36)],none,11,[]⟩])) (RC.seq (RC.region 2 [
  ⟨some 39,.bin .eql (.t 12) (.c (.s (.int .i64 52))),none,0,[]⟩,
  ⟨some 38,.move (.t 39),none,1,[]⟩]) (RC.cond (.t 38) (RC.seq (RC.region 12 [
  ⟨some 40,.move (.t 0),none,0,[]⟩,
  ⟨some 41,.nilCheck (.t 40),none,1,[]⟩,
  ⟨some 42,.fieldAddr 7 (.t 41),none,2,[]⟩,
  ⟨some 43,.load none (.t 42),none,3,[]⟩,
  ⟨some 44,.nilCheck (.t 43),none,4,[]⟩,
  ⟨some 45,.fieldAddr 0 (.t 44),none,5,[]⟩,
  ⟨some 46,.load none (.t 45),none,6,[]⟩,
  ⟨some 47,.call F.clock_Clock_Now [(.t 46)],none,7,[]⟩,
  ⟨some 48,.conv .i64 (.t 47),none,8,[]⟩,
  ⟨some 49,.buildSlice 1 1 [.int .i64 0] [(0,1,(.t 48))],none,9,[]⟩,
  ⟨some 50,.call F.kern_say [(.c (.s (.int .i64 0))),(.t 49)],none,10,[]⟩,
  ⟨none,.store 2 (.t 4) (.t 50),none,11,[]⟩]) (RC.ret)) (RC.seq (RC.region 2 [
  ⟨some 52,.bin .eql (.t 12) (.c (.s (.int .i64 53))),none,0,[]⟩,
  ⟨some 51,.move (.t 52),none,1,[]⟩]) (RC.cond (.t 51) (RC.seq (RC.region 8 [
  ⟨some 53,.move (.t 0),none,0,[]⟩,
  ⟨some 54,.nilCheck (.t 53),none,1,[]⟩,
  ⟨some 55,.fieldAddr 7 (.t 54),none,2,[]⟩,
  ⟨some 56,.load none (.t 55),none,3,[]⟩,
  ⟨some 57,.move (.t 5),none,4,[]⟩,
  ⟨some 58,.call F.cyc_Hands_Start [(.t 56),(.t 57)],none,5,[]⟩,
  ⟨some 59,.call F.kern_say [(.t 58),(.c (.s (.slice none 0 0 1)))],none,6,[]⟩,
  ⟨none,.store 2 (.t 4) (.t 59),none,7,[]⟩]) (RC.ret)) (RC.seq (RC.region 2 [
  ⟨some 61,.bin .eql (.t 12) (.c (.s (.int .i64 54))),none,0,[]⟩,
  ⟨some 60,.move (.t 61),none,1,[]⟩]) (RC.cond (.t 60) (RC.seq (RC.region 8 [
  ⟨some 62,.move (.t 0),none,0,[]⟩,
  ⟨some 63,.nilCheck (.t 62),none,1,[]⟩,
  ⟨some 64,.fieldAddr 7 (.t 63),none,2,[]⟩,
  ⟨some 65,.load none (.t 64),none,3,[]⟩,
  ⟨some 66,.move (.t 5),none,4,[]⟩,
  ⟨some 67,.call F.cyc_Hands_Stop [(.t 65),(.t 66)],none,5,[]⟩,
  ⟨some 68,.call F.kern_say [(.t 67),(.c (.s (.slice none 0 0 1)))],none,6,[]⟩,
  ⟨none,.store 2 (.t 4) (.t 68),none,7,[]⟩]) (RC.ret)) (RC.seq (RC.region 2 [
  ⟨some 70,.bin .eql (.t 12) (.c (.s (.int .i64 55))),none,0,[]⟩,
  ⟨some 69,.move (.t 70),none,1,[]⟩]) (RC.cond (.t 69) (RC.seq (RC.region 11 [
  ⟨some 71,.move (.t 0),none,0,[]⟩,
  ⟨some 72,.nilCheck (.t 71),none,1,[]⟩,
  ⟨some 73,.fieldAddr 7 (.t 72),none,2,[]⟩,
  ⟨some 74,.load none (.t 73),none,3,[]⟩,
  ⟨some 75,.move (.t 5),none,4,[]⟩,
  ⟨some 76,.fieldAddr 1 (.t 3),none,5,[]⟩,
  ⟨some 77,.indexArr 4 1 (.t 76) (.c (.s (.int .i64 1))),none,6,[]⟩,
  ⟨some 78,.load none (.t 77),none,7,[]⟩,
  ⟨some 79,.call F.cyc_Hands_Set [(.t 74),(.t 75),(.t 78)],none,8,[]⟩,
  ⟨some 80,.call F.kern_say [(.t 79),(.c (.s (.slice none 0 0 1)))],none,9,[]⟩,
  ⟨none,.store 2 (.t 4) (.t 80),none,10,[]⟩]) (RC.ret)) (RC.seq (RC.region 2 [
  ⟨some 82,.bin .eql (.t 12) (.c (.s (.int .i64 56))),none,0,[]⟩,
  ⟨some 81,.move (.t 82),none,1,[]⟩]) (RC.cond (.t 81) (RC.seq (RC.region 8 [
  ⟨some 83,.move (.t 0),none,0,[]⟩,
  ⟨some 84,.nilCheck (.t 83),none,1,[]⟩,
  ⟨some 85,.fieldAddr 7 (.t 84),none,2,[]⟩,
  ⟨some 86,.load none (.t 85),none,3,[]⟩,
  ⟨some 87,.move (.t 5),none,4,[]⟩,
  ⟨some 88,.call F.cyc_Hands_Clear [(.t 86),(.t 87)],none,5,[]⟩,
  ⟨some 89,.call F.kern_say [(.t 88),(.c (.s (.slice none 0 0 1)))],none,6,[]⟩,
  ⟨none,.store 2 (.t 4) (.t 89),none,7,[]⟩]) (RC.ret)) (RC.skip))))))))))))))) R.kern_Kernel_time_s0)))
theorem kern_Kernel_time_ok : chkFunc Go.Proofs.Tryz.prog [0] Go.Proofs.Tryz.f61 kern_Kernel_time = true := by kernel_rfl
def kern_Kernel_state_s0 : RC :=
  RC.cond (.t 18) (RC.region 8 [
  ⟨some 21,.move (.t 0),none,0,[]⟩,
  ⟨some 22,.nilCheck (.t 21),none,1,[]⟩,
  ⟨some 23,.fieldAddr 6 (.t 22),none,2,[]⟩,
  ⟨some 24,.load none (.t 23),none,3,[]⟩,
  ⟨some 25,.fieldAddr 0 (.t 3),none,4,[]⟩,
  ⟨some 26,.load none (.t 25),none,5,[]⟩,
  ⟨some 27,.bin .eql (.t 26) (.c (.s (.int .i64 59))),none,6,[]⟩,
  ⟨some 28,.call F.ctx_Place_Disable [(.t 24),(.t 27)],none,7,[]⟩]) (RC.seq (RC.region 2 [
  ⟨some 30,.bin .eql (.t 6) (.c (.s (.int .i64 61))),none,0,[]⟩,
  ⟨some 29,.move (.t 30),none,1,[]⟩]) (RC.cond (.t 29) (RC.seq (RC.region 9 [
  ⟨some 31,.move (.t 0),none,0,[]⟩,
  ⟨some 32,.nilCheck (.t 31),none,1,[]⟩,
  ⟨some 33,.fieldAddr 6 (.t 32),none,2,[]⟩,
  ⟨some 34,.load none (.t 33),none,3,[]⟩,
  ⟨some 35,.nilCheck (.t 34),none,4,[]⟩,
  ⟨some 36,.fieldAddr 0 (.t 35),none,5,[]⟩,
  ⟨some 37,.call F.ctx_state_In [(.t 36)],none,6,[]⟩,
  ⟨some 38,.call F.kern_truth [(.t 37)],none,7,[]⟩,
  ⟨none,.store 2 (.t 4) (.t 38),none,8,[]⟩]) (RC.ret)) (RC.seq (RC.region 2 [
  ⟨some 40,.bin .eql (.t 6) (.c (.s (.int .i64 62))),none,0,[]⟩,
  ⟨some 39,.move (.t 40),none,1,[]⟩]) (RC.cond (.t 39) (RC.seq (RC.region 9 [
  ⟨some 41,.move (.t 0),none,0,[]⟩,
  ⟨some 42,.nilCheck (.t 41),none,1,[]⟩,
  ⟨some 43,.fieldAddr 6 (.t 42),none,2,[]⟩,
  ⟨some 44,.load none (.t 43),none,3,[]⟩,
  ⟨some 45,.nilCheck (.t 44),none,4,[]⟩,
  ⟨some 46,.fieldAddr 0 (.t 45),none,5,[]⟩,
  ⟨some 47,.call F.ctx_state_Locked [(.t 46)],none,6,[]⟩,
  ⟨some 48,.call F.kern_truth [(.t 47)],none,7,[]⟩,
  ⟨none,.store 2 (.t 4) (.t 48),none,8,[]⟩]) (RC.ret)) (RC.seq (RC.region 2 [
  ⟨some 50,.bin .eql (.t 6) (.c (.s (.int .i64 63))),none,0,[]⟩,
  ⟨some 49,.move (.t 50),none,1,[]⟩]) (RC.cond (.t 49) (RC.seq (RC.region 9 [
  ⟨some 51,.move (.t 0),none,0,[]⟩,
  ⟨some 52,.nilCheck (.t 51),none,1,[]⟩,
  ⟨some 53,.fieldAddr 6 (.t 52),none,2,[]⟩,
  ⟨some 54,.load none (.t 53),none,3,[]⟩,
  ⟨some 55,.nilCheck (.t 54),none,4,[]⟩,
  ⟨some 56,.fieldAddr 0 (.t 55),none,5,[]⟩,
  ⟨some 57,.call F.ctx_state_Disabled [(.t 56)],none,6,[]⟩,
  ⟨some 58,.call F.kern_truth [(.t 57)],none,7,[]⟩,
  ⟨none,.store 2 (.t 4) (.t 58),none,8,[]⟩]) (RC.ret)) (RC.seq (RC.region 2 [
  ⟨some 60,.bin .eql (.t 6) (.c (.s (.int .i64 64))),none,0,[]⟩,
  ⟨some 59,.move (.t 60),none,1,[]⟩]) (RC.cond (.t 59) (RC.seq (RC.region 10 [
  ⟨some 61,.move (.t 0),none,0,[]⟩,
  ⟨some 62,.nilCheck (.t 61),none,1,[]⟩,
  ⟨some 63,.fieldAddr 6 (.t 62),none,2,[]⟩,
  ⟨some 64,.load none (.t 63),none,3,[]⟩,
  ⟨some 65,.nilCheck (.t 64),none,4,[]⟩,
  ⟨some 66,.fieldAddr 0 (.t 65),none,5,[]⟩,
  ⟨some 67,.call F.ctx_state_Dispatch [(.t 66)],none,6,[]⟩,
  ⟨some 68,.un .not (.t 67),none,7,[]⟩,
  ⟨some 69,.call F.kern_truth [(.t 68)],none,8,[]⟩,
  ⟨none,.store 2 (.t 4) (.t 69),none,9,[]⟩]) (RC.ret)) (RC.skip)))))))))
def kern_Kernel_state_s1 : RC :=
  RC.cond (.t 7) (RC.region 8 [
  ⟨some 10,.move (.t 0),none,0,[]⟩,
  ⟨some 11,.nilCheck (.t 10),none,1,[]⟩,
  ⟨some 12,.fieldAddr 6 (.t 11),none,2,[]⟩,
  ⟨some 13,.load none (.t 12),none,3,[]⟩,
  ⟨some 14,.fieldAddr 0 (.t 3),none,4,[]⟩,
  ⟨some 15,.load none (.t 14),none,5,[]⟩,
  ⟨some 16,.bin .eql (.t 15) (.c (.s (.int .i64 57))),none,6,[]⟩,
  ⟨some 17,.call F.ctx_Place_Lock [(.t 13),(.t 16)],none,7,[]⟩]) (RC.seq (RC.seq (RC.region 2 [
  ⟨some 19,.bin .eql (.t 6) (.c (.s (.int .i64 59))),none,0,[]⟩,
  ⟨some 18,.move (.t 19),none,1,[]⟩]) (RC.cond (.t 18) (RC.skip) (RC.region 2 [
  ⟨some 20,.bin .eql (.t 6) (.c (.s (.int .i64 60))),none,0,[]⟩,
  ⟨some 18,.move (.t 20),none,1,[]⟩]))) R.kern_Kernel_state_s0)
def kern_Kernel_state_s2 : RC :=
  RC.seq (RC.region 2 [
  ⟨some 70,.call F.kern_say [(.c (.s (.int .i64 0))),(.c (.s (.slice none 0 0 1)))],none,0,[]⟩,
  ⟨none,.store 2 (.t 4) (.t 70),none,1,[]⟩]) (RC.ret)
def kern_Kernel_state : RFunc := RFunc.mk 71 [.cell 4 (some 2)] (
  RC.seq (RC.region 2 [
  ⟨some 3,.box (.t 1),none,0,[]⟩,
  ⟨some 4,.newc [.int .i64 0,.int .i64 0],none,1,[]⟩]) (RC.seq (RC.seq (RC.region 2 [
  ⟨some 5,.fieldAddr 0 (.t 3),none,0,[]⟩,
  ⟨some 6,.load none (.t 5),none,1,[]⟩]) (RC.block 0 (RC.seq (RC.seq (RC.region 2 [
  ⟨some 8,.bin .eql (.t 6) (.c (.s (.int .i64 57))),none,0,[]⟩,
  ⟨some 7,.move (.t 8),none,1,[]⟩]) (RC.cond (.t 7) (RC.skip) (RC.region 2 [
  ⟨some 9,.bin .eql (.t 6) (.c (.s (.int .i64 58))),none,0,[]⟩,
  ⟨some 7,.move (.t 9),none,1,[]⟩]))) R.kern_Kernel_state_s1))) R.kern_Kernel_state_s2))
theorem kern_Kernel_state_ok : chkFunc Go.Proofs.Tryz.prog [0] Go.Proofs.Tryz.f62 kern_Kernel_state = true := by kernel_rfl
def kern_Kernel_choose : RFunc := RFunc.mk 20 [] (
  RC.seq (RC.region 7 [
  ⟨some 2,.move (.t 0),none,0,[]⟩,
  ⟨some 3,.nilCheck (.t 2),none,1,[]⟩,
  ⟨some 4,.fieldAddr 6 (.t 3),none,2,[]⟩,
  ⟨some 5,.load none (.t 4),none,3,[]⟩,
  ⟨some 6,.nilCheck (.t 5),none,4,[]⟩,
  ⟨some 7,.fieldAddr 0 (.t 6),none,5,[]⟩,
  ⟨some 8,.call F.ctx_state_Dispatch [(.t 7)],none,6,[]⟩]) (RC.cond (.t 8) (RC.region 12 [
  ⟨some 10,.move (.t 0),none,0,[]⟩,
  ⟨some 11,.move (.t 0),none,1,[]⟩,
  ⟨some 12,.nilCheck (.t 11),none,2,[]⟩,
  ⟨some 13,.fieldAddr 8 (.t 12),none,3,[]⟩,
  ⟨some 14,.load none (.t 13),none,4,[]⟩,
  ⟨some 15,.call F.ready_Queue_First [(.t 14)],none,5,[]⟩,
  ⟨some 9,.move (.t 15),none,6,[]⟩,
  ⟨some 16,.extract 0 (.t 9),none,7,[]⟩,
  ⟨some 17,.extract 1 (.t 9),none,8,[]⟩,
  ⟨some 18,.nilCheck (.t 10),none,9,[]⟩,
  ⟨some 19,.fieldAddr 12 (.t 18),none,10,[]⟩,
  ⟨none,.store 1 (.t 19) (.t 16),none,11,[]⟩]) (RC.skip)))
theorem kern_Kernel_choose_ok : chkFunc Go.Proofs.Tryz.prog [0] Go.Proofs.Tryz.f63 kern_Kernel_choose = true := by kernel_rfl
def cyc_Hands_Pass_l0 : RC :=
  RC.seq (RC.seq (RC.region 12 [
  ⟨some 35,.move (.t 8),none,0,[]⟩,
  ⟨some 36,.nilCheck (.t 35),none,1,[]⟩,
  ⟨some 37,.fieldAddr 3 (.t 36),none,2,[]⟩,
  ⟨some 38,.load none (.t 37),none,3,[]⟩,
  ⟨some 39,.move (.t 38),none,4,[]⟩,
  ⟨some 40,.move (.t 8),(some (39,true)),5,[]⟩,
  ⟨some 41,.nilCheck (.t 40),(some (39,true)),6,[]⟩,
  ⟨some 42,.fieldAddr 1 (.t 41),(some (39,true)),7,[]⟩,
  ⟨some 43,.load none (.t 42),(some (39,true)),8,[]⟩,
  ⟨some 44,.move (.t 5),(some (39,true)),9,[]⟩,
  ⟨some 45,.bin .leq (.t 43) (.t 44),(some (39,true)),10,[]⟩,
  ⟨some 46,.pick (.t 39) (.t 45) (.c (.s (.bool false))),none,11,[]⟩]) (RC.cond (.t 46) (RC.skip) (RC.exit 2))) (RC.seq (RC.block 3 (RC.region 11 [
  ⟨some 58,.move (.t 6),none,0,[]⟩,
  ⟨some 59,.move (.t 7),none,1,[]⟩,
  ⟨some 60,.bin .add (.t 59) (.c (.s (.int .i64 1))),none,2,[]⟩,
  ⟨some 61,.move (.t 8),none,3,[]⟩,
  ⟨some 62,.nilCheck (.t 61),none,4,[]⟩,
  ⟨some 63,.fieldAddr 1 (.t 62),none,5,[]⟩,
  ⟨some 64,.load none (.t 63),none,6,[]⟩,
  ⟨some 65,.build [.bool false,.int .i64 0,.int .u64 0] [(0,1,(.c (.s (.bool true)))),(1,1,(.t 60)),(2,1,(.t 64))],none,7,[]⟩,
  ⟨some 66,.buildSlice 3 1 [.bool false,.int .i64 0,.int .u64 0] [(0,3,(.t 65))],none,8,[]⟩,
  ⟨some 67,.append 3 24 (.t 58) (.t 66),none,9,[]⟩,
  ⟨some 6,.move (.t 67),none,10,[]⟩])) (RC.region 12 [
  ⟨some 47,.move (.t 8),none,0,[]⟩,
  ⟨some 48,.nilCheck (.t 47),none,1,[]⟩,
  ⟨some 49,.fieldAddr 1 (.t 48),none,2,[]⟩,
  ⟨some 50,.load none (.t 49),none,3,[]⟩,
  ⟨some 51,.move (.t 8),none,4,[]⟩,
  ⟨some 52,.nilCheck (.t 51),none,5,[]⟩,
  ⟨some 53,.fieldAddr 2 (.t 52),none,6,[]⟩,
  ⟨some 54,.load none (.t 53),none,7,[]⟩,
  ⟨some 55,.bin .add (.t 50) (.t 54),none,8,[]⟩,
  ⟨some 56,.nilCheck (.t 47),none,9,[]⟩,
  ⟨some 57,.fieldAddr 1 (.t 56),none,10,[]⟩,
  ⟨none,.store 1 (.t 57) (.t 55),none,11,[]⟩]))
def cyc_Hands_Pass_s1 : RC :=
  RC.region 2 [
  ⟨some 68,.bin .add (.t 26) (.c (.s (.int .i64 1))),none,0,[]⟩,
  ⟨some 26,.move (.t 68),none,1,[]⟩]
def cyc_Hands_Pass_l2 : RC :=
  RC.seq (RC.region 1 [
  ⟨some 27,.bin .lss (.t 26) (.t 25),none,0,[]⟩]) (RC.seq (RC.cond (.t 27) (RC.skip) (RC.exit 0)) (RC.seq (RC.block 1 (RC.seq (RC.region 2 [
  ⟨some 28,.move (.t 26),none,0,[]⟩,
  ⟨some 7,.move (.t 28),none,1,[]⟩]) (RC.seq (RC.region 7 [
  ⟨some 29,.move (.t 0),none,0,[]⟩,
  ⟨some 30,.nilCheck (.t 29),none,1,[]⟩,
  ⟨some 31,.fieldAddr 2 (.t 30),none,2,[]⟩,
  ⟨some 32,.load none (.t 31),none,3,[]⟩,
  ⟨some 33,.move (.t 7),none,4,[]⟩,
  ⟨some 34,.indexSl 5 (.t 32) (.t 33),none,5,[]⟩,
  ⟨some 8,.move (.t 34),none,6,[]⟩]) (RC.block 2 (RC.loop R.cyc_Hands_Pass_l0))))) R.cyc_Hands_Pass_s1))
def cyc_Hands_Pass_l3 : RC :=
  RC.seq (RC.region 1 [
  ⟨some 75,.bin .lss (.t 74) (.t 73),none,0,[]⟩]) (RC.seq (RC.cond (.t 75) (RC.skip) (RC.exit 4)) (RC.seq (RC.block 5 (RC.seq (RC.region 2 [
  ⟨some 76,.move (.t 74),none,0,[]⟩,
  ⟨some 9,.move (.t 76),none,1,[]⟩]) (RC.seq (RC.region 7 [
  ⟨some 77,.move (.t 0),none,0,[]⟩,
  ⟨some 78,.nilCheck (.t 77),none,1,[]⟩,
  ⟨some 79,.fieldAddr 3 (.t 78),none,2,[]⟩,
  ⟨some 80,.load none (.t 79),none,3,[]⟩,
  ⟨some 81,.move (.t 9),none,4,[]⟩,
  ⟨some 82,.indexSl 2 (.t 80) (.t 81),none,5,[]⟩,
  ⟨some 10,.move (.t 82),none,6,[]⟩]) (RC.seq (RC.region 12 [
  ⟨some 83,.move (.t 10),none,0,[]⟩,
  ⟨some 84,.nilCheck (.t 83),none,1,[]⟩,
  ⟨some 85,.fieldAddr 0 (.t 84),none,2,[]⟩,
  ⟨some 86,.load none (.t 85),none,3,[]⟩,
  ⟨some 87,.move (.t 86),none,4,[]⟩,
  ⟨some 88,.move (.t 10),(some (87,true)),5,[]⟩,
  ⟨some 89,.nilCheck (.t 88),(some (87,true)),6,[]⟩,
  ⟨some 90,.fieldAddr 1 (.t 89),(some (87,true)),7,[]⟩,
  ⟨some 91,.load none (.t 90),(some (87,true)),8,[]⟩,
  ⟨some 92,.move (.t 5),(some (87,true)),9,[]⟩,
  ⟨some 93,.bin .leq (.t 91) (.t 92),(some (87,true)),10,[]⟩,
  ⟨some 94,.pick (.t 87) (.t 93) (.c (.s (.bool false))),none,11,[]⟩]) (RC.cond (.t 94) (RC.seq (RC.region 11 [
  ⟨some 95,.move (.t 6),none,0,[]⟩,
  ⟨some 96,.move (.t 9),none,1,[]⟩,
  ⟨some 97,.bin .add (.t 96) (.c (.s (.int .i64 1))),none,2,[]⟩,
  ⟨some 98,.move (.t 10),none,3,[]⟩,
  ⟨some 99,.nilCheck (.t 98),none,4,[]⟩,
  ⟨some 100,.fieldAddr 1 (.t 99),none,5,[]⟩,
  ⟨some 101,.load none (.t 100),none,6,[]⟩,
  ⟨some 102,.build [.bool false,.int .i64 0,.int .u64 0] [(0,1,(.c (.s (.bool false)))),(1,1,(.t 97)),(2,1,(.t 101))],none,7,[]⟩,
  ⟨some 103,.buildSlice 3 1 [.bool false,.int .i64 0,.int .u64 0] [(0,3,(.t 102))],none,8,[]⟩,
  ⟨some 104,.append 3 24 (.t 95) (.t 103),none,9,[]⟩,
  ⟨some 6,.move (.t 104),none,10,[]⟩]) (RC.region 4 [
  ⟨some 105,.move (.t 10),none,0,[]⟩,
  ⟨some 106,.build [.bool false,.int .u64 0] [],none,1,[]⟩,
  ⟨some 107,.nilCheck (.t 105),none,2,[]⟩,
  ⟨none,.store 2 (.t 107) (.t 106),none,3,[]⟩])) (RC.skip)))))) (RC.region 2 [
  ⟨some 108,.bin .add (.t 74) (.c (.s (.int .i64 1))),none,0,[]⟩,
  ⟨some 74,.move (.t 108),none,1,[]⟩])))
def cyc_Hands_Pass_s4 : RC :=
  RC.seq (RC.region 2 [
  ⟨some 109,.move (.t 6),none,0,[]⟩,
  ⟨some 110,.call F.slices_SortStableFunc__cyc_Fired_cyc_Fired [(.t 109),(.c (.s (.fn F.cyc_order [])))],none,1,[]⟩]) (RC.seq (RC.region 5 [
  ⟨some 111,.move (.t 6),none,0,[]⟩,
  ⟨some 112,.call F.slices_Clip__cyc_Fired_cyc_Fired [(.t 111)],none,1,[]⟩,
  ⟨some 113,.move (.t 4),none,2,[]⟩,
  ⟨some 2,.move (.t 112),none,3,[]⟩,
  ⟨some 3,.move (.t 113),none,4,[]⟩]) (RC.ret))
def cyc_Hands_Pass_s5 : RC :=
  RC.seq (RC.seq (RC.region 6 [
  ⟨some 69,.move (.t 0),none,0,[]⟩,
  ⟨some 70,.nilCheck (.t 69),none,1,[]⟩,
  ⟨some 71,.fieldAddr 3 (.t 70),none,2,[]⟩,
  ⟨some 72,.load none (.t 71),none,3,[]⟩,
  ⟨some 73,.len (.t 72),none,4,[]⟩,
  ⟨some 74,.move (.c (.s (.int .i64 0))),none,5,[]⟩]) (RC.block 4 (RC.loop R.cyc_Hands_Pass_l3))) R.cyc_Hands_Pass_s4
def cyc_Hands_Pass : RFunc := RFunc.mk 114 [.tmp 2,.tmp 3] (
  RC.seq (RC.region 2 [
  ⟨some 2,.move (.c (.s (.slice none 0 0 1))),none,0,[]⟩,
  ⟨some 3,.move (.c (.s (.slice none 0 0 1))),none,1,[]⟩]) (RC.seq (RC.region 6 [
  ⟨some 11,.move (.t 0),none,0,[]⟩,
  ⟨some 12,.nilCheck (.t 11),none,1,[]⟩,
  ⟨some 13,.fieldAddr 0 (.t 12),none,2,[]⟩,
  ⟨some 14,.load none (.t 13),none,3,[]⟩,
  ⟨some 15,.call F.clock_Clock_Tick [(.t 14)],none,4,[]⟩,
  ⟨some 4,.move (.t 15),none,5,[]⟩]) (RC.seq (RC.region 6 [
  ⟨some 16,.move (.t 0),none,0,[]⟩,
  ⟨some 17,.nilCheck (.t 16),none,1,[]⟩,
  ⟨some 18,.fieldAddr 0 (.t 17),none,2,[]⟩,
  ⟨some 19,.load none (.t 18),none,3,[]⟩,
  ⟨some 20,.call F.clock_Clock_Up [(.t 19)],none,4,[]⟩,
  ⟨some 5,.move (.t 20),none,5,[]⟩]) (RC.seq (RC.region 1 [
  ⟨some 6,.move (.c (.s (.slice none 0 0 1))),none,0,[]⟩]) (RC.seq (RC.seq (RC.region 6 [
  ⟨some 21,.move (.t 0),none,0,[]⟩,
  ⟨some 22,.nilCheck (.t 21),none,1,[]⟩,
  ⟨some 23,.fieldAddr 2 (.t 22),none,2,[]⟩,
  ⟨some 24,.load none (.t 23),none,3,[]⟩,
  ⟨some 25,.len (.t 24),none,4,[]⟩,
  ⟨some 26,.move (.c (.s (.int .i64 0))),none,5,[]⟩]) (RC.block 0 (RC.loop R.cyc_Hands_Pass_l2))) R.cyc_Hands_Pass_s5)))))
theorem cyc_Hands_Pass_ok : chkFunc Go.Proofs.Tryz.prog [0] Go.Proofs.Tryz.f64 cyc_Hands_Pass = true := by kernel_rfl
def kern_Kernel_leave_s0 : RC :=
  RC.cond (.t 53) (RC.region 14 [
  ⟨some 56,.move (.t 0),none,0,[]⟩,
  ⟨some 57,.nilCheck (.t 56),none,1,[]⟩,
  ⟨some 58,.fieldAddr 0 (.t 57),none,2,[]⟩,
  ⟨some 59,.fieldAddr 2 (.t 58),none,3,[]⟩,
  ⟨some 60,.load none (.t 59),none,4,[]⟩,
  ⟨some 61,.move (.t 4),none,5,[]⟩,
  ⟨some 62,.nilCheck (.t 61),none,6,[]⟩,
  ⟨some 63,.fieldAddr 4 (.t 62),none,7,[]⟩,
  ⟨some 64,.load none (.t 63),none,8,[]⟩,
  ⟨some 65,.bin .sub (.t 64) (.c (.s (.int .i64 1))),none,9,[]⟩,
  ⟨some 66,.indexSl 1 (.t 60) (.t 65),none,10,[]⟩,
  ⟨some 67,.load none (.t 66),none,11,[]⟩,
  ⟨some 68,.move (.t 1),none,12,[]⟩,
  ⟨some 69,.call F.dtq_Queue_Drop [(.t 67),(.t 68)],none,13,[]⟩]) (RC.seq (RC.region 2 [
  ⟨some 71,.bin .eql (.t 15) (.c (.s (.int .i64 7))),none,0,[]⟩,
  ⟨some 70,.move (.t 71),none,1,[]⟩]) (RC.cond (.t 70) (RC.region 7 [
  ⟨some 72,.move (.t 0),none,0,[]⟩,
  ⟨some 73,.nilCheck (.t 72),none,1,[]⟩,
  ⟨some 74,.fieldAddr 0 (.t 73),none,2,[]⟩,
  ⟨some 75,.fieldAddr 5 (.t 74),none,3,[]⟩,
  ⟨some 76,.load none (.t 75),none,4,[]⟩,
  ⟨some 77,.move (.t 1),none,5,[]⟩,
  ⟨some 78,.call F.mtx_All_Drop [(.t 76),(.t 77)],none,6,[]⟩]) (RC.seq (RC.region 2 [
  ⟨some 80,.bin .eql (.t 15) (.c (.s (.int .i64 8))),none,0,[]⟩,
  ⟨some 79,.move (.t 80),none,1,[]⟩]) (RC.cond (.t 79) (RC.region 19 [
  ⟨some 81,.move (.t 0),none,0,[]⟩,
  ⟨some 82,.nilCheck (.t 81),none,1,[]⟩,
  ⟨some 83,.fieldAddr 0 (.t 82),none,2,[]⟩,
  ⟨some 84,.fieldAddr 3 (.t 83),none,3,[]⟩,
  ⟨some 85,.load none (.t 84),none,4,[]⟩,
  ⟨some 86,.move (.t 4),none,5,[]⟩,
  ⟨some 87,.nilCheck (.t 86),none,6,[]⟩,
  ⟨some 88,.fieldAddr 4 (.t 87),none,7,[]⟩,
  ⟨some 89,.load none (.t 88),none,8,[]⟩,
  ⟨some 90,.bin .sub (.t 89) (.c (.s (.int .i64 1))),none,9,[]⟩,
  ⟨some 91,.indexSl 1 (.t 85) (.t 90),none,10,[]⟩,
  ⟨some 92,.load none (.t 91),none,11,[]⟩,
  ⟨some 93,.nilCheck (.t 92),none,12,[]⟩,
  ⟨some 94,.fieldAddr 0 (.t 93),none,13,[]⟩,
  ⟨some 95,.load none (.t 94),none,14,[]⟩,
  ⟨some 96,.nilCheck (.t 95),none,15,[]⟩,
  ⟨some 97,.fieldAddr 0 (.t 96),none,16,[]⟩,
  ⟨some 98,.move (.t 1),none,17,[]⟩,
  ⟨some 99,.call F.order_Line_Remove [(.t 97),(.t 98)],none,18,[]⟩]) (RC.skip)))))
def kern_Kernel_leave : RFunc := RFunc.mk 100 [] (
  RC.seq (RC.region 8 [
  ⟨some 5,.move (.t 0),none,0,[]⟩,
  ⟨some 6,.nilCheck (.t 5),none,1,[]⟩,
  ⟨some 7,.fieldAddr 9 (.t 6),none,2,[]⟩,
  ⟨some 8,.load none (.t 7),none,3,[]⟩,
  ⟨some 9,.move (.t 1),none,4,[]⟩,
  ⟨some 10,.indexSl 1 (.t 8) (.t 9),none,5,[]⟩,
  ⟨some 11,.load none (.t 10),none,6,[]⟩,
  ⟨some 4,.move (.t 11),none,7,[]⟩]) (RC.seq (RC.region 4 [
  ⟨some 12,.move (.t 4),none,0,[]⟩,
  ⟨some 13,.nilCheck (.t 12),none,1,[]⟩,
  ⟨some 14,.fieldAddr 3 (.t 13),none,2,[]⟩,
  ⟨some 15,.load none (.t 14),none,3,[]⟩]) (RC.block 0 (RC.seq (RC.region 2 [
  ⟨some 17,.bin .eql (.t 15) (.c (.s (.int .i64 3))),none,0,[]⟩,
  ⟨some 16,.move (.t 17),none,1,[]⟩]) (RC.cond (.t 16) (RC.region 19 [
  ⟨some 18,.move (.t 0),none,0,[]⟩,
  ⟨some 19,.nilCheck (.t 18),none,1,[]⟩,
  ⟨some 20,.fieldAddr 0 (.t 19),none,2,[]⟩,
  ⟨some 21,.fieldAddr 0 (.t 20),none,3,[]⟩,
  ⟨some 22,.load none (.t 21),none,4,[]⟩,
  ⟨some 23,.move (.t 4),none,5,[]⟩,
  ⟨some 24,.nilCheck (.t 23),none,6,[]⟩,
  ⟨some 25,.fieldAddr 4 (.t 24),none,7,[]⟩,
  ⟨some 26,.load none (.t 25),none,8,[]⟩,
  ⟨some 27,.bin .sub (.t 26) (.c (.s (.int .i64 1))),none,9,[]⟩,
  ⟨some 28,.indexSl 1 (.t 22) (.t 27),none,10,[]⟩,
  ⟨some 29,.load none (.t 28),none,11,[]⟩,
  ⟨some 30,.nilCheck (.t 29),none,12,[]⟩,
  ⟨some 31,.fieldAddr 0 (.t 30),none,13,[]⟩,
  ⟨some 32,.load none (.t 31),none,14,[]⟩,
  ⟨some 33,.nilCheck (.t 32),none,15,[]⟩,
  ⟨some 34,.fieldAddr 0 (.t 33),none,16,[]⟩,
  ⟨some 35,.move (.t 1),none,17,[]⟩,
  ⟨some 36,.call F.order_Line_Remove [(.t 34),(.t 35)],none,18,[]⟩]) (RC.seq (RC.region 2 [
  ⟨some 38,.bin .eql (.t 15) (.c (.s (.int .i64 4))),none,0,[]⟩,
  ⟨some 37,.move (.t 38),none,1,[]⟩]) (RC.cond (.t 37) (RC.region 14 [
  ⟨some 39,.move (.t 0),none,0,[]⟩,
  ⟨some 40,.nilCheck (.t 39),none,1,[]⟩,
  ⟨some 41,.fieldAddr 0 (.t 40),none,2,[]⟩,
  ⟨some 42,.fieldAddr 1 (.t 41),none,3,[]⟩,
  ⟨some 43,.load none (.t 42),none,4,[]⟩,
  ⟨some 44,.move (.t 4),none,5,[]⟩,
  ⟨some 45,.nilCheck (.t 44),none,6,[]⟩,
  ⟨some 46,.fieldAddr 4 (.t 45),none,7,[]⟩,
  ⟨some 47,.load none (.t 46),none,8,[]⟩,
  ⟨some 48,.bin .sub (.t 47) (.c (.s (.int .i64 1))),none,9,[]⟩,
  ⟨some 49,.indexSl 1 (.t 43) (.t 48),none,10,[]⟩,
  ⟨some 50,.load none (.t 49),none,11,[]⟩,
  ⟨some 51,.move (.t 1),none,12,[]⟩,
  ⟨some 52,.call F.flag_Flag_Drop [(.t 50),(.t 51)],none,13,[]⟩]) (RC.seq (RC.seq (RC.region 2 [
  ⟨some 54,.bin .eql (.t 15) (.c (.s (.int .i64 5))),none,0,[]⟩,
  ⟨some 53,.move (.t 54),none,1,[]⟩]) (RC.cond (.t 53) (RC.skip) (RC.region 2 [
  ⟨some 55,.bin .eql (.t 15) (.c (.s (.int .i64 6))),none,0,[]⟩,
  ⟨some 53,.move (.t 55),none,1,[]⟩]))) R.kern_Kernel_leave_s0))))))))
theorem kern_Kernel_leave_ok : chkFunc Go.Proofs.Tryz.prog [0] Go.Proofs.Tryz.f65 kern_Kernel_leave = true := by kernel_rfl
def kern_Kernel_wake : RFunc := RFunc.mk 21 [] (
  RC.seq (RC.region 1 [
  ⟨some 5,.box (.t 2),none,0,[]⟩]) (RC.seq (RC.region 11 [
  ⟨some 6,.move (.t 0),none,0,[]⟩,
  ⟨some 7,.nilCheck (.t 6),none,1,[]⟩,
  ⟨some 8,.fieldAddr 9 (.t 7),none,2,[]⟩,
  ⟨some 9,.load none (.t 8),none,3,[]⟩,
  ⟨some 10,.move (.t 1),none,4,[]⟩,
  ⟨some 11,.indexSl 1 (.t 9) (.t 10),none,5,[]⟩,
  ⟨some 12,.load none (.t 11),none,6,[]⟩,
  ⟨some 13,.nilCheck (.t 12),none,7,[]⟩,
  ⟨some 14,.fieldAddr 0 (.t 13),none,8,[]⟩,
  ⟨some 15,.load none (.t 14),none,9,[]⟩,
  ⟨some 16,.call F.tcb_Task_Release [(.t 15)],none,10,[]⟩]) (RC.region 4 [
  ⟨some 17,.move (.t 0),none,0,[]⟩,
  ⟨some 18,.move (.t 1),none,1,[]⟩,
  ⟨some 19,.load (some 2) (.t 5),none,2,[]⟩,
  ⟨some 20,.call F.kern_Kernel_told [(.t 17),(.t 18),(.t 19)],none,3,[]⟩])))
theorem kern_Kernel_wake_ok : chkFunc Go.Proofs.Tryz.prog [0] Go.Proofs.Tryz.f66 kern_Kernel_wake = true := by kernel_rfl
end Go.AM.R
