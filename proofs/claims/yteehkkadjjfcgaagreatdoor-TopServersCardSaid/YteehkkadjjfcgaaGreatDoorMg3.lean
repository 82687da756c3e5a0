/-
  The code of the functions,as the abstract machine has it; it is the program's.
-/
import Derived.Test.YteehkkadjjfcgaaGreatDoorMg1
import Derived.Test.YteehkkadjjfcgaaGreatDoorMg2
import Derived.Test.YteehkkadjjfcgaaGreatDoorProg
import Derived.KernelRfl
set_option maxRecDepth 100000
namespace Go.AM.R
open Go.AM
def detenttop_TopServers_l0 : RC :=
  RC.seq (RC.seq (RC.region 4 [
  ⟨some 25,.move (.t 5),none,0,[]⟩,
  ⟨some 26,.move (.t 0),none,1,[]⟩,
  ⟨some 27,.len (.t 26),none,2,[]⟩,
  ⟨some 28,.bin .lss (.t 25) (.t 27),none,3,[]⟩]) (RC.cond (.t 28) (RC.skip) (RC.exit 0))) (RC.seq (RC.block 1 (RC.seq (RC.region 20 [
  ⟨some 32,.move (.t 3),none,0,[]⟩,
  ⟨some 33,.move (.t 5),none,1,[]⟩,
  ⟨some 34,.bin .add (.t 33) (.c (.s (.int .i64 1))),none,2,[]⟩,
  ⟨some 35,.move (.t 0),none,3,[]⟩,
  ⟨some 36,.move (.t 5),none,4,[]⟩,
  ⟨some 37,.indexSl 1 (.t 35) (.t 36),none,5,[]⟩,
  ⟨some 38,.load none (.t 37),none,6,[]⟩,
  ⟨some 39,.bin .rem (.t 38) (.c (.s (.int .u8 8))),none,7,[]⟩,
  ⟨some 40,.conv .i64 (.t 39),none,8,[]⟩,
  ⟨some 41,.bin .add (.c (.s (.int .i64 1))) (.t 40),none,9,[]⟩,
  ⟨some 42,.move (.t 5),none,10,[]⟩,
  ⟨some 43,.conv .u8 (.t 42),none,11,[]⟩,
  ⟨some 44,.buildSlice 1 1 [.int .u8 0] [(0,1,(.t 43))],none,12,[]⟩,
  ⟨some 45,.call F.por_Port_Call [(.t 32),(.t 34),(.t 41),(.c (.s (.int .u32 1))),(.t 44)],none,13,[]⟩,
  ⟨some 31,.move (.t 45),none,14,[]⟩,
  ⟨some 46,.extract 0 (.t 31),none,15,[]⟩,
  ⟨some 47,.extract 1 (.t 31),none,16,[]⟩,
  ⟨some 6,.newc [.int .i64 0,.int .i64 0,.slice none 0 0 1,.bool false],none,17,[]⟩,
  ⟨none,.store 4 (.t 6) (.t 46),none,18,[]⟩,
  ⟨some 7,.move (.t 47),none,19,[]⟩]) (RC.seq (RC.region 6 [
  ⟨some 48,.fieldAddr 3 (.t 6),none,0,[]⟩,
  ⟨some 49,.load none (.t 48),none,1,[]⟩,
  ⟨some 50,.move (.t 49),none,2,[]⟩,
  ⟨some 51,.move (.t 7),(some (50,false)),3,[]⟩,
  ⟨some 52,.bin .neq (.t 51) (.c (.s (.int .i64 0))),(some (50,false)),4,[]⟩,
  ⟨some 53,.pick (.t 50) (.c (.s (.bool true))) (.t 52),none,5,[]⟩]) (RC.cond (.t 53) (RC.seq (RC.region 1 [
  ⟨some 2,.move (.c (.s (.bool false))),none,0,[]⟩]) (RC.ret)) (RC.skip))))) (RC.region 3 [
  ⟨some 29,.move (.t 5),none,0,[]⟩,
  ⟨some 30,.bin .add (.t 29) (.c (.s (.int .i64 1))),none,1,[]⟩,
  ⟨some 5,.move (.t 30),none,2,[]⟩]))
def detenttop_TopServers_s1 : RC :=
  RC.seq (RC.region 3 [
  ⟨some 130,.fieldAddr 1 (.t 10),none,0,[]⟩,
  ⟨some 131,.load none (.t 130),none,1,[]⟩,
  ⟨some 8,.move (.t 131),none,2,[]⟩]) (RC.seq (RC.region 9 [
  ⟨some 133,.move (.t 3),none,0,[]⟩,
  ⟨some 134,.fieldAddr 0 (.t 10),none,1,[]⟩,
  ⟨some 135,.load none (.t 134),none,2,[]⟩,
  ⟨some 136,.call F.por_Port_Reply [(.t 133),(.t 135),(.c (.s (.slice none 0 0 1)))],none,3,[]⟩,
  ⟨some 132,.move (.t 136),none,4,[]⟩,
  ⟨some 137,.extract 0 (.t 132),none,5,[]⟩,
  ⟨some 138,.extract 1 (.t 132),none,6,[]⟩,
  ⟨some 14,.move (.t 137),none,7,[]⟩,
  ⟨some 15,.move (.t 138),none,8,[]⟩]) (RC.seq (RC.region 7 [
  ⟨some 139,.move (.t 14),none,0,[]⟩,
  ⟨some 140,.move (.t 8),none,1,[]⟩,
  ⟨some 141,.bin .neq (.t 139) (.t 140),none,2,[]⟩,
  ⟨some 142,.move (.t 141),none,3,[]⟩,
  ⟨some 143,.move (.t 15),(some (142,false)),4,[]⟩,
  ⟨some 144,.bin .neq (.t 143) (.c (.s (.int .i64 0))),(some (142,false)),5,[]⟩,
  ⟨some 145,.pick (.t 142) (.c (.s (.bool true))) (.t 144),none,6,[]⟩]) (RC.cond (.t 145) (RC.seq (RC.region 1 [
  ⟨some 2,.move (.c (.s (.bool false))),none,0,[]⟩]) (RC.ret)) (RC.skip))))
def detenttop_TopServers_s2 : RC :=
  RC.region 3 [
  ⟨some 58,.move (.t 9),none,0,[]⟩,
  ⟨some 59,.bin .add (.t 58) (.c (.s (.int .i64 1))),none,1,[]⟩,
  ⟨some 9,.move (.t 59),none,2,[]⟩]
def detenttop_TopServers_l3 : RC :=
  RC.seq (RC.seq (RC.region 4 [
  ⟨some 54,.move (.t 9),none,0,[]⟩,
  ⟨some 55,.move (.t 0),none,1,[]⟩,
  ⟨some 56,.len (.t 55),none,2,[]⟩,
  ⟨some 57,.bin .lss (.t 54) (.t 56),none,3,[]⟩]) (RC.cond (.t 57) (RC.skip) (RC.exit 2))) (RC.seq (RC.block 3 (RC.seq (RC.region 8 [
  ⟨some 61,.move (.t 3),none,0,[]⟩,
  ⟨some 62,.call F.por_Port_Accept [(.t 61),(.c (.s (.int .i64 16))),(.c (.s (.int .i64 1))),(.c (.s (.int .u32 1)))],none,1,[]⟩,
  ⟨some 60,.move (.t 62),none,2,[]⟩,
  ⟨some 63,.extract 0 (.t 60),none,3,[]⟩,
  ⟨some 64,.extract 1 (.t 60),none,4,[]⟩,
  ⟨some 10,.newc [.int .i64 0,.int .i64 0,.slice none 0 0 1,.bool false],none,5,[]⟩,
  ⟨none,.store 4 (.t 10) (.t 63),none,6,[]⟩,
  ⟨some 11,.move (.t 64),none,7,[]⟩]) (RC.seq (RC.seq (RC.region 36 [
  ⟨some 65,.fieldAddr 3 (.t 10),none,0,[]⟩,
  ⟨some 66,.load none (.t 65),none,1,[]⟩,
  ⟨some 67,.un .not (.t 66),none,2,[]⟩,
  ⟨some 68,.move (.t 67),none,3,[]⟩,
  ⟨some 69,.move (.t 11),(some (68,false)),4,[]⟩,
  ⟨some 70,.bin .neq (.t 69) (.c (.s (.int .i64 0))),(some (68,false)),5,[]⟩,
  ⟨some 71,.pick (.t 68) (.c (.s (.bool true))) (.t 70),none,6,[]⟩,
  ⟨some 72,.move (.t 71),none,7,[]⟩,
  ⟨some 73,.fieldAddr 1 (.t 10),(some (72,false)),8,[]⟩,
  ⟨some 74,.load none (.t 73),(some (72,false)),9,[]⟩,
  ⟨some 75,.bin .lss (.t 74) (.c (.s (.int .i64 1))),(some (72,false)),10,[]⟩,
  ⟨some 76,.pick (.t 72) (.c (.s (.bool true))) (.t 75),none,11,[]⟩,
  ⟨some 77,.move (.t 76),none,12,[]⟩,
  ⟨some 78,.fieldAddr 1 (.t 10),(some (77,false)),13,[]⟩,
  ⟨some 79,.load none (.t 78),(some (77,false)),14,[]⟩,
  ⟨some 80,.move (.t 0),(some (77,false)),15,[]⟩,
  ⟨some 81,.len (.t 80),(some (77,false)),16,[]⟩,
  ⟨some 82,.bin .gtr (.t 79) (.t 81),(some (77,false)),17,[]⟩,
  ⟨some 83,.pick (.t 77) (.c (.s (.bool true))) (.t 82),none,18,[]⟩,
  ⟨some 84,.move (.t 83),none,19,[]⟩,
  ⟨some 85,.fieldAddr 2 (.t 10),(some (84,false)),20,[]⟩,
  ⟨some 86,.load none (.t 85),(some (84,false)),21,[]⟩,
  ⟨some 87,.len (.t 86),(some (84,false)),22,[]⟩,
  ⟨some 88,.bin .neq (.t 87) (.c (.s (.int .i64 1))),(some (84,false)),23,[]⟩,
  ⟨some 89,.pick (.t 84) (.c (.s (.bool true))) (.t 88),none,24,[]⟩,
  ⟨some 90,.move (.t 89),none,25,[]⟩,
  ⟨some 91,.fieldAddr 2 (.t 10),(some (90,false)),26,[]⟩,
  ⟨some 92,.load none (.t 91),(some (90,false)),27,[]⟩,
  ⟨some 93,.indexSl 1 (.t 92) (.c (.s (.int .i64 0))),(some (90,false)),28,[]⟩,
  ⟨some 94,.load none (.t 93),(some (90,false)),29,[]⟩,
  ⟨some 95,.conv .i64 (.t 94),(some (90,false)),30,[]⟩,
  ⟨some 96,.fieldAddr 1 (.t 10),(some (90,false)),31,[]⟩,
  ⟨some 97,.load none (.t 96),(some (90,false)),32,[]⟩,
  ⟨some 98,.bin .sub (.t 97) (.c (.s (.int .i64 1))),(some (90,false)),33,[]⟩,
  ⟨some 99,.bin .neq (.t 95) (.t 98),(some (90,false)),34,[]⟩,
  ⟨some 100,.pick (.t 90) (.c (.s (.bool true))) (.t 99),none,35,[]⟩]) (RC.cond (.t 100) (RC.seq (RC.region 1 [
  ⟨some 2,.move (.c (.s (.bool false))),none,0,[]⟩]) (RC.ret)) (RC.skip))) (RC.seq (RC.seq (RC.region 2 [
  ⟨some 101,.move (.t 9),none,0,[]⟩,
  ⟨some 102,.bin .gtr (.t 101) (.c (.s (.int .i64 0))),none,1,[]⟩]) (RC.cond (.t 102) (RC.seq (RC.region 7 [
  ⟨some 103,.move (.t 0),none,0,[]⟩,
  ⟨some 104,.move (.t 8),none,1,[]⟩,
  ⟨some 105,.bin .sub (.t 104) (.c (.s (.int .i64 1))),none,2,[]⟩,
  ⟨some 106,.indexSl 1 (.t 103) (.t 105),none,3,[]⟩,
  ⟨some 107,.load none (.t 106),none,4,[]⟩,
  ⟨some 108,.bin .rem (.t 107) (.c (.s (.int .u8 8))),none,5,[]⟩,
  ⟨some 12,.move (.t 108),none,6,[]⟩]) (RC.seq (RC.region 8 [
  ⟨some 109,.move (.t 0),none,0,[]⟩,
  ⟨some 110,.fieldAddr 1 (.t 10),none,1,[]⟩,
  ⟨some 111,.load none (.t 110),none,2,[]⟩,
  ⟨some 112,.bin .sub (.t 111) (.c (.s (.int .i64 1))),none,3,[]⟩,
  ⟨some 113,.indexSl 1 (.t 109) (.t 112),none,4,[]⟩,
  ⟨some 114,.load none (.t 113),none,5,[]⟩,
  ⟨some 115,.bin .rem (.t 114) (.c (.s (.int .u8 8))),none,6,[]⟩,
  ⟨some 13,.move (.t 115),none,7,[]⟩]) (RC.seq (RC.region 14 [
  ⟨some 116,.move (.t 12),none,0,[]⟩,
  ⟨some 117,.move (.t 13),none,1,[]⟩,
  ⟨some 118,.bin .gtr (.t 116) (.t 117),none,2,[]⟩,
  ⟨some 119,.move (.t 118),none,3,[]⟩,
  ⟨some 120,.move (.t 12),(some (119,false)),4,[]⟩,
  ⟨some 121,.move (.t 13),(some (119,false)),5,[]⟩,
  ⟨some 122,.bin .eql (.t 120) (.t 121),(some (119,false)),6,[]⟩,
  ⟨some 123,.move (.t 122),(some (119,false)),7,[]⟩,
  ⟨some 124,.move (.t 8),(some (123,true)),8,[]⟩,
  ⟨some 125,.fieldAddr 1 (.t 10),(some (123,true)),9,[]⟩,
  ⟨some 126,.load none (.t 125),(some (123,true)),10,[]⟩,
  ⟨some 127,.bin .gtr (.t 124) (.t 126),(some (123,true)),11,[]⟩,
  ⟨some 128,.pick (.t 123) (.t 127) (.c (.s (.bool false))),(some (119,false)),12,[]⟩,
  ⟨some 129,.pick (.t 119) (.c (.s (.bool true))) (.t 128),none,13,[]⟩]) (RC.cond (.t 129) (RC.seq (RC.region 1 [
  ⟨some 2,.move (.c (.s (.bool false))),none,0,[]⟩]) (RC.ret)) (RC.skip))))) (RC.skip))) R.detenttop_TopServers_s1)))) R.detenttop_TopServers_s2)
def detenttop_TopServers_s4 : RC :=
  RC.seq (RC.region 11 [
  ⟨some 146,.move (.t 3),none,0,[]⟩,
  ⟨some 147,.call F.por_Port_Callers [(.t 146)],none,1,[]⟩,
  ⟨some 148,.len (.t 147),none,2,[]⟩,
  ⟨some 149,.bin .eql (.t 148) (.c (.s (.int .i64 0))),none,3,[]⟩,
  ⟨some 150,.move (.t 149),none,4,[]⟩,
  ⟨some 151,.move (.t 3),(some (150,true)),5,[]⟩,
  ⟨some 152,.call F.por_Port_Open [(.t 151)],(some (150,true)),6,[]⟩,
  ⟨some 153,.len (.t 152),(some (150,true)),7,[]⟩,
  ⟨some 154,.bin .eql (.t 153) (.c (.s (.int .i64 0))),(some (150,true)),8,[]⟩,
  ⟨some 155,.pick (.t 150) (.t 154) (.c (.s (.bool false))),none,9,[]⟩,
  ⟨some 2,.move (.t 155),none,10,[]⟩]) (RC.ret)
def detenttop_TopServers_s5 : RC :=
  RC.seq (RC.region 1 [
  ⟨some 8,.move (.c (.s (.int .i64 0))),none,0,[]⟩]) (RC.seq (RC.seq (RC.region 1 [
  ⟨some 9,.move (.c (.s (.int .i64 0))),none,0,[]⟩]) (RC.block 2 (RC.loop R.detenttop_TopServers_l3))) R.detenttop_TopServers_s4)
def detenttop_TopServers : RFunc := RFunc.mk 156 [.tmp 2] (
  RC.seq (RC.region 1 [
  ⟨some 2,.move (.c (.s (.bool false))),none,0,[]⟩]) (RC.seq (RC.seq (RC.region 2 [
  ⟨some 16,.call F.detenttop_known [],none,0,[]⟩,
  ⟨some 17,.un .not (.t 16),none,1,[]⟩]) (RC.cond (.t 17) (RC.seq (RC.region 1 [
  ⟨some 2,.move (.c (.s (.bool false))),none,0,[]⟩]) (RC.ret)) (RC.skip))) (RC.seq (RC.seq (RC.region 3 [
  ⟨some 18,.move (.t 0),none,0,[]⟩,
  ⟨some 19,.len (.t 18),none,1,[]⟩,
  ⟨some 20,.bin .gtr (.t 19) (.c (.s (.int .i64 15))),none,2,[]⟩]) (RC.cond (.t 20) (RC.seq (RC.region 1 [
  ⟨some 2,.move (.c (.s (.bool true))),none,0,[]⟩]) (RC.ret)) (RC.skip))) (RC.seq (RC.region 6 [
  ⟨some 22,.call F.por_New [(.c (.s (.bool true))),(.c (.s (.int .i64 4)))],none,0,[]⟩,
  ⟨some 21,.move (.t 22),none,1,[]⟩,
  ⟨some 23,.extract 0 (.t 21),none,2,[]⟩,
  ⟨some 24,.extract 1 (.t 21),none,3,[]⟩,
  ⟨some 3,.move (.t 23),none,4,[]⟩,
  ⟨some 4,.move (.t 24),none,5,[]⟩]) (RC.seq (RC.seq (RC.region 1 [
  ⟨some 5,.move (.c (.s (.int .i64 0))),none,0,[]⟩]) (RC.block 0 (RC.loop R.detenttop_TopServers_l0))) R.detenttop_TopServers_s5)))))
theorem detenttop_TopServers_ok : chkFunc Go.Proofs.Tryz.prog [0] Go.Proofs.Tryz.f6 detenttop_TopServers = true := by kernel_rfl
def detenttop_known : RFunc := RFunc.mk 46 [.tmp 0] (
  RC.seq (RC.region 1 [
  ⟨some 0,.move (.c (.s (.bool false))),none,0,[]⟩]) (RC.seq (RC.region 4 [
  ⟨some 5,.buildSlice 1 2 [.int .i64 0,.int .i64 0] [(0,1,(.c (.s (.int .i64 5)))),(1,1,(.c (.s (.int .i64 3))))],none,0,[]⟩,
  ⟨some 6,.call F.detenttop_tasks [(.t 5)],none,1,[]⟩,
  ⟨some 7,.call F.detenttop_open [(.t 6)],none,2,[]⟩,
  ⟨some 1,.move (.t 7),none,3,[]⟩]) (RC.seq (RC.seq (RC.region 7 [
  ⟨some 8,.move (.t 1),none,0,[]⟩,
  ⟨some 9,.eqs .ptr false (.t 8) (.c (.s (.ptr none))),none,1,[]⟩,
  ⟨some 10,.move (.t 9),none,2,[]⟩,
  ⟨some 11,.move (.t 1),(some (10,false)),3,[]⟩,
  ⟨some 12,.call F.kern_Kernel_Running [(.t 11)],(some (10,false)),4,[]⟩,
  ⟨some 13,.bin .neq (.t 12) (.c (.s (.int .i64 2))),(some (10,false)),5,[]⟩,
  ⟨some 14,.pick (.t 10) (.c (.s (.bool true))) (.t 13),none,6,[]⟩]) (RC.cond (.t 14) (RC.seq (RC.region 1 [
  ⟨some 0,.move (.c (.s (.bool false))),none,0,[]⟩]) (RC.ret)) (RC.skip))) (RC.seq (RC.region 8 [
  ⟨some 16,.move (.t 1),none,0,[]⟩,
  ⟨some 17,.buildSlice 1 1 [.int .i64 0] [(0,1,(.c (.s (.int .i64 0))))],none,1,[]⟩,
  ⟨some 18,.call F.detenttop_do [(.t 16),(.c (.s (.int .i64 22))),(.t 17)],none,2,[]⟩,
  ⟨some 15,.move (.t 18),none,3,[]⟩,
  ⟨some 19,.extract 0 (.t 15),none,4,[]⟩,
  ⟨some 20,.extract 1 (.t 15),none,5,[]⟩,
  ⟨some 2,.move (.t 19),none,6,[]⟩,
  ⟨some 3,.move (.t 20),none,7,[]⟩]) (RC.seq (RC.region 3 [
  ⟨some 21,.move (.t 1),none,0,[]⟩,
  ⟨some 22,.call F.kern_Kernel_Running [(.t 21)],none,1,[]⟩,
  ⟨some 4,.move (.t 22),none,2,[]⟩]) (RC.seq (RC.region 2 [
  ⟨some 23,.move (.t 1),none,0,[]⟩,
  ⟨some 24,.call F.kern_Kernel_Tick [(.t 23)],none,1,[]⟩]) (RC.seq (RC.region 22 [
  ⟨some 25,.move (.t 2),none,0,[]⟩,
  ⟨some 26,.bin .eql (.t 25) (.c (.s (.int .i64 1))),none,1,[]⟩,
  ⟨some 27,.move (.t 26),none,2,[]⟩,
  ⟨some 28,.move (.t 4),(some (27,true)),3,[]⟩,
  ⟨some 29,.bin .eql (.t 28) (.c (.s (.int .i64 1))),(some (27,true)),4,[]⟩,
  ⟨some 30,.pick (.t 27) (.t 29) (.c (.s (.bool false))),none,5,[]⟩,
  ⟨some 31,.move (.t 30),none,6,[]⟩,
  ⟨some 32,.move (.t 1),(some (31,true)),7,[]⟩,
  ⟨some 33,.call F.kern_Kernel_Running [(.t 32)],(some (31,true)),8,[]⟩,
  ⟨some 34,.bin .eql (.t 33) (.c (.s (.int .i64 2))),(some (31,true)),9,[]⟩,
  ⟨some 35,.pick (.t 31) (.t 34) (.c (.s (.bool false))),none,10,[]⟩,
  ⟨some 36,.move (.t 35),none,11,[]⟩,
  ⟨some 37,.move (.t 1),(some (36,true)),12,[]⟩,
  ⟨some 38,.call F.detenttop_state [(.t 37),(.c (.s (.int .i64 1)))],(some (36,true)),13,[]⟩,
  ⟨some 39,.bin .eql (.t 38) (.c (.s (.int .i64 2))),(some (36,true)),14,[]⟩,
  ⟨some 40,.pick (.t 36) (.t 39) (.c (.s (.bool false))),none,15,[]⟩,
  ⟨some 41,.move (.t 40),none,16,[]⟩,
  ⟨some 42,.move (.t 1),(some (41,true)),17,[]⟩,
  ⟨some 43,.call F.detenttop_state [(.t 42),(.c (.s (.int .i64 2)))],(some (41,true)),18,[]⟩,
  ⟨some 44,.bin .eql (.t 43) (.c (.s (.int .i64 1))),(some (41,true)),19,[]⟩,
  ⟨some 45,.pick (.t 41) (.t 44) (.c (.s (.bool false))),none,20,[]⟩,
  ⟨some 0,.move (.t 45),none,21,[]⟩]) (RC.ret))))))))
theorem detenttop_known_ok : chkFunc Go.Proofs.Tryz.prog [0] Go.Proofs.Tryz.f8 detenttop_known = true := by kernel_rfl
def por_New : RFunc := RFunc.mk 24 [.tmp 4,.tmp 5] (
  RC.seq (RC.region 2 [
  ⟨some 4,.move (.c (.s (.ptr none))),none,0,[]⟩,
  ⟨some 5,.move (.c (.s (.int .i64 0))),none,1,[]⟩]) (RC.seq (RC.seq (RC.region 6 [
  ⟨some 6,.move (.t 1),none,0,[]⟩,
  ⟨some 7,.bin .lss (.t 6) (.c (.s (.int .i64 0))),none,1,[]⟩,
  ⟨some 8,.move (.t 7),none,2,[]⟩,
  ⟨some 9,.move (.t 1),(some (8,false)),3,[]⟩,
  ⟨some 10,.bin .gtr (.t 9) (.c (.s (.int .i64 1024))),(some (8,false)),4,[]⟩,
  ⟨some 11,.pick (.t 8) (.c (.s (.bool true))) (.t 10),none,5,[]⟩]) (RC.cond (.t 11) (RC.seq (RC.region 2 [
  ⟨some 4,.move (.c (.s (.ptr none))),none,0,[]⟩,
  ⟨some 5,.move (.c (.s (.int .i64 (-17)))),none,1,[]⟩]) (RC.ret)) (RC.skip))) (RC.seq (RC.region 14 [
  ⟨some 12,.move (.t 0),none,0,[]⟩,
  ⟨some 13,.call F.order_New [(.t 12)],none,1,[]⟩,
  ⟨some 14,.hop .makeMap [],none,2,[]⟩,
  ⟨some 15,.build [.ptr none,.map none] [(0,1,(.t 13)),(1,1,(.t 14))],none,3,[]⟩,
  ⟨some 16,.build [.ptr none,.map none] [(0,2,(.t 15))],none,4,[]⟩,
  ⟨some 17,.call F.order_New [(.c (.s (.bool false)))],none,5,[]⟩,
  ⟨some 18,.hop .makeMap [],none,6,[]⟩,
  ⟨some 19,.build [.ptr none,.map none] [(0,1,(.t 17)),(1,1,(.t 18))],none,7,[]⟩,
  ⟨some 20,.build [.ptr none,.map none] [(0,2,(.t 19))],none,8,[]⟩,
  ⟨some 21,.move (.t 1),none,9,[]⟩,
  ⟨some 22,.build [.ptr none,.map none,.ptr none,.map none,.int .i64 0,.int .i64 0,.slice none 0 0 1] [(0,2,(.t 16)),(2,2,(.t 20)),(4,1,(.t 21))],none,10,[]⟩,
  ⟨some 23,.box (.t 22),none,11,[]⟩,
  ⟨some 4,.move (.t 23),none,12,[]⟩,
  ⟨some 5,.move (.c (.s (.int .i64 0))),none,13,[]⟩]) (RC.ret))))
theorem por_New_ok : chkFunc Go.Proofs.Tryz.prog [0] Go.Proofs.Tryz.f32 por_New = true := by kernel_rfl
def por_Port_Call : RFunc := RFunc.mk 74 [.cell 10 (some 4),.tmp 11] (
  RC.seq (RC.region 2 [
  ⟨some 10,.newc [.int .i64 0,.int .i64 0,.slice none 0 0 1,.bool false],none,0,[]⟩,
  ⟨some 11,.move (.c (.s (.int .i64 0))),none,1,[]⟩]) (RC.seq (RC.block 0 (RC.seq (RC.region 18 [
  ⟨some 16,.move (.t 3),none,0,[]⟩,
  ⟨some 17,.bin .eql (.t 16) (.c (.s (.int .u32 0))),none,1,[]⟩,
  ⟨some 18,.move (.t 17),none,2,[]⟩,
  ⟨some 19,.move (.t 4),(some (18,false)),3,[]⟩,
  ⟨some 20,.len (.t 19),(some (18,false)),4,[]⟩,
  ⟨some 21,.move (.t 0),(some (18,false)),5,[]⟩,
  ⟨some 22,.nilCheck (.t 21),(some (18,false)),6,[]⟩,
  ⟨some 23,.fieldAddr 4 (.t 22),(some (18,false)),7,[]⟩,
  ⟨some 24,.load none (.t 23),(some (18,false)),8,[]⟩,
  ⟨some 25,.bin .gtr (.t 20) (.t 24),(some (18,false)),9,[]⟩,
  ⟨some 26,.pick (.t 18) (.c (.s (.bool true))) (.t 25),none,10,[]⟩,
  ⟨some 27,.move (.t 26),none,11,[]⟩,
  ⟨some 28,.move (.t 1),(some (27,false)),12,[]⟩,
  ⟨some 29,.move (.t 2),(some (27,false)),13,[]⟩,
  ⟨some 30,.call F.por_right [(.t 28),(.t 29)],(some (27,false)),14,[]⟩,
  ⟨some 31,.un .not (.t 30),(some (27,false)),15,[]⟩,
  ⟨some 32,.pick (.t 27) (.c (.s (.bool true))) (.t 31),none,16,[]⟩,
  ⟨some 15,.move (.t 32),none,17,[]⟩]) (RC.cond (.t 15) (RC.seq (RC.region 3 [
  ⟨some 33,.build [.int .i64 0,.int .i64 0,.slice none 0 0 1,.bool false] [],none,0,[]⟩,
  ⟨none,.store 4 (.t 10) (.t 33),none,1,[]⟩,
  ⟨some 11,.move (.c (.s (.int .i64 (-17)))),none,2,[]⟩]) (RC.ret)) (RC.seq (RC.region 4 [
  ⟨some 35,.move (.t 0),none,0,[]⟩,
  ⟨some 36,.move (.t 1),none,1,[]⟩,
  ⟨some 37,.call F.por_Port_in [(.t 35),(.t 36)],none,2,[]⟩,
  ⟨some 34,.move (.t 37),none,3,[]⟩]) (RC.cond (.t 34) (RC.seq (RC.region 3 [
  ⟨some 38,.build [.int .i64 0,.int .i64 0,.slice none 0 0 1,.bool false] [],none,0,[]⟩,
  ⟨none,.store 4 (.t 10) (.t 38),none,1,[]⟩,
  ⟨some 11,.move (.c (.s (.int .i64 (-41)))),none,2,[]⟩]) (RC.ret)) (RC.skip)))))) (RC.seq (RC.region 4 [
  ⟨some 39,.move (.t 4),none,0,[]⟩,
  ⟨some 40,.call F.slices_Clone__byte_byte [(.t 39)],none,1,[]⟩,
  ⟨some 41,.call F.slices_Clip__byte_byte [(.t 40)],none,2,[]⟩,
  ⟨some 4,.move (.t 41),none,3,[]⟩]) (RC.seq (RC.seq (RC.region 16 [
  ⟨some 43,.move (.t 0),none,0,[]⟩,
  ⟨some 44,.nilCheck (.t 43),none,1,[]⟩,
  ⟨some 45,.fieldAddr 2 (.t 44),none,2,[]⟩,
  ⟨some 46,.fieldAddr 0 (.t 45),none,3,[]⟩,
  ⟨some 47,.load (some 2) (.t 46),none,4,[]⟩,
  ⟨some 48,.move (.t 3),none,5,[]⟩,
  ⟨some 49,.call F.por_line_meet [(.t 47),(.t 48)],none,6,[]⟩,
  ⟨some 42,.move (.t 49),none,7,[]⟩,
  ⟨some 50,.extract 0 (.t 42),none,8,[]⟩,
  ⟨some 51,.extract 1 (.t 42),none,9,[]⟩,
  ⟨some 52,.extract 2 (.t 42),none,10,[]⟩,
  ⟨some 12,.newc [.int .i64 0,.int .i64 0],none,11,[]⟩,
  ⟨some 13,.newc [.int .u32 0,.slice none 0 0 1],none,12,[]⟩,
  ⟨none,.store 2 (.t 12) (.t 50),none,13,[]⟩,
  ⟨none,.store 2 (.t 13) (.t 51),none,14,[]⟩,
  ⟨some 14,.move (.t 52),none,15,[]⟩]) (RC.seq (RC.region 1 [
  ⟨some 53,.move (.t 14),none,0,[]⟩]) (RC.cond (.t 53) (RC.seq (RC.region 10 [
  ⟨some 54,.move (.t 0),none,0,[]⟩,
  ⟨some 55,.move (.t 1),none,1,[]⟩,
  ⟨some 56,.move (.t 2),none,2,[]⟩,
  ⟨some 58,.fieldAddr 0 (.t 12),none,4,[]⟩,
  ⟨some 59,.load none (.t 58),none,5,[]⟩,
  ⟨some 60,.move (.t 4),none,6,[]⟩,
  ⟨some 57,.call F.por_Port_begin [(.t 54),(.t 55),(.t 56)],none,3,[⟨59,none,(.t 58),none⟩]⟩,
  ⟨some 61,.build [.int .i64 0,.int .i64 0,.slice none 0 0 1,.bool false] [(0,1,(.t 57)),(1,1,(.t 59)),(2,1,(.t 60)),(3,1,(.c (.s (.bool true))))],none,7,[]⟩,
  ⟨none,.store 4 (.t 10) (.t 61),none,8,[]⟩,
  ⟨some 11,.move (.c (.s (.int .i64 0))),none,9,[]⟩]) (RC.ret)) (RC.skip)))) (RC.seq (RC.region 11 [
  ⟨some 62,.move (.t 0),none,0,[]⟩,
  ⟨some 63,.nilCheck (.t 62),none,1,[]⟩,
  ⟨some 64,.fieldAddr 0 (.t 63),none,2,[]⟩,
  ⟨some 65,.fieldAddr 0 (.t 64),none,3,[]⟩,
  ⟨some 66,.load (some 2) (.t 65),none,4,[]⟩,
  ⟨some 67,.move (.t 1),none,5,[]⟩,
  ⟨some 68,.move (.t 2),none,6,[]⟩,
  ⟨some 69,.move (.t 3),none,7,[]⟩,
  ⟨some 70,.move (.t 4),none,8,[]⟩,
  ⟨some 71,.build [.int .u32 0,.slice none 0 0 1] [(0,1,(.t 69)),(1,1,(.t 70))],none,9,[]⟩,
  ⟨some 72,.call F.por_line_wait [(.t 66),(.t 67),(.t 68),(.t 71)],none,10,[]⟩]) (RC.seq (RC.region 3 [
  ⟨some 73,.build [.int .i64 0,.int .i64 0,.slice none 0 0 1,.bool false] [],none,0,[]⟩,
  ⟨none,.store 4 (.t 10) (.t 73),none,1,[]⟩,
  ⟨some 11,.move (.c (.s (.int .i64 0))),none,2,[]⟩]) (RC.ret)))))))
theorem por_Port_Call_ok : chkFunc Go.Proofs.Tryz.prog [0] Go.Proofs.Tryz.f33 por_Port_Call = true := by kernel_rfl
def por_Port_Accept : RFunc := RFunc.mk 62 [.cell 8 (some 4),.tmp 9] (
  RC.seq (RC.region 2 [
  ⟨some 8,.newc [.int .i64 0,.int .i64 0,.slice none 0 0 1,.bool false],none,0,[]⟩,
  ⟨some 9,.move (.c (.s (.int .i64 0))),none,1,[]⟩]) (RC.seq (RC.block 0 (RC.seq (RC.region 9 [
  ⟨some 14,.move (.t 3),none,0,[]⟩,
  ⟨some 15,.bin .eql (.t 14) (.c (.s (.int .u32 0))),none,1,[]⟩,
  ⟨some 16,.move (.t 15),none,2,[]⟩,
  ⟨some 17,.move (.t 1),(some (16,false)),3,[]⟩,
  ⟨some 18,.move (.t 2),(some (16,false)),4,[]⟩,
  ⟨some 19,.call F.por_right [(.t 17),(.t 18)],(some (16,false)),5,[]⟩,
  ⟨some 20,.un .not (.t 19),(some (16,false)),6,[]⟩,
  ⟨some 21,.pick (.t 16) (.c (.s (.bool true))) (.t 20),none,7,[]⟩,
  ⟨some 13,.move (.t 21),none,8,[]⟩]) (RC.cond (.t 13) (RC.seq (RC.region 3 [
  ⟨some 22,.build [.int .i64 0,.int .i64 0,.slice none 0 0 1,.bool false] [],none,0,[]⟩,
  ⟨none,.store 4 (.t 8) (.t 22),none,1,[]⟩,
  ⟨some 9,.move (.c (.s (.int .i64 (-17)))),none,2,[]⟩]) (RC.ret)) (RC.seq (RC.region 4 [
  ⟨some 24,.move (.t 0),none,0,[]⟩,
  ⟨some 25,.move (.t 1),none,1,[]⟩,
  ⟨some 26,.call F.por_Port_in [(.t 24),(.t 25)],none,2,[]⟩,
  ⟨some 23,.move (.t 26),none,3,[]⟩]) (RC.cond (.t 23) (RC.seq (RC.region 3 [
  ⟨some 27,.build [.int .i64 0,.int .i64 0,.slice none 0 0 1,.bool false] [],none,0,[]⟩,
  ⟨none,.store 4 (.t 8) (.t 27),none,1,[]⟩,
  ⟨some 9,.move (.c (.s (.int .i64 (-41)))),none,2,[]⟩]) (RC.ret)) (RC.skip)))))) (RC.seq (RC.seq (RC.region 16 [
  ⟨some 29,.move (.t 0),none,0,[]⟩,
  ⟨some 30,.nilCheck (.t 29),none,1,[]⟩,
  ⟨some 31,.fieldAddr 0 (.t 30),none,2,[]⟩,
  ⟨some 32,.fieldAddr 0 (.t 31),none,3,[]⟩,
  ⟨some 33,.load (some 2) (.t 32),none,4,[]⟩,
  ⟨some 34,.move (.t 3),none,5,[]⟩,
  ⟨some 35,.call F.por_line_meet [(.t 33),(.t 34)],none,6,[]⟩,
  ⟨some 28,.move (.t 35),none,7,[]⟩,
  ⟨some 36,.extract 0 (.t 28),none,8,[]⟩,
  ⟨some 37,.extract 1 (.t 28),none,9,[]⟩,
  ⟨some 38,.extract 2 (.t 28),none,10,[]⟩,
  ⟨some 10,.newc [.int .i64 0,.int .i64 0],none,11,[]⟩,
  ⟨some 11,.newc [.int .u32 0,.slice none 0 0 1],none,12,[]⟩,
  ⟨none,.store 2 (.t 10) (.t 36),none,13,[]⟩,
  ⟨none,.store 2 (.t 11) (.t 37),none,14,[]⟩,
  ⟨some 12,.move (.t 38),none,15,[]⟩]) (RC.seq (RC.region 1 [
  ⟨some 39,.move (.t 12),none,0,[]⟩]) (RC.cond (.t 39) (RC.seq (RC.region 13 [
  ⟨some 40,.move (.t 0),none,0,[]⟩,
  ⟨some 41,.fieldAddr 0 (.t 10),none,1,[]⟩,
  ⟨some 42,.load none (.t 41),none,2,[]⟩,
  ⟨some 43,.fieldAddr 1 (.t 10),none,3,[]⟩,
  ⟨some 44,.load none (.t 43),none,4,[]⟩,
  ⟨some 46,.fieldAddr 0 (.t 10),none,6,[]⟩,
  ⟨some 47,.load none (.t 46),none,7,[]⟩,
  ⟨some 48,.fieldAddr 1 (.t 11),none,8,[]⟩,
  ⟨some 49,.load none (.t 48),none,9,[]⟩,
  ⟨some 45,.call F.por_Port_begin [(.t 40),(.t 42),(.t 44)],none,5,[⟨47,none,(.t 46),none⟩,⟨49,none,(.t 48),none⟩]⟩,
  ⟨some 50,.build [.int .i64 0,.int .i64 0,.slice none 0 0 1,.bool false] [(0,1,(.t 45)),(1,1,(.t 47)),(2,1,(.t 49)),(3,1,(.c (.s (.bool true))))],none,10,[]⟩,
  ⟨none,.store 4 (.t 8) (.t 50),none,11,[]⟩,
  ⟨some 9,.move (.c (.s (.int .i64 0))),none,12,[]⟩]) (RC.ret)) (RC.skip)))) (RC.seq (RC.region 10 [
  ⟨some 51,.move (.t 0),none,0,[]⟩,
  ⟨some 52,.nilCheck (.t 51),none,1,[]⟩,
  ⟨some 53,.fieldAddr 2 (.t 52),none,2,[]⟩,
  ⟨some 54,.fieldAddr 0 (.t 53),none,3,[]⟩,
  ⟨some 55,.load (some 2) (.t 54),none,4,[]⟩,
  ⟨some 56,.move (.t 1),none,5,[]⟩,
  ⟨some 57,.move (.t 2),none,6,[]⟩,
  ⟨some 58,.move (.t 3),none,7,[]⟩,
  ⟨some 59,.build [.int .u32 0,.slice none 0 0 1] [(0,1,(.t 58))],none,8,[]⟩,
  ⟨some 60,.call F.por_line_wait [(.t 55),(.t 56),(.t 57),(.t 59)],none,9,[]⟩]) (RC.seq (RC.region 3 [
  ⟨some 61,.build [.int .i64 0,.int .i64 0,.slice none 0 0 1,.bool false] [],none,0,[]⟩,
  ⟨none,.store 4 (.t 8) (.t 61),none,1,[]⟩,
  ⟨some 9,.move (.c (.s (.int .i64 0))),none,2,[]⟩]) (RC.ret))))))
theorem por_Port_Accept_ok : chkFunc Go.Proofs.Tryz.prog [0] Go.Proofs.Tryz.f34 por_Port_Accept = true := by kernel_rfl
def por_Port_Reply : RFunc := RFunc.mk 36 [.tmp 6,.tmp 7] (
  RC.seq (RC.region 2 [
  ⟨some 6,.move (.c (.s (.int .i64 0))),none,0,[]⟩,
  ⟨some 7,.move (.c (.s (.int .i64 0))),none,1,[]⟩]) (RC.seq (RC.region 4 [
  ⟨some 10,.move (.t 0),none,0,[]⟩,
  ⟨some 11,.move (.t 1),none,1,[]⟩,
  ⟨some 12,.call F.por_Port_find [(.t 10),(.t 11)],none,2,[]⟩,
  ⟨some 8,.move (.t 12),none,3,[]⟩]) (RC.seq (RC.block 0 (RC.seq (RC.region 3 [
  ⟨some 14,.move (.t 8),none,0,[]⟩,
  ⟨some 15,.bin .lss (.t 14) (.c (.s (.int .i64 0))),none,1,[]⟩,
  ⟨some 13,.move (.t 15),none,2,[]⟩]) (RC.cond (.t 13) (RC.seq (RC.region 2 [
  ⟨some 6,.move (.c (.s (.int .i64 0))),none,0,[]⟩,
  ⟨some 7,.move (.c (.s (.int .i64 (-41)))),none,1,[]⟩]) (RC.ret)) (RC.seq (RC.region 8 [
  ⟨some 17,.move (.t 2),none,0,[]⟩,
  ⟨some 18,.len (.t 17),none,1,[]⟩,
  ⟨some 19,.move (.t 0),none,2,[]⟩,
  ⟨some 20,.nilCheck (.t 19),none,3,[]⟩,
  ⟨some 21,.fieldAddr 4 (.t 20),none,4,[]⟩,
  ⟨some 22,.load none (.t 21),none,5,[]⟩,
  ⟨some 23,.bin .gtr (.t 18) (.t 22),none,6,[]⟩,
  ⟨some 16,.move (.t 23),none,7,[]⟩]) (RC.cond (.t 16) (RC.seq (RC.region 2 [
  ⟨some 6,.move (.c (.s (.int .i64 0))),none,0,[]⟩,
  ⟨some 7,.move (.c (.s (.int .i64 (-17)))),none,1,[]⟩]) (RC.ret)) (RC.skip)))))) (RC.seq (RC.region 9 [
  ⟨some 24,.move (.t 0),none,0,[]⟩,
  ⟨some 25,.nilCheck (.t 24),none,1,[]⟩,
  ⟨some 26,.fieldAddr 6 (.t 25),none,2,[]⟩,
  ⟨some 27,.load none (.t 26),none,3,[]⟩,
  ⟨some 28,.move (.t 8),none,4,[]⟩,
  ⟨some 29,.indexSl 3 (.t 27) (.t 28),none,5,[]⟩,
  ⟨some 30,.fieldAddr 1 (.t 29),none,6,[]⟩,
  ⟨some 31,.load none (.t 30),none,7,[]⟩,
  ⟨some 9,.move (.t 31),none,8,[]⟩]) (RC.seq (RC.region 3 [
  ⟨some 32,.move (.t 0),none,0,[]⟩,
  ⟨some 33,.move (.t 8),none,1,[]⟩,
  ⟨some 34,.call F.por_Port_end [(.t 32),(.t 33)],none,2,[]⟩]) (RC.seq (RC.region 3 [
  ⟨some 35,.move (.t 9),none,0,[]⟩,
  ⟨some 6,.move (.t 35),none,1,[]⟩,
  ⟨some 7,.move (.c (.s (.int .i64 0))),none,2,[]⟩]) (RC.ret)))))))
theorem por_Port_Reply_ok : chkFunc Go.Proofs.Tryz.prog [0] Go.Proofs.Tryz.f35 por_Port_Reply = true := by kernel_rfl
def por_Port_Callers : RFunc := RFunc.mk 9 [.tmp 2] (
  RC.seq (RC.region 1 [
  ⟨some 2,.move (.c (.s (.slice none 0 0 1))),none,0,[]⟩]) (RC.seq (RC.region 7 [
  ⟨some 3,.move (.t 0),none,0,[]⟩,
  ⟨some 4,.nilCheck (.t 3),none,1,[]⟩,
  ⟨some 5,.fieldAddr 0 (.t 4),none,2,[]⟩,
  ⟨some 6,.fieldAddr 0 (.t 5),none,3,[]⟩,
  ⟨some 7,.load (some 2) (.t 6),none,4,[]⟩,
  ⟨some 8,.call F.por_line_ids [(.t 7)],none,5,[]⟩,
  ⟨some 2,.move (.t 8),none,6,[]⟩]) (RC.ret)))
theorem por_Port_Callers_ok : chkFunc Go.Proofs.Tryz.prog [0] Go.Proofs.Tryz.f36 por_Port_Callers = true := by kernel_rfl
def por_Port_Open_l0 : RC :=
  RC.seq (RC.region 1 [
  ⟨some 12,.bin .lss (.t 11) (.t 10),none,0,[]⟩]) (RC.seq (RC.cond (.t 12) (RC.skip) (RC.exit 0)) (RC.seq (RC.block 1 (RC.seq (RC.region 4 [
  ⟨some 13,.indexSl 3 (.t 9) (.t 11),none,0,[]⟩,
  ⟨some 14,.load (some 3) (.t 13),none,1,[]⟩,
  ⟨some 5,.newc [.int .i64 0,.int .i64 0,.int .i64 0],none,2,[]⟩,
  ⟨none,.store 3 (.t 5) (.t 14),none,3,[]⟩]) (RC.region 6 [
  ⟨some 15,.move (.t 3),none,0,[]⟩,
  ⟨some 16,.fieldAddr 0 (.t 5),none,1,[]⟩,
  ⟨some 17,.load none (.t 16),none,2,[]⟩,
  ⟨some 18,.buildSlice 1 1 [.int .i64 0] [(0,1,(.t 17))],none,3,[]⟩,
  ⟨some 19,.append 1 8 (.t 15) (.t 18),none,4,[]⟩,
  ⟨some 3,.move (.t 19),none,5,[]⟩]))) (RC.region 2 [
  ⟨some 20,.bin .add (.t 11) (.c (.s (.int .i64 1))),none,0,[]⟩,
  ⟨some 11,.move (.t 20),none,1,[]⟩])))
def por_Port_Open_s1 : RC :=
  RC.seq (RC.region 3 [
  ⟨some 21,.move (.t 3),none,0,[]⟩,
  ⟨some 22,.call F.slices_Clip__int_int [(.t 21)],none,1,[]⟩,
  ⟨some 2,.move (.t 22),none,2,[]⟩]) (RC.ret)
def por_Port_Open : RFunc := RFunc.mk 23 [.tmp 2] (
  RC.seq (RC.region 1 [
  ⟨some 2,.move (.c (.s (.slice none 0 0 1))),none,0,[]⟩]) (RC.seq (RC.region 1 [
  ⟨some 3,.move (.c (.s (.slice none 0 0 1))),none,0,[]⟩]) (RC.seq (RC.seq (RC.region 6 [
  ⟨some 6,.move (.t 0),none,0,[]⟩,
  ⟨some 7,.nilCheck (.t 6),none,1,[]⟩,
  ⟨some 8,.fieldAddr 6 (.t 7),none,2,[]⟩,
  ⟨some 9,.load none (.t 8),none,3,[]⟩,
  ⟨some 10,.len (.t 9),none,4,[]⟩,
  ⟨some 11,.move (.c (.s (.int .i64 0))),none,5,[]⟩]) (RC.block 0 (RC.loop R.por_Port_Open_l0))) R.por_Port_Open_s1)))
theorem por_Port_Open_ok : chkFunc Go.Proofs.Tryz.prog [0] Go.Proofs.Tryz.f37 por_Port_Open = true := by kernel_rfl
def detenttop_tasks_l0 : RC :=
  RC.seq (RC.seq (RC.region 4 [
  ⟨some 6,.move (.t 4),none,0,[]⟩,
  ⟨some 7,.move (.t 0),none,1,[]⟩,
  ⟨some 8,.len (.t 7),none,2,[]⟩,
  ⟨some 9,.bin .lss (.t 6) (.t 8),none,3,[]⟩]) (RC.cond (.t 9) (RC.skip) (RC.exit 0))) (RC.seq (RC.block 1 (RC.region 11 [
  ⟨some 12,.fieldAddr 1 (.t 3),none,0,[]⟩,
  ⟨some 13,.load none (.t 12),none,1,[]⟩,
  ⟨some 14,.move (.t 0),none,2,[]⟩,
  ⟨some 15,.move (.t 4),none,3,[]⟩,
  ⟨some 16,.indexSl 1 (.t 14) (.t 15),none,4,[]⟩,
  ⟨some 17,.load none (.t 16),none,5,[]⟩,
  ⟨some 18,.build [.int .i64 0,.bool false] [(0,1,(.t 17)),(1,1,(.c (.s (.bool true))))],none,6,[]⟩,
  ⟨some 19,.buildSlice 2 1 [.int .i64 0,.bool false] [(0,2,(.t 18))],none,7,[]⟩,
  ⟨some 20,.append 2 16 (.t 13) (.t 19),none,8,[]⟩,
  ⟨some 21,.fieldAddr 1 (.t 3),none,9,[]⟩,
  ⟨none,.store 1 (.t 21) (.t 20),none,10,[]⟩])) (RC.region 3 [
  ⟨some 10,.move (.t 4),none,0,[]⟩,
  ⟨some 11,.bin .add (.t 10) (.c (.s (.int .i64 1))),none,1,[]⟩,
  ⟨some 4,.move (.t 11),none,2,[]⟩]))
def detenttop_tasks_s1 : RC :=
  RC.seq (RC.region 2 [
  ⟨some 22,.load (some 9) (.t 3),none,0,[]⟩,
  ⟨none,.store 9 (.t 2) (.t 22),none,1,[]⟩]) (RC.ret)
def detenttop_tasks : RFunc := RFunc.mk 23 [.cell 2 (some 9)] (
  RC.seq (RC.region 1 [
  ⟨some 2,.newc [.int .i64 0,.slice none 0 0 1,.slice none 0 0 1,.slice none 0 0 1,.slice none 0 0 1,.slice none 0 0 1,.slice none 0 0 1,.slice none 0 0 1,.int .i64 0],none,0,[]⟩]) (RC.seq (RC.region 3 [
  ⟨some 5,.build [.int .i64 0,.slice none 0 0 1,.slice none 0 0 1,.slice none 0 0 1,.slice none 0 0 1,.slice none 0 0 1,.slice none 0 0 1,.slice none 0 0 1,.int .i64 0] [(0,1,(.c (.s (.int .i64 1))))],none,0,[]⟩,
  ⟨some 3,.newc [.int .i64 0,.slice none 0 0 1,.slice none 0 0 1,.slice none 0 0 1,.slice none 0 0 1,.slice none 0 0 1,.slice none 0 0 1,.slice none 0 0 1,.int .i64 0],none,1,[]⟩,
  ⟨none,.store 9 (.t 3) (.t 5),none,2,[]⟩]) (RC.seq (RC.seq (RC.region 1 [
  ⟨some 4,.move (.c (.s (.int .i64 0))),none,0,[]⟩]) (RC.block 0 (RC.loop R.detenttop_tasks_l0))) R.detenttop_tasks_s1)))
theorem detenttop_tasks_ok : chkFunc Go.Proofs.Tryz.prog [0] Go.Proofs.Tryz.f9 detenttop_tasks = true := by kernel_rfl
def detenttop_open : RFunc := RFunc.mk 13 [.tmp 2] (
  RC.seq (RC.region 2 [
  ⟨some 1,.box (.t 0),none,0,[]⟩,
  ⟨some 2,.move (.c (.s (.ptr none))),none,1,[]⟩]) (RC.seq (RC.region 7 [
  ⟨some 6,.load (some 9) (.t 1),none,0,[]⟩,
  ⟨some 7,.call F.kern_New [(.t 6)],none,1,[]⟩,
  ⟨some 5,.move (.t 7),none,2,[]⟩,
  ⟨some 8,.extract 0 (.t 5),none,3,[]⟩,
  ⟨some 9,.extract 1 (.t 5),none,4,[]⟩,
  ⟨some 3,.move (.t 8),none,5,[]⟩,
  ⟨some 4,.move (.t 9),none,6,[]⟩]) (RC.seq (RC.seq (RC.region 2 [
  ⟨some 10,.move (.t 4),none,0,[]⟩,
  ⟨some 11,.bin .neq (.t 10) (.c (.s (.int .i64 0))),none,1,[]⟩]) (RC.cond (.t 11) (RC.seq (RC.region 1 [
  ⟨some 2,.move (.c (.s (.ptr none))),none,0,[]⟩]) (RC.ret)) (RC.skip))) (RC.seq (RC.region 2 [
  ⟨some 12,.move (.t 3),none,0,[]⟩,
  ⟨some 2,.move (.t 12),none,1,[]⟩]) (RC.ret)))))
theorem detenttop_open_ok : chkFunc Go.Proofs.Tryz.prog [0] Go.Proofs.Tryz.f10 detenttop_open = true := by kernel_rfl
def detenttop_do : RFunc := RFunc.mk 18 [.tmp 6,.tmp 7] (
  RC.seq (RC.region 2 [
  ⟨some 6,.move (.c (.s (.int .i64 0))),none,0,[]⟩,
  ⟨some 7,.move (.c (.s (.int .i64 0))),none,1,[]⟩]) (RC.seq (RC.region 7 [
  ⟨some 9,.move (.t 0),none,0,[]⟩,
  ⟨some 10,.move (.t 1),none,1,[]⟩,
  ⟨some 11,.move (.t 2),none,2,[]⟩,
  ⟨some 12,.call F.calls_Make [(.t 10),(.t 11)],none,3,[]⟩,
  ⟨some 13,.call F.kern_Kernel_Do [(.t 9),(.t 12)],none,4,[]⟩,
  ⟨some 8,.newc [.int .i64 0,.int .i64 0],none,5,[]⟩,
  ⟨none,.store 2 (.t 8) (.t 13),none,6,[]⟩]) (RC.seq (RC.region 6 [
  ⟨some 14,.fieldAddr 0 (.t 8),none,0,[]⟩,
  ⟨some 15,.load none (.t 14),none,1,[]⟩,
  ⟨some 16,.fieldAddr 1 (.t 8),none,2,[]⟩,
  ⟨some 17,.load none (.t 16),none,3,[]⟩,
  ⟨some 6,.move (.t 15),none,4,[]⟩,
  ⟨some 7,.move (.t 17),none,5,[]⟩]) (RC.ret))))
theorem detenttop_do_ok : chkFunc Go.Proofs.Tryz.prog [0] Go.Proofs.Tryz.f13 detenttop_do = true := by kernel_rfl
def kern_Kernel_Tick_s0 : RC :=
  RC.seq (RC.region 3 [
  ⟨some 33,.move (.t 0),none,0,[]⟩,
  ⟨some 34,.move (.t 6),none,1,[]⟩,
  ⟨some 35,.call F.kern_Kernel_leave [(.t 33),(.t 34)],none,2,[]⟩]) (RC.seq (RC.region 5 [
  ⟨some 36,.move (.t 0),none,0,[]⟩,
  ⟨some 37,.move (.t 6),none,1,[]⟩,
  ⟨some 38,.move (.t 7),none,2,[]⟩,
  ⟨some 39,.build [.int .i64 0,.int .i64 0] [(0,1,(.t 38))],none,3,[]⟩,
  ⟨some 40,.call F.kern_Kernel_wake [(.t 36),(.t 37),(.t 39)],none,4,[]⟩]) (RC.region 2 [
  ⟨some 41,.move (.t 0),none,0,[]⟩,
  ⟨some 42,.call F.kern_Kernel_settle [(.t 41)],none,1,[]⟩]))
def kern_Kernel_Tick_s1 : RC :=
  RC.region 2 [
  ⟨some 43,.bin .add (.t 18) (.c (.s (.int .i64 1))),none,0,[]⟩,
  ⟨some 18,.move (.t 43),none,1,[]⟩]
def kern_Kernel_Tick_l2 : RC :=
  RC.seq (RC.region 1 [
  ⟨some 19,.bin .lss (.t 18) (.t 17),none,0,[]⟩]) (RC.seq (RC.cond (.t 19) (RC.skip) (RC.exit 0)) (RC.seq (RC.block 1 (RC.seq (RC.region 3 [
  ⟨some 20,.indexSl 1 (.t 16) (.t 18),none,0,[]⟩,
  ⟨some 21,.load none (.t 20),none,1,[]⟩,
  ⟨some 6,.move (.t 21),none,2,[]⟩]) (RC.seq (RC.region 1 [
  ⟨some 7,.move (.c (.s (.int .i64 (-50)))),none,0,[]⟩]) (RC.seq (RC.seq (RC.region 11 [
  ⟨some 22,.move (.t 0),none,0,[]⟩,
  ⟨some 23,.nilCheck (.t 22),none,1,[]⟩,
  ⟨some 24,.fieldAddr 9 (.t 23),none,2,[]⟩,
  ⟨some 25,.load none (.t 24),none,3,[]⟩,
  ⟨some 26,.move (.t 6),none,4,[]⟩,
  ⟨some 27,.indexSl 1 (.t 25) (.t 26),none,5,[]⟩,
  ⟨some 28,.load none (.t 27),none,6,[]⟩,
  ⟨some 29,.nilCheck (.t 28),none,7,[]⟩,
  ⟨some 30,.fieldAddr 3 (.t 29),none,8,[]⟩,
  ⟨some 31,.load none (.t 30),none,9,[]⟩,
  ⟨some 32,.bin .eql (.t 31) (.c (.s (.int .i64 2))),none,10,[]⟩]) (RC.cond (.t 32) (RC.region 1 [
  ⟨some 7,.move (.c (.s (.int .i64 0))),none,0,[]⟩]) (RC.skip))) R.kern_Kernel_Tick_s0)))) R.kern_Kernel_Tick_s1))
def kern_Kernel_Tick_s3 : RC :=
  RC.seq (RC.region 2 [
  ⟨some 44,.move (.t 0),none,0,[]⟩,
  ⟨some 45,.call F.kern_Kernel_choose [(.t 44)],none,1,[]⟩]) (RC.seq (RC.region 2 [
  ⟨some 46,.move (.t 3),none,0,[]⟩,
  ⟨some 2,.move (.t 46),none,1,[]⟩]) (RC.ret))
def kern_Kernel_Tick : RFunc := RFunc.mk 47 [.tmp 2] (
  RC.seq (RC.region 1 [
  ⟨some 2,.move (.c (.s (.slice none 0 0 1))),none,0,[]⟩]) (RC.seq (RC.region 10 [
  ⟨some 9,.move (.t 0),none,0,[]⟩,
  ⟨some 10,.nilCheck (.t 9),none,1,[]⟩,
  ⟨some 11,.fieldAddr 7 (.t 10),none,2,[]⟩,
  ⟨some 12,.load none (.t 11),none,3,[]⟩,
  ⟨some 13,.call F.cyc_Hands_Pass [(.t 12)],none,4,[]⟩,
  ⟨some 8,.move (.t 13),none,5,[]⟩,
  ⟨some 14,.extract 0 (.t 8),none,6,[]⟩,
  ⟨some 15,.extract 1 (.t 8),none,7,[]⟩,
  ⟨some 3,.move (.t 14),none,8,[]⟩,
  ⟨some 4,.move (.t 15),none,9,[]⟩]) (RC.seq (RC.seq (RC.region 3 [
  ⟨some 16,.move (.t 4),none,0,[]⟩,
  ⟨some 17,.len (.t 16),none,1,[]⟩,
  ⟨some 18,.move (.c (.s (.int .i64 0))),none,2,[]⟩]) (RC.block 0 (RC.loop R.kern_Kernel_Tick_l2))) R.kern_Kernel_Tick_s3)))
theorem kern_Kernel_Tick_ok : chkFunc Go.Proofs.Tryz.prog [0] Go.Proofs.Tryz.f18 kern_Kernel_Tick = true := by kernel_rfl
def kern_Kernel_Running : RFunc := RFunc.mk 7 [.tmp 2] (
  RC.seq (RC.region 1 [
  ⟨some 2,.move (.c (.s (.int .i64 0))),none,0,[]⟩]) (RC.seq (RC.region 5 [
  ⟨some 3,.move (.t 0),none,0,[]⟩,
  ⟨some 4,.nilCheck (.t 3),none,1,[]⟩,
  ⟨some 5,.fieldAddr 12 (.t 4),none,2,[]⟩,
  ⟨some 6,.load none (.t 5),none,3,[]⟩,
  ⟨some 2,.move (.t 6),none,4,[]⟩]) (RC.ret)))
theorem kern_Kernel_Running_ok : chkFunc Go.Proofs.Tryz.prog [0] Go.Proofs.Tryz.f23 kern_Kernel_Running = true := by kernel_rfl
def detenttop_state : RFunc := RFunc.mk 17 [.tmp 4] (
  RC.seq (RC.region 1 [
  ⟨some 4,.move (.c (.s (.int .i64 0))),none,0,[]⟩]) (RC.seq (RC.region 12 [
  ⟨some 9,.move (.t 0),none,0,[]⟩,
  ⟨some 10,.move (.t 1),none,1,[]⟩,
  ⟨some 11,.call F.kern_Kernel_Task [(.t 9),(.t 10)],none,2,[]⟩,
  ⟨some 8,.move (.t 11),none,3,[]⟩,
  ⟨some 12,.extract 0 (.t 8),none,4,[]⟩,
  ⟨some 13,.extract 1 (.t 8),none,5,[]⟩,
  ⟨some 14,.extract 2 (.t 8),none,6,[]⟩,
  ⟨some 5,.newc [.int .i64 0,.int .i64 0,.int .i64 0,.int .i64 0,.int .i64 0,.int .i64 0,.int .i64 0,.int .i64 0],none,7,[]⟩,
  ⟨some 6,.newc [.int .i64 0,.int .i64 0,.int .i64 0],none,8,[]⟩,
  ⟨none,.store 8 (.t 5) (.t 12),none,9,[]⟩,
  ⟨none,.store 3 (.t 6) (.t 13),none,10,[]⟩,
  ⟨some 7,.move (.t 14),none,11,[]⟩]) (RC.seq (RC.region 3 [
  ⟨some 15,.fieldAddr 0 (.t 5),none,0,[]⟩,
  ⟨some 16,.load none (.t 15),none,1,[]⟩,
  ⟨some 4,.move (.t 16),none,2,[]⟩]) (RC.ret))))
theorem detenttop_state_ok : chkFunc Go.Proofs.Tryz.prog [0] Go.Proofs.Tryz.f24 detenttop_state = true := by kernel_rfl
def order_New : RFunc := RFunc.mk 6 [.tmp 2] (
  RC.seq (RC.region 1 [
  ⟨some 2,.move (.c (.s (.ptr none))),none,0,[]⟩]) (RC.seq (RC.region 4 [
  ⟨some 3,.move (.t 0),none,0,[]⟩,
  ⟨some 4,.build [.slice none 0 0 1,.bool false] [(1,1,(.t 3))],none,1,[]⟩,
  ⟨some 5,.box (.t 4),none,2,[]⟩,
  ⟨some 2,.move (.t 5),none,3,[]⟩]) (RC.ret)))
theorem order_New_ok : chkFunc Go.Proofs.Tryz.prog [0] Go.Proofs.Tryz.f46 order_New = true := by kernel_rfl
def por_right : RFunc := RFunc.mk 19 [.tmp 4] (
  RC.seq (RC.region 1 [
  ⟨some 4,.move (.c (.s (.bool false))),none,0,[]⟩]) (RC.seq (RC.region 15 [
  ⟨some 5,.move (.t 0),none,0,[]⟩,
  ⟨some 6,.bin .geq (.t 5) (.c (.s (.int .i64 1))),none,1,[]⟩,
  ⟨some 7,.move (.t 6),none,2,[]⟩,
  ⟨some 8,.move (.t 0),(some (7,true)),3,[]⟩,
  ⟨some 9,.bin .leq (.t 8) (.c (.s (.int .i64 16))),(some (7,true)),4,[]⟩,
  ⟨some 10,.pick (.t 7) (.t 9) (.c (.s (.bool false))),none,5,[]⟩,
  ⟨some 11,.move (.t 10),none,6,[]⟩,
  ⟨some 12,.move (.t 1),(some (11,true)),7,[]⟩,
  ⟨some 13,.bin .geq (.t 12) (.c (.s (.int .i64 1))),(some (11,true)),8,[]⟩,
  ⟨some 14,.pick (.t 11) (.t 13) (.c (.s (.bool false))),none,9,[]⟩,
  ⟨some 15,.move (.t 14),none,10,[]⟩,
  ⟨some 16,.move (.t 1),(some (15,true)),11,[]⟩,
  ⟨some 17,.bin .leq (.t 16) (.c (.s (.int .i64 16))),(some (15,true)),12,[]⟩,
  ⟨some 18,.pick (.t 15) (.t 17) (.c (.s (.bool false))),none,13,[]⟩,
  ⟨some 4,.move (.t 18),none,14,[]⟩]) (RC.ret)))
theorem por_right_ok : chkFunc Go.Proofs.Tryz.prog [0] Go.Proofs.Tryz.f76 por_right = true := by kernel_rfl
def por_Port_in : RFunc := RFunc.mk 35 [.tmp 4] (
  RC.seq (RC.region 2 [
  ⟨some 3,.box (.t 1),none,0,[]⟩,
  ⟨some 4,.move (.c (.s (.bool false))),none,1,[]⟩]) (RC.seq (RC.region 31 [
  ⟨some 5,.move (.t 0),none,0,[]⟩,
  ⟨some 6,.nilCheck (.t 5),none,1,[]⟩,
  ⟨some 7,.fieldAddr 0 (.t 6),none,2,[]⟩,
  ⟨some 8,.fieldAddr 0 (.t 7),none,3,[]⟩,
  ⟨some 9,.fieldAddr 0 (.t 8),none,4,[]⟩,
  ⟨some 10,.load none (.t 9),none,5,[]⟩,
  ⟨some 11,.nilCheck (.t 10),none,6,[]⟩,
  ⟨some 12,.fieldAddr 0 (.t 11),none,7,[]⟩,
  ⟨some 13,.load none (.t 3),none,8,[]⟩,
  ⟨some 14,.call F.order_Line_Has [(.t 12),(.t 13)],none,9,[]⟩,
  ⟨some 15,.move (.t 14),none,10,[]⟩,
  ⟨some 16,.move (.t 0),(some (15,false)),11,[]⟩,
  ⟨some 17,.nilCheck (.t 16),(some (15,false)),12,[]⟩,
  ⟨some 18,.fieldAddr 2 (.t 17),(some (15,false)),13,[]⟩,
  ⟨some 19,.fieldAddr 0 (.t 18),(some (15,false)),14,[]⟩,
  ⟨some 20,.fieldAddr 0 (.t 19),(some (15,false)),15,[]⟩,
  ⟨some 21,.load none (.t 20),(some (15,false)),16,[]⟩,
  ⟨some 22,.nilCheck (.t 21),(some (15,false)),17,[]⟩,
  ⟨some 23,.fieldAddr 0 (.t 22),(some (15,false)),18,[]⟩,
  ⟨some 24,.load none (.t 3),(some (15,false)),19,[]⟩,
  ⟨some 25,.call F.order_Line_Has [(.t 23),(.t 24)],(some (15,false)),20,[]⟩,
  ⟨some 26,.pick (.t 15) (.c (.s (.bool true))) (.t 25),none,21,[]⟩,
  ⟨some 27,.move (.t 26),none,22,[]⟩,
  ⟨some 28,.move (.t 0),(some (27,false)),23,[]⟩,
  ⟨some 29,.nilCheck (.t 28),(some (27,false)),24,[]⟩,
  ⟨some 30,.fieldAddr 6 (.t 29),(some (27,false)),25,[]⟩,
  ⟨some 31,.load none (.t 30),(some (27,false)),26,[]⟩,
  ⟨some 32,.makeFunc F.por_Port_in_1 [(.t 3)],(some (27,false)),27,[]⟩,
  ⟨some 33,.call F.slices_ContainsFunc__por_open_por_open [(.t 31),(.t 32)],(some (27,false)),28,[]⟩,
  ⟨some 34,.pick (.t 27) (.c (.s (.bool true))) (.t 33),none,29,[]⟩,
  ⟨some 4,.move (.t 34),none,30,[]⟩]) (RC.ret)))
theorem por_Port_in_ok : chkFunc Go.Proofs.Tryz.prog [0] Go.Proofs.Tryz.f77 por_Port_in = true := by kernel_rfl
def slices_Clip__byte_byte : RFunc := RFunc.mk 9 [.tmp 2] (
  RC.seq (RC.region 1 [
  ⟨some 2,.move (.c (.s (.slice none 0 0 1))),none,0,[]⟩]) (RC.seq (RC.region 7 [
  ⟨some 3,.move (.t 0),none,0,[]⟩,
  ⟨some 4,.move (.t 0),none,1,[]⟩,
  ⟨some 5,.len (.t 4),none,2,[]⟩,
  ⟨some 6,.move (.t 0),none,3,[]⟩,
  ⟨some 7,.len (.t 6),none,4,[]⟩,
  ⟨some 8,.slSl 1 (.t 3) none (some (.t 5)) (some (.t 7)),none,5,[]⟩,
  ⟨some 2,.move (.t 8),none,6,[]⟩]) (RC.ret)))
theorem slices_Clip__byte_byte_ok : chkFunc Go.Proofs.Tryz.prog [0] Go.Proofs.Tryz.f78 slices_Clip__byte_byte = true := by kernel_rfl
def slices_Clone__byte_byte : RFunc := RFunc.mk 8 [.tmp 2] (
  RC.seq (RC.region 1 [
  ⟨some 2,.move (.c (.s (.slice none 0 0 1))),none,0,[]⟩]) (RC.seq (RC.seq (RC.region 2 [
  ⟨some 3,.move (.t 0),none,0,[]⟩,
  ⟨some 4,.eqs .slice false (.t 3) (.c (.s (.slice none 0 0 1))),none,1,[]⟩]) (RC.cond (.t 4) (RC.seq (RC.region 1 [
  ⟨some 2,.move (.c (.s (.slice none 0 0 1))),none,0,[]⟩]) (RC.ret)) (RC.skip))) (RC.seq (RC.region 4 [
  ⟨some 5,.buildSlice 1 0 [] [],none,0,[]⟩,
  ⟨some 6,.move (.t 0),none,1,[]⟩,
  ⟨some 7,.append 1 1 (.t 5) (.t 6),none,2,[]⟩,
  ⟨some 2,.move (.t 7),none,3,[]⟩]) (RC.ret))))
theorem slices_Clone__byte_byte_ok : chkFunc Go.Proofs.Tryz.prog [0] Go.Proofs.Tryz.f79 slices_Clone__byte_byte = true := by kernel_rfl
def por_line_meet_l0 : RC :=
  RC.seq (RC.region 1 [
  ⟨some 17,.bin .lss (.t 16) (.t 15),none,0,[]⟩]) (RC.seq (RC.cond (.t 17) (RC.skip) (RC.exit 0)) (RC.seq (RC.block 1 (RC.seq (RC.region 4 [
  ⟨some 18,.indexSl 2 (.t 14) (.t 16),none,0,[]⟩,
  ⟨some 19,.load (some 2) (.t 18),none,1,[]⟩,
  ⟨some 8,.newc [.int .i64 0,.int .i64 0],none,2,[]⟩,
  ⟨none,.store 2 (.t 8) (.t 19),none,3,[]⟩]) (RC.seq (RC.region 7 [
  ⟨some 20,.fieldAddr 1 (.t 2),none,0,[]⟩,
  ⟨some 21,.load none (.t 20),none,1,[]⟩,
  ⟨some 22,.fieldAddr 0 (.t 8),none,2,[]⟩,
  ⟨some 23,.load none (.t 22),none,3,[]⟩,
  ⟨some 24,.hop (.lookup false) [(.t 21),(.t 23)],none,4,[]⟩,
  ⟨some 9,.newc [.int .u32 0,.slice none 0 0 1],none,5,[]⟩,
  ⟨none,.store 2 (.t 9) (.t 24),none,6,[]⟩]) (RC.seq (RC.region 5 [
  ⟨some 25,.fieldAddr 0 (.t 9),none,0,[]⟩,
  ⟨some 26,.load none (.t 25),none,1,[]⟩,
  ⟨some 27,.move (.t 1),none,2,[]⟩,
  ⟨some 28,.bin .and (.t 26) (.t 27),none,3,[]⟩,
  ⟨some 29,.bin .neq (.t 28) (.c (.s (.int .u32 0))),none,4,[]⟩]) (RC.cond (.t 29) (RC.seq (RC.region 4 [
  ⟨some 30,.load (some 2) (.t 2),none,0,[]⟩,
  ⟨some 31,.fieldAddr 0 (.t 8),none,1,[]⟩,
  ⟨some 32,.load none (.t 31),none,2,[]⟩,
  ⟨some 33,.call F.por_line_drop [(.t 30),(.t 32)],none,3,[]⟩]) (RC.seq (RC.region 5 [
  ⟨some 34,.load (some 2) (.t 8),none,0,[]⟩,
  ⟨some 35,.load (some 2) (.t 9),none,1,[]⟩,
  ⟨none,.store 2 (.t 4) (.t 34),none,2,[⟨35,(some 2),(.t 9),none⟩]⟩,
  ⟨none,.store 2 (.t 5) (.t 35),none,3,[]⟩,
  ⟨some 6,.move (.c (.s (.bool true))),none,4,[]⟩]) (RC.ret))) (RC.skip)))))) (RC.region 2 [
  ⟨some 36,.bin .add (.t 16) (.c (.s (.int .i64 1))),none,0,[]⟩,
  ⟨some 16,.move (.t 36),none,1,[]⟩])))
def por_line_meet_s1 : RC :=
  RC.seq (RC.region 5 [
  ⟨some 37,.build [.int .i64 0,.int .i64 0] [],none,0,[]⟩,
  ⟨some 38,.build [.int .u32 0,.slice none 0 0 1] [],none,1,[]⟩,
  ⟨none,.store 2 (.t 4) (.t 37),none,2,[]⟩,
  ⟨none,.store 2 (.t 5) (.t 38),none,3,[]⟩,
  ⟨some 6,.move (.c (.s (.bool false))),none,4,[]⟩]) (RC.ret)
def por_line_meet : RFunc := RFunc.mk 39 [.cell 4 (some 2),.cell 5 (some 2),.tmp 6] (
  RC.seq (RC.region 4 [
  ⟨some 2,.box (.t 0),none,0,[]⟩,
  ⟨some 4,.newc [.int .i64 0,.int .i64 0],none,1,[]⟩,
  ⟨some 5,.newc [.int .u32 0,.slice none 0 0 1],none,2,[]⟩,
  ⟨some 6,.move (.c (.s (.bool false))),none,3,[]⟩]) (RC.seq (RC.seq (RC.region 7 [
  ⟨some 10,.fieldAddr 0 (.t 2),none,0,[]⟩,
  ⟨some 11,.load none (.t 10),none,1,[]⟩,
  ⟨some 12,.nilCheck (.t 11),none,2,[]⟩,
  ⟨some 13,.fieldAddr 0 (.t 12),none,3,[]⟩,
  ⟨some 14,.call F.order_Line_Row [(.t 13)],none,4,[]⟩,
  ⟨some 15,.len (.t 14),none,5,[]⟩,
  ⟨some 16,.move (.c (.s (.int .i64 0))),none,6,[]⟩]) (RC.block 0 (RC.loop R.por_line_meet_l0))) R.por_line_meet_s1))
theorem por_line_meet_ok : chkFunc Go.Proofs.Tryz.prog [0] Go.Proofs.Tryz.f80 por_line_meet = true := by kernel_rfl
def por_Port_begin : RFunc := RFunc.mk 34 [.tmp 6] (
  RC.seq (RC.region 1 [
  ⟨some 6,.move (.c (.s (.int .i64 0))),none,0,[]⟩]) (RC.seq (RC.region 8 [
  ⟨some 7,.move (.t 0),none,0,[]⟩,
  ⟨some 8,.nilCheck (.t 7),none,1,[]⟩,
  ⟨some 9,.fieldAddr 5 (.t 8),none,2,[]⟩,
  ⟨some 10,.load none (.t 9),none,3,[]⟩,
  ⟨some 11,.bin .add (.t 10) (.c (.s (.int .i64 1))),none,4,[]⟩,
  ⟨some 12,.nilCheck (.t 7),none,5,[]⟩,
  ⟨some 13,.fieldAddr 5 (.t 12),none,6,[]⟩,
  ⟨none,.store 1 (.t 13) (.t 11),none,7,[]⟩]) (RC.seq (RC.region 17 [
  ⟨some 14,.move (.t 0),none,0,[]⟩,
  ⟨some 15,.move (.t 0),none,1,[]⟩,
  ⟨some 16,.nilCheck (.t 15),none,2,[]⟩,
  ⟨some 17,.fieldAddr 6 (.t 16),none,3,[]⟩,
  ⟨some 18,.load none (.t 17),none,4,[]⟩,
  ⟨some 19,.move (.t 0),none,5,[]⟩,
  ⟨some 20,.nilCheck (.t 19),none,6,[]⟩,
  ⟨some 21,.fieldAddr 5 (.t 20),none,7,[]⟩,
  ⟨some 22,.load none (.t 21),none,8,[]⟩,
  ⟨some 23,.move (.t 1),none,9,[]⟩,
  ⟨some 24,.move (.t 2),none,10,[]⟩,
  ⟨some 25,.build [.int .i64 0,.int .i64 0,.int .i64 0] [(0,1,(.t 22)),(1,1,(.t 23)),(2,1,(.t 24))],none,11,[]⟩,
  ⟨some 26,.buildSlice 3 1 [.int .i64 0,.int .i64 0,.int .i64 0] [(0,3,(.t 25))],none,12,[]⟩,
  ⟨some 27,.append 3 24 (.t 18) (.t 26),none,13,[]⟩,
  ⟨some 28,.nilCheck (.t 14),none,14,[]⟩,
  ⟨some 29,.fieldAddr 6 (.t 28),none,15,[]⟩,
  ⟨none,.store 1 (.t 29) (.t 27),none,16,[]⟩]) (RC.seq (RC.region 5 [
  ⟨some 30,.move (.t 0),none,0,[]⟩,
  ⟨some 31,.nilCheck (.t 30),none,1,[]⟩,
  ⟨some 32,.fieldAddr 5 (.t 31),none,2,[]⟩,
  ⟨some 33,.load none (.t 32),none,3,[]⟩,
  ⟨some 6,.move (.t 33),none,4,[]⟩]) (RC.ret)))))
theorem por_Port_begin_ok : chkFunc Go.Proofs.Tryz.prog [0] Go.Proofs.Tryz.f81 por_Port_begin = true := by kernel_rfl
def por_line_wait : RFunc := RFunc.mk 17 [] (
  RC.seq (RC.region 2 [
  ⟨some 4,.box (.t 0),none,0,[]⟩,
  ⟨some 7,.box (.t 3),none,1,[]⟩]) (RC.seq (RC.region 5 [
  ⟨some 8,.fieldAddr 0 (.t 4),none,0,[]⟩,
  ⟨some 9,.load none (.t 8),none,1,[]⟩,
  ⟨some 10,.move (.t 1),none,2,[]⟩,
  ⟨some 11,.move (.t 2),none,3,[]⟩,
  ⟨some 12,.call F.order_Queue_Add [(.t 9),(.t 10),(.t 11)],none,4,[]⟩]) (RC.region 5 [
  ⟨some 13,.fieldAddr 1 (.t 4),none,0,[]⟩,
  ⟨some 14,.load none (.t 13),none,1,[]⟩,
  ⟨some 15,.move (.t 1),none,2,[]⟩,
  ⟨some 16,.load (some 2) (.t 7),none,3,[]⟩,
  ⟨none,.hop .update [(.t 14),(.t 15),(.t 16)],none,4,[]⟩])))
theorem por_line_wait_ok : chkFunc Go.Proofs.Tryz.prog [0] Go.Proofs.Tryz.f82 por_line_wait = true := by kernel_rfl
def por_Port_find : RFunc := RFunc.mk 11 [.tmp 4] (
  RC.seq (RC.region 2 [
  ⟨some 3,.box (.t 1),none,0,[]⟩,
  ⟨some 4,.move (.c (.s (.int .i64 0))),none,1,[]⟩]) (RC.seq (RC.region 7 [
  ⟨some 5,.move (.t 0),none,0,[]⟩,
  ⟨some 6,.nilCheck (.t 5),none,1,[]⟩,
  ⟨some 7,.fieldAddr 6 (.t 6),none,2,[]⟩,
  ⟨some 8,.load none (.t 7),none,3,[]⟩,
  ⟨some 9,.makeFunc F.por_Port_find_1 [(.t 3)],none,4,[]⟩,
  ⟨some 10,.call F.slices_IndexFunc__por_open_por_open [(.t 8),(.t 9)],none,5,[]⟩,
  ⟨some 4,.move (.t 10),none,6,[]⟩]) (RC.ret)))
theorem por_Port_find_ok : chkFunc Go.Proofs.Tryz.prog [0] Go.Proofs.Tryz.f83 por_Port_find = true := by kernel_rfl
def por_Port_end : RFunc := RFunc.mk 15 [] (
  RC.region 12 [
  ⟨some 4,.move (.t 0),none,0,[]⟩,
  ⟨some 5,.move (.t 0),none,1,[]⟩,
  ⟨some 6,.nilCheck (.t 5),none,2,[]⟩,
  ⟨some 7,.fieldAddr 6 (.t 6),none,3,[]⟩,
  ⟨some 8,.load none (.t 7),none,4,[]⟩,
  ⟨some 9,.move (.t 1),none,5,[]⟩,
  ⟨some 10,.move (.t 1),none,6,[]⟩,
  ⟨some 11,.bin .add (.t 10) (.c (.s (.int .i64 1))),none,7,[]⟩,
  ⟨some 12,.call F.slices_Delete__por_open_por_open [(.t 8),(.t 9),(.t 11)],none,8,[]⟩,
  ⟨some 13,.nilCheck (.t 4),none,9,[]⟩,
  ⟨some 14,.fieldAddr 6 (.t 13),none,10,[]⟩,
  ⟨none,.store 1 (.t 14) (.t 12),none,11,[]⟩])
theorem por_Port_end_ok : chkFunc Go.Proofs.Tryz.prog [0] Go.Proofs.Tryz.f84 por_Port_end = true := by kernel_rfl
def por_line_ids_l0 : RC :=
  RC.seq (RC.region 1 [
  ⟨some 13,.bin .lss (.t 12) (.t 11),none,0,[]⟩]) (RC.seq (RC.cond (.t 13) (RC.skip) (RC.exit 0)) (RC.seq (RC.block 1 (RC.seq (RC.region 4 [
  ⟨some 14,.indexSl 2 (.t 10) (.t 12),none,0,[]⟩,
  ⟨some 15,.load (some 2) (.t 14),none,1,[]⟩,
  ⟨some 5,.newc [.int .i64 0,.int .i64 0],none,2,[]⟩,
  ⟨none,.store 2 (.t 5) (.t 15),none,3,[]⟩]) (RC.region 6 [
  ⟨some 16,.move (.t 3),none,0,[]⟩,
  ⟨some 17,.fieldAddr 0 (.t 5),none,1,[]⟩,
  ⟨some 18,.load none (.t 17),none,2,[]⟩,
  ⟨some 19,.buildSlice 1 1 [.int .i64 0] [(0,1,(.t 18))],none,3,[]⟩,
  ⟨some 20,.append 1 8 (.t 16) (.t 19),none,4,[]⟩,
  ⟨some 3,.move (.t 20),none,5,[]⟩]))) (RC.region 2 [
  ⟨some 21,.bin .add (.t 12) (.c (.s (.int .i64 1))),none,0,[]⟩,
  ⟨some 12,.move (.t 21),none,1,[]⟩])))
def por_line_ids_s1 : RC :=
  RC.seq (RC.region 3 [
  ⟨some 22,.move (.t 3),none,0,[]⟩,
  ⟨some 23,.call F.slices_Clip__int_int [(.t 22)],none,1,[]⟩,
  ⟨some 2,.move (.t 23),none,2,[]⟩]) (RC.ret)
def por_line_ids : RFunc := RFunc.mk 24 [.tmp 2] (
  RC.seq (RC.region 2 [
  ⟨some 1,.box (.t 0),none,0,[]⟩,
  ⟨some 2,.move (.c (.s (.slice none 0 0 1))),none,1,[]⟩]) (RC.seq (RC.region 1 [
  ⟨some 3,.move (.c (.s (.slice none 0 0 1))),none,0,[]⟩]) (RC.seq (RC.seq (RC.region 7 [
  ⟨some 6,.fieldAddr 0 (.t 1),none,0,[]⟩,
  ⟨some 7,.load none (.t 6),none,1,[]⟩,
  ⟨some 8,.nilCheck (.t 7),none,2,[]⟩,
  ⟨some 9,.fieldAddr 0 (.t 8),none,3,[]⟩,
  ⟨some 10,.call F.order_Line_Row [(.t 9)],none,4,[]⟩,
  ⟨some 11,.len (.t 10),none,5,[]⟩,
  ⟨some 12,.move (.c (.s (.int .i64 0))),none,6,[]⟩]) (RC.block 0 (RC.loop R.por_line_ids_l0))) R.por_line_ids_s1)))
theorem por_line_ids_ok : chkFunc Go.Proofs.Tryz.prog [0] Go.Proofs.Tryz.f85 por_line_ids = true := by kernel_rfl
def slices_Clip__int_int : RFunc := RFunc.mk 9 [.tmp 2] (
  RC.seq (RC.region 1 [
  ⟨some 2,.move (.c (.s (.slice none 0 0 1))),none,0,[]⟩]) (RC.seq (RC.region 7 [
  ⟨some 3,.move (.t 0),none,0,[]⟩,
  ⟨some 4,.move (.t 0),none,1,[]⟩,
  ⟨some 5,.len (.t 4),none,2,[]⟩,
  ⟨some 6,.move (.t 0),none,3,[]⟩,
  ⟨some 7,.len (.t 6),none,4,[]⟩,
  ⟨some 8,.slSl 1 (.t 3) none (some (.t 5)) (some (.t 7)),none,5,[]⟩,
  ⟨some 2,.move (.t 8),none,6,[]⟩]) (RC.ret)))
theorem slices_Clip__int_int_ok : chkFunc Go.Proofs.Tryz.prog [0] Go.Proofs.Tryz.f86 slices_Clip__int_int = true := by kernel_rfl
def kern_New_l0 : RC :=
  RC.seq (RC.region 1 [
  ⟨some 51,.bin .lss (.t 50) (.t 49),none,0,[]⟩]) (RC.seq (RC.cond (.t 51) (RC.skip) (RC.exit 0)) (RC.seq (RC.block 1 (RC.seq (RC.region 4 [
  ⟨some 52,.indexSl 4 (.t 48) (.t 50),none,0,[]⟩,
  ⟨some 53,.load (some 4) (.t 52),none,1,[]⟩,
  ⟨some 9,.newc [.int .i64 0,.int .i64 0,.bool false,.bool false],none,2,[]⟩,
  ⟨none,.store 4 (.t 9) (.t 53),none,3,[]⟩]) (RC.region 13 [
  ⟨some 54,.move (.t 7),none,0,[]⟩,
  ⟨some 55,.nilCheck (.t 54),none,1,[]⟩,
  ⟨some 56,.fieldAddr 7 (.t 55),none,2,[]⟩,
  ⟨some 57,.load none (.t 56),none,3,[]⟩,
  ⟨some 58,.fieldAddr 0 (.t 9),none,4,[]⟩,
  ⟨some 59,.load none (.t 58),none,5,[]⟩,
  ⟨some 60,.fieldAddr 1 (.t 9),none,6,[]⟩,
  ⟨some 61,.load none (.t 60),none,7,[]⟩,
  ⟨some 62,.fieldAddr 2 (.t 9),none,8,[]⟩,
  ⟨some 63,.load none (.t 62),none,9,[]⟩,
  ⟨some 64,.fieldAddr 3 (.t 9),none,10,[]⟩,
  ⟨some 65,.load none (.t 64),none,11,[]⟩,
  ⟨some 66,.call F.cyc_Hands_Cyclic [(.t 57),(.t 59),(.t 61),(.t 63),(.t 65)],none,12,[]⟩]))) (RC.region 2 [
  ⟨some 67,.bin .add (.t 50) (.c (.s (.int .i64 1))),none,0,[]⟩,
  ⟨some 50,.move (.t 67),none,1,[]⟩])))
def kern_New_l1 : RC :=
  RC.seq (RC.region 1 [
  ⟨some 71,.bin .lss (.t 70) (.t 69),none,0,[]⟩]) (RC.seq (RC.cond (.t 71) (RC.skip) (RC.exit 2)) (RC.seq (RC.block 3 (RC.region 5 [
  ⟨some 72,.move (.t 7),none,0,[]⟩,
  ⟨some 73,.nilCheck (.t 72),none,1,[]⟩,
  ⟨some 74,.fieldAddr 7 (.t 73),none,2,[]⟩,
  ⟨some 75,.load none (.t 74),none,3,[]⟩,
  ⟨some 76,.call F.cyc_Hands_Alarm [(.t 75)],none,4,[]⟩])) (RC.region 2 [
  ⟨some 77,.bin .add (.t 70) (.c (.s (.int .i64 1))),none,0,[]⟩,
  ⟨some 70,.move (.t 77),none,1,[]⟩])))
def kern_New_l2 : RC :=
  RC.seq (RC.region 1 [
  ⟨some 82,.bin .lss (.t 81) (.t 80),none,0,[]⟩]) (RC.seq (RC.cond (.t 82) (RC.skip) (RC.exit 4)) (RC.seq (RC.block 5 (RC.seq (RC.region 6 [
  ⟨some 83,.move (.t 81),none,0,[]⟩,
  ⟨some 84,.indexSl 2 (.t 79) (.t 81),none,1,[]⟩,
  ⟨some 85,.load (some 2) (.t 84),none,2,[]⟩,
  ⟨some 11,.newc [.int .i64 0,.bool false],none,3,[]⟩,
  ⟨some 10,.move (.t 83),none,4,[]⟩,
  ⟨none,.store 2 (.t 11) (.t 85),none,5,[]⟩]) (RC.seq (RC.region 10 [
  ⟨some 86,.move (.t 7),none,0,[]⟩,
  ⟨some 87,.nilCheck (.t 86),none,1,[]⟩,
  ⟨some 88,.fieldAddr 0 (.t 87),none,2,[]⟩,
  ⟨some 89,.fieldAddr 5 (.t 88),none,3,[]⟩,
  ⟨some 90,.load none (.t 89),none,4,[]⟩,
  ⟨some 91,.move (.t 10),none,5,[]⟩,
  ⟨some 92,.bin .add (.t 91) (.c (.s (.int .i64 1))),none,6,[]⟩,
  ⟨some 93,.fieldAddr 0 (.t 11),none,7,[]⟩,
  ⟨some 94,.load none (.t 93),none,8,[]⟩,
  ⟨some 95,.call F.mtx_All_SetBase [(.t 90),(.t 92),(.t 94)],none,9,[]⟩]) (RC.region 17 [
  ⟨some 96,.move (.t 7),none,0,[]⟩,
  ⟨some 97,.move (.t 7),none,1,[]⟩,
  ⟨some 98,.nilCheck (.t 97),none,2,[]⟩,
  ⟨some 99,.fieldAddr 9 (.t 98),none,3,[]⟩,
  ⟨some 100,.load none (.t 99),none,4,[]⟩,
  ⟨some 102,.fieldAddr 0 (.t 11),none,6,[]⟩,
  ⟨some 103,.load none (.t 102),none,7,[]⟩,
  ⟨some 104,.fieldAddr 0 (.t 11),none,8,[]⟩,
  ⟨some 105,.load none (.t 104),none,9,[]⟩,
  ⟨some 101,.call F.tcb_New [],none,5,[⟨100,none,(.t 99),none⟩,⟨103,none,(.t 102),none⟩,⟨105,none,(.t 104),none⟩]⟩,
  ⟨some 106,.build [.ptr none,.int .i64 0,.int .i64 0,.int .i64 0,.int .i64 0,.int .i64 0,.int .i64 0,.int .i64 0] [(0,1,(.t 101)),(1,1,(.t 103)),(2,1,(.t 105))],none,10,[]⟩,
  ⟨some 107,.box (.t 106),none,11,[]⟩,
  ⟨some 108,.buildSlice 1 1 [.ptr none] [(0,1,(.t 107))],none,12,[]⟩,
  ⟨some 109,.append 1 8 (.t 100) (.t 108),none,13,[]⟩,
  ⟨some 110,.nilCheck (.t 96),none,14,[]⟩,
  ⟨some 111,.fieldAddr 9 (.t 110),none,15,[]⟩,
  ⟨none,.store 1 (.t 111) (.t 109),none,16,[]⟩])))) (RC.region 2 [
  ⟨some 112,.bin .add (.t 81) (.c (.s (.int .i64 1))),none,0,[]⟩,
  ⟨some 81,.move (.t 112),none,1,[]⟩])))
def kern_New_l3 : RC :=
  RC.seq (RC.region 1 [
  ⟨some 117,.bin .lss (.t 116) (.t 115),none,0,[]⟩]) (RC.seq (RC.cond (.t 117) (RC.skip) (RC.exit 6)) (RC.seq (RC.block 7 (RC.seq (RC.region 6 [
  ⟨some 118,.move (.t 116),none,0,[]⟩,
  ⟨some 119,.indexSl 2 (.t 114) (.t 116),none,1,[]⟩,
  ⟨some 120,.load (some 2) (.t 119),none,2,[]⟩,
  ⟨some 13,.newc [.int .i64 0,.bool false],none,3,[]⟩,
  ⟨some 12,.move (.t 118),none,4,[]⟩,
  ⟨none,.store 2 (.t 13) (.t 120),none,5,[]⟩]) (RC.seq (RC.region 2 [
  ⟨some 121,.fieldAddr 1 (.t 13),none,0,[]⟩,
  ⟨some 122,.load none (.t 121),none,1,[]⟩]) (RC.cond (.t 122) (RC.region 4 [
  ⟨some 123,.move (.t 7),none,0,[]⟩,
  ⟨some 124,.move (.t 12),none,1,[]⟩,
  ⟨some 125,.bin .add (.t 124) (.c (.s (.int .i64 1))),none,2,[]⟩,
  ⟨some 126,.call F.kern_Kernel_act [(.t 123),(.t 125)],none,3,[]⟩]) (RC.skip))))) (RC.region 2 [
  ⟨some 127,.bin .add (.t 116) (.c (.s (.int .i64 1))),none,0,[]⟩,
  ⟨some 116,.move (.t 127),none,1,[]⟩])))
def kern_New_s4 : RC :=
  RC.seq (RC.region 2 [
  ⟨some 128,.move (.t 7),none,0,[]⟩,
  ⟨some 129,.call F.kern_Kernel_choose [(.t 128)],none,1,[]⟩]) (RC.seq (RC.region 3 [
  ⟨some 130,.move (.t 7),none,0,[]⟩,
  ⟨some 2,.move (.t 130),none,1,[]⟩,
  ⟨some 3,.move (.c (.s (.int .i64 0))),none,2,[]⟩]) (RC.ret))
def kern_New_s5 : RC :=
  RC.seq (RC.seq (RC.region 4 [
  ⟨some 113,.fieldAddr 1 (.t 1),none,0,[]⟩,
  ⟨some 114,.load none (.t 113),none,1,[]⟩,
  ⟨some 115,.len (.t 114),none,2,[]⟩,
  ⟨some 116,.move (.c (.s (.int .i64 0))),none,3,[]⟩]) (RC.block 6 (RC.loop R.kern_New_l3))) R.kern_New_s4
def kern_New_s6 : RC :=
  RC.seq (RC.seq (RC.region 4 [
  ⟨some 78,.fieldAddr 1 (.t 1),none,0,[]⟩,
  ⟨some 79,.load none (.t 78),none,1,[]⟩,
  ⟨some 80,.len (.t 79),none,2,[]⟩,
  ⟨some 81,.move (.c (.s (.int .i64 0))),none,3,[]⟩]) (RC.block 4 (RC.loop R.kern_New_l2))) R.kern_New_s5
def kern_New_s7 : RC :=
  RC.seq (RC.seq (RC.region 3 [
  ⟨some 68,.fieldAddr 8 (.t 1),none,0,[]⟩,
  ⟨some 69,.load none (.t 68),none,1,[]⟩,
  ⟨some 70,.move (.c (.s (.int .i64 0))),none,2,[]⟩]) (RC.block 2 (RC.loop R.kern_New_l1))) R.kern_New_s6
def kern_New : RFunc := RFunc.mk 131 [.tmp 2,.tmp 3] (
  RC.seq (RC.region 3 [
  ⟨some 1,.box (.t 0),none,0,[]⟩,
  ⟨some 2,.move (.c (.s (.ptr none))),none,1,[]⟩,
  ⟨some 3,.move (.c (.s (.int .i64 0))),none,2,[]⟩]) (RC.seq (RC.seq (RC.region 9 [
  ⟨some 15,.load (some 9) (.t 1),none,0,[]⟩,
  ⟨some 16,.call F.conf_Check [(.t 15)],none,1,[]⟩,
  ⟨some 14,.move (.t 16),none,2,[]⟩,
  ⟨some 17,.extract 0 (.t 14),none,3,[]⟩,
  ⟨some 18,.extract 1 (.t 14),none,4,[]⟩,
  ⟨some 19,.extract 2 (.t 14),none,5,[]⟩,
  ⟨some 4,.move (.t 17),none,6,[]⟩,
  ⟨some 5,.move (.t 18),none,7,[]⟩,
  ⟨some 6,.move (.t 19),none,8,[]⟩]) (RC.seq (RC.region 2 [
  ⟨some 20,.move (.t 6),none,0,[]⟩,
  ⟨some 21,.bin .neq (.t 20) (.c (.s (.int .i64 0))),none,1,[]⟩]) (RC.cond (.t 21) (RC.seq (RC.region 3 [
  ⟨some 22,.move (.t 6),none,0,[]⟩,
  ⟨some 2,.move (.c (.s (.ptr none))),none,1,[]⟩,
  ⟨some 3,.move (.t 22),none,2,[]⟩]) (RC.ret)) (RC.skip)))) (RC.seq (RC.region 11 [
  ⟨some 26,.fieldAddr 7 (.t 1),none,3,[]⟩,
  ⟨some 27,.load none (.t 26),none,4,[]⟩,
  ⟨some 28,.len (.t 27),none,5,[]⟩,
  ⟨some 29,.fieldAddr 8 (.t 1),none,6,[]⟩,
  ⟨some 30,.load none (.t 29),none,7,[]⟩,
  ⟨some 23,.call F.ctx_New [],none,0,[⟨27,none,(.t 26),none⟩,⟨30,none,(.t 29),none⟩]⟩,
  ⟨some 24,.call F.ready_New [],none,1,[⟨27,none,(.t 26),none⟩,⟨30,none,(.t 29),none⟩]⟩,
  ⟨some 25,.buildSlice 1 1 [.ptr none] [(0,1,(.c (.s (.ptr none))))],none,2,[]⟩,
  ⟨some 31,.build [.slice none 0 0 1,.slice none 0 0 1,.slice none 0 0 1,.slice none 0 0 1,.int .i64 0,.ptr none,.ptr none,.ptr none,.ptr none,.slice none 0 0 1,.int .i64 0,.int .i64 0,.int .i64 0] [(6,1,(.t 23)),(8,1,(.t 24)),(9,1,(.t 25)),(10,1,(.t 28)),(11,1,(.t 30))],none,8,[]⟩,
  ⟨some 32,.box (.t 31),none,9,[]⟩,
  ⟨some 7,.move (.t 32),none,10,[]⟩]) (RC.seq (RC.region 5 [
  ⟨some 33,.move (.t 7),none,0,[]⟩,
  ⟨some 34,.nilCheck (.t 33),none,1,[]⟩,
  ⟨some 35,.fieldAddr 0 (.t 34),none,2,[]⟩,
  ⟨some 36,.load (some 9) (.t 1),none,3,[]⟩,
  ⟨some 37,.call F.kern_objects_build [(.t 35),(.t 36)],none,4,[]⟩]) (RC.seq (RC.region 10 [
  ⟨some 39,.move (.t 7),none,0,[]⟩,
  ⟨some 40,.fieldAddr 0 (.t 1),none,1,[]⟩,
  ⟨some 41,.load none (.t 40),none,2,[]⟩,
  ⟨some 42,.call F.cyc_NewHands [(.t 41)],none,3,[]⟩,
  ⟨some 38,.move (.t 42),none,4,[]⟩,
  ⟨some 43,.extract 0 (.t 38),none,5,[]⟩,
  ⟨some 44,.extract 1 (.t 38),none,6,[]⟩,
  ⟨some 45,.nilCheck (.t 39),none,7,[]⟩,
  ⟨some 46,.fieldAddr 7 (.t 45),none,8,[]⟩,
  ⟨none,.store 1 (.t 46) (.t 43),none,9,[]⟩]) (RC.seq (RC.seq (RC.region 4 [
  ⟨some 47,.fieldAddr 7 (.t 1),none,0,[]⟩,
  ⟨some 48,.load none (.t 47),none,1,[]⟩,
  ⟨some 49,.len (.t 48),none,2,[]⟩,
  ⟨some 50,.move (.c (.s (.int .i64 0))),none,3,[]⟩]) (RC.block 0 (RC.loop R.kern_New_l0))) R.kern_New_s7))))))
theorem kern_New_ok : chkFunc Go.Proofs.Tryz.prog [0] Go.Proofs.Tryz.f44 kern_New = true := by kernel_rfl
def kern_Kernel_Do_s0 : RC :=
  RC.seq (RC.region 2 [
  ⟨some 80,.move (.t 0),none,0,[]⟩,
  ⟨some 81,.call F.kern_Kernel_choose [(.t 80)],none,1,[]⟩]) (RC.seq (RC.region 2 [
  ⟨some 82,.load (some 2) (.t 6),none,0,[]⟩,
  ⟨none,.store 2 (.t 4) (.t 82),none,1,[]⟩]) (RC.ret))
def kern_Kernel_Do : RFunc := RFunc.mk 83 [.cell 4 (some 2)] (
  RC.seq (RC.region 2 [
  ⟨some 3,.box (.t 1),none,0,[]⟩,
  ⟨some 4,.newc [.int .i64 0,.int .i64 0],none,1,[]⟩]) (RC.seq (RC.seq (RC.region 4 [
  ⟨some 7,.fieldAddr 0 (.t 3),none,0,[]⟩,
  ⟨some 8,.load none (.t 7),none,1,[]⟩,
  ⟨some 9,.call F.calls_Known [(.t 8)],none,2,[]⟩,
  ⟨some 10,.un .not (.t 9),none,3,[]⟩]) (RC.cond (.t 10) (RC.seq (RC.region 2 [
  ⟨some 11,.call F.kern_say [(.c (.s (.int .i64 (-10)))),(.c (.s (.slice none 0 0 1)))],none,0,[]⟩,
  ⟨none,.store 2 (.t 4) (.t 11),none,1,[]⟩]) (RC.ret)) (RC.skip))) (RC.seq (RC.seq (RC.region 13 [
  ⟨some 12,.move (.t 0),none,0,[]⟩,
  ⟨some 13,.nilCheck (.t 12),none,1,[]⟩,
  ⟨some 14,.fieldAddr 6 (.t 13),none,2,[]⟩,
  ⟨some 15,.load none (.t 14),none,3,[]⟩,
  ⟨some 16,.load (some 5) (.t 3),none,4,[]⟩,
  ⟨some 18,.move (.t 0),none,6,[]⟩,
  ⟨some 19,.nilCheck (.t 18),none,7,[]⟩,
  ⟨some 20,.fieldAddr 12 (.t 19),none,8,[]⟩,
  ⟨some 21,.load none (.t 20),none,9,[]⟩,
  ⟨some 22,.bin .eql (.t 21) (.c (.s (.int .i64 0))),none,10,[]⟩,
  ⟨some 17,.call F.calls_Kind [(.t 16)],none,5,[⟨15,none,(.t 14),none⟩,⟨21,none,(.t 20),none⟩]⟩,
  ⟨some 23,.call F.ctx_Place_May [(.t 15),(.t 17),(.t 22)],none,11,[]⟩,
  ⟨some 5,.move (.t 23),none,12,[]⟩]) (RC.seq (RC.region 2 [
  ⟨some 24,.move (.t 5),none,0,[]⟩,
  ⟨some 25,.bin .neq (.t 24) (.c (.s (.int .i64 0))),none,1,[]⟩]) (RC.cond (.t 25) (RC.seq (RC.region 3 [
  ⟨some 26,.move (.t 5),none,0,[]⟩,
  ⟨some 27,.call F.kern_say [(.t 26),(.c (.s (.slice none 0 0 1)))],none,1,[]⟩,
  ⟨none,.store 2 (.t 4) (.t 27),none,2,[]⟩]) (RC.ret)) (RC.skip)))) (RC.seq (RC.region 1 [
  ⟨some 6,.newc [.int .i64 0,.int .i64 0],none,0,[]⟩]) (RC.seq (RC.block 0 (RC.seq (RC.region 4 [
  ⟨some 32,.fieldAddr 0 (.t 3),none,0,[]⟩,
  ⟨some 33,.load none (.t 32),none,1,[]⟩,
  ⟨some 34,.bin .leq (.t 33) (.c (.s (.int .i64 22))),none,2,[]⟩,
  ⟨some 31,.move (.t 34),none,3,[]⟩]) (RC.cond (.t 31) (RC.region 4 [
  ⟨some 35,.move (.t 0),none,0,[]⟩,
  ⟨some 36,.load (some 5) (.t 3),none,1,[]⟩,
  ⟨some 37,.call F.kern_Kernel_tasks [(.t 35),(.t 36)],none,2,[]⟩,
  ⟨none,.store 2 (.t 6) (.t 37),none,3,[]⟩]) (RC.seq (RC.region 4 [
  ⟨some 39,.fieldAddr 0 (.t 3),none,0,[]⟩,
  ⟨some 40,.load none (.t 39),none,1,[]⟩,
  ⟨some 41,.bin .leq (.t 40) (.c (.s (.int .i64 27))),none,2,[]⟩,
  ⟨some 38,.move (.t 41),none,3,[]⟩]) (RC.cond (.t 38) (RC.region 4 [
  ⟨some 42,.move (.t 0),none,0,[]⟩,
  ⟨some 43,.load (some 5) (.t 3),none,1,[]⟩,
  ⟨some 44,.call F.kern_Kernel_sem [(.t 42),(.t 43)],none,2,[]⟩,
  ⟨none,.store 2 (.t 6) (.t 44),none,3,[]⟩]) (RC.seq (RC.region 4 [
  ⟨some 46,.fieldAddr 0 (.t 3),none,0,[]⟩,
  ⟨some 47,.load none (.t 46),none,1,[]⟩,
  ⟨some 48,.bin .leq (.t 47) (.c (.s (.int .i64 33))),none,2,[]⟩,
  ⟨some 45,.move (.t 48),none,3,[]⟩]) (RC.cond (.t 45) (RC.region 4 [
  ⟨some 49,.move (.t 0),none,0,[]⟩,
  ⟨some 50,.load (some 5) (.t 3),none,1,[]⟩,
  ⟨some 51,.call F.kern_Kernel_flag [(.t 49),(.t 50)],none,2,[]⟩,
  ⟨none,.store 2 (.t 6) (.t 51),none,3,[]⟩]) (RC.seq (RC.region 4 [
  ⟨some 53,.fieldAddr 0 (.t 3),none,0,[]⟩,
  ⟨some 54,.load none (.t 53),none,1,[]⟩,
  ⟨some 55,.bin .leq (.t 54) (.c (.s (.int .i64 42))),none,2,[]⟩,
  ⟨some 52,.move (.t 55),none,3,[]⟩]) (RC.cond (.t 52) (RC.region 4 [
  ⟨some 56,.move (.t 0),none,0,[]⟩,
  ⟨some 57,.load (some 5) (.t 3),none,1,[]⟩,
  ⟨some 58,.call F.kern_Kernel_data [(.t 56),(.t 57)],none,2,[]⟩,
  ⟨none,.store 2 (.t 6) (.t 58),none,3,[]⟩]) (RC.seq (RC.region 4 [
  ⟨some 60,.fieldAddr 0 (.t 3),none,0,[]⟩,
  ⟨some 61,.load none (.t 60),none,1,[]⟩,
  ⟨some 62,.bin .leq (.t 61) (.c (.s (.int .i64 46))),none,2,[]⟩,
  ⟨some 59,.move (.t 62),none,3,[]⟩]) (RC.cond (.t 59) (RC.region 4 [
  ⟨some 63,.move (.t 0),none,0,[]⟩,
  ⟨some 64,.load (some 5) (.t 3),none,1,[]⟩,
  ⟨some 65,.call F.kern_Kernel_mutex [(.t 63),(.t 64)],none,2,[]⟩,
  ⟨none,.store 2 (.t 6) (.t 65),none,3,[]⟩]) (RC.seq (RC.region 4 [
  ⟨some 67,.fieldAddr 0 (.t 3),none,0,[]⟩,
  ⟨some 68,.load none (.t 67),none,1,[]⟩,
  ⟨some 69,.bin .leq (.t 68) (.c (.s (.int .i64 50))),none,2,[]⟩,
  ⟨some 66,.move (.t 69),none,3,[]⟩]) (RC.cond (.t 66) (RC.region 4 [
  ⟨some 70,.move (.t 0),none,0,[]⟩,
  ⟨some 71,.load (some 5) (.t 3),none,1,[]⟩,
  ⟨some 72,.call F.kern_Kernel_block [(.t 70),(.t 71)],none,2,[]⟩,
  ⟨none,.store 2 (.t 6) (.t 72),none,3,[]⟩]) (RC.seq (RC.region 4 [
  ⟨some 74,.fieldAddr 0 (.t 3),none,0,[]⟩,
  ⟨some 75,.load none (.t 74),none,1,[]⟩,
  ⟨some 76,.bin .leq (.t 75) (.c (.s (.int .i64 56))),none,2,[]⟩,
  ⟨some 73,.move (.t 76),none,3,[]⟩]) (RC.cond (.t 73) (RC.region 4 [
  ⟨some 77,.move (.t 0),none,0,[]⟩,
  ⟨some 78,.load (some 5) (.t 3),none,1,[]⟩,
  ⟨some 79,.call F.kern_Kernel_time [(.t 77),(.t 78)],none,2,[]⟩,
  ⟨none,.store 2 (.t 6) (.t 79),none,3,[]⟩]) (RC.region 4 [
  ⟨some 28,.move (.t 0),none,0,[]⟩,
  ⟨some 29,.load (some 5) (.t 3),none,1,[]⟩,
  ⟨some 30,.call F.kern_Kernel_state [(.t 28),(.t 29)],none,2,[]⟩,
  ⟨none,.store 2 (.t 6) (.t 30),none,3,[]⟩])))))))))))))))) R.kern_Kernel_Do_s0)))))
theorem kern_Kernel_Do_ok : chkFunc Go.Proofs.Tryz.prog [0] Go.Proofs.Tryz.f16 kern_Kernel_Do = true := by kernel_rfl
def calls_Make : RFunc := RFunc.mk 13 [.cell 4 (some 5)] (
  RC.seq (RC.region 1 [
  ⟨some 4,.newc [.int .i64 0,.int .i64 0,.int .i64 0,.int .i64 0,.int .i64 0],none,0,[]⟩]) (RC.seq (RC.region 4 [
  ⟨some 6,.move (.t 0),none,0,[]⟩,
  ⟨some 7,.build [.int .i64 0,.int .i64 0,.int .i64 0,.int .i64 0,.int .i64 0] [(0,1,(.t 6))],none,1,[]⟩,
  ⟨some 5,.newc [.int .i64 0,.int .i64 0,.int .i64 0,.int .i64 0,.int .i64 0],none,2,[]⟩,
  ⟨none,.store 5 (.t 5) (.t 7),none,3,[]⟩]) (RC.seq (RC.region 4 [
  ⟨some 8,.fieldAddr 1 (.t 5),none,0,[]⟩,
  ⟨some 9,.hop (.slArr 4 1) [(.t 8)],none,1,[]⟩,
  ⟨some 10,.move (.t 1),none,2,[]⟩,
  ⟨some 11,.copy 1 (.t 9) (.t 10),none,3,[]⟩]) (RC.seq (RC.region 2 [
  ⟨some 12,.load (some 5) (.t 5),none,0,[]⟩,
  ⟨none,.store 5 (.t 4) (.t 12),none,1,[]⟩]) (RC.ret)))))
theorem calls_Make_ok : chkFunc Go.Proofs.Tryz.prog [0] Go.Proofs.Tryz.f17 calls_Make = true := by kernel_rfl
def kern_Kernel_choose : RFunc := RFunc.mk 20 [] (
  RC.seq (RC.region 7 [
  ⟨some 2,.move (.t 0),none,0,[]⟩,
  ⟨some 3,.nilCheck (.t 2),none,1,[]⟩,
  ⟨some 4,.fieldAddr 6 (.t 3),none,2,[]⟩,
  ⟨some 5,.load none (.t 4),none,3,[]⟩,
  ⟨some 6,.nilCheck (.t 5),none,4,[]⟩,
  ⟨some 7,.fieldAddr 0 (.t 6),none,5,[]⟩,
  ⟨some 8,.call F.ctx_state_Dispatch [(.t 7)],none,6,[]⟩]) (RC.cond (.t 8) (RC.region 12 [
  ⟨some 10,.move (.t 0),none,0,[]⟩,
  ⟨some 11,.move (.t 0),none,1,[]⟩,
  ⟨some 12,.nilCheck (.t 11),none,2,[]⟩,
  ⟨some 13,.fieldAddr 8 (.t 12),none,3,[]⟩,
  ⟨some 14,.load none (.t 13),none,4,[]⟩,
  ⟨some 15,.call F.ready_Queue_First [(.t 14)],none,5,[]⟩,
  ⟨some 9,.move (.t 15),none,6,[]⟩,
  ⟨some 16,.extract 0 (.t 9),none,7,[]⟩,
  ⟨some 17,.extract 1 (.t 9),none,8,[]⟩,
  ⟨some 18,.nilCheck (.t 10),none,9,[]⟩,
  ⟨some 19,.fieldAddr 12 (.t 18),none,10,[]⟩,
  ⟨none,.store 1 (.t 19) (.t 16),none,11,[]⟩]) (RC.skip)))
theorem kern_Kernel_choose_ok : chkFunc Go.Proofs.Tryz.prog [0] Go.Proofs.Tryz.f63 kern_Kernel_choose = true := by kernel_rfl
def cyc_Hands_Pass_l0 : RC :=
  RC.seq (RC.seq (RC.region 12 [
  ⟨some 35,.move (.t 8),none,0,[]⟩,
  ⟨some 36,.nilCheck (.t 35),none,1,[]⟩,
  ⟨some 37,.fieldAddr 3 (.t 36),none,2,[]⟩,
  ⟨some 38,.load none (.t 37),none,3,[]⟩,
  ⟨some 39,.move (.t 38),none,4,[]⟩,
  ⟨some 40,.move (.t 8),(some (39,true)),5,[]⟩,
  ⟨some 41,.nilCheck (.t 40),(some (39,true)),6,[]⟩,
  ⟨some 42,.fieldAddr 1 (.t 41),(some (39,true)),7,[]⟩,
  ⟨some 43,.load none (.t 42),(some (39,true)),8,[]⟩,
  ⟨some 44,.move (.t 5),(some (39,true)),9,[]⟩,
  ⟨some 45,.bin .leq (.t 43) (.t 44),(some (39,true)),10,[]⟩,
  ⟨some 46,.pick (.t 39) (.t 45) (.c (.s (.bool false))),none,11,[]⟩]) (RC.cond (.t 46) (RC.skip) (RC.exit 2))) (RC.seq (RC.block 3 (RC.region 11 [
  ⟨some 58,.move (.t 6),none,0,[]⟩,
  ⟨some 59,.move (.t 7),none,1,[]⟩,
  ⟨some 60,.bin .add (.t 59) (.c (.s (.int .i64 1))),none,2,[]⟩,
  ⟨some 61,.move (.t 8),none,3,[]⟩,
  ⟨some 62,.nilCheck (.t 61),none,4,[]⟩,
  ⟨some 63,.fieldAddr 1 (.t 62),none,5,[]⟩,
  ⟨some 64,.load none (.t 63),none,6,[]⟩,
  ⟨some 65,.build [.bool false,.int .i64 0,.int .u64 0] [(0,1,(.c (.s (.bool true)))),(1,1,(.t 60)),(2,1,(.t 64))],none,7,[]⟩,
  ⟨some 66,.buildSlice 3 1 [.bool false,.int .i64 0,.int .u64 0] [(0,3,(.t 65))],none,8,[]⟩,
  ⟨some 67,.append 3 24 (.t 58) (.t 66),none,9,[]⟩,
  ⟨some 6,.move (.t 67),none,10,[]⟩])) (RC.region 12 [
  ⟨some 47,.move (.t 8),none,0,[]⟩,
  ⟨some 48,.nilCheck (.t 47),none,1,[]⟩,
  ⟨some 49,.fieldAddr 1 (.t 48),none,2,[]⟩,
  ⟨some 50,.load none (.t 49),none,3,[]⟩,
  ⟨some 51,.move (.t 8),none,4,[]⟩,
  ⟨some 52,.nilCheck (.t 51),none,5,[]⟩,
  ⟨some 53,.fieldAddr 2 (.t 52),none,6,[]⟩,
  ⟨some 54,.load none (.t 53),none,7,[]⟩,
  ⟨some 55,.bin .add (.t 50) (.t 54),none,8,[]⟩,
  ⟨some 56,.nilCheck (.t 47),none,9,[]⟩,
  ⟨some 57,.fieldAddr 1 (.t 56),none,10,[]⟩,
  ⟨none,.store 1 (.t 57) (.t 55),none,11,[]⟩]))
def cyc_Hands_Pass_s1 : RC :=
  RC.region 2 [
  ⟨some 68,.bin .add (.t 26) (.c (.s (.int .i64 1))),none,0,[]⟩,
  ⟨some 26,.move (.t 68),none,1,[]⟩]
def cyc_Hands_Pass_l2 : RC :=
  RC.seq (RC.region 1 [
  ⟨some 27,.bin .lss (.t 26) (.t 25),none,0,[]⟩]) (RC.seq (RC.cond (.t 27) (RC.skip) (RC.exit 0)) (RC.seq (RC.block 1 (RC.seq (RC.region 2 [
  ⟨some 28,.move (.t 26),none,0,[]⟩,
  ⟨some 7,.move (.t 28),none,1,[]⟩]) (RC.seq (RC.region 7 [
  ⟨some 29,.move (.t 0),none,0,[]⟩,
  ⟨some 30,.nilCheck (.t 29),none,1,[]⟩,
  ⟨some 31,.fieldAddr 2 (.t 30),none,2,[]⟩,
  ⟨some 32,.load none (.t 31),none,3,[]⟩,
  ⟨some 33,.move (.t 7),none,4,[]⟩,
  ⟨some 34,.indexSl 5 (.t 32) (.t 33),none,5,[]⟩,
  ⟨some 8,.move (.t 34),none,6,[]⟩]) (RC.block 2 (RC.loop R.cyc_Hands_Pass_l0))))) R.cyc_Hands_Pass_s1))
def cyc_Hands_Pass_l3 : RC :=
  RC.seq (RC.region 1 [
  ⟨some 75,.bin .lss (.t 74) (.t 73),none,0,[]⟩]) (RC.seq (RC.cond (.t 75) (RC.skip) (RC.exit 4)) (RC.seq (RC.block 5 (RC.seq (RC.region 2 [
  ⟨some 76,.move (.t 74),none,0,[]⟩,
  ⟨some 9,.move (.t 76),none,1,[]⟩]) (RC.seq (RC.region 7 [
  ⟨some 77,.move (.t 0),none,0,[]⟩,
  ⟨some 78,.nilCheck (.t 77),none,1,[]⟩,
  ⟨some 79,.fieldAddr 3 (.t 78),none,2,[]⟩,
  ⟨some 80,.load none (.t 79),none,3,[]⟩,
  ⟨some 81,.move (.t 9),none,4,[]⟩,
  ⟨some 82,.indexSl 2 (.t 80) (.t 81),none,5,[]⟩,
  ⟨some 10,.move (.t 82),none,6,[]⟩]) (RC.seq (RC.region 12 [
  ⟨some 83,.move (.t 10),none,0,[]⟩,
  ⟨some 84,.nilCheck (.t 83),none,1,[]⟩,
  ⟨some 85,.fieldAddr 0 (.t 84),none,2,[]⟩,
  ⟨some 86,.load none (.t 85),none,3,[]⟩,
  ⟨some 87,.move (.t 86),none,4,[]⟩,
  ⟨some 88,.move (.t 10),(some (87,true)),5,[]⟩,
  ⟨some 89,.nilCheck (.t 88),(some (87,true)),6,[]⟩,
  ⟨some 90,.fieldAddr 1 (.t 89),(some (87,true)),7,[]⟩,
  ⟨some 91,.load none (.t 90),(some (87,true)),8,[]⟩,
  ⟨some 92,.move (.t 5),(some (87,true)),9,[]⟩,
  ⟨some 93,.bin .leq (.t 91) (.t 92),(some (87,true)),10,[]⟩,
  ⟨some 94,.pick (.t 87) (.t 93) (.c (.s (.bool false))),none,11,[]⟩]) (RC.cond (.t 94) (RC.seq (RC.region 11 [
  ⟨some 95,.move (.t 6),none,0,[]⟩,
  ⟨some 96,.move (.t 9),none,1,[]⟩,
  ⟨some 97,.bin .add (.t 96) (.c (.s (.int .i64 1))),none,2,[]⟩,
  ⟨some 98,.move (.t 10),none,3,[]⟩,
  ⟨some 99,.nilCheck (.t 98),none,4,[]⟩,
  ⟨some 100,.fieldAddr 1 (.t 99),none,5,[]⟩,
  ⟨some 101,.load none (.t 100),none,6,[]⟩,
  ⟨some 102,.build [.bool false,.int .i64 0,.int .u64 0] [(0,1,(.c (.s (.bool false)))),(1,1,(.t 97)),(2,1,(.t 101))],none,7,[]⟩,
  ⟨some 103,.buildSlice 3 1 [.bool false,.int .i64 0,.int .u64 0] [(0,3,(.t 102))],none,8,[]⟩,
  ⟨some 104,.append 3 24 (.t 95) (.t 103),none,9,[]⟩,
  ⟨some 6,.move (.t 104),none,10,[]⟩]) (RC.region 4 [
  ⟨some 105,.move (.t 10),none,0,[]⟩,
  ⟨some 106,.build [.bool false,.int .u64 0] [],none,1,[]⟩,
  ⟨some 107,.nilCheck (.t 105),none,2,[]⟩,
  ⟨none,.store 2 (.t 107) (.t 106),none,3,[]⟩])) (RC.skip)))))) (RC.region 2 [
  ⟨some 108,.bin .add (.t 74) (.c (.s (.int .i64 1))),none,0,[]⟩,
  ⟨some 74,.move (.t 108),none,1,[]⟩])))
def cyc_Hands_Pass_s4 : RC :=
  RC.seq (RC.region 2 [
  ⟨some 109,.move (.t 6),none,0,[]⟩,
  ⟨some 110,.call F.slices_SortStableFunc__cyc_Fired_cyc_Fired [(.t 109),(.c (.s (.fn F.cyc_order [])))],none,1,[]⟩]) (RC.seq (RC.region 5 [
  ⟨some 111,.move (.t 6),none,0,[]⟩,
  ⟨some 112,.call F.slices_Clip__cyc_Fired_cyc_Fired [(.t 111)],none,1,[]⟩,
  ⟨some 113,.move (.t 4),none,2,[]⟩,
  ⟨some 2,.move (.t 112),none,3,[]⟩,
  ⟨some 3,.move (.t 113),none,4,[]⟩]) (RC.ret))
def cyc_Hands_Pass_s5 : RC :=
  RC.seq (RC.seq (RC.region 6 [
  ⟨some 69,.move (.t 0),none,0,[]⟩,
  ⟨some 70,.nilCheck (.t 69),none,1,[]⟩,
  ⟨some 71,.fieldAddr 3 (.t 70),none,2,[]⟩,
  ⟨some 72,.load none (.t 71),none,3,[]⟩,
  ⟨some 73,.len (.t 72),none,4,[]⟩,
  ⟨some 74,.move (.c (.s (.int .i64 0))),none,5,[]⟩]) (RC.block 4 (RC.loop R.cyc_Hands_Pass_l3))) R.cyc_Hands_Pass_s4
def cyc_Hands_Pass : RFunc := RFunc.mk 114 [.tmp 2,.tmp 3] (
  RC.seq (RC.region 2 [
  ⟨some 2,.move (.c (.s (.slice none 0 0 1))),none,0,[]⟩,
  ⟨some 3,.move (.c (.s (.slice none 0 0 1))),none,1,[]⟩]) (RC.seq (RC.region 6 [
  ⟨some 11,.move (.t 0),none,0,[]⟩,
  ⟨some 12,.nilCheck (.t 11),none,1,[]⟩,
  ⟨some 13,.fieldAddr 0 (.t 12),none,2,[]⟩,
  ⟨some 14,.load none (.t 13),none,3,[]⟩,
  ⟨some 15,.call F.clock_Clock_Tick [(.t 14)],none,4,[]⟩,
  ⟨some 4,.move (.t 15),none,5,[]⟩]) (RC.seq (RC.region 6 [
  ⟨some 16,.move (.t 0),none,0,[]⟩,
  ⟨some 17,.nilCheck (.t 16),none,1,[]⟩,
  ⟨some 18,.fieldAddr 0 (.t 17),none,2,[]⟩,
  ⟨some 19,.load none (.t 18),none,3,[]⟩,
  ⟨some 20,.call F.clock_Clock_Up [(.t 19)],none,4,[]⟩,
  ⟨some 5,.move (.t 20),none,5,[]⟩]) (RC.seq (RC.region 1 [
  ⟨some 6,.move (.c (.s (.slice none 0 0 1))),none,0,[]⟩]) (RC.seq (RC.seq (RC.region 6 [
  ⟨some 21,.move (.t 0),none,0,[]⟩,
  ⟨some 22,.nilCheck (.t 21),none,1,[]⟩,
  ⟨some 23,.fieldAddr 2 (.t 22),none,2,[]⟩,
  ⟨some 24,.load none (.t 23),none,3,[]⟩,
  ⟨some 25,.len (.t 24),none,4,[]⟩,
  ⟨some 26,.move (.c (.s (.int .i64 0))),none,5,[]⟩]) (RC.block 0 (RC.loop R.cyc_Hands_Pass_l2))) R.cyc_Hands_Pass_s5)))))
theorem cyc_Hands_Pass_ok : chkFunc Go.Proofs.Tryz.prog [0] Go.Proofs.Tryz.f64 cyc_Hands_Pass = true := by kernel_rfl
def kern_Kernel_leave_s0 : RC :=
  RC.cond (.t 53) (RC.region 14 [
  ⟨some 56,.move (.t 0),none,0,[]⟩,
  ⟨some 57,.nilCheck (.t 56),none,1,[]⟩,
  ⟨some 58,.fieldAddr 0 (.t 57),none,2,[]⟩,
  ⟨some 59,.fieldAddr 2 (.t 58),none,3,[]⟩,
  ⟨some 60,.load none (.t 59),none,4,[]⟩,
  ⟨some 61,.move (.t 4),none,5,[]⟩,
  ⟨some 62,.nilCheck (.t 61),none,6,[]⟩,
  ⟨some 63,.fieldAddr 4 (.t 62),none,7,[]⟩,
  ⟨some 64,.load none (.t 63),none,8,[]⟩,
  ⟨some 65,.bin .sub (.t 64) (.c (.s (.int .i64 1))),none,9,[]⟩,
  ⟨some 66,.indexSl 1 (.t 60) (.t 65),none,10,[]⟩,
  ⟨some 67,.load none (.t 66),none,11,[]⟩,
  ⟨some 68,.move (.t 1),none,12,[]⟩,
  ⟨some 69,.call F.dtq_Queue_Drop [(.t 67),(.t 68)],none,13,[]⟩]) (RC.seq (RC.region 2 [
  ⟨some 71,.bin .eql (.t 15) (.c (.s (.int .i64 7))),none,0,[]⟩,
  ⟨some 70,.move (.t 71),none,1,[]⟩]) (RC.cond (.t 70) (RC.region 7 [
  ⟨some 72,.move (.t 0),none,0,[]⟩,
  ⟨some 73,.nilCheck (.t 72),none,1,[]⟩,
  ⟨some 74,.fieldAddr 0 (.t 73),none,2,[]⟩,
  ⟨some 75,.fieldAddr 5 (.t 74),none,3,[]⟩,
  ⟨some 76,.load none (.t 75),none,4,[]⟩,
  ⟨some 77,.move (.t 1),none,5,[]⟩,
  ⟨some 78,.call F.mtx_All_Drop [(.t 76),(.t 77)],none,6,[]⟩]) (RC.seq (RC.region 2 [
  ⟨some 80,.bin .eql (.t 15) (.c (.s (.int .i64 8))),none,0,[]⟩,
  ⟨some 79,.move (.t 80),none,1,[]⟩]) (RC.cond (.t 79) (RC.region 19 [
  ⟨some 81,.move (.t 0),none,0,[]⟩,
  ⟨some 82,.nilCheck (.t 81),none,1,[]⟩,
  ⟨some 83,.fieldAddr 0 (.t 82),none,2,[]⟩,
  ⟨some 84,.fieldAddr 3 (.t 83),none,3,[]⟩,
  ⟨some 85,.load none (.t 84),none,4,[]⟩,
  ⟨some 86,.move (.t 4),none,5,[]⟩,
  ⟨some 87,.nilCheck (.t 86),none,6,[]⟩,
  ⟨some 88,.fieldAddr 4 (.t 87),none,7,[]⟩,
  ⟨some 89,.load none (.t 88),none,8,[]⟩,
  ⟨some 90,.bin .sub (.t 89) (.c (.s (.int .i64 1))),none,9,[]⟩,
  ⟨some 91,.indexSl 1 (.t 85) (.t 90),none,10,[]⟩,
  ⟨some 92,.load none (.t 91),none,11,[]⟩,
  ⟨some 93,.nilCheck (.t 92),none,12,[]⟩,
  ⟨some 94,.fieldAddr 0 (.t 93),none,13,[]⟩,
  ⟨some 95,.load none (.t 94),none,14,[]⟩,
  ⟨some 96,.nilCheck (.t 95),none,15,[]⟩,
  ⟨some 97,.fieldAddr 0 (.t 96),none,16,[]⟩,
  ⟨some 98,.move (.t 1),none,17,[]⟩,
  ⟨some 99,.call F.order_Line_Remove [(.t 97),(.t 98)],none,18,[]⟩]) (RC.skip)))))
def kern_Kernel_leave : RFunc := RFunc.mk 100 [] (
  RC.seq (RC.region 8 [
  ⟨some 5,.move (.t 0),none,0,[]⟩,
  ⟨some 6,.nilCheck (.t 5),none,1,[]⟩,
  ⟨some 7,.fieldAddr 9 (.t 6),none,2,[]⟩,
  ⟨some 8,.load none (.t 7),none,3,[]⟩,
  ⟨some 9,.move (.t 1),none,4,[]⟩,
  ⟨some 10,.indexSl 1 (.t 8) (.t 9),none,5,[]⟩,
  ⟨some 11,.load none (.t 10),none,6,[]⟩,
  ⟨some 4,.move (.t 11),none,7,[]⟩]) (RC.seq (RC.region 4 [
  ⟨some 12,.move (.t 4),none,0,[]⟩,
  ⟨some 13,.nilCheck (.t 12),none,1,[]⟩,
  ⟨some 14,.fieldAddr 3 (.t 13),none,2,[]⟩,
  ⟨some 15,.load none (.t 14),none,3,[]⟩]) (RC.block 0 (RC.seq (RC.region 2 [
  ⟨some 17,.bin .eql (.t 15) (.c (.s (.int .i64 3))),none,0,[]⟩,
  ⟨some 16,.move (.t 17),none,1,[]⟩]) (RC.cond (.t 16) (RC.region 19 [
  ⟨some 18,.move (.t 0),none,0,[]⟩,
  ⟨some 19,.nilCheck (.t 18),none,1,[]⟩,
  ⟨some 20,.fieldAddr 0 (.t 19),none,2,[]⟩,
  ⟨some 21,.fieldAddr 0 (.t 20),none,3,[]⟩,
  ⟨some 22,.load none (.t 21),none,4,[]⟩,
  ⟨some 23,.move (.t 4),none,5,[]⟩,
  ⟨some 24,.nilCheck (.t 23),none,6,[]⟩,
  ⟨some 25,.fieldAddr 4 (.t 24),none,7,[]⟩,
  ⟨some 26,.load none (.t 25),none,8,[]⟩,
  ⟨some 27,.bin .sub (.t 26) (.c (.s (.int .i64 1))),none,9,[]⟩,
  ⟨some 28,.indexSl 1 (.t 22) (.t 27),none,10,[]⟩,
  ⟨some 29,.load none (.t 28),none,11,[]⟩,
  ⟨some 30,.nilCheck (.t 29),none,12,[]⟩,
  ⟨some 31,.fieldAddr 0 (.t 30),none,13,[]⟩,
  ⟨some 32,.load none (.t 31),none,14,[]⟩,
  ⟨some 33,.nilCheck (.t 32),none,15,[]⟩,
  ⟨some 34,.fieldAddr 0 (.t 33),none,16,[]⟩,
  ⟨some 35,.move (.t 1),none,17,[]⟩,
  ⟨some 36,.call F.order_Line_Remove [(.t 34),(.t 35)],none,18,[]⟩]) (RC.seq (RC.region 2 [
  ⟨some 38,.bin .eql (.t 15) (.c (.s (.int .i64 4))),none,0,[]⟩,
  ⟨some 37,.move (.t 38),none,1,[]⟩]) (RC.cond (.t 37) (RC.region 14 [
  ⟨some 39,.move (.t 0),none,0,[]⟩,
  ⟨some 40,.nilCheck (.t 39),none,1,[]⟩,
  ⟨some 41,.fieldAddr 0 (.t 40),none,2,[]⟩,
  ⟨some 42,.fieldAddr 1 (.t 41),none,3,[]⟩,
  ⟨some 43,.load none (.t 42),none,4,[]⟩,
  ⟨some 44,.move (.t 4),none,5,[]⟩,
  ⟨some 45,.nilCheck (.t 44),none,6,[]⟩,
  ⟨some 46,.fieldAddr 4 (.t 45),none,7,[]⟩,
  ⟨some 47,.load none (.t 46),none,8,[]⟩,
  ⟨some 48,.bin .sub (.t 47) (.c (.s (.int .i64 1))),none,9,[]⟩,
  ⟨some 49,.indexSl 1 (.t 43) (.t 48),none,10,[]⟩,
  ⟨some 50,.load none (.t 49),none,11,[]⟩,
  ⟨some 51,.move (.t 1),none,12,[]⟩,
  ⟨some 52,.call F.flag_Flag_Drop [(.t 50),(.t 51)],none,13,[]⟩]) (RC.seq (RC.seq (RC.region 2 [
  ⟨some 54,.bin .eql (.t 15) (.c (.s (.int .i64 5))),none,0,[]⟩,
  ⟨some 53,.move (.t 54),none,1,[]⟩]) (RC.cond (.t 53) (RC.skip) (RC.region 2 [
  ⟨some 55,.bin .eql (.t 15) (.c (.s (.int .i64 6))),none,0,[]⟩,
  ⟨some 53,.move (.t 55),none,1,[]⟩]))) R.kern_Kernel_leave_s0))))))))
theorem kern_Kernel_leave_ok : chkFunc Go.Proofs.Tryz.prog [0] Go.Proofs.Tryz.f65 kern_Kernel_leave = true := by kernel_rfl
def kern_Kernel_wake : RFunc := RFunc.mk 21 [] (
  RC.seq (RC.region 1 [
  ⟨some 5,.box (.t 2),none,0,[]⟩]) (RC.seq (RC.region 11 [
  ⟨some 6,.move (.t 0),none,0,[]⟩,
  ⟨some 7,.nilCheck (.t 6),none,1,[]⟩,
  ⟨some 8,.fieldAddr 9 (.t 7),none,2,[]⟩,
  ⟨some 9,.load none (.t 8),none,3,[]⟩,
  ⟨some 10,.move (.t 1),none,4,[]⟩,
  ⟨some 11,.indexSl 1 (.t 9) (.t 10),none,5,[]⟩,
  ⟨some 12,.load none (.t 11),none,6,[]⟩,
  ⟨some 13,.nilCheck (.t 12),none,7,[]⟩,
  ⟨some 14,.fieldAddr 0 (.t 13),none,8,[]⟩,
  ⟨some 15,.load none (.t 14),none,9,[]⟩,
  ⟨some 16,.call F.tcb_Task_Release [(.t 15)],none,10,[]⟩]) (RC.region 4 [
  ⟨some 17,.move (.t 0),none,0,[]⟩,
  ⟨some 18,.move (.t 1),none,1,[]⟩,
  ⟨some 19,.load (some 2) (.t 5),none,2,[]⟩,
  ⟨some 20,.call F.kern_Kernel_told [(.t 17),(.t 18),(.t 19)],none,3,[]⟩])))
theorem kern_Kernel_wake_ok : chkFunc Go.Proofs.Tryz.prog [0] Go.Proofs.Tryz.f66 kern_Kernel_wake = true := by kernel_rfl
def kern_Kernel_settle_s0 : RC :=
  RC.cond (.t 89) (RC.region 15 [
  ⟨some 92,.move (.t 0),none,0,[]⟩,
  ⟨some 93,.nilCheck (.t 92),none,1,[]⟩,
  ⟨some 94,.fieldAddr 0 (.t 93),none,2,[]⟩,
  ⟨some 95,.fieldAddr 2 (.t 94),none,3,[]⟩,
  ⟨some 96,.load none (.t 95),none,4,[]⟩,
  ⟨some 97,.move (.t 3),none,5,[]⟩,
  ⟨some 98,.nilCheck (.t 97),none,6,[]⟩,
  ⟨some 99,.fieldAddr 4 (.t 98),none,7,[]⟩,
  ⟨some 100,.load none (.t 99),none,8,[]⟩,
  ⟨some 101,.bin .sub (.t 100) (.c (.s (.int .i64 1))),none,9,[]⟩,
  ⟨some 102,.indexSl 1 (.t 96) (.t 101),none,10,[]⟩,
  ⟨some 103,.load none (.t 102),none,11,[]⟩,
  ⟨some 104,.move (.t 2),none,12,[]⟩,
  ⟨some 105,.move (.t 4),none,13,[]⟩,
  ⟨some 106,.call F.dtq_Queue_Change [(.t 103),(.t 104),(.t 105)],none,14,[]⟩]) (RC.seq (RC.region 2 [
  ⟨some 108,.bin .eql (.t 48) (.c (.s (.int .i64 8))),none,0,[]⟩,
  ⟨some 107,.move (.t 108),none,1,[]⟩]) (RC.cond (.t 107) (RC.region 18 [
  ⟨some 109,.move (.t 0),none,0,[]⟩,
  ⟨some 110,.nilCheck (.t 109),none,1,[]⟩,
  ⟨some 111,.fieldAddr 0 (.t 110),none,2,[]⟩,
  ⟨some 112,.fieldAddr 3 (.t 111),none,3,[]⟩,
  ⟨some 113,.load none (.t 112),none,4,[]⟩,
  ⟨some 114,.move (.t 3),none,5,[]⟩,
  ⟨some 115,.nilCheck (.t 114),none,6,[]⟩,
  ⟨some 116,.fieldAddr 4 (.t 115),none,7,[]⟩,
  ⟨some 117,.load none (.t 116),none,8,[]⟩,
  ⟨some 118,.bin .sub (.t 117) (.c (.s (.int .i64 1))),none,9,[]⟩,
  ⟨some 119,.indexSl 1 (.t 113) (.t 118),none,10,[]⟩,
  ⟨some 120,.load none (.t 119),none,11,[]⟩,
  ⟨some 121,.nilCheck (.t 120),none,12,[]⟩,
  ⟨some 122,.fieldAddr 0 (.t 121),none,13,[]⟩,
  ⟨some 123,.load none (.t 122),none,14,[]⟩,
  ⟨some 124,.move (.t 2),none,15,[]⟩,
  ⟨some 125,.move (.t 4),none,16,[]⟩,
  ⟨some 126,.call F.order_Queue_Change [(.t 123),(.t 124),(.t 125)],none,17,[]⟩]) (RC.skip)))
def kern_Kernel_settle_s1 : RC :=
  RC.region 3 [
  ⟨some 12,.move (.t 2),none,0,[]⟩,
  ⟨some 13,.bin .add (.t 12) (.c (.s (.int .i64 1))),none,1,[]⟩,
  ⟨some 2,.move (.t 13),none,2,[]⟩]
def kern_Kernel_settle_l2 : RC :=
  RC.seq (RC.seq (RC.region 7 [
  ⟨some 5,.move (.t 2),none,0,[]⟩,
  ⟨some 6,.move (.t 0),none,1,[]⟩,
  ⟨some 7,.nilCheck (.t 6),none,2,[]⟩,
  ⟨some 8,.fieldAddr 9 (.t 7),none,3,[]⟩,
  ⟨some 9,.load none (.t 8),none,4,[]⟩,
  ⟨some 10,.len (.t 9),none,5,[]⟩,
  ⟨some 11,.bin .lss (.t 5) (.t 10),none,6,[]⟩]) (RC.cond (.t 11) (RC.skip) (RC.exit 0))) (RC.seq (RC.block 1 (RC.seq (RC.region 8 [
  ⟨some 14,.move (.t 0),none,0,[]⟩,
  ⟨some 15,.nilCheck (.t 14),none,1,[]⟩,
  ⟨some 16,.fieldAddr 9 (.t 15),none,2,[]⟩,
  ⟨some 17,.load none (.t 16),none,3,[]⟩,
  ⟨some 18,.move (.t 2),none,4,[]⟩,
  ⟨some 19,.indexSl 1 (.t 17) (.t 18),none,5,[]⟩,
  ⟨some 20,.load none (.t 19),none,6,[]⟩,
  ⟨some 3,.move (.t 20),none,7,[]⟩]) (RC.seq (RC.region 8 [
  ⟨some 21,.move (.t 0),none,0,[]⟩,
  ⟨some 22,.nilCheck (.t 21),none,1,[]⟩,
  ⟨some 23,.fieldAddr 0 (.t 22),none,2,[]⟩,
  ⟨some 24,.fieldAddr 5 (.t 23),none,3,[]⟩,
  ⟨some 25,.load none (.t 24),none,4,[]⟩,
  ⟨some 26,.move (.t 2),none,5,[]⟩,
  ⟨some 27,.call F.mtx_All_Pri [(.t 25),(.t 26)],none,6,[]⟩,
  ⟨some 4,.move (.t 27),none,7,[]⟩]) (RC.seq (RC.seq (RC.region 6 [
  ⟨some 28,.move (.t 4),none,0,[]⟩,
  ⟨some 29,.move (.t 3),none,1,[]⟩,
  ⟨some 30,.nilCheck (.t 29),none,2,[]⟩,
  ⟨some 31,.fieldAddr 2 (.t 30),none,3,[]⟩,
  ⟨some 32,.load none (.t 31),none,4,[]⟩,
  ⟨some 33,.bin .eql (.t 28) (.t 32),none,5,[]⟩]) (RC.cond (.t 33) (RC.exit 1) (RC.skip))) (RC.seq (RC.region 5 [
  ⟨some 34,.move (.t 3),none,0,[]⟩,
  ⟨some 35,.move (.t 4),none,1,[]⟩,
  ⟨some 36,.nilCheck (.t 34),none,2,[]⟩,
  ⟨some 37,.fieldAddr 2 (.t 36),none,3,[]⟩,
  ⟨none,.store 1 (.t 37) (.t 35),none,4,[]⟩]) (RC.seq (RC.seq (RC.region 7 [
  ⟨some 38,.move (.t 0),none,0,[]⟩,
  ⟨some 39,.nilCheck (.t 38),none,1,[]⟩,
  ⟨some 40,.fieldAddr 8 (.t 39),none,2,[]⟩,
  ⟨some 41,.load none (.t 40),none,3,[]⟩,
  ⟨some 42,.move (.t 2),none,4,[]⟩,
  ⟨some 43,.move (.t 4),none,5,[]⟩,
  ⟨some 44,.call F.ready_Queue_Change [(.t 41),(.t 42),(.t 43)],none,6,[]⟩]) (RC.cond (.t 44) (RC.exit 1) (RC.skip))) (RC.seq (RC.region 4 [
  ⟨some 45,.move (.t 3),none,0,[]⟩,
  ⟨some 46,.nilCheck (.t 45),none,1,[]⟩,
  ⟨some 47,.fieldAddr 3 (.t 46),none,2,[]⟩,
  ⟨some 48,.load none (.t 47),none,3,[]⟩]) (RC.block 2 (RC.seq (RC.region 2 [
  ⟨some 50,.bin .eql (.t 48) (.c (.s (.int .i64 3))),none,0,[]⟩,
  ⟨some 49,.move (.t 50),none,1,[]⟩]) (RC.cond (.t 49) (RC.region 18 [
  ⟨some 51,.move (.t 0),none,0,[]⟩,
  ⟨some 52,.nilCheck (.t 51),none,1,[]⟩,
  ⟨some 53,.fieldAddr 0 (.t 52),none,2,[]⟩,
  ⟨some 54,.fieldAddr 0 (.t 53),none,3,[]⟩,
  ⟨some 55,.load none (.t 54),none,4,[]⟩,
  ⟨some 56,.move (.t 3),none,5,[]⟩,
  ⟨some 57,.nilCheck (.t 56),none,6,[]⟩,
  ⟨some 58,.fieldAddr 4 (.t 57),none,7,[]⟩,
  ⟨some 59,.load none (.t 58),none,8,[]⟩,
  ⟨some 60,.bin .sub (.t 59) (.c (.s (.int .i64 1))),none,9,[]⟩,
  ⟨some 61,.indexSl 1 (.t 55) (.t 60),none,10,[]⟩,
  ⟨some 62,.load none (.t 61),none,11,[]⟩,
  ⟨some 63,.nilCheck (.t 62),none,12,[]⟩,
  ⟨some 64,.fieldAddr 0 (.t 63),none,13,[]⟩,
  ⟨some 65,.load none (.t 64),none,14,[]⟩,
  ⟨some 66,.move (.t 2),none,15,[]⟩,
  ⟨some 67,.move (.t 4),none,16,[]⟩,
  ⟨some 68,.call F.order_Queue_Change [(.t 65),(.t 66),(.t 67)],none,17,[]⟩]) (RC.seq (RC.region 2 [
  ⟨some 70,.bin .eql (.t 48) (.c (.s (.int .i64 4))),none,0,[]⟩,
  ⟨some 69,.move (.t 70),none,1,[]⟩]) (RC.cond (.t 69) (RC.region 18 [
  ⟨some 71,.move (.t 0),none,0,[]⟩,
  ⟨some 72,.nilCheck (.t 71),none,1,[]⟩,
  ⟨some 73,.fieldAddr 0 (.t 72),none,2,[]⟩,
  ⟨some 74,.fieldAddr 1 (.t 73),none,3,[]⟩,
  ⟨some 75,.load none (.t 74),none,4,[]⟩,
  ⟨some 76,.move (.t 3),none,5,[]⟩,
  ⟨some 77,.nilCheck (.t 76),none,6,[]⟩,
  ⟨some 78,.fieldAddr 4 (.t 77),none,7,[]⟩,
  ⟨some 79,.load none (.t 78),none,8,[]⟩,
  ⟨some 80,.bin .sub (.t 79) (.c (.s (.int .i64 1))),none,9,[]⟩,
  ⟨some 81,.indexSl 1 (.t 75) (.t 80),none,10,[]⟩,
  ⟨some 82,.load none (.t 81),none,11,[]⟩,
  ⟨some 83,.nilCheck (.t 82),none,12,[]⟩,
  ⟨some 84,.fieldAddr 0 (.t 83),none,13,[]⟩,
  ⟨some 85,.load none (.t 84),none,14,[]⟩,
  ⟨some 86,.move (.t 2),none,15,[]⟩,
  ⟨some 87,.move (.t 4),none,16,[]⟩,
  ⟨some 88,.call F.order_Queue_Change [(.t 85),(.t 86),(.t 87)],none,17,[]⟩]) (RC.seq (RC.seq (RC.region 2 [
  ⟨some 90,.bin .eql (.t 48) (.c (.s (.int .i64 5))),none,0,[]⟩,
  ⟨some 89,.move (.t 90),none,1,[]⟩]) (RC.cond (.t 89) (RC.skip) (RC.region 2 [
  ⟨some 91,.bin .eql (.t 48) (.c (.s (.int .i64 6))),none,0,[]⟩,
  ⟨some 89,.move (.t 91),none,1,[]⟩]))) R.kern_Kernel_settle_s0))))))))))))) R.kern_Kernel_settle_s1)
def kern_Kernel_settle : RFunc := RFunc.mk 127 [] (
  RC.seq (RC.region 1 [
  ⟨some 2,.move (.c (.s (.int .i64 1))),none,0,[]⟩]) (RC.block 0 (RC.loop R.kern_Kernel_settle_l2)))
theorem kern_Kernel_settle_ok : chkFunc Go.Proofs.Tryz.prog [0] Go.Proofs.Tryz.f67 kern_Kernel_settle = true := by kernel_rfl
def kern_Kernel_Task_s0 : RC :=
  RC.seq (RC.region 11 [
  ⟨some 70,.load (some 8) (.t 8),none,0,[]⟩,
  ⟨some 71,.move (.t 7),none,1,[]⟩,
  ⟨some 72,.nilCheck (.t 71),none,2,[]⟩,
  ⟨some 73,.fieldAddr 0 (.t 72),none,3,[]⟩,
  ⟨some 74,.load none (.t 73),none,4,[]⟩,
  ⟨some 75,.nilCheck (.t 74),none,5,[]⟩,
  ⟨some 76,.fieldAddr 0 (.t 75),none,6,[]⟩,
  ⟨some 77,.load (some 3) (.t 76),none,7,[]⟩,
  ⟨none,.store 8 (.t 4) (.t 70),none,8,[⟨74,none,(.t 73),none⟩,⟨77,(some 3),(.t 76),none⟩]⟩,
  ⟨none,.store 3 (.t 5) (.t 77),none,9,[]⟩,
  ⟨some 6,.move (.c (.s (.int .i64 0))),none,10,[]⟩]) (RC.ret)
def kern_Kernel_Task : RFunc := RFunc.mk 78 [.cell 4 (some 8),.cell 5 (some 3),.tmp 6] (
  RC.seq (RC.region 3 [
  ⟨some 4,.newc [.int .i64 0,.int .i64 0,.int .i64 0,.int .i64 0,.int .i64 0,.int .i64 0,.int .i64 0,.int .i64 0],none,0,[]⟩,
  ⟨some 5,.newc [.int .i64 0,.int .i64 0,.int .i64 0],none,1,[]⟩,
  ⟨some 6,.move (.c (.s (.int .i64 0))),none,2,[]⟩]) (RC.seq (RC.seq (RC.region 11 [
  ⟨some 9,.move (.t 1),none,0,[]⟩,
  ⟨some 10,.bin .lss (.t 9) (.c (.s (.int .i64 1))),none,1,[]⟩,
  ⟨some 11,.move (.t 10),none,2,[]⟩,
  ⟨some 12,.move (.t 1),(some (11,false)),3,[]⟩,
  ⟨some 13,.move (.t 0),(some (11,false)),4,[]⟩,
  ⟨some 14,.nilCheck (.t 13),(some (11,false)),5,[]⟩,
  ⟨some 15,.fieldAddr 9 (.t 14),(some (11,false)),6,[]⟩,
  ⟨some 16,.load none (.t 15),(some (11,false)),7,[]⟩,
  ⟨some 17,.len (.t 16),(some (11,false)),8,[]⟩,
  ⟨some 18,.bin .geq (.t 12) (.t 17),(some (11,false)),9,[]⟩,
  ⟨some 19,.pick (.t 11) (.c (.s (.bool true))) (.t 18),none,10,[]⟩]) (RC.cond (.t 19) (RC.seq (RC.region 5 [
  ⟨some 20,.build [.int .i64 0,.int .i64 0,.int .i64 0,.int .i64 0,.int .i64 0,.int .i64 0,.int .i64 0,.int .i64 0] [],none,0,[]⟩,
  ⟨some 21,.build [.int .i64 0,.int .i64 0,.int .i64 0] [],none,1,[]⟩,
  ⟨none,.store 8 (.t 4) (.t 20),none,2,[]⟩,
  ⟨none,.store 3 (.t 5) (.t 21),none,3,[]⟩,
  ⟨some 6,.move (.c (.s (.int .i64 (-18)))),none,4,[]⟩]) (RC.ret)) (RC.skip))) (RC.seq (RC.region 8 [
  ⟨some 22,.move (.t 0),none,0,[]⟩,
  ⟨some 23,.nilCheck (.t 22),none,1,[]⟩,
  ⟨some 24,.fieldAddr 9 (.t 23),none,2,[]⟩,
  ⟨some 25,.load none (.t 24),none,3,[]⟩,
  ⟨some 26,.move (.t 1),none,4,[]⟩,
  ⟨some 27,.indexSl 1 (.t 25) (.t 26),none,5,[]⟩,
  ⟨some 28,.load none (.t 27),none,6,[]⟩,
  ⟨some 7,.move (.t 28),none,7,[]⟩]) (RC.seq (RC.region 36 [
  ⟨some 29,.move (.t 7),none,0,[]⟩,
  ⟨some 30,.nilCheck (.t 29),none,1,[]⟩,
  ⟨some 31,.fieldAddr 0 (.t 30),none,2,[]⟩,
  ⟨some 32,.load none (.t 31),none,3,[]⟩,
  ⟨some 33,.nilCheck (.t 32),none,4,[]⟩,
  ⟨some 34,.fieldAddr 3 (.t 33),none,5,[]⟩,
  ⟨some 35,.load none (.t 34),none,6,[]⟩,
  ⟨some 36,.move (.t 0),none,7,[]⟩,
  ⟨some 37,.nilCheck (.t 36),none,8,[]⟩,
  ⟨some 38,.fieldAddr 0 (.t 37),none,9,[]⟩,
  ⟨some 39,.fieldAddr 5 (.t 38),none,10,[]⟩,
  ⟨some 40,.load none (.t 39),none,11,[]⟩,
  ⟨some 41,.move (.t 1),none,12,[]⟩,
  ⟨some 43,.move (.t 0),none,14,[]⟩,
  ⟨some 44,.nilCheck (.t 43),none,15,[]⟩,
  ⟨some 45,.fieldAddr 0 (.t 44),none,16,[]⟩,
  ⟨some 46,.fieldAddr 5 (.t 45),none,17,[]⟩,
  ⟨some 47,.load none (.t 46),none,18,[]⟩,
  ⟨some 48,.move (.t 1),none,19,[]⟩,
  ⟨some 50,.move (.t 7),none,21,[]⟩,
  ⟨some 51,.nilCheck (.t 50),none,22,[]⟩,
  ⟨some 52,.fieldAddr 3 (.t 51),none,23,[]⟩,
  ⟨some 53,.load none (.t 52),none,24,[]⟩,
  ⟨some 54,.move (.t 7),none,25,[]⟩,
  ⟨some 55,.nilCheck (.t 54),none,26,[]⟩,
  ⟨some 56,.fieldAddr 4 (.t 55),none,27,[]⟩,
  ⟨some 57,.load none (.t 56),none,28,[]⟩,
  ⟨some 58,.move (.t 7),none,29,[]⟩,
  ⟨some 59,.nilCheck (.t 58),none,30,[]⟩,
  ⟨some 60,.fieldAddr 6 (.t 59),none,31,[]⟩,
  ⟨some 61,.load (some 2) (.t 60),none,32,[]⟩,
  ⟨some 42,.call F.mtx_All_Pri [(.t 40),(.t 41)],none,13,[⟨32,none,(.t 31),none⟩,⟨35,none,(.t 34),none⟩,⟨47,none,(.t 46),none⟩,⟨53,none,(.t 52),none⟩,⟨57,none,(.t 56),none⟩,⟨61,(some 2),(.t 60),none⟩]⟩,
  ⟨some 49,.call F.mtx_All_Base [(.t 47),(.t 48)],none,20,[⟨32,none,(.t 31),none⟩,⟨35,none,(.t 34),none⟩,⟨53,none,(.t 52),none⟩,⟨57,none,(.t 56),none⟩,⟨61,(some 2),(.t 60),none⟩]⟩,
  ⟨some 62,.build [.int .i64 0,.int .i64 0,.int .i64 0,.int .i64 0,.int .i64 0,.int .i64 0,.int .i64 0,.int .i64 0] [(0,1,(.t 35)),(1,1,(.t 42)),(2,1,(.t 49)),(4,1,(.t 53)),(5,1,(.t 57)),(6,2,(.t 61))],none,33,[]⟩,
  ⟨some 8,.newc [.int .i64 0,.int .i64 0,.int .i64 0,.int .i64 0,.int .i64 0,.int .i64 0,.int .i64 0,.int .i64 0],none,34,[]⟩,
  ⟨none,.store 8 (.t 8) (.t 62),none,35,[]⟩]) (RC.seq (RC.seq (RC.region 6 [
  ⟨some 63,.move (.t 1),none,0,[]⟩,
  ⟨some 64,.move (.t 0),none,1,[]⟩,
  ⟨some 65,.nilCheck (.t 64),none,2,[]⟩,
  ⟨some 66,.fieldAddr 12 (.t 65),none,3,[]⟩,
  ⟨some 67,.load none (.t 66),none,4,[]⟩,
  ⟨some 68,.bin .eql (.t 63) (.t 67),none,5,[]⟩]) (RC.cond (.t 68) (RC.region 2 [
  ⟨some 69,.fieldAddr 0 (.t 8),none,0,[]⟩,
  ⟨none,.store 1 (.t 69) (.c (.s (.int .i64 1))),none,1,[]⟩]) (RC.skip))) R.kern_Kernel_Task_s0)))))
theorem kern_Kernel_Task_ok : chkFunc Go.Proofs.Tryz.prog [0] Go.Proofs.Tryz.f15 kern_Kernel_Task = true := by kernel_rfl
def order_Line_Has : RFunc := RFunc.mk 9 [.tmp 4] (
  RC.seq (RC.region 1 [
  ⟨some 4,.move (.c (.s (.bool false))),none,0,[]⟩]) (RC.seq (RC.region 5 [
  ⟨some 5,.move (.t 0),none,0,[]⟩,
  ⟨some 6,.move (.t 1),none,1,[]⟩,
  ⟨some 7,.call F.order_Line_at [(.t 5),(.t 6)],none,2,[]⟩,
  ⟨some 8,.bin .geq (.t 7) (.c (.s (.int .i64 0))),none,3,[]⟩,
  ⟨some 4,.move (.t 8),none,4,[]⟩]) (RC.ret)))
theorem order_Line_Has_ok : chkFunc Go.Proofs.Tryz.prog [0] Go.Proofs.Tryz.f176 order_Line_Has = true := by kernel_rfl
def slices_ContainsFunc__por_open_por_open : RFunc := RFunc.mk 9 [.tmp 4] (
  RC.seq (RC.region 1 [
  ⟨some 4,.move (.c (.s (.bool false))),none,0,[]⟩]) (RC.seq (RC.region 5 [
  ⟨some 5,.move (.t 0),none,0,[]⟩,
  ⟨some 6,.move (.t 1),none,1,[]⟩,
  ⟨some 7,.call F.slices_IndexFunc__por_open_por_open [(.t 5),(.t 6)],none,2,[]⟩,
  ⟨some 8,.bin .geq (.t 7) (.c (.s (.int .i64 0))),none,3,[]⟩,
  ⟨some 4,.move (.t 8),none,4,[]⟩]) (RC.ret)))
theorem slices_ContainsFunc__por_open_por_open_ok : chkFunc Go.Proofs.Tryz.prog [0] Go.Proofs.Tryz.f177 slices_ContainsFunc__por_open_por_open = true := by kernel_rfl
def por_Port_in_1 : RFunc := RFunc.mk 8 [.tmp 3] (
  RC.seq (RC.region 2 [
  ⟨some 2,.box (.t 0),none,0,[]⟩,
  ⟨some 3,.move (.c (.s (.bool false))),none,1,[]⟩]) (RC.seq (RC.region 5 [
  ⟨some 4,.fieldAddr 1 (.t 2),none,0,[]⟩,
  ⟨some 5,.load none (.t 4),none,1,[]⟩,
  ⟨some 6,.load none (.t 1),none,2,[]⟩,
  ⟨some 7,.bin .eql (.t 5) (.t 6),none,3,[]⟩,
  ⟨some 3,.move (.t 7),none,4,[]⟩]) (RC.ret)))
theorem por_Port_in_1_ok : chkFunc Go.Proofs.Tryz.prog [0] Go.Proofs.Tryz.f178 por_Port_in_1 = true := by kernel_rfl
def order_Line_Row : RFunc := RFunc.mk 9 [.tmp 2] (
  RC.seq (RC.region 1 [
  ⟨some 2,.move (.c (.s (.slice none 0 0 1))),none,0,[]⟩]) (RC.seq (RC.region 7 [
  ⟨some 3,.move (.t 0),none,0,[]⟩,
  ⟨some 4,.nilCheck (.t 3),none,1,[]⟩,
  ⟨some 5,.fieldAddr 0 (.t 4),none,2,[]⟩,
  ⟨some 6,.load none (.t 5),none,3,[]⟩,
  ⟨some 7,.call F.slices_Clone__order_Item_order_Item [(.t 6)],none,4,[]⟩,
  ⟨some 8,.call F.slices_Clip__order_Item_order_Item [(.t 7)],none,5,[]⟩,
  ⟨some 2,.move (.t 8),none,6,[]⟩]) (RC.ret)))
theorem order_Line_Row_ok : chkFunc Go.Proofs.Tryz.prog [0] Go.Proofs.Tryz.f172 order_Line_Row = true := by kernel_rfl
def por_line_drop : RFunc := RFunc.mk 14 [.tmp 4] (
  RC.seq (RC.region 2 [
  ⟨some 2,.box (.t 0),none,0,[]⟩,
  ⟨some 4,.move (.c (.s (.bool false))),none,1,[]⟩]) (RC.seq (RC.region 4 [
  ⟨some 5,.fieldAddr 1 (.t 2),none,0,[]⟩,
  ⟨some 6,.load none (.t 5),none,1,[]⟩,
  ⟨some 7,.move (.t 1),none,2,[]⟩,
  ⟨none,.hop .delete [(.t 6),(.t 7)],none,3,[]⟩]) (RC.seq (RC.region 7 [
  ⟨some 8,.fieldAddr 0 (.t 2),none,0,[]⟩,
  ⟨some 9,.load none (.t 8),none,1,[]⟩,
  ⟨some 10,.nilCheck (.t 9),none,2,[]⟩,
  ⟨some 11,.fieldAddr 0 (.t 10),none,3,[]⟩,
  ⟨some 12,.move (.t 1),none,4,[]⟩,
  ⟨some 13,.call F.order_Line_Remove [(.t 11),(.t 12)],none,5,[]⟩,
  ⟨some 4,.move (.t 13),none,6,[]⟩]) (RC.ret))))
theorem por_line_drop_ok : chkFunc Go.Proofs.Tryz.prog [0] Go.Proofs.Tryz.f179 por_line_drop = true := by kernel_rfl
def order_Queue_Add : RFunc := RFunc.mk 30 [.tmp 6] (
  RC.seq (RC.region 1 [
  ⟨some 6,.move (.c (.s (.int .i64 0))),none,0,[]⟩]) (RC.seq (RC.block 0 (RC.seq (RC.region 12 [
  ⟨some 8,.move (.t 1),none,0,[]⟩,
  ⟨some 9,.bin .lss (.t 8) (.c (.s (.int .i64 1))),none,1,[]⟩,
  ⟨some 10,.move (.t 9),none,2,[]⟩,
  ⟨some 11,.move (.t 1),(some (10,false)),3,[]⟩,
  ⟨some 12,.bin .gtr (.t 11) (.c (.s (.int .i64 16))),(some (10,false)),4,[]⟩,
  ⟨some 13,.pick (.t 10) (.c (.s (.bool true))) (.t 12),none,5,[]⟩,
  ⟨some 14,.move (.t 13),none,6,[]⟩,
  ⟨some 15,.move (.t 2),(some (14,false)),7,[]⟩,
  ⟨some 16,.call F.order_may [(.t 15)],(some (14,false)),8,[]⟩,
  ⟨some 17,.un .not (.t 16),(some (14,false)),9,[]⟩,
  ⟨some 18,.pick (.t 14) (.c (.s (.bool true))) (.t 17),none,10,[]⟩,
  ⟨some 7,.move (.t 18),none,11,[]⟩]) (RC.cond (.t 7) (RC.seq (RC.region 1 [
  ⟨some 6,.move (.c (.s (.int .i64 (-17)))),none,0,[]⟩]) (RC.ret)) (RC.seq (RC.region 6 [
  ⟨some 20,.move (.t 0),none,0,[]⟩,
  ⟨some 21,.nilCheck (.t 20),none,1,[]⟩,
  ⟨some 22,.fieldAddr 0 (.t 21),none,2,[]⟩,
  ⟨some 23,.move (.t 1),none,3,[]⟩,
  ⟨some 24,.call F.order_Line_Has [(.t 22),(.t 23)],none,4,[]⟩,
  ⟨some 19,.move (.t 24),none,5,[]⟩]) (RC.cond (.t 19) (RC.seq (RC.region 1 [
  ⟨some 6,.move (.c (.s (.int .i64 (-41)))),none,0,[]⟩]) (RC.ret)) (RC.skip)))))) (RC.seq (RC.region 5 [
  ⟨some 25,.move (.t 0),none,0,[]⟩,
  ⟨some 26,.move (.t 1),none,1,[]⟩,
  ⟨some 27,.move (.t 2),none,2,[]⟩,
  ⟨some 28,.build [.int .i64 0,.int .i64 0] [(0,1,(.t 26)),(1,1,(.t 27))],none,3,[]⟩,
  ⟨some 29,.call F.order_Queue_put [(.t 25),(.t 28)],none,4,[]⟩]) (RC.seq (RC.region 1 [
  ⟨some 6,.move (.c (.s (.int .i64 0))),none,0,[]⟩]) (RC.ret)))))
theorem order_Queue_Add_ok : chkFunc Go.Proofs.Tryz.prog [0] Go.Proofs.Tryz.f180 order_Queue_Add = true := by kernel_rfl
def slices_IndexFunc__por_open_por_open_l0 : RC :=
  RC.seq (RC.region 1 [
  ⟨some 9,.bin .lss (.t 8) (.t 7),none,0,[]⟩]) (RC.seq (RC.cond (.t 9) (RC.skip) (RC.exit 0)) (RC.seq (RC.block 1 (RC.seq (RC.region 2 [
  ⟨some 10,.move (.t 8),none,0,[]⟩,
  ⟨some 5,.move (.t 10),none,1,[]⟩]) (RC.seq (RC.region 6 [
  ⟨some 11,.move (.t 1),none,0,[]⟩,
  ⟨some 12,.move (.t 0),none,1,[]⟩,
  ⟨some 13,.move (.t 5),none,2,[]⟩,
  ⟨some 14,.indexSl 3 (.t 12) (.t 13),none,3,[]⟩,
  ⟨some 15,.load (some 3) (.t 14),none,4,[]⟩,
  ⟨some 16,.callv (.t 11) [(.t 15)],none,5,[]⟩]) (RC.cond (.t 16) (RC.seq (RC.region 2 [
  ⟨some 17,.move (.t 5),none,0,[]⟩,
  ⟨some 4,.move (.t 17),none,1,[]⟩]) (RC.ret)) (RC.skip))))) (RC.region 2 [
  ⟨some 18,.bin .add (.t 8) (.c (.s (.int .i64 1))),none,0,[]⟩,
  ⟨some 8,.move (.t 18),none,1,[]⟩])))
def slices_IndexFunc__por_open_por_open_s1 : RC :=
  RC.seq (RC.region 1 [
  ⟨some 4,.move (.c (.s (.int .i64 (-1)))),none,0,[]⟩]) (RC.ret)
def slices_IndexFunc__por_open_por_open : RFunc := RFunc.mk 19 [.tmp 4] (
  RC.seq (RC.region 1 [
  ⟨some 4,.move (.c (.s (.int .i64 0))),none,0,[]⟩]) (RC.seq (RC.seq (RC.region 3 [
  ⟨some 6,.move (.t 0),none,0,[]⟩,
  ⟨some 7,.len (.t 6),none,1,[]⟩,
  ⟨some 8,.move (.c (.s (.int .i64 0))),none,2,[]⟩]) (RC.block 0 (RC.loop R.slices_IndexFunc__por_open_por_open_l0))) R.slices_IndexFunc__por_open_por_open_s1))
theorem slices_IndexFunc__por_open_por_open_ok : chkFunc Go.Proofs.Tryz.prog [0] Go.Proofs.Tryz.f181 slices_IndexFunc__por_open_por_open = true := by kernel_rfl
def por_Port_find_1 : RFunc := RFunc.mk 8 [.tmp 3] (
  RC.seq (RC.region 2 [
  ⟨some 2,.box (.t 0),none,0,[]⟩,
  ⟨some 3,.move (.c (.s (.bool false))),none,1,[]⟩]) (RC.seq (RC.region 5 [
  ⟨some 4,.fieldAddr 0 (.t 2),none,0,[]⟩,
  ⟨some 5,.load none (.t 4),none,1,[]⟩,
  ⟨some 6,.load none (.t 1),none,2,[]⟩,
  ⟨some 7,.bin .eql (.t 5) (.t 6),none,3,[]⟩,
  ⟨some 3,.move (.t 7),none,4,[]⟩]) (RC.ret)))
theorem por_Port_find_1_ok : chkFunc Go.Proofs.Tryz.prog [0] Go.Proofs.Tryz.f182 por_Port_find_1 = true := by kernel_rfl
def slices_Delete__por_open_por_open : RFunc := RFunc.mk 33 [.tmp 6] (
  RC.seq (RC.region 1 [
  ⟨some 6,.move (.c (.s (.slice none 0 0 1))),none,0,[]⟩]) (RC.seq (RC.region 6 [
  ⟨some 8,.move (.t 0),none,0,[]⟩,
  ⟨some 9,.move (.t 1),none,1,[]⟩,
  ⟨some 10,.move (.t 2),none,2,[]⟩,
  ⟨some 11,.move (.t 0),none,3,[]⟩,
  ⟨some 12,.len (.t 11),none,4,[]⟩,
  ⟨some 13,.slSl 3 (.t 8) (some (.t 9)) (some (.t 10)) (some (.t 12)),none,5,[]⟩]) (RC.seq (RC.seq (RC.region 3 [
  ⟨some 14,.move (.t 1),none,0,[]⟩,
  ⟨some 15,.move (.t 2),none,1,[]⟩,
  ⟨some 16,.bin .eql (.t 14) (.t 15),none,2,[]⟩]) (RC.cond (.t 16) (RC.seq (RC.region 2 [
  ⟨some 17,.move (.t 0),none,0,[]⟩,
  ⟨some 6,.move (.t 17),none,1,[]⟩]) (RC.ret)) (RC.skip))) (RC.seq (RC.region 3 [
  ⟨some 18,.move (.t 0),none,0,[]⟩,
  ⟨some 19,.len (.t 18),none,1,[]⟩,
  ⟨some 7,.move (.t 19),none,2,[]⟩]) (RC.seq (RC.region 8 [
  ⟨some 20,.move (.t 0),none,0,[]⟩,
  ⟨some 21,.move (.t 1),none,1,[]⟩,
  ⟨some 22,.slSl 3 (.t 20) none (some (.t 21)) none,none,2,[]⟩,
  ⟨some 23,.move (.t 0),none,3,[]⟩,
  ⟨some 24,.move (.t 2),none,4,[]⟩,
  ⟨some 25,.slSl 3 (.t 23) (some (.t 24)) none none,none,5,[]⟩,
  ⟨some 26,.append 3 24 (.t 22) (.t 25),none,6,[]⟩,
  ⟨some 0,.move (.t 26),none,7,[]⟩]) (RC.seq (RC.region 6 [
  ⟨some 27,.move (.t 0),none,0,[]⟩,
  ⟨some 28,.move (.t 0),none,1,[]⟩,
  ⟨some 29,.len (.t 28),none,2,[]⟩,
  ⟨some 30,.move (.t 7),none,3,[]⟩,
  ⟨some 31,.slSl 3 (.t 27) (some (.t 29)) (some (.t 30)) none,none,4,[]⟩,
  ⟨none,.clear 3 [.int .i64 0,.int .i64 0,.int .i64 0] (.t 31),none,5,[]⟩]) (RC.seq (RC.region 2 [
  ⟨some 32,.move (.t 0),none,0,[]⟩,
  ⟨some 6,.move (.t 32),none,1,[]⟩]) (RC.ret))))))))
theorem slices_Delete__por_open_por_open_ok : chkFunc Go.Proofs.Tryz.prog [0] Go.Proofs.Tryz.f183 slices_Delete__por_open_por_open = true := by kernel_rfl
def conf_Check : RFunc := RFunc.mk 59 [.tmp 2,.tmp 3,.tmp 4] (
  RC.seq (RC.region 4 [
  ⟨some 1,.box (.t 0),none,0,[]⟩,
  ⟨some 2,.move (.c (.s (.str ⟨#[]⟩))),none,1,[]⟩,
  ⟨some 3,.move (.c (.s (.int .i64 0))),none,2,[]⟩,
  ⟨some 4,.move (.c (.s (.int .i64 0))),none,3,[]⟩]) (RC.seq (RC.region 9 [
  ⟨some 9,.fieldAddr 0 (.t 1),none,0,[]⟩,
  ⟨some 10,.load none (.t 9),none,1,[]⟩,
  ⟨some 11,.call F.cyc_NewHands [(.t 10)],none,2,[]⟩,
  ⟨some 8,.move (.t 11),none,3,[]⟩,
  ⟨some 12,.extract 0 (.t 8),none,4,[]⟩,
  ⟨some 13,.extract 1 (.t 8),none,5,[]⟩,
  ⟨some 5,.newc [.ptr none],none,6,[]⟩,
  ⟨none,.store 1 (.t 5) (.t 12),none,7,[]⟩,
  ⟨some 6,.move (.t 13),none,8,[]⟩]) (RC.seq (RC.seq (RC.region 2 [
  ⟨some 14,.move (.t 6),none,0,[]⟩,
  ⟨some 15,.bin .neq (.t 14) (.c (.s (.int .i64 0))),none,1,[]⟩]) (RC.cond (.t 15) (RC.seq (RC.region 4 [
  ⟨some 16,.move (.t 6),none,0,[]⟩,
  ⟨some 2,.move (.c (.s (.str ⟨#[116,105,99]⟩))),none,1,[]⟩,
  ⟨some 3,.move (.c (.s (.int .i64 0))),none,2,[]⟩,
  ⟨some 4,.move (.t 16),none,3,[]⟩]) (RC.ret)) (RC.skip))) (RC.seq (RC.region 2 [
  ⟨some 7,.newc [.int .i64 0],none,0,[]⟩,
  ⟨none,.store 1 (.t 7) (.c (.s (.int .i64 0))),none,1,[]⟩]) (RC.seq (RC.region 45 [
  ⟨some 17,.fieldAddr 1 (.t 1),none,0,[]⟩,
  ⟨some 18,.load none (.t 17),none,1,[]⟩,
  ⟨some 19,.len (.t 18),none,2,[]⟩,
  ⟨some 20,.makeFunc F.conf_Check_1 [(.t 1)],none,3,[]⟩,
  ⟨some 21,.build [.str ⟨#[]⟩,.str ⟨#[]⟩,.int .i64 0,.int .i64 0,.int .i64 0,.nilfn] [(0,1,(.c (.s (.str ⟨#[116,97,115,107]⟩)))),(1,1,(.c (.s (.str ⟨#[116,97,115,107,115]⟩)))),(2,1,(.t 19)),(3,1,(.c (.s (.int .i64 1)))),(4,1,(.c (.s (.int .i64 16)))),(5,1,(.t 20))],none,4,[]⟩,
  ⟨some 22,.fieldAddr 2 (.t 1),none,5,[]⟩,
  ⟨some 23,.load none (.t 22),none,6,[]⟩,
  ⟨some 24,.len (.t 23),none,7,[]⟩,
  ⟨some 25,.makeFunc F.conf_Check_2 [(.t 1)],none,8,[]⟩,
  ⟨some 27,.fieldAddr 3 (.t 1),none,10,[]⟩,
  ⟨some 28,.load none (.t 27),none,11,[]⟩,
  ⟨some 29,.len (.t 28),none,12,[]⟩,
  ⟨some 31,.fieldAddr 4 (.t 1),none,14,[]⟩,
  ⟨some 32,.load none (.t 31),none,15,[]⟩,
  ⟨some 33,.len (.t 32),none,16,[]⟩,
  ⟨some 34,.makeFunc F.conf_Check_3 [(.t 1)],none,17,[]⟩,
  ⟨some 36,.fieldAddr 5 (.t 1),none,19,[]⟩,
  ⟨some 37,.load none (.t 36),none,20,[]⟩,
  ⟨some 38,.len (.t 37),none,21,[]⟩,
  ⟨some 39,.makeFunc F.conf_Check_4 [(.t 1)],none,22,[]⟩,
  ⟨some 41,.fieldAddr 6 (.t 1),none,24,[]⟩,
  ⟨some 42,.load none (.t 41),none,25,[]⟩,
  ⟨some 43,.len (.t 42),none,26,[]⟩,
  ⟨some 44,.makeFunc F.conf_Check_5 [(.t 7),(.t 1)],none,27,[]⟩,
  ⟨some 46,.fieldAddr 7 (.t 1),none,29,[]⟩,
  ⟨some 47,.load none (.t 46),none,30,[]⟩,
  ⟨some 48,.len (.t 47),none,31,[]⟩,
  ⟨some 49,.makeFunc F.conf_Check_6 [(.t 1),(.t 5)],none,32,[]⟩,
  ⟨some 51,.fieldAddr 8 (.t 1),none,34,[]⟩,
  ⟨some 52,.load none (.t 51),none,35,[]⟩,
  ⟨some 26,.call F.conf_objects [(.c (.s (.str ⟨#[115,101,109]⟩))),(.t 24),(.t 25)],none,9,[⟨18,none,(.t 17),none⟩,⟨28,none,(.t 27),none⟩,⟨32,none,(.t 31),none⟩,⟨37,none,(.t 36),none⟩,⟨42,none,(.t 41),none⟩,⟨47,none,(.t 46),none⟩,⟨52,none,(.t 51),none⟩]⟩,
  ⟨some 30,.call F.conf_objects [(.c (.s (.str ⟨#[102,108,97,103]⟩))),(.t 29),(.c (.s (.fn F.conf_fine [])))],none,13,[⟨18,none,(.t 17),none⟩,⟨32,none,(.t 31),none⟩,⟨37,none,(.t 36),none⟩,⟨42,none,(.t 41),none⟩,⟨47,none,(.t 46),none⟩,⟨52,none,(.t 51),none⟩]⟩,
  ⟨some 35,.call F.conf_objects [(.c (.s (.str ⟨#[100,97,116,97]⟩))),(.t 33),(.t 34)],none,18,[⟨18,none,(.t 17),none⟩,⟨37,none,(.t 36),none⟩,⟨42,none,(.t 41),none⟩,⟨47,none,(.t 46),none⟩,⟨52,none,(.t 51),none⟩]⟩,
  ⟨some 40,.call F.conf_objects [(.c (.s (.str ⟨#[109,116,120]⟩))),(.t 38),(.t 39)],none,23,[⟨18,none,(.t 17),none⟩,⟨42,none,(.t 41),none⟩,⟨47,none,(.t 46),none⟩,⟨52,none,(.t 51),none⟩]⟩,
  ⟨some 45,.call F.conf_objects [(.c (.s (.str ⟨#[112,111,111,108]⟩))),(.t 43),(.t 44)],none,28,[⟨18,none,(.t 17),none⟩,⟨47,none,(.t 46),none⟩,⟨52,none,(.t 51),none⟩]⟩,
  ⟨some 50,.call F.conf_objects [(.c (.s (.str ⟨#[99,121,99]⟩))),(.t 48),(.t 49)],none,33,[⟨18,none,(.t 17),none⟩,⟨52,none,(.t 51),none⟩]⟩,
  ⟨some 53,.call F.conf_objects [(.c (.s (.str ⟨#[97,108,97,114,109]⟩))),(.t 52),(.c (.s (.fn F.conf_fine [])))],none,36,[⟨18,none,(.t 17),none⟩]⟩,
  ⟨some 54,.buildSlice 6 8 [.str ⟨#[]⟩,.str ⟨#[]⟩,.int .i64 0,.int .i64 0,.int .i64 0,.nilfn,.str ⟨#[]⟩,.str ⟨#[]⟩,.int .i64 0,.int .i64 0,.int .i64 0,.nilfn,.str ⟨#[]⟩,.str ⟨#[]⟩,.int .i64 0,.int .i64 0,.int .i64 0,.nilfn,.str ⟨#[]⟩,.str ⟨#[]⟩,.int .i64 0,.int .i64 0,.int .i64 0,.nilfn,.str ⟨#[]⟩,.str ⟨#[]⟩,.int .i64 0,.int .i64 0,.int .i64 0,.nilfn,.str ⟨#[]⟩,.str ⟨#[]⟩,.int .i64 0,.int .i64 0,.int .i64 0,.nilfn,.str ⟨#[]⟩,.str ⟨#[]⟩,.int .i64 0,.int .i64 0,.int .i64 0,.nilfn,.str ⟨#[]⟩,.str ⟨#[]⟩,.int .i64 0,.int .i64 0,.int .i64 0,.nilfn] [(0,6,(.t 21)),(6,6,(.t 26)),(12,6,(.t 30)),(18,6,(.t 35)),(24,6,(.t 40)),(30,6,(.t 45)),(36,6,(.t 50)),(42,6,(.t 53))],none,37,[]⟩,
  ⟨some 55,.call F.conf_first [(.t 54)],none,38,[]⟩,
  ⟨some 56,.extract 0 (.t 55),none,39,[]⟩,
  ⟨some 57,.extract 1 (.t 55),none,40,[]⟩,
  ⟨some 58,.extract 2 (.t 55),none,41,[]⟩,
  ⟨some 2,.move (.t 56),none,42,[]⟩,
  ⟨some 3,.move (.t 57),none,43,[]⟩,
  ⟨some 4,.move (.t 58),none,44,[]⟩]) (RC.ret))))))
theorem conf_Check_ok : chkFunc Go.Proofs.Tryz.prog [0] Go.Proofs.Tryz.f97 conf_Check = true := by kernel_rfl
def ctx_New : RFunc := RFunc.mk 3 [.tmp 0] (
  RC.seq (RC.region 1 [
  ⟨some 0,.move (.c (.s (.ptr none))),none,0,[]⟩]) (RC.seq (RC.region 3 [
  ⟨some 1,.build [.slice none 0 0 1,.bool false,.bool false] [],none,0,[]⟩,
  ⟨some 2,.box (.t 1),none,1,[]⟩,
  ⟨some 0,.move (.t 2),none,2,[]⟩]) (RC.ret)))
theorem ctx_New_ok : chkFunc Go.Proofs.Tryz.prog [0] Go.Proofs.Tryz.f98 ctx_New = true := by kernel_rfl
def ready_New : RFunc := RFunc.mk 3 [.tmp 0] (
  RC.seq (RC.region 1 [
  ⟨some 0,.move (.c (.s (.ptr none))),none,0,[]⟩]) (RC.seq (RC.region 3 [
  ⟨some 1,.build [.int .u64 0,.int .u64 0,.int .u64 0,.int .u64 0,.slice none 0 0 1,.slice none 0 0 1,.slice none 0 0 1,.slice none 0 0 1,.slice none 0 0 1,.slice none 0 0 1,.slice none 0 0 1,.slice none 0 0 1,.slice none 0 0 1,.slice none 0 0 1,.slice none 0 0 1,.slice none 0 0 1,.slice none 0 0 1,.slice none 0 0 1,.slice none 0 0 1,.slice none 0 0 1,.slice none 0 0 1,.int .i64 0,.int .i64 0,.int .i64 0,.int .i64 0,.int .i64 0,.int .i64 0,.int .i64 0,.int .i64 0,.int .i64 0,.int .i64 0,.int .i64 0,.int .i64 0,.int .i64 0,.int .i64 0,.int .i64 0,.int .i64 0,.int .i64 0] [],none,0,[]⟩,
  ⟨some 2,.box (.t 1),none,1,[]⟩,
  ⟨some 0,.move (.t 2),none,2,[]⟩]) (RC.ret)))
theorem ready_New_ok : chkFunc Go.Proofs.Tryz.prog [0] Go.Proofs.Tryz.f99 ready_New = true := by kernel_rfl
def kern_objects_build_l0 : RC :=
  RC.seq (RC.region 1 [
  ⟨some 38,.bin .lss (.t 37) (.t 36),none,0,[]⟩]) (RC.seq (RC.cond (.t 38) (RC.skip) (RC.exit 0)) (RC.seq (RC.block 1 (RC.seq (RC.region 4 [
  ⟨some 39,.indexSl 3 (.t 35) (.t 37),none,0,[]⟩,
  ⟨some 40,.load (some 3) (.t 39),none,1,[]⟩,
  ⟨some 5,.newc [.bool false,.int .i64 0,.int .i64 0],none,2,[]⟩,
  ⟨none,.store 3 (.t 5) (.t 40),none,3,[]⟩]) (RC.seq (RC.region 12 [
  ⟨some 42,.fieldAddr 0 (.t 5),none,0,[]⟩,
  ⟨some 43,.load none (.t 42),none,1,[]⟩,
  ⟨some 44,.fieldAddr 1 (.t 5),none,2,[]⟩,
  ⟨some 45,.load none (.t 44),none,3,[]⟩,
  ⟨some 46,.fieldAddr 2 (.t 5),none,4,[]⟩,
  ⟨some 47,.load none (.t 46),none,5,[]⟩,
  ⟨some 48,.call F.sem_NewSem [(.t 43),(.t 45),(.t 47)],none,6,[]⟩,
  ⟨some 41,.move (.t 48),none,7,[]⟩,
  ⟨some 49,.extract 0 (.t 41),none,8,[]⟩,
  ⟨some 50,.extract 1 (.t 41),none,9,[]⟩,
  ⟨some 6,.move (.t 49),none,10,[]⟩,
  ⟨some 7,.move (.t 50),none,11,[]⟩]) (RC.region 11 [
  ⟨some 51,.move (.t 0),none,0,[]⟩,
  ⟨some 52,.move (.t 0),none,1,[]⟩,
  ⟨some 53,.nilCheck (.t 52),none,2,[]⟩,
  ⟨some 54,.fieldAddr 0 (.t 53),none,3,[]⟩,
  ⟨some 55,.load none (.t 54),none,4,[]⟩,
  ⟨some 56,.move (.t 6),none,5,[]⟩,
  ⟨some 57,.buildSlice 1 1 [.ptr none] [(0,1,(.t 56))],none,6,[]⟩,
  ⟨some 58,.append 1 8 (.t 55) (.t 57),none,7,[]⟩,
  ⟨some 59,.nilCheck (.t 51),none,8,[]⟩,
  ⟨some 60,.fieldAddr 0 (.t 59),none,9,[]⟩,
  ⟨none,.store 1 (.t 60) (.t 58),none,10,[]⟩])))) (RC.region 2 [
  ⟨some 61,.bin .add (.t 37) (.c (.s (.int .i64 1))),none,0,[]⟩,
  ⟨some 37,.move (.t 61),none,1,[]⟩])))
def kern_objects_build_l1 : RC :=
  RC.seq (RC.region 1 [
  ⟨some 66,.bin .lss (.t 65) (.t 64),none,0,[]⟩]) (RC.seq (RC.cond (.t 66) (RC.skip) (RC.exit 2)) (RC.seq (RC.block 3 (RC.seq (RC.region 4 [
  ⟨some 67,.indexSl 4 (.t 63) (.t 65),none,0,[]⟩,
  ⟨some 68,.load (some 4) (.t 67),none,1,[]⟩,
  ⟨some 9,.newc [.bool false,.bool false,.bool false,.int .u32 0],none,2,[]⟩,
  ⟨none,.store 4 (.t 9) (.t 68),none,3,[]⟩]) (RC.region 19 [
  ⟨some 69,.move (.t 0),none,0,[]⟩,
  ⟨some 70,.move (.t 0),none,1,[]⟩,
  ⟨some 71,.nilCheck (.t 70),none,2,[]⟩,
  ⟨some 72,.fieldAddr 1 (.t 71),none,3,[]⟩,
  ⟨some 73,.load none (.t 72),none,4,[]⟩,
  ⟨some 74,.fieldAddr 0 (.t 9),none,5,[]⟩,
  ⟨some 75,.load none (.t 74),none,6,[]⟩,
  ⟨some 76,.fieldAddr 1 (.t 9),none,7,[]⟩,
  ⟨some 77,.load none (.t 76),none,8,[]⟩,
  ⟨some 78,.fieldAddr 2 (.t 9),none,9,[]⟩,
  ⟨some 79,.load none (.t 78),none,10,[]⟩,
  ⟨some 80,.fieldAddr 3 (.t 9),none,11,[]⟩,
  ⟨some 81,.load none (.t 80),none,12,[]⟩,
  ⟨some 82,.call F.flag_NewFlag [(.t 75),(.t 77),(.t 79),(.t 81)],none,13,[⟨73,none,(.t 72),none⟩]⟩,
  ⟨some 83,.buildSlice 1 1 [.ptr none] [(0,1,(.t 82))],none,14,[]⟩,
  ⟨some 84,.append 1 8 (.t 73) (.t 83),none,15,[]⟩,
  ⟨some 85,.nilCheck (.t 69),none,16,[]⟩,
  ⟨some 86,.fieldAddr 1 (.t 85),none,17,[]⟩,
  ⟨none,.store 1 (.t 86) (.t 84),none,18,[]⟩]))) (RC.region 2 [
  ⟨some 87,.bin .add (.t 65) (.c (.s (.int .i64 1))),none,0,[]⟩,
  ⟨some 65,.move (.t 87),none,1,[]⟩])))
def kern_objects_build_l2 : RC :=
  RC.seq (RC.region 1 [
  ⟨some 92,.bin .lss (.t 91) (.t 90),none,0,[]⟩]) (RC.seq (RC.cond (.t 92) (RC.skip) (RC.exit 4)) (RC.seq (RC.block 5 (RC.seq (RC.region 4 [
  ⟨some 93,.indexSl 2 (.t 89) (.t 91),none,0,[]⟩,
  ⟨some 94,.load (some 2) (.t 93),none,1,[]⟩,
  ⟨some 11,.newc [.bool false,.int .i64 0],none,2,[]⟩,
  ⟨none,.store 2 (.t 11) (.t 94),none,3,[]⟩]) (RC.seq (RC.region 10 [
  ⟨some 96,.fieldAddr 0 (.t 11),none,0,[]⟩,
  ⟨some 97,.load none (.t 96),none,1,[]⟩,
  ⟨some 98,.fieldAddr 1 (.t 11),none,2,[]⟩,
  ⟨some 99,.load none (.t 98),none,3,[]⟩,
  ⟨some 100,.call F.dtq_New [(.t 97),(.t 99)],none,4,[]⟩,
  ⟨some 95,.move (.t 100),none,5,[]⟩,
  ⟨some 101,.extract 0 (.t 95),none,6,[]⟩,
  ⟨some 102,.extract 1 (.t 95),none,7,[]⟩,
  ⟨some 12,.move (.t 101),none,8,[]⟩,
  ⟨some 13,.move (.t 102),none,9,[]⟩]) (RC.region 11 [
  ⟨some 103,.move (.t 0),none,0,[]⟩,
  ⟨some 104,.move (.t 0),none,1,[]⟩,
  ⟨some 105,.nilCheck (.t 104),none,2,[]⟩,
  ⟨some 106,.fieldAddr 2 (.t 105),none,3,[]⟩,
  ⟨some 107,.load none (.t 106),none,4,[]⟩,
  ⟨some 108,.move (.t 12),none,5,[]⟩,
  ⟨some 109,.buildSlice 1 1 [.ptr none] [(0,1,(.t 108))],none,6,[]⟩,
  ⟨some 110,.append 1 8 (.t 107) (.t 109),none,7,[]⟩,
  ⟨some 111,.nilCheck (.t 103),none,8,[]⟩,
  ⟨some 112,.fieldAddr 2 (.t 111),none,9,[]⟩,
  ⟨none,.store 1 (.t 112) (.t 110),none,10,[]⟩])))) (RC.region 2 [
  ⟨some 113,.bin .add (.t 91) (.c (.s (.int .i64 1))),none,0,[]⟩,
  ⟨some 91,.move (.t 113),none,1,[]⟩])))
def kern_objects_build_l3 : RC :=
  RC.seq (RC.region 1 [
  ⟨some 118,.bin .lss (.t 117) (.t 116),none,0,[]⟩]) (RC.seq (RC.cond (.t 118) (RC.skip) (RC.exit 6)) (RC.seq (RC.block 7 (RC.seq (RC.region 5 [
  ⟨some 119,.move (.t 117),none,0,[]⟩,
  ⟨some 120,.indexSl 1 (.t 115) (.t 117),none,1,[]⟩,
  ⟨some 121,.load none (.t 120),none,2,[]⟩,
  ⟨some 14,.move (.t 119),none,3,[]⟩,
  ⟨some 15,.move (.t 121),none,4,[]⟩]) (RC.seq (RC.region 7 [
  ⟨some 122,.fieldAddr 6 (.t 3),none,0,[]⟩,
  ⟨some 123,.load none (.t 122),none,1,[]⟩,
  ⟨some 124,.move (.t 14),none,2,[]⟩,
  ⟨some 125,.indexSl 3 (.t 123) (.t 124),none,3,[]⟩,
  ⟨some 126,.load (some 3) (.t 125),none,4,[]⟩,
  ⟨some 16,.newc [.bool false,.int .i64 0,.int .i64 0],none,5,[]⟩,
  ⟨none,.store 3 (.t 16) (.t 126),none,6,[]⟩]) (RC.seq (RC.region 13 [
  ⟨some 128,.fieldAddr 0 (.t 16),none,0,[]⟩,
  ⟨some 129,.load none (.t 128),none,1,[]⟩,
  ⟨some 130,.move (.t 15),none,2,[]⟩,
  ⟨some 131,.fieldAddr 1 (.t 16),none,3,[]⟩,
  ⟨some 132,.load none (.t 131),none,4,[]⟩,
  ⟨some 133,.fieldAddr 2 (.t 16),none,5,[]⟩,
  ⟨some 134,.load none (.t 133),none,6,[]⟩,
  ⟨some 135,.call F.mpf_NewPool [(.t 129),(.t 130),(.t 132),(.t 134)],none,7,[]⟩,
  ⟨some 127,.move (.t 135),none,8,[]⟩,
  ⟨some 136,.extract 0 (.t 127),none,9,[]⟩,
  ⟨some 137,.extract 1 (.t 127),none,10,[]⟩,
  ⟨some 17,.move (.t 136),none,11,[]⟩,
  ⟨some 18,.move (.t 137),none,12,[]⟩]) (RC.region 11 [
  ⟨some 138,.move (.t 0),none,0,[]⟩,
  ⟨some 139,.move (.t 0),none,1,[]⟩,
  ⟨some 140,.nilCheck (.t 139),none,2,[]⟩,
  ⟨some 141,.fieldAddr 3 (.t 140),none,3,[]⟩,
  ⟨some 142,.load none (.t 141),none,4,[]⟩,
  ⟨some 143,.move (.t 17),none,5,[]⟩,
  ⟨some 144,.buildSlice 1 1 [.ptr none] [(0,1,(.t 143))],none,6,[]⟩,
  ⟨some 145,.append 1 8 (.t 142) (.t 144),none,7,[]⟩,
  ⟨some 146,.nilCheck (.t 138),none,8,[]⟩,
  ⟨some 147,.fieldAddr 3 (.t 146),none,9,[]⟩,
  ⟨none,.store 1 (.t 147) (.t 145),none,10,[]⟩]))))) (RC.region 2 [
  ⟨some 148,.bin .add (.t 117) (.c (.s (.int .i64 1))),none,0,[]⟩,
  ⟨some 117,.move (.t 148),none,1,[]⟩])))
def kern_objects_build_s4 : RC :=
  RC.seq (RC.region 4 [
  ⟨some 114,.load (some 9) (.t 3),none,0,[]⟩,
  ⟨some 115,.call F.conf_Layout [(.t 114)],none,1,[]⟩,
  ⟨some 116,.len (.t 115),none,2,[]⟩,
  ⟨some 117,.move (.c (.s (.int .i64 0))),none,3,[]⟩]) (RC.block 6 (RC.loop R.kern_objects_build_l3))
def kern_objects_build_s5 : RC :=
  RC.seq (RC.seq (RC.region 4 [
  ⟨some 88,.fieldAddr 4 (.t 3),none,0,[]⟩,
  ⟨some 89,.load none (.t 88),none,1,[]⟩,
  ⟨some 90,.len (.t 89),none,2,[]⟩,
  ⟨some 91,.move (.c (.s (.int .i64 0))),none,3,[]⟩]) (RC.block 4 (RC.loop R.kern_objects_build_l2))) R.kern_objects_build_s4
def kern_objects_build_s6 : RC :=
  RC.seq (RC.seq (RC.region 4 [
  ⟨some 62,.fieldAddr 3 (.t 3),none,0,[]⟩,
  ⟨some 63,.load none (.t 62),none,1,[]⟩,
  ⟨some 64,.len (.t 63),none,2,[]⟩,
  ⟨some 65,.move (.c (.s (.int .i64 0))),none,3,[]⟩]) (RC.block 2 (RC.loop R.kern_objects_build_l1))) R.kern_objects_build_s5
def kern_objects_build : RFunc := RFunc.mk 149 [] (
  RC.seq (RC.region 1 [
  ⟨some 3,.box (.t 1),none,0,[]⟩]) (RC.seq (RC.region 10 [
  ⟨some 20,.move (.t 0),none,0,[]⟩,
  ⟨some 21,.fieldAddr 5 (.t 3),none,1,[]⟩,
  ⟨some 22,.load none (.t 21),none,2,[]⟩,
  ⟨some 23,.call F.mtx_New [(.t 22)],none,3,[]⟩,
  ⟨some 19,.move (.t 23),none,4,[]⟩,
  ⟨some 24,.extract 0 (.t 19),none,5,[]⟩,
  ⟨some 25,.extract 1 (.t 19),none,6,[]⟩,
  ⟨some 26,.nilCheck (.t 20),none,7,[]⟩,
  ⟨some 27,.fieldAddr 5 (.t 26),none,8,[]⟩,
  ⟨none,.store 1 (.t 27) (.t 24),none,9,[]⟩]) (RC.seq (RC.region 7 [
  ⟨some 28,.move (.t 0),none,0,[]⟩,
  ⟨some 29,.fieldAddr 5 (.t 3),none,1,[]⟩,
  ⟨some 30,.load none (.t 29),none,2,[]⟩,
  ⟨some 31,.len (.t 30),none,3,[]⟩,
  ⟨some 32,.nilCheck (.t 28),none,4,[]⟩,
  ⟨some 33,.fieldAddr 4 (.t 32),none,5,[]⟩,
  ⟨none,.store 1 (.t 33) (.t 31),none,6,[]⟩]) (RC.seq (RC.seq (RC.region 4 [
  ⟨some 34,.fieldAddr 2 (.t 3),none,0,[]⟩,
  ⟨some 35,.load none (.t 34),none,1,[]⟩,
  ⟨some 36,.len (.t 35),none,2,[]⟩,
  ⟨some 37,.move (.c (.s (.int .i64 0))),none,3,[]⟩]) (RC.block 0 (RC.loop R.kern_objects_build_l0))) R.kern_objects_build_s6))))
theorem kern_objects_build_ok : chkFunc Go.Proofs.Tryz.prog [0] Go.Proofs.Tryz.f100 kern_objects_build = true := by kernel_rfl
def cyc_NewHands : RFunc := RFunc.mk 19 [.tmp 2,.tmp 3] (
  RC.seq (RC.region 2 [
  ⟨some 2,.move (.c (.s (.ptr none))),none,0,[]⟩,
  ⟨some 3,.move (.c (.s (.int .i64 0))),none,1,[]⟩]) (RC.seq (RC.region 7 [
  ⟨some 7,.move (.t 0),none,0,[]⟩,
  ⟨some 8,.call F.clock_NewClock [(.t 7)],none,1,[]⟩,
  ⟨some 6,.move (.t 8),none,2,[]⟩,
  ⟨some 9,.extract 0 (.t 6),none,3,[]⟩,
  ⟨some 10,.extract 1 (.t 6),none,4,[]⟩,
  ⟨some 4,.move (.t 9),none,5,[]⟩,
  ⟨some 5,.move (.t 10),none,6,[]⟩]) (RC.seq (RC.seq (RC.region 2 [
  ⟨some 11,.move (.t 5),none,0,[]⟩,
  ⟨some 12,.bin .neq (.t 11) (.c (.s (.int .i64 0))),none,1,[]⟩]) (RC.cond (.t 12) (RC.seq (RC.region 3 [
  ⟨some 13,.move (.t 5),none,0,[]⟩,
  ⟨some 2,.move (.c (.s (.ptr none))),none,1,[]⟩,
  ⟨some 3,.move (.t 13),none,2,[]⟩]) (RC.ret)) (RC.skip))) (RC.seq (RC.region 7 [
  ⟨some 14,.move (.t 4),none,0,[]⟩,
  ⟨some 15,.move (.t 0),none,1,[]⟩,
  ⟨some 16,.conv .u64 (.t 15),none,2,[]⟩,
  ⟨some 17,.build [.ptr none,.int .u64 0,.slice none 0 0 1,.slice none 0 0 1] [(0,1,(.t 14)),(1,1,(.t 16))],none,3,[]⟩,
  ⟨some 18,.box (.t 17),none,4,[]⟩,
  ⟨some 2,.move (.t 18),none,5,[]⟩,
  ⟨some 3,.move (.c (.s (.int .i64 0))),none,6,[]⟩]) (RC.ret)))))
theorem cyc_NewHands_ok : chkFunc Go.Proofs.Tryz.prog [0] Go.Proofs.Tryz.f101 cyc_NewHands = true := by kernel_rfl
def cyc_Hands_Cyclic : RFunc := RFunc.mk 67 [.tmp 10,.tmp 11] (
  RC.seq (RC.region 2 [
  ⟨some 10,.move (.c (.s (.int .i64 0))),none,0,[]⟩,
  ⟨some 11,.move (.c (.s (.int .i64 0))),none,1,[]⟩]) (RC.seq (RC.region 7 [
  ⟨some 17,.move (.t 1),none,0,[]⟩,
  ⟨some 18,.call F.nums_Rel [(.t 17)],none,1,[]⟩,
  ⟨some 16,.move (.t 18),none,2,[]⟩,
  ⟨some 19,.extract 0 (.t 16),none,3,[]⟩,
  ⟨some 20,.extract 1 (.t 16),none,4,[]⟩,
  ⟨some 12,.move (.t 19),none,5,[]⟩,
  ⟨some 13,.move (.t 20),none,6,[]⟩]) (RC.seq (RC.region 7 [
  ⟨some 22,.move (.t 2),none,0,[]⟩,
  ⟨some 23,.call F.nums_Rel [(.t 22)],none,1,[]⟩,
  ⟨some 21,.move (.t 23),none,2,[]⟩,
  ⟨some 24,.extract 0 (.t 21),none,3,[]⟩,
  ⟨some 25,.extract 1 (.t 21),none,4,[]⟩,
  ⟨some 14,.move (.t 24),none,5,[]⟩,
  ⟨some 15,.move (.t 25),none,6,[]⟩]) (RC.seq (RC.block 0 (RC.seq (RC.region 7 [
  ⟨some 27,.move (.t 12),none,0,[]⟩,
  ⟨some 28,.bin .eql (.t 27) (.c (.s (.int .u64 0))),none,1,[]⟩,
  ⟨some 29,.move (.t 28),none,2,[]⟩,
  ⟨some 30,.move (.t 15),(some (29,false)),3,[]⟩,
  ⟨some 31,.bin .neq (.t 30) (.c (.s (.int .i64 0))),(some (29,false)),4,[]⟩,
  ⟨some 32,.pick (.t 29) (.c (.s (.bool true))) (.t 31),none,5,[]⟩,
  ⟨some 26,.move (.t 32),none,6,[]⟩]) (RC.cond (.t 26) (RC.seq (RC.region 2 [
  ⟨some 10,.move (.c (.s (.int .i64 0))),none,0,[]⟩,
  ⟨some 11,.move (.c (.s (.int .i64 (-17)))),none,1,[]⟩]) (RC.ret)) (RC.seq (RC.region 7 [
  ⟨some 34,.move (.t 0),none,0,[]⟩,
  ⟨some 35,.nilCheck (.t 34),none,1,[]⟩,
  ⟨some 36,.fieldAddr 2 (.t 35),none,2,[]⟩,
  ⟨some 37,.load none (.t 36),none,3,[]⟩,
  ⟨some 38,.len (.t 37),none,4,[]⟩,
  ⟨some 39,.bin .geq (.t 38) (.c (.s (.int .i64 8))),none,5,[]⟩,
  ⟨some 33,.move (.t 39),none,6,[]⟩]) (RC.cond (.t 33) (RC.seq (RC.region 2 [
  ⟨some 10,.move (.c (.s (.int .i64 0))),none,0,[]⟩,
  ⟨some 11,.move (.c (.s (.int .i64 (-33)))),none,1,[]⟩]) (RC.ret)) (RC.skip)))))) (RC.seq (RC.region 8 [
  ⟨some 40,.move (.t 14),none,0,[]⟩,
  ⟨some 41,.move (.t 0),none,1,[]⟩,
  ⟨some 42,.nilCheck (.t 41),none,2,[]⟩,
  ⟨some 43,.fieldAddr 0 (.t 42),none,3,[]⟩,
  ⟨some 44,.load none (.t 43),none,4,[]⟩,
  ⟨some 45,.call F.clock_Clock_Up [(.t 44)],none,5,[]⟩,
  ⟨some 46,.bin .add (.t 40) (.t 45),none,6,[]⟩,
  ⟨some 14,.move (.t 46),none,7,[]⟩]) (RC.seq (RC.region 16 [
  ⟨some 47,.move (.t 0),none,0,[]⟩,
  ⟨some 48,.move (.t 0),none,1,[]⟩,
  ⟨some 49,.nilCheck (.t 48),none,2,[]⟩,
  ⟨some 50,.fieldAddr 2 (.t 49),none,3,[]⟩,
  ⟨some 51,.load none (.t 50),none,4,[]⟩,
  ⟨some 52,.move (.t 14),none,5,[]⟩,
  ⟨some 53,.move (.t 14),none,6,[]⟩,
  ⟨some 54,.move (.t 12),none,7,[]⟩,
  ⟨some 55,.move (.t 3),none,8,[]⟩,
  ⟨some 56,.move (.t 4),none,9,[]⟩,
  ⟨some 57,.build [.int .u64 0,.int .u64 0,.int .u64 0,.bool false,.bool false] [(0,1,(.t 52)),(1,1,(.t 53)),(2,1,(.t 54)),(3,1,(.t 55)),(4,1,(.t 56))],none,10,[]⟩,
  ⟨some 58,.buildSlice 5 1 [.int .u64 0,.int .u64 0,.int .u64 0,.bool false,.bool false] [(0,5,(.t 57))],none,11,[]⟩,
  ⟨some 59,.append 5 32 (.t 51) (.t 58),none,12,[]⟩,
  ⟨some 60,.nilCheck (.t 47),none,13,[]⟩,
  ⟨some 61,.fieldAddr 2 (.t 60),none,14,[]⟩,
  ⟨none,.store 1 (.t 61) (.t 59),none,15,[]⟩]) (RC.seq (RC.region 7 [
  ⟨some 62,.move (.t 0),none,0,[]⟩,
  ⟨some 63,.nilCheck (.t 62),none,1,[]⟩,
  ⟨some 64,.fieldAddr 2 (.t 63),none,2,[]⟩,
  ⟨some 65,.load none (.t 64),none,3,[]⟩,
  ⟨some 66,.len (.t 65),none,4,[]⟩,
  ⟨some 10,.move (.t 66),none,5,[]⟩,
  ⟨some 11,.move (.c (.s (.int .i64 0))),none,6,[]⟩]) (RC.ret))))))))
theorem cyc_Hands_Cyclic_ok : chkFunc Go.Proofs.Tryz.prog [0] Go.Proofs.Tryz.f102 cyc_Hands_Cyclic = true := by kernel_rfl
def cyc_Hands_Alarm : RFunc := RFunc.mk 25 [.tmp 2,.tmp 3] (
  RC.seq (RC.region 2 [
  ⟨some 2,.move (.c (.s (.int .i64 0))),none,0,[]⟩,
  ⟨some 3,.move (.c (.s (.int .i64 0))),none,1,[]⟩]) (RC.seq (RC.seq (RC.region 6 [
  ⟨some 4,.move (.t 0),none,0,[]⟩,
  ⟨some 5,.nilCheck (.t 4),none,1,[]⟩,
  ⟨some 6,.fieldAddr 3 (.t 5),none,2,[]⟩,
  ⟨some 7,.load none (.t 6),none,3,[]⟩,
  ⟨some 8,.len (.t 7),none,4,[]⟩,
  ⟨some 9,.bin .geq (.t 8) (.c (.s (.int .i64 8))),none,5,[]⟩]) (RC.cond (.t 9) (RC.seq (RC.region 2 [
  ⟨some 2,.move (.c (.s (.int .i64 0))),none,0,[]⟩,
  ⟨some 3,.move (.c (.s (.int .i64 (-33)))),none,1,[]⟩]) (RC.ret)) (RC.skip))) (RC.seq (RC.region 11 [
  ⟨some 10,.move (.t 0),none,0,[]⟩,
  ⟨some 11,.move (.t 0),none,1,[]⟩,
  ⟨some 12,.nilCheck (.t 11),none,2,[]⟩,
  ⟨some 13,.fieldAddr 3 (.t 12),none,3,[]⟩,
  ⟨some 14,.load none (.t 13),none,4,[]⟩,
  ⟨some 15,.build [.bool false,.int .u64 0] [],none,5,[]⟩,
  ⟨some 16,.buildSlice 2 1 [.bool false,.int .u64 0] [(0,2,(.t 15))],none,6,[]⟩,
  ⟨some 17,.append 2 16 (.t 14) (.t 16),none,7,[]⟩,
  ⟨some 18,.nilCheck (.t 10),none,8,[]⟩,
  ⟨some 19,.fieldAddr 3 (.t 18),none,9,[]⟩,
  ⟨none,.store 1 (.t 19) (.t 17),none,10,[]⟩]) (RC.seq (RC.region 7 [
  ⟨some 20,.move (.t 0),none,0,[]⟩,
  ⟨some 21,.nilCheck (.t 20),none,1,[]⟩,
  ⟨some 22,.fieldAddr 3 (.t 21),none,2,[]⟩,
  ⟨some 23,.load none (.t 22),none,3,[]⟩,
  ⟨some 24,.len (.t 23),none,4,[]⟩,
  ⟨some 2,.move (.t 24),none,5,[]⟩,
  ⟨some 3,.move (.c (.s (.int .i64 0))),none,6,[]⟩]) (RC.ret)))))
theorem cyc_Hands_Alarm_ok : chkFunc Go.Proofs.Tryz.prog [0] Go.Proofs.Tryz.f103 cyc_Hands_Alarm = true := by kernel_rfl
def mtx_All_SetBase_l0 : RC :=
  RC.seq (RC.seq (RC.region 7 [
  ⟨some 17,.move (.t 7),none,0,[]⟩,
  ⟨some 18,.move (.t 0),none,1,[]⟩,
  ⟨some 19,.nilCheck (.t 18),none,2,[]⟩,
  ⟨some 20,.fieldAddr 0 (.t 19),none,3,[]⟩,
  ⟨some 21,.load none (.t 20),none,4,[]⟩,
  ⟨some 22,.len (.t 21),none,5,[]⟩,
  ⟨some 23,.bin .lss (.t 17) (.t 22),none,6,[]⟩]) (RC.cond (.t 23) (RC.skip) (RC.exit 1))) (RC.seq (RC.block 2 (RC.seq (RC.region 9 [
  ⟨some 26,.move (.t 0),none,0,[]⟩,
  ⟨some 27,.nilCheck (.t 26),none,1,[]⟩,
  ⟨some 28,.fieldAddr 0 (.t 27),none,2,[]⟩,
  ⟨some 29,.load none (.t 28),none,3,[]⟩,
  ⟨some 30,.move (.t 7),none,4,[]⟩,
  ⟨some 31,.indexSl 4 (.t 29) (.t 30),none,5,[]⟩,
  ⟨some 32,.load (some 4) (.t 31),none,6,[]⟩,
  ⟨some 8,.newc [.int .i64 0,.int .i64 0,.int .i64 0,.slice none 0 0 1],none,7,[]⟩,
  ⟨none,.store 4 (.t 8) (.t 32),none,8,[]⟩]) (RC.seq (RC.region 28 [
  ⟨some 33,.fieldAddr 0 (.t 8),none,0,[]⟩,
  ⟨some 34,.fieldAddr 0 (.t 33),none,1,[]⟩,
  ⟨some 35,.load none (.t 34),none,2,[]⟩,
  ⟨some 36,.bin .eql (.t 35) (.c (.s (.int .i64 3))),none,3,[]⟩,
  ⟨some 37,.move (.t 36),none,4,[]⟩,
  ⟨some 38,.fieldAddr 0 (.t 8),(some (37,true)),5,[]⟩,
  ⟨some 39,.fieldAddr 1 (.t 38),(some (37,true)),6,[]⟩,
  ⟨some 40,.load none (.t 39),(some (37,true)),7,[]⟩,
  ⟨some 41,.move (.t 2),(some (37,true)),8,[]⟩,
  ⟨some 42,.bin .gtr (.t 40) (.t 41),(some (37,true)),9,[]⟩,
  ⟨some 43,.pick (.t 37) (.t 42) (.c (.s (.bool false))),none,10,[]⟩,
  ⟨some 44,.move (.t 43),none,11,[]⟩,
  ⟨some 45,.fieldAddr 2 (.t 8),(some (44,true)),12,[]⟩,
  ⟨some 46,.load none (.t 45),(some (44,true)),13,[]⟩,
  ⟨some 47,.move (.t 1),(some (44,true)),14,[]⟩,
  ⟨some 48,.bin .eql (.t 46) (.t 47),(some (44,true)),15,[]⟩,
  ⟨some 49,.move (.t 48),(some (44,true)),16,[]⟩,
  ⟨some 50,.move (.t 0),(some (49,false)),17,[]⟩,
  ⟨some 51,.move (.t 1),(some (49,false)),18,[]⟩,
  ⟨some 52,.nilCheck (.t 50),(some (49,false)),19,[]⟩,
  ⟨some 53,.fieldAddr 1 (.t 52),(some (49,false)),20,[]⟩,
  ⟨some 54,.indexArr 17 3 (.t 53) (.t 51),(some (49,false)),21,[]⟩,
  ⟨some 55,.fieldAddr 2 (.t 54),(some (49,false)),22,[]⟩,
  ⟨some 56,.load none (.t 55),(some (49,false)),23,[]⟩,
  ⟨some 57,.move (.t 7),(some (49,false)),24,[]⟩,
  ⟨some 58,.bin .eql (.t 56) (.t 57),(some (49,false)),25,[]⟩,
  ⟨some 59,.pick (.t 49) (.c (.s (.bool true))) (.t 58),(some (44,true)),26,[]⟩,
  ⟨some 60,.pick (.t 44) (.t 59) (.c (.s (.bool false))),none,27,[]⟩]) (RC.cond (.t 60) (RC.seq (RC.region 1 [
  ⟨some 6,.move (.c (.s (.int .i64 (-28)))),none,0,[]⟩]) (RC.ret)) (RC.skip))))) (RC.region 3 [
  ⟨some 24,.move (.t 7),none,0,[]⟩,
  ⟨some 25,.bin .add (.t 24) (.c (.s (.int .i64 1))),none,1,[]⟩,
  ⟨some 7,.move (.t 25),none,2,[]⟩]))
def mtx_All_SetBase_s1 : RC :=
  RC.seq (RC.region 8 [
  ⟨some 61,.move (.t 0),none,0,[]⟩,
  ⟨some 62,.move (.t 1),none,1,[]⟩,
  ⟨some 63,.move (.t 2),none,2,[]⟩,
  ⟨some 64,.nilCheck (.t 61),none,3,[]⟩,
  ⟨some 65,.fieldAddr 1 (.t 64),none,4,[]⟩,
  ⟨some 66,.indexArr 17 3 (.t 65) (.t 62),none,5,[]⟩,
  ⟨some 67,.fieldAddr 0 (.t 66),none,6,[]⟩,
  ⟨none,.store 1 (.t 67) (.t 63),none,7,[]⟩]) (RC.seq (RC.region 2 [
  ⟨some 68,.move (.t 0),none,0,[]⟩,
  ⟨some 69,.call F.mtx_All_settle [(.t 68)],none,1,[]⟩]) (RC.seq (RC.region 1 [
  ⟨some 6,.move (.c (.s (.int .i64 0))),none,0,[]⟩]) (RC.ret)))
def mtx_All_SetBase : RFunc := RFunc.mk 70 [.tmp 6] (
  RC.seq (RC.region 1 [
  ⟨some 6,.move (.c (.s (.int .i64 0))),none,0,[]⟩]) (RC.seq (RC.block 0 (RC.seq (RC.region 4 [
  ⟨some 10,.move (.t 1),none,0,[]⟩,
  ⟨some 11,.call F.mtx_is [(.t 10)],none,1,[]⟩,
  ⟨some 12,.un .not (.t 11),none,2,[]⟩,
  ⟨some 9,.move (.t 12),none,3,[]⟩]) (RC.cond (.t 9) (RC.seq (RC.region 1 [
  ⟨some 6,.move (.c (.s (.int .i64 (-18)))),none,0,[]⟩]) (RC.ret)) (RC.seq (RC.region 4 [
  ⟨some 14,.move (.t 2),none,0,[]⟩,
  ⟨some 15,.call F.mtx_may [(.t 14)],none,1,[]⟩,
  ⟨some 16,.un .not (.t 15),none,2,[]⟩,
  ⟨some 13,.move (.t 16),none,3,[]⟩]) (RC.cond (.t 13) (RC.seq (RC.region 1 [
  ⟨some 6,.move (.c (.s (.int .i64 (-17)))),none,0,[]⟩]) (RC.ret)) (RC.skip)))))) (RC.seq (RC.seq (RC.region 1 [
  ⟨some 7,.move (.c (.s (.int .i64 1))),none,0,[]⟩]) (RC.block 1 (RC.loop R.mtx_All_SetBase_l0))) R.mtx_All_SetBase_s1)))
theorem mtx_All_SetBase_ok : chkFunc Go.Proofs.Tryz.prog [0] Go.Proofs.Tryz.f104 mtx_All_SetBase = true := by kernel_rfl
def tcb_New : RFunc := RFunc.mk 3 [.tmp 0] (
  RC.seq (RC.region 1 [
  ⟨some 0,.move (.c (.s (.ptr none))),none,0,[]⟩]) (RC.seq (RC.region 3 [
  ⟨some 1,.build [.int .i64 0,.int .i64 0,.int .i64 0,.int .i64 0,.bool false] [(3,1,(.c (.s (.int .i64 16))))],none,0,[]⟩,
  ⟨some 2,.box (.t 1),none,1,[]⟩,
  ⟨some 0,.move (.t 2),none,2,[]⟩]) (RC.ret)))
theorem tcb_New_ok : chkFunc Go.Proofs.Tryz.prog [0] Go.Proofs.Tryz.f105 tcb_New = true := by kernel_rfl
def kern_Kernel_act : RFunc := RFunc.mk 36 [.tmp 4] (
  RC.seq (RC.region 1 [
  ⟨some 4,.move (.c (.s (.int .i64 0))),none,0,[]⟩]) (RC.seq (RC.region 16 [
  ⟨some 8,.move (.t 0),none,0,[]⟩,
  ⟨some 9,.nilCheck (.t 8),none,1,[]⟩,
  ⟨some 10,.fieldAddr 9 (.t 9),none,2,[]⟩,
  ⟨some 11,.load none (.t 10),none,3,[]⟩,
  ⟨some 12,.move (.t 1),none,4,[]⟩,
  ⟨some 13,.indexSl 1 (.t 11) (.t 12),none,5,[]⟩,
  ⟨some 14,.load none (.t 13),none,6,[]⟩,
  ⟨some 15,.nilCheck (.t 14),none,7,[]⟩,
  ⟨some 16,.fieldAddr 0 (.t 15),none,8,[]⟩,
  ⟨some 17,.load none (.t 16),none,9,[]⟩,
  ⟨some 18,.call F.tcb_Task_Act [(.t 17)],none,10,[]⟩,
  ⟨some 7,.move (.t 18),none,11,[]⟩,
  ⟨some 19,.extract 0 (.t 7),none,12,[]⟩,
  ⟨some 20,.extract 1 (.t 7),none,13,[]⟩,
  ⟨some 5,.move (.t 19),none,14,[]⟩,
  ⟨some 6,.move (.t 20),none,15,[]⟩]) (RC.seq (RC.seq (RC.region 1 [
  ⟨some 21,.move (.t 5),none,0,[]⟩]) (RC.cond (.t 21) (RC.seq (RC.region 11 [
  ⟨some 22,.move (.t 0),none,0,[]⟩,
  ⟨some 23,.nilCheck (.t 22),none,1,[]⟩,
  ⟨some 24,.fieldAddr 9 (.t 23),none,2,[]⟩,
  ⟨some 25,.load none (.t 24),none,3,[]⟩,
  ⟨some 26,.move (.t 1),none,4,[]⟩,
  ⟨some 27,.indexSl 1 (.t 25) (.t 26),none,5,[]⟩,
  ⟨some 28,.load none (.t 27),none,6,[]⟩,
  ⟨some 29,.build [.int .i64 0,.int .i64 0] [],none,7,[]⟩,
  ⟨some 30,.nilCheck (.t 28),none,8,[]⟩,
  ⟨some 31,.fieldAddr 6 (.t 30),none,9,[]⟩,
  ⟨none,.store 2 (.t 31) (.t 29),none,10,[]⟩]) (RC.region 3 [
  ⟨some 32,.move (.t 0),none,0,[]⟩,
  ⟨some 33,.move (.t 1),none,1,[]⟩,
  ⟨some 34,.call F.kern_Kernel_enter [(.t 32),(.t 33)],none,2,[]⟩])) (RC.skip))) (RC.seq (RC.region 2 [
  ⟨some 35,.move (.t 6),none,0,[]⟩,
  ⟨some 4,.move (.t 35),none,1,[]⟩]) (RC.ret)))))
theorem kern_Kernel_act_ok : chkFunc Go.Proofs.Tryz.prog [0] Go.Proofs.Tryz.f106 kern_Kernel_act = true := by kernel_rfl
def calls_Known : RFunc := RFunc.mk 7 [.tmp 2] (
  RC.seq (RC.region 1 [
  ⟨some 2,.move (.c (.s (.bool false))),none,0,[]⟩]) (RC.seq (RC.region 5 [
  ⟨some 3,.move (.t 0),none,0,[]⟩,
  ⟨some 4,.call F.calls_of [(.t 3)],none,1,[]⟩,
  ⟨some 5,.field none 0 (.t 4),none,2,[]⟩,
  ⟨some 6,.eqs .str true (.t 5) (.c (.s (.str ⟨#[]⟩))),none,3,[]⟩,
  ⟨some 2,.move (.t 6),none,4,[]⟩]) (RC.ret)))
theorem calls_Known_ok : chkFunc Go.Proofs.Tryz.prog [0] Go.Proofs.Tryz.f51 calls_Known = true := by kernel_rfl
end Go.AM.R
