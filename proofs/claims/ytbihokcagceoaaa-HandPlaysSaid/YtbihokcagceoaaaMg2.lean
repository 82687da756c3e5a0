/-
  The code of the functions,as the abstract machine has it; it is the program's.
-/
import Derived.Test.YtbihokcagceoaaaMg1
import Derived.Test.YtbihokcagceoaaaProg
import Derived.KernelRfl
set_option maxRecDepth 100000
namespace Go.AM.R
open Go.AM
def detentref7_Timers_Cancel : RFunc := RFunc.mk 32 [.tmp 4] (
  RC.seq (RC.region 1 [
  ⟨some 4,.move (.c (.s (.bool false))),none,0,[]⟩]) (RC.seq (RC.region 4 [
  ⟨some 7,.move (.t 0),none,0,[]⟩,
  ⟨some 8,.move (.t 1),none,1,[]⟩,
  ⟨some 9,.call F.detentref7_Timers_Find [(.t 7),(.t 8)],none,2,[]⟩,
  ⟨some 5,.move (.t 9),none,3,[]⟩]) (RC.seq (RC.seq (RC.region 2 [
  ⟨some 10,.move (.t 5),none,0,[]⟩,
  ⟨some 11,.bin .lss (.t 10) (.c (.s (.int .i64 0))),none,1,[]⟩]) (RC.cond (.t 11) (RC.seq (RC.region 1 [
  ⟨some 4,.move (.c (.s (.bool false))),none,0,[]⟩]) (RC.ret)) (RC.skip))) (RC.seq (RC.region 9 [
  ⟨some 12,.buildSlice 3 0 [] [],none,0,[]⟩,
  ⟨some 13,.move (.t 0),none,1,[]⟩,
  ⟨some 14,.nilCheck (.t 13),none,2,[]⟩,
  ⟨some 15,.fieldAddr 0 (.t 14),none,3,[]⟩,
  ⟨some 16,.load none (.t 15),none,4,[]⟩,
  ⟨some 17,.move (.t 5),none,5,[]⟩,
  ⟨some 18,.slSl 3 (.t 16) none (some (.t 17)) none,none,6,[]⟩,
  ⟨some 19,.append 3 24 (.t 12) (.t 18),none,7,[]⟩,
  ⟨some 6,.move (.t 19),none,8,[]⟩]) (RC.seq (RC.region 13 [
  ⟨some 20,.move (.t 0),none,0,[]⟩,
  ⟨some 21,.move (.t 6),none,1,[]⟩,
  ⟨some 22,.move (.t 0),none,2,[]⟩,
  ⟨some 23,.nilCheck (.t 22),none,3,[]⟩,
  ⟨some 24,.fieldAddr 0 (.t 23),none,4,[]⟩,
  ⟨some 25,.load none (.t 24),none,5,[]⟩,
  ⟨some 26,.move (.t 5),none,6,[]⟩,
  ⟨some 27,.bin .add (.t 26) (.c (.s (.int .i64 1))),none,7,[]⟩,
  ⟨some 28,.slSl 3 (.t 25) (some (.t 27)) none none,none,8,[]⟩,
  ⟨some 29,.append 3 24 (.t 21) (.t 28),none,9,[]⟩,
  ⟨some 30,.nilCheck (.t 20),none,10,[]⟩,
  ⟨some 31,.fieldAddr 0 (.t 30),none,11,[]⟩,
  ⟨none,.store 1 (.t 31) (.t 29),none,12,[]⟩]) (RC.seq (RC.region 1 [
  ⟨some 4,.move (.c (.s (.bool true))),none,0,[]⟩]) (RC.ret)))))))
theorem detentref7_Timers_Cancel_ok : chkFunc Go.Proofs.Try.prog [] Go.Proofs.Try.f32 detentref7_Timers_Cancel = true := by kernel_rfl
def clock_Clock_Now : RFunc := RFunc.mk 12 [.tmp 2] (
  RC.seq (RC.region 1 [
  ⟨some 2,.move (.c (.s (.int .u64 0))),none,0,[]⟩]) (RC.seq (RC.region 10 [
  ⟨some 3,.move (.t 0),none,0,[]⟩,
  ⟨some 4,.nilCheck (.t 3),none,1,[]⟩,
  ⟨some 5,.fieldAddr 3 (.t 4),none,2,[]⟩,
  ⟨some 6,.load none (.t 5),none,3,[]⟩,
  ⟨some 7,.move (.t 0),none,4,[]⟩,
  ⟨some 8,.nilCheck (.t 7),none,5,[]⟩,
  ⟨some 9,.fieldAddr 2 (.t 8),none,6,[]⟩,
  ⟨some 10,.load none (.t 9),none,7,[]⟩,
  ⟨some 11,.call F.nums_Add [(.t 6),(.t 10)],none,8,[]⟩,
  ⟨some 2,.move (.t 11),none,9,[]⟩]) (RC.ret)))
theorem clock_Clock_Now_ok : chkFunc Go.Proofs.Try.prog [] Go.Proofs.Try.f33 clock_Clock_Now = true := by kernel_rfl
def detentref8_Clock_Now : RFunc := RFunc.mk 12 [.tmp 2] (
  RC.seq (RC.region 1 [
  ⟨some 2,.move (.c (.s (.int .u64 0))),none,0,[]⟩]) (RC.seq (RC.region 10 [
  ⟨some 3,.move (.t 0),none,0,[]⟩,
  ⟨some 4,.nilCheck (.t 3),none,1,[]⟩,
  ⟨some 5,.fieldAddr 3 (.t 4),none,2,[]⟩,
  ⟨some 6,.load none (.t 5),none,3,[]⟩,
  ⟨some 7,.move (.t 0),none,4,[]⟩,
  ⟨some 8,.nilCheck (.t 7),none,5,[]⟩,
  ⟨some 9,.fieldAddr 2 (.t 8),none,6,[]⟩,
  ⟨some 10,.load none (.t 9),none,7,[]⟩,
  ⟨some 11,.call F.detentref1_Add [(.t 6),(.t 10)],none,8,[]⟩,
  ⟨some 2,.move (.t 11),none,9,[]⟩]) (RC.ret)))
theorem detentref8_Clock_Now_ok : chkFunc Go.Proofs.Try.prog [] Go.Proofs.Try.f34 detentref8_Clock_Now = true := by kernel_rfl
def heap_Timers_Len : RFunc := RFunc.mk 8 [.tmp 2] (
  RC.seq (RC.region 1 [
  ⟨some 2,.move (.c (.s (.int .i64 0))),none,0,[]⟩]) (RC.seq (RC.region 6 [
  ⟨some 3,.move (.t 0),none,0,[]⟩,
  ⟨some 4,.nilCheck (.t 3),none,1,[]⟩,
  ⟨some 5,.fieldAddr 0 (.t 4),none,2,[]⟩,
  ⟨some 6,.load none (.t 5),none,3,[]⟩,
  ⟨some 7,.len (.t 6),none,4,[]⟩,
  ⟨some 2,.move (.t 7),none,5,[]⟩]) (RC.ret)))
theorem heap_Timers_Len_ok : chkFunc Go.Proofs.Try.prog [] Go.Proofs.Try.f35 heap_Timers_Len = true := by kernel_rfl
def clock_NewClock : RFunc := RFunc.mk 15 [.tmp 2,.tmp 3] (
  RC.seq (RC.region 2 [
  ⟨some 2,.move (.c (.s (.ptr none))),none,0,[]⟩,
  ⟨some 3,.move (.c (.s (.int .i64 0))),none,1,[]⟩]) (RC.seq (RC.seq (RC.region 6 [
  ⟨some 4,.move (.t 0),none,0,[]⟩,
  ⟨some 5,.bin .lss (.t 4) (.c (.s (.int .i64 1))),none,1,[]⟩,
  ⟨some 6,.move (.t 5),none,2,[]⟩,
  ⟨some 7,.move (.t 0),(some (6,false)),3,[]⟩,
  ⟨some 8,.bin .gtr (.t 7) (.c (.s (.int .i64 1000))),(some (6,false)),4,[]⟩,
  ⟨some 9,.pick (.t 6) (.c (.s (.bool true))) (.t 8),none,5,[]⟩]) (RC.cond (.t 9) (RC.seq (RC.region 2 [
  ⟨some 2,.move (.c (.s (.ptr none))),none,0,[]⟩,
  ⟨some 3,.move (.c (.s (.int .i64 (-17)))),none,1,[]⟩]) (RC.ret)) (RC.skip))) (RC.seq (RC.region 7 [
  ⟨some 10,.call F.heap_New [],none,0,[]⟩,
  ⟨some 11,.move (.t 0),none,1,[]⟩,
  ⟨some 12,.conv .u64 (.t 11),none,2,[]⟩,
  ⟨some 13,.build [.ptr none,.int .u64 0,.int .u64 0,.int .u64 0] [(0,1,(.t 10)),(1,1,(.t 12))],none,3,[]⟩,
  ⟨some 14,.box (.t 13),none,4,[]⟩,
  ⟨some 2,.move (.t 14),none,5,[]⟩,
  ⟨some 3,.move (.c (.s (.int .i64 0))),none,6,[]⟩]) (RC.ret))))
theorem clock_NewClock_ok : chkFunc Go.Proofs.Try.prog [] Go.Proofs.Try.f36 clock_NewClock = true := by kernel_rfl
def nums_Rel : RFunc := RFunc.mk 12 [.tmp 2,.tmp 3] (
  RC.seq (RC.region 2 [
  ⟨some 2,.move (.c (.s (.int .u64 0))),none,0,[]⟩,
  ⟨some 3,.move (.c (.s (.int .i64 0))),none,1,[]⟩]) (RC.seq (RC.seq (RC.region 6 [
  ⟨some 4,.move (.t 0),none,0,[]⟩,
  ⟨some 5,.bin .lss (.t 4) (.c (.s (.int .i64 0))),none,1,[]⟩,
  ⟨some 6,.move (.t 5),none,2,[]⟩,
  ⟨some 7,.move (.t 0),(some (6,false)),3,[]⟩,
  ⟨some 8,.bin .gtr (.t 7) (.c (.s (.int .i64 2147483647))),(some (6,false)),4,[]⟩,
  ⟨some 9,.pick (.t 6) (.c (.s (.bool true))) (.t 8),none,5,[]⟩]) (RC.cond (.t 9) (RC.seq (RC.region 2 [
  ⟨some 2,.move (.c (.s (.int .u64 0))),none,0,[]⟩,
  ⟨some 3,.move (.c (.s (.int .i64 (-17)))),none,1,[]⟩]) (RC.ret)) (RC.skip))) (RC.seq (RC.region 4 [
  ⟨some 10,.move (.t 0),none,0,[]⟩,
  ⟨some 11,.conv .u64 (.t 10),none,1,[]⟩,
  ⟨some 2,.move (.t 11),none,2,[]⟩,
  ⟨some 3,.move (.c (.s (.int .i64 0))),none,3,[]⟩]) (RC.ret))))
theorem nums_Rel_ok : chkFunc Go.Proofs.Try.prog [] Go.Proofs.Try.f37 nums_Rel = true := by kernel_rfl
def clock_Clock_Tick : RFunc := RFunc.mk 23 [.tmp 2] (
  RC.seq (RC.region 1 [
  ⟨some 2,.move (.c (.s (.slice none 0 0 1))),none,0,[]⟩]) (RC.seq (RC.region 12 [
  ⟨some 3,.move (.t 0),none,0,[]⟩,
  ⟨some 4,.nilCheck (.t 3),none,1,[]⟩,
  ⟨some 5,.fieldAddr 2 (.t 4),none,2,[]⟩,
  ⟨some 6,.load none (.t 5),none,3,[]⟩,
  ⟨some 7,.move (.t 0),none,4,[]⟩,
  ⟨some 8,.nilCheck (.t 7),none,5,[]⟩,
  ⟨some 9,.fieldAddr 1 (.t 8),none,6,[]⟩,
  ⟨some 10,.load none (.t 9),none,7,[]⟩,
  ⟨some 11,.bin .add (.t 6) (.t 10),none,8,[]⟩,
  ⟨some 12,.nilCheck (.t 3),none,9,[]⟩,
  ⟨some 13,.fieldAddr 2 (.t 12),none,10,[]⟩,
  ⟨none,.store 1 (.t 13) (.t 11),none,11,[]⟩]) (RC.seq (RC.region 10 [
  ⟨some 14,.move (.t 0),none,0,[]⟩,
  ⟨some 15,.nilCheck (.t 14),none,1,[]⟩,
  ⟨some 16,.fieldAddr 0 (.t 15),none,2,[]⟩,
  ⟨some 17,.load none (.t 16),none,3,[]⟩,
  ⟨some 18,.move (.t 0),none,4,[]⟩,
  ⟨some 19,.nilCheck (.t 18),none,5,[]⟩,
  ⟨some 20,.fieldAddr 2 (.t 19),none,6,[]⟩,
  ⟨some 21,.load none (.t 20),none,7,[]⟩,
  ⟨some 22,.call F.heap_Timers_Due [(.t 17),(.t 21)],none,8,[]⟩,
  ⟨some 2,.move (.t 22),none,9,[]⟩]) (RC.ret))))
theorem clock_Clock_Tick_ok : chkFunc Go.Proofs.Try.prog [] Go.Proofs.Try.f38 clock_Clock_Tick = true := by kernel_rfl
def slices_SortStableFunc__cyc_Fired_cyc_Fired : RFunc := RFunc.mk 9 [] (
  RC.region 5 [
  ⟨some 4,.move (.t 0),none,0,[]⟩,
  ⟨some 5,.move (.t 0),none,1,[]⟩,
  ⟨some 6,.len (.t 5),none,2,[]⟩,
  ⟨some 7,.move (.t 1),none,3,[]⟩,
  ⟨some 8,.call F.slices_stableCmpFunc_cyc_Fired [(.t 4),(.t 6),(.t 7)],none,4,[]⟩])
theorem slices_SortStableFunc__cyc_Fired_cyc_Fired_ok : chkFunc Go.Proofs.Try.prog [] Go.Proofs.Try.f39 slices_SortStableFunc__cyc_Fired_cyc_Fired = true := by kernel_rfl
def cyc_order : RFunc := RFunc.mk 26 [.tmp 4] (
  RC.seq (RC.region 3 [
  ⟨some 2,.box (.t 0),none,0,[]⟩,
  ⟨some 3,.box (.t 1),none,1,[]⟩,
  ⟨some 4,.move (.c (.s (.int .i64 0))),none,2,[]⟩]) (RC.seq (RC.seq (RC.region 6 [
  ⟨some 6,.fieldAddr 2 (.t 2),none,0,[]⟩,
  ⟨some 7,.load none (.t 6),none,1,[]⟩,
  ⟨some 8,.fieldAddr 2 (.t 3),none,2,[]⟩,
  ⟨some 9,.load none (.t 8),none,3,[]⟩,
  ⟨some 10,.call F.cmp_Compare_uint64 [(.t 7),(.t 9)],none,4,[]⟩,
  ⟨some 5,.move (.t 10),none,5,[]⟩]) (RC.seq (RC.region 2 [
  ⟨some 11,.move (.t 5),none,0,[]⟩,
  ⟨some 12,.bin .neq (.t 11) (.c (.s (.int .i64 0))),none,1,[]⟩]) (RC.cond (.t 12) (RC.seq (RC.region 2 [
  ⟨some 13,.move (.t 5),none,0,[]⟩,
  ⟨some 4,.move (.t 13),none,1,[]⟩]) (RC.ret)) (RC.skip)))) (RC.seq (RC.seq (RC.region 5 [
  ⟨some 14,.fieldAddr 0 (.t 2),none,0,[]⟩,
  ⟨some 15,.load none (.t 14),none,1,[]⟩,
  ⟨some 16,.fieldAddr 0 (.t 3),none,2,[]⟩,
  ⟨some 17,.load none (.t 16),none,3,[]⟩,
  ⟨some 18,.eqs .bool true (.t 15) (.t 17),none,4,[]⟩]) (RC.cond (.t 18) (RC.seq (RC.seq (RC.region 2 [
  ⟨some 19,.fieldAddr 0 (.t 2),none,0,[]⟩,
  ⟨some 20,.load none (.t 19),none,1,[]⟩]) (RC.cond (.t 20) (RC.seq (RC.region 1 [
  ⟨some 4,.move (.c (.s (.int .i64 (-1)))),none,0,[]⟩]) (RC.ret)) (RC.skip))) (RC.seq (RC.region 1 [
  ⟨some 4,.move (.c (.s (.int .i64 1))),none,0,[]⟩]) (RC.ret))) (RC.skip))) (RC.seq (RC.region 6 [
  ⟨some 21,.fieldAddr 1 (.t 2),none,0,[]⟩,
  ⟨some 22,.load none (.t 21),none,1,[]⟩,
  ⟨some 23,.fieldAddr 1 (.t 3),none,2,[]⟩,
  ⟨some 24,.load none (.t 23),none,3,[]⟩,
  ⟨some 25,.call F.cmp_Compare_int [(.t 22),(.t 24)],none,4,[]⟩,
  ⟨some 4,.move (.t 25),none,5,[]⟩]) (RC.ret)))))
theorem cyc_order_ok : chkFunc Go.Proofs.Try.prog [] Go.Proofs.Try.f40 cyc_order = true := by kernel_rfl
def slices_Clip__cyc_Fired_cyc_Fired : RFunc := RFunc.mk 9 [.tmp 2] (
  RC.seq (RC.region 1 [
  ⟨some 2,.move (.c (.s (.slice none 0 0 1))),none,0,[]⟩]) (RC.seq (RC.region 7 [
  ⟨some 3,.move (.t 0),none,0,[]⟩,
  ⟨some 4,.move (.t 0),none,1,[]⟩,
  ⟨some 5,.len (.t 4),none,2,[]⟩,
  ⟨some 6,.move (.t 0),none,3,[]⟩,
  ⟨some 7,.len (.t 6),none,4,[]⟩,
  ⟨some 8,.slSl 3 (.t 3) none (some (.t 5)) (some (.t 7)),none,5,[]⟩,
  ⟨some 2,.move (.t 8),none,6,[]⟩]) (RC.ret)))
theorem slices_Clip__cyc_Fired_cyc_Fired_ok : chkFunc Go.Proofs.Try.prog [] Go.Proofs.Try.f41 slices_Clip__cyc_Fired_cyc_Fired = true := by kernel_rfl
def cyc_Hands_alarm : RFunc := RFunc.mk 23 [.tmp 4] (
  RC.seq (RC.region 1 [
  ⟨some 4,.move (.c (.s (.ptr none))),none,0,[]⟩]) (RC.seq (RC.seq (RC.region 11 [
  ⟨some 5,.move (.t 1),none,0,[]⟩,
  ⟨some 6,.bin .lss (.t 5) (.c (.s (.int .i64 1))),none,1,[]⟩,
  ⟨some 7,.move (.t 6),none,2,[]⟩,
  ⟨some 8,.move (.t 1),(some (7,false)),3,[]⟩,
  ⟨some 9,.move (.t 0),(some (7,false)),4,[]⟩,
  ⟨some 10,.nilCheck (.t 9),(some (7,false)),5,[]⟩,
  ⟨some 11,.fieldAddr 3 (.t 10),(some (7,false)),6,[]⟩,
  ⟨some 12,.load none (.t 11),(some (7,false)),7,[]⟩,
  ⟨some 13,.len (.t 12),(some (7,false)),8,[]⟩,
  ⟨some 14,.bin .gtr (.t 8) (.t 13),(some (7,false)),9,[]⟩,
  ⟨some 15,.pick (.t 7) (.c (.s (.bool true))) (.t 14),none,10,[]⟩]) (RC.cond (.t 15) (RC.seq (RC.region 1 [
  ⟨some 4,.move (.c (.s (.ptr none))),none,0,[]⟩]) (RC.ret)) (RC.skip))) (RC.seq (RC.region 8 [
  ⟨some 16,.move (.t 0),none,0,[]⟩,
  ⟨some 17,.nilCheck (.t 16),none,1,[]⟩,
  ⟨some 18,.fieldAddr 3 (.t 17),none,2,[]⟩,
  ⟨some 19,.load none (.t 18),none,3,[]⟩,
  ⟨some 20,.move (.t 1),none,4,[]⟩,
  ⟨some 21,.bin .sub (.t 20) (.c (.s (.int .i64 1))),none,5,[]⟩,
  ⟨some 22,.indexSl 2 (.t 19) (.t 21),none,6,[]⟩,
  ⟨some 4,.move (.t 22),none,7,[]⟩]) (RC.ret))))
theorem cyc_Hands_alarm_ok : chkFunc Go.Proofs.Try.prog [] Go.Proofs.Try.f42 cyc_Hands_alarm = true := by kernel_rfl
def cyc_Hands_cyc : RFunc := RFunc.mk 23 [.tmp 4] (
  RC.seq (RC.region 1 [
  ⟨some 4,.move (.c (.s (.ptr none))),none,0,[]⟩]) (RC.seq (RC.seq (RC.region 11 [
  ⟨some 5,.move (.t 1),none,0,[]⟩,
  ⟨some 6,.bin .lss (.t 5) (.c (.s (.int .i64 1))),none,1,[]⟩,
  ⟨some 7,.move (.t 6),none,2,[]⟩,
  ⟨some 8,.move (.t 1),(some (7,false)),3,[]⟩,
  ⟨some 9,.move (.t 0),(some (7,false)),4,[]⟩,
  ⟨some 10,.nilCheck (.t 9),(some (7,false)),5,[]⟩,
  ⟨some 11,.fieldAddr 2 (.t 10),(some (7,false)),6,[]⟩,
  ⟨some 12,.load none (.t 11),(some (7,false)),7,[]⟩,
  ⟨some 13,.len (.t 12),(some (7,false)),8,[]⟩,
  ⟨some 14,.bin .gtr (.t 8) (.t 13),(some (7,false)),9,[]⟩,
  ⟨some 15,.pick (.t 7) (.c (.s (.bool true))) (.t 14),none,10,[]⟩]) (RC.cond (.t 15) (RC.seq (RC.region 1 [
  ⟨some 4,.move (.c (.s (.ptr none))),none,0,[]⟩]) (RC.ret)) (RC.skip))) (RC.seq (RC.region 8 [
  ⟨some 16,.move (.t 0),none,0,[]⟩,
  ⟨some 17,.nilCheck (.t 16),none,1,[]⟩,
  ⟨some 18,.fieldAddr 2 (.t 17),none,2,[]⟩,
  ⟨some 19,.load none (.t 18),none,3,[]⟩,
  ⟨some 20,.move (.t 1),none,4,[]⟩,
  ⟨some 21,.bin .sub (.t 20) (.c (.s (.int .i64 1))),none,5,[]⟩,
  ⟨some 22,.indexSl 5 (.t 19) (.t 21),none,6,[]⟩,
  ⟨some 4,.move (.t 22),none,7,[]⟩]) (RC.ret))))
theorem cyc_Hands_cyc_ok : chkFunc Go.Proofs.Try.prog [] Go.Proofs.Try.f43 cyc_Hands_cyc = true := by kernel_rfl
def detentref8_New : RFunc := RFunc.mk 15 [.tmp 2,.tmp 3] (
  RC.seq (RC.region 2 [
  ⟨some 2,.move (.c (.s (.ptr none))),none,0,[]⟩,
  ⟨some 3,.move (.c (.s (.int .i64 0))),none,1,[]⟩]) (RC.seq (RC.seq (RC.region 6 [
  ⟨some 4,.move (.t 0),none,0,[]⟩,
  ⟨some 5,.bin .lss (.t 4) (.c (.s (.int .i64 1))),none,1,[]⟩,
  ⟨some 6,.move (.t 5),none,2,[]⟩,
  ⟨some 7,.move (.t 0),(some (6,false)),3,[]⟩,
  ⟨some 8,.bin .gtr (.t 7) (.c (.s (.int .i64 1000))),(some (6,false)),4,[]⟩,
  ⟨some 9,.pick (.t 6) (.c (.s (.bool true))) (.t 8),none,5,[]⟩]) (RC.cond (.t 9) (RC.seq (RC.region 2 [
  ⟨some 2,.move (.c (.s (.ptr none))),none,0,[]⟩,
  ⟨some 3,.move (.c (.s (.int .i64 (-17)))),none,1,[]⟩]) (RC.ret)) (RC.skip))) (RC.seq (RC.region 7 [
  ⟨some 10,.build [.slice none 0 0 1,.int .i64 0] [],none,0,[]⟩,
  ⟨some 11,.box (.t 10),none,1,[]⟩,
  ⟨some 12,.move (.t 0),none,2,[]⟩,
  ⟨some 13,.build [.ptr none,.int .i64 0,.int .u64 0,.int .u64 0] [(0,1,(.t 11)),(1,1,(.t 12))],none,3,[]⟩,
  ⟨some 14,.box (.t 13),none,4,[]⟩,
  ⟨some 2,.move (.t 14),none,5,[]⟩,
  ⟨some 3,.move (.c (.s (.int .i64 0))),none,6,[]⟩]) (RC.ret))))
theorem detentref8_New_ok : chkFunc Go.Proofs.Try.prog [] Go.Proofs.Try.f44 detentref8_New = true := by kernel_rfl
def detentref1_Rel : RFunc := RFunc.mk 12 [.tmp 2,.tmp 3] (
  RC.seq (RC.region 2 [
  ⟨some 2,.move (.c (.s (.int .u64 0))),none,0,[]⟩,
  ⟨some 3,.move (.c (.s (.int .i64 0))),none,1,[]⟩]) (RC.seq (RC.seq (RC.region 6 [
  ⟨some 4,.move (.t 0),none,0,[]⟩,
  ⟨some 5,.bin .lss (.t 4) (.c (.s (.int .i64 0))),none,1,[]⟩,
  ⟨some 6,.move (.t 5),none,2,[]⟩,
  ⟨some 7,.move (.t 0),(some (6,false)),3,[]⟩,
  ⟨some 8,.bin .gtr (.t 7) (.c (.s (.int .i64 2147483647))),(some (6,false)),4,[]⟩,
  ⟨some 9,.pick (.t 6) (.c (.s (.bool true))) (.t 8),none,5,[]⟩]) (RC.cond (.t 9) (RC.seq (RC.region 2 [
  ⟨some 2,.move (.c (.s (.int .u64 0))),none,0,[]⟩,
  ⟨some 3,.move (.c (.s (.int .i64 (-17)))),none,1,[]⟩]) (RC.ret)) (RC.skip))) (RC.seq (RC.region 4 [
  ⟨some 10,.move (.t 0),none,0,[]⟩,
  ⟨some 11,.conv .u64 (.t 10),none,1,[]⟩,
  ⟨some 2,.move (.t 11),none,2,[]⟩,
  ⟨some 3,.move (.c (.s (.int .i64 0))),none,3,[]⟩]) (RC.ret))))
theorem detentref1_Rel_ok : chkFunc Go.Proofs.Try.prog [] Go.Proofs.Try.f45 detentref1_Rel = true := by kernel_rfl
def clock_Clock_After : RFunc := RFunc.mk 37 [.tmp 6,.tmp 7] (
  RC.seq (RC.region 2 [
  ⟨some 6,.move (.c (.s (.int .i64 0))),none,0,[]⟩,
  ⟨some 7,.move (.c (.s (.int .i64 0))),none,1,[]⟩]) (RC.seq (RC.region 7 [
  ⟨some 11,.move (.t 1),none,0,[]⟩,
  ⟨some 12,.call F.nums_Rel [(.t 11)],none,1,[]⟩,
  ⟨some 10,.move (.t 12),none,2,[]⟩,
  ⟨some 13,.extract 0 (.t 10),none,3,[]⟩,
  ⟨some 14,.extract 1 (.t 10),none,4,[]⟩,
  ⟨some 8,.move (.t 13),none,5,[]⟩,
  ⟨some 9,.move (.t 14),none,6,[]⟩]) (RC.seq (RC.seq (RC.region 2 [
  ⟨some 15,.move (.t 9),none,0,[]⟩,
  ⟨some 16,.bin .neq (.t 15) (.c (.s (.int .i64 0))),none,1,[]⟩]) (RC.cond (.t 16) (RC.seq (RC.region 3 [
  ⟨some 17,.move (.t 9),none,0,[]⟩,
  ⟨some 6,.move (.c (.s (.int .i64 0))),none,1,[]⟩,
  ⟨some 7,.move (.t 17),none,2,[]⟩]) (RC.ret)) (RC.skip))) (RC.seq (RC.region 21 [
  ⟨some 18,.move (.t 0),none,0,[]⟩,
  ⟨some 19,.nilCheck (.t 18),none,1,[]⟩,
  ⟨some 20,.fieldAddr 0 (.t 19),none,2,[]⟩,
  ⟨some 21,.load none (.t 20),none,3,[]⟩,
  ⟨some 22,.move (.t 0),none,4,[]⟩,
  ⟨some 23,.nilCheck (.t 22),none,5,[]⟩,
  ⟨some 24,.fieldAddr 2 (.t 23),none,6,[]⟩,
  ⟨some 25,.load none (.t 24),none,7,[]⟩,
  ⟨some 26,.move (.t 8),none,8,[]⟩,
  ⟨some 27,.bin .add (.t 25) (.t 26),none,9,[]⟩,
  ⟨some 28,.move (.t 0),none,10,[]⟩,
  ⟨some 29,.nilCheck (.t 28),none,11,[]⟩,
  ⟨some 30,.fieldAddr 1 (.t 29),none,12,[]⟩,
  ⟨some 31,.load none (.t 30),none,13,[]⟩,
  ⟨some 32,.bin .add (.t 27) (.t 31),none,14,[]⟩,
  ⟨some 33,.move (.t 2),none,15,[]⟩,
  ⟨some 34,.call F.heap_Timers_Insert [(.t 21),(.t 32),(.t 33)],none,16,[]⟩,
  ⟨some 35,.extract 0 (.t 34),none,17,[]⟩,
  ⟨some 36,.extract 1 (.t 34),none,18,[]⟩,
  ⟨some 6,.move (.t 35),none,19,[]⟩,
  ⟨some 7,.move (.t 36),none,20,[]⟩]) (RC.ret)))))
theorem clock_Clock_After_ok : chkFunc Go.Proofs.Try.prog [] Go.Proofs.Try.f46 clock_Clock_After = true := by kernel_rfl
def detentref8_Clock_After : RFunc := RFunc.mk 38 [.tmp 6,.tmp 7] (
  RC.seq (RC.region 2 [
  ⟨some 6,.move (.c (.s (.int .i64 0))),none,0,[]⟩,
  ⟨some 7,.move (.c (.s (.int .i64 0))),none,1,[]⟩]) (RC.seq (RC.region 7 [
  ⟨some 11,.move (.t 1),none,0,[]⟩,
  ⟨some 12,.call F.detentref1_Rel [(.t 11)],none,1,[]⟩,
  ⟨some 10,.move (.t 12),none,2,[]⟩,
  ⟨some 13,.extract 0 (.t 10),none,3,[]⟩,
  ⟨some 14,.extract 1 (.t 10),none,4,[]⟩,
  ⟨some 8,.move (.t 13),none,5,[]⟩,
  ⟨some 9,.move (.t 14),none,6,[]⟩]) (RC.seq (RC.seq (RC.region 2 [
  ⟨some 15,.move (.t 9),none,0,[]⟩,
  ⟨some 16,.bin .neq (.t 15) (.c (.s (.int .i64 0))),none,1,[]⟩]) (RC.cond (.t 16) (RC.seq (RC.region 3 [
  ⟨some 17,.move (.t 9),none,0,[]⟩,
  ⟨some 6,.move (.c (.s (.int .i64 0))),none,1,[]⟩,
  ⟨some 7,.move (.t 17),none,2,[]⟩]) (RC.ret)) (RC.skip))) (RC.seq (RC.region 22 [
  ⟨some 18,.move (.t 0),none,0,[]⟩,
  ⟨some 19,.nilCheck (.t 18),none,1,[]⟩,
  ⟨some 20,.fieldAddr 0 (.t 19),none,2,[]⟩,
  ⟨some 21,.load none (.t 20),none,3,[]⟩,
  ⟨some 22,.move (.t 0),none,4,[]⟩,
  ⟨some 23,.nilCheck (.t 22),none,5,[]⟩,
  ⟨some 24,.fieldAddr 2 (.t 23),none,6,[]⟩,
  ⟨some 25,.load none (.t 24),none,7,[]⟩,
  ⟨some 26,.move (.t 8),none,8,[]⟩,
  ⟨some 27,.bin .add (.t 25) (.t 26),none,9,[]⟩,
  ⟨some 28,.move (.t 0),none,10,[]⟩,
  ⟨some 29,.nilCheck (.t 28),none,11,[]⟩,
  ⟨some 30,.fieldAddr 1 (.t 29),none,12,[]⟩,
  ⟨some 31,.load none (.t 30),none,13,[]⟩,
  ⟨some 32,.conv .u64 (.t 31),none,14,[]⟩,
  ⟨some 33,.bin .add (.t 27) (.t 32),none,15,[]⟩,
  ⟨some 34,.move (.t 2),none,16,[]⟩,
  ⟨some 35,.call F.detentref7_Timers_Insert [(.t 21),(.t 33),(.t 34)],none,17,[]⟩,
  ⟨some 36,.extract 0 (.t 35),none,18,[]⟩,
  ⟨some 37,.extract 1 (.t 35),none,19,[]⟩,
  ⟨some 6,.move (.t 36),none,20,[]⟩,
  ⟨some 7,.move (.t 37),none,21,[]⟩]) (RC.ret)))))
theorem detentref8_Clock_After_ok : chkFunc Go.Proofs.Try.prog [] Go.Proofs.Try.f47 detentref8_Clock_After = true := by kernel_rfl
def detentref8_Clock_Tick : RFunc := RFunc.mk 25 [.tmp 2] (
  RC.seq (RC.region 1 [
  ⟨some 2,.move (.c (.s (.slice none 0 0 1))),none,0,[]⟩]) (RC.seq (RC.region 14 [
  ⟨some 3,.move (.t 0),none,0,[]⟩,
  ⟨some 4,.move (.t 0),none,1,[]⟩,
  ⟨some 5,.nilCheck (.t 4),none,2,[]⟩,
  ⟨some 6,.fieldAddr 2 (.t 5),none,3,[]⟩,
  ⟨some 7,.load none (.t 6),none,4,[]⟩,
  ⟨some 8,.move (.t 0),none,5,[]⟩,
  ⟨some 9,.nilCheck (.t 8),none,6,[]⟩,
  ⟨some 10,.fieldAddr 1 (.t 9),none,7,[]⟩,
  ⟨some 11,.load none (.t 10),none,8,[]⟩,
  ⟨some 12,.conv .u64 (.t 11),none,9,[]⟩,
  ⟨some 13,.bin .add (.t 7) (.t 12),none,10,[]⟩,
  ⟨some 14,.nilCheck (.t 3),none,11,[]⟩,
  ⟨some 15,.fieldAddr 2 (.t 14),none,12,[]⟩,
  ⟨none,.store 1 (.t 15) (.t 13),none,13,[]⟩]) (RC.seq (RC.region 10 [
  ⟨some 16,.move (.t 0),none,0,[]⟩,
  ⟨some 17,.nilCheck (.t 16),none,1,[]⟩,
  ⟨some 18,.fieldAddr 0 (.t 17),none,2,[]⟩,
  ⟨some 19,.load none (.t 18),none,3,[]⟩,
  ⟨some 20,.move (.t 0),none,4,[]⟩,
  ⟨some 21,.nilCheck (.t 20),none,5,[]⟩,
  ⟨some 22,.fieldAddr 2 (.t 21),none,6,[]⟩,
  ⟨some 23,.load none (.t 22),none,7,[]⟩,
  ⟨some 24,.call F.detentref7_Timers_Due [(.t 19),(.t 23)],none,8,[]⟩,
  ⟨some 2,.move (.t 24),none,9,[]⟩]) (RC.ret))))
theorem detentref8_Clock_Tick_ok : chkFunc Go.Proofs.Try.prog [] Go.Proofs.Try.f48 detentref8_Clock_Tick = true := by kernel_rfl
def detentref20_put_l0 : RC :=
  RC.seq (RC.seq (RC.region 11 [
  ⟨some 9,.move (.t 5),none,0,[]⟩,
  ⟨some 10,.bin .gtr (.t 9) (.c (.s (.int .i64 0))),none,1,[]⟩,
  ⟨some 11,.move (.t 10),none,2,[]⟩,
  ⟨some 12,.load (some 3) (.t 3),(some (11,true)),3,[]⟩,
  ⟨some 13,.move (.t 0),(some (11,true)),4,[]⟩,
  ⟨some 14,.move (.t 5),(some (11,true)),5,[]⟩,
  ⟨some 15,.bin .sub (.t 14) (.c (.s (.int .i64 1))),(some (11,true)),6,[]⟩,
  ⟨some 16,.indexSl 3 (.t 13) (.t 15),(some (11,true)),7,[]⟩,
  ⟨some 17,.load (some 3) (.t 16),(some (11,true)),8,[]⟩,
  ⟨some 18,.call F.detentref20_before [(.t 12),(.t 17)],(some (11,true)),9,[]⟩,
  ⟨some 19,.pick (.t 11) (.t 18) (.c (.s (.bool false))),none,10,[]⟩]) (RC.cond (.t 19) (RC.skip) (RC.exit 0))) (RC.block 1 (RC.region 3 [
  ⟨some 20,.move (.t 5),none,0,[]⟩,
  ⟨some 21,.bin .sub (.t 20) (.c (.s (.int .i64 1))),none,1,[]⟩,
  ⟨some 5,.move (.t 21),none,2,[]⟩]))
def detentref20_put_s1 : RC :=
  RC.seq (RC.region 9 [
  ⟨some 23,.move (.t 0),none,1,[]⟩,
  ⟨some 24,.move (.t 5),none,2,[]⟩,
  ⟨some 25,.slSl 3 (.t 23) none (some (.t 24)) none,none,3,[]⟩,
  ⟨some 27,.load (some 3) (.t 3),none,5,[]⟩,
  ⟨some 22,.buildSlice 3 0 [] [],none,0,[]⟩,
  ⟨some 26,.append 3 24 (.t 22) (.t 25),none,4,[⟨27,(some 3),(.t 3),none⟩]⟩,
  ⟨some 28,.buildSlice 3 1 [.bool false,.int .i64 0,.int .u64 0] [(0,3,(.t 27))],none,6,[]⟩,
  ⟨some 29,.append 3 24 (.t 26) (.t 28),none,7,[]⟩,
  ⟨some 6,.move (.t 29),none,8,[]⟩]) (RC.seq (RC.region 6 [
  ⟨some 30,.move (.t 6),none,0,[]⟩,
  ⟨some 31,.move (.t 0),none,1,[]⟩,
  ⟨some 32,.move (.t 5),none,2,[]⟩,
  ⟨some 33,.slSl 3 (.t 31) (some (.t 32)) none none,none,3,[]⟩,
  ⟨some 34,.append 3 24 (.t 30) (.t 33),none,4,[]⟩,
  ⟨some 4,.move (.t 34),none,5,[]⟩]) (RC.ret))
def detentref20_put : RFunc := RFunc.mk 35 [.tmp 4] (
  RC.seq (RC.region 2 [
  ⟨some 3,.box (.t 1),none,0,[]⟩,
  ⟨some 4,.move (.c (.s (.slice none 0 0 1))),none,1,[]⟩]) (RC.seq (RC.region 3 [
  ⟨some 7,.move (.t 0),none,0,[]⟩,
  ⟨some 8,.len (.t 7),none,1,[]⟩,
  ⟨some 5,.move (.t 8),none,2,[]⟩]) (RC.seq (RC.block 0 (RC.loop R.detentref20_put_l0)) R.detentref20_put_s1)))
theorem detentref20_put_ok : chkFunc Go.Proofs.Try.prog [] Go.Proofs.Try.f49 detentref20_put = true := by kernel_rfl
def heap_Timers_find : RFunc := RFunc.mk 11 [.tmp 4] (
  RC.seq (RC.region 2 [
  ⟨some 3,.box (.t 1),none,0,[]⟩,
  ⟨some 4,.move (.c (.s (.int .i64 0))),none,1,[]⟩]) (RC.seq (RC.region 7 [
  ⟨some 5,.move (.t 0),none,0,[]⟩,
  ⟨some 6,.nilCheck (.t 5),none,1,[]⟩,
  ⟨some 7,.fieldAddr 0 (.t 6),none,2,[]⟩,
  ⟨some 8,.load none (.t 7),none,3,[]⟩,
  ⟨some 9,.makeFunc F.heap_Timers_find_1 [(.t 3)],none,4,[]⟩,
  ⟨some 10,.call F.slices_IndexFunc_heap_row_heap_entry [(.t 8),(.t 9)],none,5,[]⟩,
  ⟨some 4,.move (.t 10),none,6,[]⟩]) (RC.ret)))
theorem heap_Timers_find_ok : chkFunc Go.Proofs.Try.prog [] Go.Proofs.Try.f50 heap_Timers_find = true := by kernel_rfl
def heap_Timers_remove : RFunc := RFunc.mk 48 [] (
  RC.seq (RC.region 7 [
  ⟨some 5,.move (.t 0),none,0,[]⟩,
  ⟨some 6,.nilCheck (.t 5),none,1,[]⟩,
  ⟨some 7,.fieldAddr 0 (.t 6),none,2,[]⟩,
  ⟨some 8,.load none (.t 7),none,3,[]⟩,
  ⟨some 9,.len (.t 8),none,4,[]⟩,
  ⟨some 10,.bin .sub (.t 9) (.c (.s (.int .i64 1))),none,5,[]⟩,
  ⟨some 4,.move (.t 10),none,6,[]⟩]) (RC.seq (RC.region 14 [
  ⟨some 11,.move (.t 0),none,0,[]⟩,
  ⟨some 12,.nilCheck (.t 11),none,1,[]⟩,
  ⟨some 13,.fieldAddr 0 (.t 12),none,2,[]⟩,
  ⟨some 14,.load none (.t 13),none,3,[]⟩,
  ⟨some 15,.move (.t 1),none,4,[]⟩,
  ⟨some 16,.move (.t 0),none,5,[]⟩,
  ⟨some 17,.nilCheck (.t 16),none,6,[]⟩,
  ⟨some 18,.fieldAddr 0 (.t 17),none,7,[]⟩,
  ⟨some 19,.load none (.t 18),none,8,[]⟩,
  ⟨some 20,.move (.t 4),none,9,[]⟩,
  ⟨some 21,.indexSl 3 (.t 19) (.t 20),none,10,[]⟩,
  ⟨some 22,.load (some 3) (.t 21),none,11,[]⟩,
  ⟨some 23,.indexSl 3 (.t 14) (.t 15),none,12,[]⟩,
  ⟨none,.store 3 (.t 23) (.t 22),none,13,[]⟩]) (RC.seq (RC.region 10 [
  ⟨some 24,.move (.t 0),none,0,[]⟩,
  ⟨some 25,.move (.t 0),none,1,[]⟩,
  ⟨some 26,.nilCheck (.t 25),none,2,[]⟩,
  ⟨some 27,.fieldAddr 0 (.t 26),none,3,[]⟩,
  ⟨some 28,.load none (.t 27),none,4,[]⟩,
  ⟨some 29,.move (.t 4),none,5,[]⟩,
  ⟨some 30,.slSl 3 (.t 28) none (some (.t 29)) none,none,6,[]⟩,
  ⟨some 31,.nilCheck (.t 24),none,7,[]⟩,
  ⟨some 32,.fieldAddr 0 (.t 31),none,8,[]⟩,
  ⟨none,.store 1 (.t 32) (.t 30),none,9,[]⟩]) (RC.seq (RC.region 3 [
  ⟨some 33,.move (.t 1),none,0,[]⟩,
  ⟨some 34,.move (.t 4),none,1,[]⟩,
  ⟨some 35,.bin .lss (.t 33) (.t 34),none,2,[]⟩]) (RC.cond (.t 35) (RC.seq (RC.region 6 [
  ⟨some 36,.move (.t 0),none,0,[]⟩,
  ⟨some 37,.nilCheck (.t 36),none,1,[]⟩,
  ⟨some 38,.fieldAddr 0 (.t 37),none,2,[]⟩,
  ⟨some 39,.load none (.t 38),none,3,[]⟩,
  ⟨some 40,.move (.t 1),none,4,[]⟩,
  ⟨some 41,.call F.heap_row_up [(.t 39),(.t 40)],none,5,[]⟩]) (RC.region 6 [
  ⟨some 42,.move (.t 0),none,0,[]⟩,
  ⟨some 43,.nilCheck (.t 42),none,1,[]⟩,
  ⟨some 44,.fieldAddr 0 (.t 43),none,2,[]⟩,
  ⟨some 45,.load none (.t 44),none,3,[]⟩,
  ⟨some 46,.move (.t 1),none,4,[]⟩,
  ⟨some 47,.call F.heap_row_down [(.t 45),(.t 46)],none,5,[]⟩])) (RC.skip))))))
theorem heap_Timers_remove_ok : chkFunc Go.Proofs.Try.prog [] Go.Proofs.Try.f51 heap_Timers_remove = true := by kernel_rfl
def detentref7_Timers_Find_l0 : RC :=
  RC.seq (RC.seq (RC.region 7 [
  ⟨some 6,.move (.t 5),none,0,[]⟩,
  ⟨some 7,.move (.t 0),none,1,[]⟩,
  ⟨some 8,.nilCheck (.t 7),none,2,[]⟩,
  ⟨some 9,.fieldAddr 0 (.t 8),none,3,[]⟩,
  ⟨some 10,.load none (.t 9),none,4,[]⟩,
  ⟨some 11,.len (.t 10),none,5,[]⟩,
  ⟨some 12,.bin .lss (.t 6) (.t 11),none,6,[]⟩]) (RC.cond (.t 12) (RC.skip) (RC.exit 0))) (RC.seq (RC.block 1 (RC.seq (RC.region 10 [
  ⟨some 15,.move (.t 0),none,0,[]⟩,
  ⟨some 16,.nilCheck (.t 15),none,1,[]⟩,
  ⟨some 17,.fieldAddr 0 (.t 16),none,2,[]⟩,
  ⟨some 18,.load none (.t 17),none,3,[]⟩,
  ⟨some 19,.move (.t 5),none,4,[]⟩,
  ⟨some 20,.indexSl 3 (.t 18) (.t 19),none,5,[]⟩,
  ⟨some 21,.fieldAddr 0 (.t 20),none,6,[]⟩,
  ⟨some 22,.load none (.t 21),none,7,[]⟩,
  ⟨some 23,.move (.t 1),none,8,[]⟩,
  ⟨some 24,.bin .eql (.t 22) (.t 23),none,9,[]⟩]) (RC.cond (.t 24) (RC.seq (RC.region 2 [
  ⟨some 25,.move (.t 5),none,0,[]⟩,
  ⟨some 4,.move (.t 25),none,1,[]⟩]) (RC.ret)) (RC.skip)))) (RC.region 3 [
  ⟨some 13,.move (.t 5),none,0,[]⟩,
  ⟨some 14,.bin .add (.t 13) (.c (.s (.int .i64 1))),none,1,[]⟩,
  ⟨some 5,.move (.t 14),none,2,[]⟩]))
def detentref7_Timers_Find_s1 : RC :=
  RC.seq (RC.region 1 [
  ⟨some 4,.move (.c (.s (.int .i64 (-1)))),none,0,[]⟩]) (RC.ret)
def detentref7_Timers_Find : RFunc := RFunc.mk 26 [.tmp 4] (
  RC.seq (RC.region 1 [
  ⟨some 4,.move (.c (.s (.int .i64 0))),none,0,[]⟩]) (RC.seq (RC.seq (RC.region 1 [
  ⟨some 5,.move (.c (.s (.int .i64 0))),none,0,[]⟩]) (RC.block 0 (RC.loop R.detentref7_Timers_Find_l0))) R.detentref7_Timers_Find_s1))
theorem detentref7_Timers_Find_ok : chkFunc Go.Proofs.Try.prog [] Go.Proofs.Try.f52 detentref7_Timers_Find = true := by kernel_rfl
def nums_Add : RFunc := RFunc.mk 9 [.tmp 4] (
  RC.seq (RC.region 1 [
  ⟨some 4,.move (.c (.s (.int .u64 0))),none,0,[]⟩]) (RC.seq (RC.region 5 [
  ⟨some 5,.move (.t 0),none,0,[]⟩,
  ⟨some 6,.move (.t 1),none,1,[]⟩,
  ⟨some 7,.bin .add (.t 5) (.t 6),none,2,[]⟩,
  ⟨some 8,.bin .rem (.t 7) (.c (.s (.int .u64 281474976710656))),none,3,[]⟩,
  ⟨some 4,.move (.t 8),none,4,[]⟩]) (RC.ret)))
theorem nums_Add_ok : chkFunc Go.Proofs.Try.prog [] Go.Proofs.Try.f53 nums_Add = true := by kernel_rfl
def detentref1_Add : RFunc := RFunc.mk 11 [.tmp 4] (
  RC.seq (RC.region 1 [
  ⟨some 4,.move (.c (.s (.int .u64 0))),none,0,[]⟩]) (RC.seq (RC.region 7 [
  ⟨some 5,.move (.t 0),none,0,[]⟩,
  ⟨some 6,.bin .rem (.t 5) (.c (.s (.int .u64 281474976710656))),none,1,[]⟩,
  ⟨some 7,.move (.t 1),none,2,[]⟩,
  ⟨some 8,.bin .rem (.t 7) (.c (.s (.int .u64 281474976710656))),none,3,[]⟩,
  ⟨some 9,.bin .add (.t 6) (.t 8),none,4,[]⟩,
  ⟨some 10,.bin .rem (.t 9) (.c (.s (.int .u64 281474976710656))),none,5,[]⟩,
  ⟨some 4,.move (.t 10),none,6,[]⟩]) (RC.ret)))
theorem detentref1_Add_ok : chkFunc Go.Proofs.Try.prog [] Go.Proofs.Try.f54 detentref1_Add = true := by kernel_rfl
def heap_New : RFunc := RFunc.mk 3 [.tmp 0] (
  RC.seq (RC.region 1 [
  ⟨some 0,.move (.c (.s (.ptr none))),none,0,[]⟩]) (RC.seq (RC.region 3 [
  ⟨some 1,.build [.slice none 0 0 1,.int .i64 0] [],none,0,[]⟩,
  ⟨some 2,.box (.t 1),none,1,[]⟩,
  ⟨some 0,.move (.t 2),none,2,[]⟩]) (RC.ret)))
theorem heap_New_ok : chkFunc Go.Proofs.Try.prog [] Go.Proofs.Try.f55 heap_New = true := by kernel_rfl
def heap_Timers_Due_l0 : RC :=
  RC.seq (RC.seq (RC.region 17 [
  ⟨some 6,.move (.t 0),none,0,[]⟩,
  ⟨some 7,.nilCheck (.t 6),none,1,[]⟩,
  ⟨some 8,.fieldAddr 0 (.t 7),none,2,[]⟩,
  ⟨some 9,.load none (.t 8),none,3,[]⟩,
  ⟨some 10,.len (.t 9),none,4,[]⟩,
  ⟨some 11,.bin .gtr (.t 10) (.c (.s (.int .i64 0))),none,5,[]⟩,
  ⟨some 12,.move (.t 11),none,6,[]⟩,
  ⟨some 13,.move (.t 0),(some (12,true)),7,[]⟩,
  ⟨some 14,.nilCheck (.t 13),(some (12,true)),8,[]⟩,
  ⟨some 15,.fieldAddr 0 (.t 14),(some (12,true)),9,[]⟩,
  ⟨some 16,.load none (.t 15),(some (12,true)),10,[]⟩,
  ⟨some 17,.indexSl 3 (.t 16) (.c (.s (.int .i64 0))),(some (12,true)),11,[]⟩,
  ⟨some 18,.fieldAddr 0 (.t 17),(some (12,true)),12,[]⟩,
  ⟨some 19,.load none (.t 18),(some (12,true)),13,[]⟩,
  ⟨some 20,.move (.t 1),(some (12,true)),14,[]⟩,
  ⟨some 21,.bin .leq (.t 19) (.t 20),(some (12,true)),15,[]⟩,
  ⟨some 22,.pick (.t 12) (.t 21) (.c (.s (.bool false))),none,16,[]⟩]) (RC.cond (.t 22) (RC.skip) (RC.exit 0))) (RC.block 1 (RC.seq (RC.region 11 [
  ⟨some 23,.move (.t 5),none,0,[]⟩,
  ⟨some 24,.move (.t 0),none,1,[]⟩,
  ⟨some 25,.nilCheck (.t 24),none,2,[]⟩,
  ⟨some 26,.fieldAddr 0 (.t 25),none,3,[]⟩,
  ⟨some 27,.load none (.t 26),none,4,[]⟩,
  ⟨some 28,.indexSl 3 (.t 27) (.c (.s (.int .i64 0))),none,5,[]⟩,
  ⟨some 29,.fieldAddr 2 (.t 28),none,6,[]⟩,
  ⟨some 30,.load none (.t 29),none,7,[]⟩,
  ⟨some 31,.buildSlice 1 1 [.int .i64 0] [(0,1,(.t 30))],none,8,[]⟩,
  ⟨some 32,.append 1 8 (.t 23) (.t 31),none,9,[]⟩,
  ⟨some 5,.move (.t 32),none,10,[]⟩]) (RC.region 2 [
  ⟨some 33,.move (.t 0),none,0,[]⟩,
  ⟨some 34,.call F.heap_Timers_remove [(.t 33),(.c (.s (.int .i64 0)))],none,1,[]⟩])))
def heap_Timers_Due_s1 : RC :=
  RC.seq (RC.region 2 [
  ⟨some 35,.move (.t 5),none,0,[]⟩,
  ⟨some 4,.move (.t 35),none,1,[]⟩]) (RC.ret)
def heap_Timers_Due : RFunc := RFunc.mk 36 [.tmp 4] (
  RC.seq (RC.region 1 [
  ⟨some 4,.move (.c (.s (.slice none 0 0 1))),none,0,[]⟩]) (RC.seq (RC.region 1 [
  ⟨some 5,.move (.c (.s (.slice none 0 0 1))),none,0,[]⟩]) (RC.seq (RC.block 0 (RC.loop R.heap_Timers_Due_l0)) R.heap_Timers_Due_s1)))
theorem heap_Timers_Due_ok : chkFunc Go.Proofs.Try.prog [] Go.Proofs.Try.f56 heap_Timers_Due = true := by kernel_rfl
def slices_stableCmpFunc_cyc_Fired_l0 : RC :=
  RC.seq (RC.seq (RC.region 3 [
  ⟨some 11,.move (.t 8),none,0,[]⟩,
  ⟨some 12,.move (.t 1),none,1,[]⟩,
  ⟨some 13,.bin .leq (.t 11) (.t 12),none,2,[]⟩]) (RC.cond (.t 13) (RC.skip) (RC.exit 0))) (RC.block 1 (RC.seq (RC.region 5 [
  ⟨some 14,.move (.t 0),none,0,[]⟩,
  ⟨some 15,.move (.t 7),none,1,[]⟩,
  ⟨some 16,.move (.t 8),none,2,[]⟩,
  ⟨some 17,.move (.t 2),none,3,[]⟩,
  ⟨some 18,.call F.slices_insertionSortCmpFunc_cyc_Fired [(.t 14),(.t 15),(.t 16),(.t 17)],none,4,[]⟩]) (RC.seq (RC.region 2 [
  ⟨some 19,.move (.t 8),none,0,[]⟩,
  ⟨some 7,.move (.t 19),none,1,[]⟩]) (RC.region 4 [
  ⟨some 20,.move (.t 8),none,0,[]⟩,
  ⟨some 21,.move (.t 6),none,1,[]⟩,
  ⟨some 22,.bin .add (.t 20) (.t 21),none,2,[]⟩,
  ⟨some 8,.move (.t 22),none,3,[]⟩]))))
def slices_stableCmpFunc_cyc_Fired_l1 : RC :=
  RC.seq (RC.seq (RC.region 3 [
  ⟨some 33,.move (.t 8),none,0,[]⟩,
  ⟨some 34,.move (.t 1),none,1,[]⟩,
  ⟨some 35,.bin .leq (.t 33) (.t 34),none,2,[]⟩]) (RC.cond (.t 35) (RC.skip) (RC.exit 4))) (RC.block 5 (RC.seq (RC.region 8 [
  ⟨some 36,.move (.t 0),none,0,[]⟩,
  ⟨some 37,.move (.t 7),none,1,[]⟩,
  ⟨some 38,.move (.t 7),none,2,[]⟩,
  ⟨some 39,.move (.t 6),none,3,[]⟩,
  ⟨some 40,.bin .add (.t 38) (.t 39),none,4,[]⟩,
  ⟨some 41,.move (.t 8),none,5,[]⟩,
  ⟨some 42,.move (.t 2),none,6,[]⟩,
  ⟨some 43,.call F.slices_symMergeCmpFunc_cyc_Fired [(.t 36),(.t 37),(.t 40),(.t 41),(.t 42)],none,7,[]⟩]) (RC.seq (RC.region 2 [
  ⟨some 44,.move (.t 8),none,0,[]⟩,
  ⟨some 7,.move (.t 44),none,1,[]⟩]) (RC.region 5 [
  ⟨some 45,.move (.t 8),none,0,[]⟩,
  ⟨some 46,.move (.t 6),none,1,[]⟩,
  ⟨some 47,.bin .mul (.c (.s (.int .i64 2))) (.t 46),none,2,[]⟩,
  ⟨some 48,.bin .add (.t 45) (.t 47),none,3,[]⟩,
  ⟨some 8,.move (.t 48),none,4,[]⟩]))))
def slices_stableCmpFunc_cyc_Fired_s2 : RC :=
  RC.seq (RC.seq (RC.region 4 [
  ⟨some 49,.move (.t 7),none,0,[]⟩,
  ⟨some 50,.move (.t 6),none,1,[]⟩,
  ⟨some 51,.bin .add (.t 49) (.t 50),none,2,[]⟩,
  ⟨some 9,.move (.t 51),none,3,[]⟩]) (RC.seq (RC.region 3 [
  ⟨some 52,.move (.t 9),none,0,[]⟩,
  ⟨some 53,.move (.t 1),none,1,[]⟩,
  ⟨some 54,.bin .lss (.t 52) (.t 53),none,2,[]⟩]) (RC.cond (.t 54) (RC.region 6 [
  ⟨some 55,.move (.t 0),none,0,[]⟩,
  ⟨some 56,.move (.t 7),none,1,[]⟩,
  ⟨some 57,.move (.t 9),none,2,[]⟩,
  ⟨some 58,.move (.t 1),none,3,[]⟩,
  ⟨some 59,.move (.t 2),none,4,[]⟩,
  ⟨some 60,.call F.slices_symMergeCmpFunc_cyc_Fired [(.t 55),(.t 56),(.t 57),(.t 58),(.t 59)],none,5,[]⟩]) (RC.skip)))) (RC.region 3 [
  ⟨some 61,.move (.t 6),none,0,[]⟩,
  ⟨some 62,.bin .mul (.t 61) (.c (.s (.int .i64 2))),none,1,[]⟩,
  ⟨some 6,.move (.t 62),none,2,[]⟩])
def slices_stableCmpFunc_cyc_Fired_l3 : RC :=
  RC.seq (RC.seq (RC.region 3 [
  ⟨some 28,.move (.t 6),none,0,[]⟩,
  ⟨some 29,.move (.t 1),none,1,[]⟩,
  ⟨some 30,.bin .lss (.t 28) (.t 29),none,2,[]⟩]) (RC.cond (.t 30) (RC.skip) (RC.exit 2))) (RC.block 3 (RC.seq (RC.region 4 [
  ⟨some 31,.move (.t 6),none,0,[]⟩,
  ⟨some 32,.bin .mul (.c (.s (.int .i64 2))) (.t 31),none,1,[]⟩,
  ⟨some 7,.move (.c (.s (.int .i64 0))),none,2,[]⟩,
  ⟨some 8,.move (.t 32),none,3,[]⟩]) (RC.seq (RC.block 4 (RC.loop R.slices_stableCmpFunc_cyc_Fired_l1)) R.slices_stableCmpFunc_cyc_Fired_s2)))
def slices_stableCmpFunc_cyc_Fired_s4 : RC :=
  RC.seq (RC.region 5 [
  ⟨some 23,.move (.t 0),none,0,[]⟩,
  ⟨some 24,.move (.t 7),none,1,[]⟩,
  ⟨some 25,.move (.t 1),none,2,[]⟩,
  ⟨some 26,.move (.t 2),none,3,[]⟩,
  ⟨some 27,.call F.slices_insertionSortCmpFunc_cyc_Fired [(.t 23),(.t 24),(.t 25),(.t 26)],none,4,[]⟩]) (RC.block 2 (RC.loop R.slices_stableCmpFunc_cyc_Fired_l3))
def slices_stableCmpFunc_cyc_Fired : RFunc := RFunc.mk 63 [] (
  RC.seq (RC.region 1 [
  ⟨some 6,.move (.c (.s (.int .i64 20))),none,0,[]⟩]) (RC.seq (RC.region 3 [
  ⟨some 10,.move (.t 6),none,0,[]⟩,
  ⟨some 7,.move (.c (.s (.int .i64 0))),none,1,[]⟩,
  ⟨some 8,.move (.t 10),none,2,[]⟩]) (RC.seq (RC.block 0 (RC.loop R.slices_stableCmpFunc_cyc_Fired_l0)) R.slices_stableCmpFunc_cyc_Fired_s4)))
theorem slices_stableCmpFunc_cyc_Fired_ok : chkFunc Go.Proofs.Try.prog [] Go.Proofs.Try.f57 slices_stableCmpFunc_cyc_Fired = true := by kernel_rfl
def cmp_Compare_uint64 : RFunc := RFunc.mk 20 [.tmp 4] (
  RC.seq (RC.region 1 [
  ⟨some 4,.move (.c (.s (.int .i64 0))),none,0,[]⟩]) (RC.seq (RC.region 3 [
  ⟨some 7,.move (.t 0),none,0,[]⟩,
  ⟨some 8,.call F.cmp_isNaN_uint64 [(.t 7)],none,1,[]⟩,
  ⟨some 5,.move (.t 8),none,2,[]⟩]) (RC.seq (RC.region 3 [
  ⟨some 9,.move (.t 1),none,0,[]⟩,
  ⟨some 10,.call F.cmp_isNaN_uint64 [(.t 9)],none,1,[]⟩,
  ⟨some 6,.move (.t 10),none,2,[]⟩]) (RC.seq (RC.seq (RC.region 1 [
  ⟨some 11,.move (.t 5),none,0,[]⟩]) (RC.cond (.t 11) (RC.seq (RC.seq (RC.region 1 [
  ⟨some 12,.move (.t 6),none,0,[]⟩]) (RC.cond (.t 12) (RC.seq (RC.region 1 [
  ⟨some 4,.move (.c (.s (.int .i64 0))),none,0,[]⟩]) (RC.ret)) (RC.skip))) (RC.seq (RC.region 1 [
  ⟨some 4,.move (.c (.s (.int .i64 (-1)))),none,0,[]⟩]) (RC.ret))) (RC.skip))) (RC.seq (RC.seq (RC.region 1 [
  ⟨some 13,.move (.t 6),none,0,[]⟩]) (RC.cond (.t 13) (RC.seq (RC.region 1 [
  ⟨some 4,.move (.c (.s (.int .i64 1))),none,0,[]⟩]) (RC.ret)) (RC.skip))) (RC.seq (RC.seq (RC.region 3 [
  ⟨some 14,.move (.t 0),none,0,[]⟩,
  ⟨some 15,.move (.t 1),none,1,[]⟩,
  ⟨some 16,.bin .lss (.t 14) (.t 15),none,2,[]⟩]) (RC.cond (.t 16) (RC.seq (RC.region 1 [
  ⟨some 4,.move (.c (.s (.int .i64 (-1)))),none,0,[]⟩]) (RC.ret)) (RC.skip))) (RC.seq (RC.seq (RC.region 3 [
  ⟨some 17,.move (.t 0),none,0,[]⟩,
  ⟨some 18,.move (.t 1),none,1,[]⟩,
  ⟨some 19,.bin .gtr (.t 17) (.t 18),none,2,[]⟩]) (RC.cond (.t 19) (RC.seq (RC.region 1 [
  ⟨some 4,.move (.c (.s (.int .i64 1))),none,0,[]⟩]) (RC.ret)) (RC.skip))) (RC.seq (RC.region 1 [
  ⟨some 4,.move (.c (.s (.int .i64 0))),none,0,[]⟩]) (RC.ret)))))))))
theorem cmp_Compare_uint64_ok : chkFunc Go.Proofs.Try.prog [] Go.Proofs.Try.f58 cmp_Compare_uint64 = true := by kernel_rfl
def cmp_Compare_int : RFunc := RFunc.mk 20 [.tmp 4] (
  RC.seq (RC.region 1 [
  ⟨some 4,.move (.c (.s (.int .i64 0))),none,0,[]⟩]) (RC.seq (RC.region 3 [
  ⟨some 7,.move (.t 0),none,0,[]⟩,
  ⟨some 8,.call F.cmp_isNaN_int [(.t 7)],none,1,[]⟩,
  ⟨some 5,.move (.t 8),none,2,[]⟩]) (RC.seq (RC.region 3 [
  ⟨some 9,.move (.t 1),none,0,[]⟩,
  ⟨some 10,.call F.cmp_isNaN_int [(.t 9)],none,1,[]⟩,
  ⟨some 6,.move (.t 10),none,2,[]⟩]) (RC.seq (RC.seq (RC.region 1 [
  ⟨some 11,.move (.t 5),none,0,[]⟩]) (RC.cond (.t 11) (RC.seq (RC.seq (RC.region 1 [
  ⟨some 12,.move (.t 6),none,0,[]⟩]) (RC.cond (.t 12) (RC.seq (RC.region 1 [
  ⟨some 4,.move (.c (.s (.int .i64 0))),none,0,[]⟩]) (RC.ret)) (RC.skip))) (RC.seq (RC.region 1 [
  ⟨some 4,.move (.c (.s (.int .i64 (-1)))),none,0,[]⟩]) (RC.ret))) (RC.skip))) (RC.seq (RC.seq (RC.region 1 [
  ⟨some 13,.move (.t 6),none,0,[]⟩]) (RC.cond (.t 13) (RC.seq (RC.region 1 [
  ⟨some 4,.move (.c (.s (.int .i64 1))),none,0,[]⟩]) (RC.ret)) (RC.skip))) (RC.seq (RC.seq (RC.region 3 [
  ⟨some 14,.move (.t 0),none,0,[]⟩,
  ⟨some 15,.move (.t 1),none,1,[]⟩,
  ⟨some 16,.bin .lss (.t 14) (.t 15),none,2,[]⟩]) (RC.cond (.t 16) (RC.seq (RC.region 1 [
  ⟨some 4,.move (.c (.s (.int .i64 (-1)))),none,0,[]⟩]) (RC.ret)) (RC.skip))) (RC.seq (RC.seq (RC.region 3 [
  ⟨some 17,.move (.t 0),none,0,[]⟩,
  ⟨some 18,.move (.t 1),none,1,[]⟩,
  ⟨some 19,.bin .gtr (.t 17) (.t 18),none,2,[]⟩]) (RC.cond (.t 19) (RC.seq (RC.region 1 [
  ⟨some 4,.move (.c (.s (.int .i64 1))),none,0,[]⟩]) (RC.ret)) (RC.skip))) (RC.seq (RC.region 1 [
  ⟨some 4,.move (.c (.s (.int .i64 0))),none,0,[]⟩]) (RC.ret)))))))))
theorem cmp_Compare_int_ok : chkFunc Go.Proofs.Try.prog [] Go.Proofs.Try.f59 cmp_Compare_int = true := by kernel_rfl
def heap_Timers_Insert : RFunc := RFunc.mk 52 [.tmp 6,.tmp 7] (
  RC.seq (RC.region 2 [
  ⟨some 6,.move (.c (.s (.int .i64 0))),none,0,[]⟩,
  ⟨some 7,.move (.c (.s (.int .i64 0))),none,1,[]⟩]) (RC.seq (RC.seq (RC.region 6 [
  ⟨some 8,.move (.t 0),none,0,[]⟩,
  ⟨some 9,.nilCheck (.t 8),none,1,[]⟩,
  ⟨some 10,.fieldAddr 0 (.t 9),none,2,[]⟩,
  ⟨some 11,.load none (.t 10),none,3,[]⟩,
  ⟨some 12,.len (.t 11),none,4,[]⟩,
  ⟨some 13,.bin .geq (.t 12) (.c (.s (.int .i64 256))),none,5,[]⟩]) (RC.cond (.t 13) (RC.seq (RC.region 2 [
  ⟨some 6,.move (.c (.s (.int .i64 0))),none,0,[]⟩,
  ⟨some 7,.move (.c (.s (.int .i64 (-33)))),none,1,[]⟩]) (RC.ret)) (RC.skip))) (RC.seq (RC.region 8 [
  ⟨some 14,.move (.t 0),none,0,[]⟩,
  ⟨some 15,.nilCheck (.t 14),none,1,[]⟩,
  ⟨some 16,.fieldAddr 1 (.t 15),none,2,[]⟩,
  ⟨some 17,.load none (.t 16),none,3,[]⟩,
  ⟨some 18,.bin .add (.t 17) (.c (.s (.int .i64 1))),none,4,[]⟩,
  ⟨some 19,.nilCheck (.t 14),none,5,[]⟩,
  ⟨some 20,.fieldAddr 1 (.t 19),none,6,[]⟩,
  ⟨none,.store 1 (.t 20) (.t 18),none,7,[]⟩]) (RC.seq (RC.region 17 [
  ⟨some 21,.move (.t 0),none,0,[]⟩,
  ⟨some 22,.move (.t 0),none,1,[]⟩,
  ⟨some 23,.nilCheck (.t 22),none,2,[]⟩,
  ⟨some 24,.fieldAddr 0 (.t 23),none,3,[]⟩,
  ⟨some 25,.load none (.t 24),none,4,[]⟩,
  ⟨some 26,.move (.t 1),none,5,[]⟩,
  ⟨some 27,.move (.t 0),none,6,[]⟩,
  ⟨some 28,.nilCheck (.t 27),none,7,[]⟩,
  ⟨some 29,.fieldAddr 1 (.t 28),none,8,[]⟩,
  ⟨some 30,.load none (.t 29),none,9,[]⟩,
  ⟨some 31,.move (.t 2),none,10,[]⟩,
  ⟨some 32,.build [.int .u64 0,.int .i64 0,.int .i64 0] [(0,1,(.t 26)),(1,1,(.t 30)),(2,1,(.t 31))],none,11,[]⟩,
  ⟨some 33,.buildSlice 3 1 [.int .u64 0,.int .i64 0,.int .i64 0] [(0,3,(.t 32))],none,12,[]⟩,
  ⟨some 34,.append 3 24 (.t 25) (.t 33),none,13,[]⟩,
  ⟨some 35,.nilCheck (.t 21),none,14,[]⟩,
  ⟨some 36,.fieldAddr 0 (.t 35),none,15,[]⟩,
  ⟨none,.store 1 (.t 36) (.t 34),none,16,[]⟩]) (RC.seq (RC.region 11 [
  ⟨some 37,.move (.t 0),none,0,[]⟩,
  ⟨some 38,.nilCheck (.t 37),none,1,[]⟩,
  ⟨some 39,.fieldAddr 0 (.t 38),none,2,[]⟩,
  ⟨some 40,.load none (.t 39),none,3,[]⟩,
  ⟨some 41,.move (.t 0),none,4,[]⟩,
  ⟨some 42,.nilCheck (.t 41),none,5,[]⟩,
  ⟨some 43,.fieldAddr 0 (.t 42),none,6,[]⟩,
  ⟨some 44,.load none (.t 43),none,7,[]⟩,
  ⟨some 45,.len (.t 44),none,8,[]⟩,
  ⟨some 46,.bin .sub (.t 45) (.c (.s (.int .i64 1))),none,9,[]⟩,
  ⟨some 47,.call F.heap_row_up [(.t 40),(.t 46)],none,10,[]⟩]) (RC.seq (RC.region 6 [
  ⟨some 48,.move (.t 0),none,0,[]⟩,
  ⟨some 49,.nilCheck (.t 48),none,1,[]⟩,
  ⟨some 50,.fieldAddr 1 (.t 49),none,2,[]⟩,
  ⟨some 51,.load none (.t 50),none,3,[]⟩,
  ⟨some 6,.move (.t 51),none,4,[]⟩,
  ⟨some 7,.move (.c (.s (.int .i64 0))),none,5,[]⟩]) (RC.ret)))))))
theorem heap_Timers_Insert_ok : chkFunc Go.Proofs.Try.prog [] Go.Proofs.Try.f60 heap_Timers_Insert = true := by kernel_rfl
def detentref7_Timers_Insert : RFunc := RFunc.mk 43 [.tmp 6,.tmp 7] (
  RC.seq (RC.region 2 [
  ⟨some 6,.move (.c (.s (.int .i64 0))),none,0,[]⟩,
  ⟨some 7,.move (.c (.s (.int .i64 0))),none,1,[]⟩]) (RC.seq (RC.seq (RC.region 6 [
  ⟨some 8,.move (.t 0),none,0,[]⟩,
  ⟨some 9,.nilCheck (.t 8),none,1,[]⟩,
  ⟨some 10,.fieldAddr 0 (.t 9),none,2,[]⟩,
  ⟨some 11,.load none (.t 10),none,3,[]⟩,
  ⟨some 12,.len (.t 11),none,4,[]⟩,
  ⟨some 13,.bin .geq (.t 12) (.c (.s (.int .i64 256))),none,5,[]⟩]) (RC.cond (.t 13) (RC.seq (RC.region 2 [
  ⟨some 6,.move (.c (.s (.int .i64 0))),none,0,[]⟩,
  ⟨some 7,.move (.c (.s (.int .i64 (-33)))),none,1,[]⟩]) (RC.ret)) (RC.skip))) (RC.seq (RC.region 8 [
  ⟨some 14,.move (.t 0),none,0,[]⟩,
  ⟨some 15,.nilCheck (.t 14),none,1,[]⟩,
  ⟨some 16,.fieldAddr 1 (.t 15),none,2,[]⟩,
  ⟨some 17,.load none (.t 16),none,3,[]⟩,
  ⟨some 18,.bin .add (.t 17) (.c (.s (.int .i64 1))),none,4,[]⟩,
  ⟨some 19,.nilCheck (.t 14),none,5,[]⟩,
  ⟨some 20,.fieldAddr 1 (.t 19),none,6,[]⟩,
  ⟨none,.store 1 (.t 20) (.t 18),none,7,[]⟩]) (RC.seq (RC.region 19 [
  ⟨some 21,.move (.t 0),none,0,[]⟩,
  ⟨some 23,.move (.t 0),none,2,[]⟩,
  ⟨some 24,.nilCheck (.t 23),none,3,[]⟩,
  ⟨some 25,.fieldAddr 0 (.t 24),none,4,[]⟩,
  ⟨some 26,.load none (.t 25),none,5,[]⟩,
  ⟨some 28,.move (.t 0),none,7,[]⟩,
  ⟨some 29,.nilCheck (.t 28),none,8,[]⟩,
  ⟨some 30,.fieldAddr 1 (.t 29),none,9,[]⟩,
  ⟨some 31,.load none (.t 30),none,10,[]⟩,
  ⟨some 32,.move (.t 1),none,11,[]⟩,
  ⟨some 33,.move (.t 2),none,12,[]⟩,
  ⟨some 34,.build [.int .i64 0,.int .u64 0,.int .i64 0] [(0,1,(.t 31)),(1,1,(.t 32)),(2,1,(.t 33))],none,13,[]⟩,
  ⟨some 22,.buildSlice 3 0 [] [],none,1,[]⟩,
  ⟨some 27,.append 3 24 (.t 22) (.t 26),none,6,[⟨31,none,(.t 30),none⟩]⟩,
  ⟨some 35,.buildSlice 3 1 [.int .i64 0,.int .u64 0,.int .i64 0] [(0,3,(.t 34))],none,14,[]⟩,
  ⟨some 36,.append 3 24 (.t 27) (.t 35),none,15,[]⟩,
  ⟨some 37,.nilCheck (.t 21),none,16,[]⟩,
  ⟨some 38,.fieldAddr 0 (.t 37),none,17,[]⟩,
  ⟨none,.store 1 (.t 38) (.t 36),none,18,[]⟩]) (RC.seq (RC.region 6 [
  ⟨some 39,.move (.t 0),none,0,[]⟩,
  ⟨some 40,.nilCheck (.t 39),none,1,[]⟩,
  ⟨some 41,.fieldAddr 1 (.t 40),none,2,[]⟩,
  ⟨some 42,.load none (.t 41),none,3,[]⟩,
  ⟨some 6,.move (.t 42),none,4,[]⟩,
  ⟨some 7,.move (.c (.s (.int .i64 0))),none,5,[]⟩]) (RC.ret))))))
theorem detentref7_Timers_Insert_ok : chkFunc Go.Proofs.Try.prog [] Go.Proofs.Try.f61 detentref7_Timers_Insert = true := by kernel_rfl
def detentref7_Timers_Due_l0 : RC :=
  RC.block 1 (RC.seq (RC.region 3 [
  ⟨some 7,.move (.t 0),none,0,[]⟩,
  ⟨some 8,.call F.detentref7_Timers_least [(.t 7)],none,1,[]⟩,
  ⟨some 6,.move (.t 8),none,2,[]⟩]) (RC.seq (RC.seq (RC.region 14 [
  ⟨some 9,.move (.t 6),none,0,[]⟩,
  ⟨some 10,.bin .lss (.t 9) (.c (.s (.int .i64 0))),none,1,[]⟩,
  ⟨some 11,.move (.t 10),none,2,[]⟩,
  ⟨some 12,.move (.t 0),(some (11,false)),3,[]⟩,
  ⟨some 13,.nilCheck (.t 12),(some (11,false)),4,[]⟩,
  ⟨some 14,.fieldAddr 0 (.t 13),(some (11,false)),5,[]⟩,
  ⟨some 15,.load none (.t 14),(some (11,false)),6,[]⟩,
  ⟨some 16,.move (.t 6),(some (11,false)),7,[]⟩,
  ⟨some 17,.indexSl 3 (.t 15) (.t 16),(some (11,false)),8,[]⟩,
  ⟨some 18,.fieldAddr 1 (.t 17),(some (11,false)),9,[]⟩,
  ⟨some 19,.load none (.t 18),(some (11,false)),10,[]⟩,
  ⟨some 20,.move (.t 1),(some (11,false)),11,[]⟩,
  ⟨some 21,.bin .gtr (.t 19) (.t 20),(some (11,false)),12,[]⟩,
  ⟨some 22,.pick (.t 11) (.c (.s (.bool true))) (.t 21),none,13,[]⟩]) (RC.cond (.t 22) (RC.seq (RC.region 2 [
  ⟨some 23,.move (.t 5),none,0,[]⟩,
  ⟨some 4,.move (.t 23),none,1,[]⟩]) (RC.ret)) (RC.skip))) (RC.seq (RC.region 12 [
  ⟨some 24,.move (.t 5),none,0,[]⟩,
  ⟨some 25,.move (.t 0),none,1,[]⟩,
  ⟨some 26,.nilCheck (.t 25),none,2,[]⟩,
  ⟨some 27,.fieldAddr 0 (.t 26),none,3,[]⟩,
  ⟨some 28,.load none (.t 27),none,4,[]⟩,
  ⟨some 29,.move (.t 6),none,5,[]⟩,
  ⟨some 30,.indexSl 3 (.t 28) (.t 29),none,6,[]⟩,
  ⟨some 31,.fieldAddr 2 (.t 30),none,7,[]⟩,
  ⟨some 32,.load none (.t 31),none,8,[]⟩,
  ⟨some 33,.buildSlice 1 1 [.int .i64 0] [(0,1,(.t 32))],none,9,[]⟩,
  ⟨some 34,.append 1 8 (.t 24) (.t 33),none,10,[]⟩,
  ⟨some 5,.move (.t 34),none,11,[]⟩]) (RC.region 10 [
  ⟨some 35,.move (.t 0),none,0,[]⟩,
  ⟨some 36,.move (.t 0),none,1,[]⟩,
  ⟨some 37,.nilCheck (.t 36),none,2,[]⟩,
  ⟨some 38,.fieldAddr 0 (.t 37),none,3,[]⟩,
  ⟨some 39,.load none (.t 38),none,4,[]⟩,
  ⟨some 40,.move (.t 6),none,5,[]⟩,
  ⟨some 41,.indexSl 3 (.t 39) (.t 40),none,6,[]⟩,
  ⟨some 42,.fieldAddr 0 (.t 41),none,7,[]⟩,
  ⟨some 43,.load none (.t 42),none,8,[]⟩,
  ⟨some 44,.call F.detentref7_Timers_Cancel [(.t 35),(.t 43)],none,9,[]⟩]))))
def detentref7_Timers_Due : RFunc := RFunc.mk 45 [.tmp 4] (
  RC.seq (RC.region 1 [
  ⟨some 4,.move (.c (.s (.slice none 0 0 1))),none,0,[]⟩]) (RC.seq (RC.region 1 [
  ⟨some 5,.move (.c (.s (.slice none 0 0 1))),none,0,[]⟩]) (RC.block 0 (RC.loop R.detentref7_Timers_Due_l0))))
theorem detentref7_Timers_Due_ok : chkFunc Go.Proofs.Try.prog [] Go.Proofs.Try.f62 detentref7_Timers_Due = true := by kernel_rfl
def detentref20_before : RFunc := RFunc.mk 29 [.tmp 4] (
  RC.seq (RC.region 3 [
  ⟨some 2,.box (.t 0),none,0,[]⟩,
  ⟨some 3,.box (.t 1),none,1,[]⟩,
  ⟨some 4,.move (.c (.s (.bool false))),none,2,[]⟩]) (RC.seq (RC.block 0 (RC.seq (RC.region 6 [
  ⟨some 6,.fieldAddr 2 (.t 2),none,0,[]⟩,
  ⟨some 7,.load none (.t 6),none,1,[]⟩,
  ⟨some 8,.fieldAddr 2 (.t 3),none,2,[]⟩,
  ⟨some 9,.load none (.t 8),none,3,[]⟩,
  ⟨some 10,.bin .neq (.t 7) (.t 9),none,4,[]⟩,
  ⟨some 5,.move (.t 10),none,5,[]⟩]) (RC.cond (.t 5) (RC.seq (RC.region 6 [
  ⟨some 11,.fieldAddr 2 (.t 2),none,0,[]⟩,
  ⟨some 12,.load none (.t 11),none,1,[]⟩,
  ⟨some 13,.fieldAddr 2 (.t 3),none,2,[]⟩,
  ⟨some 14,.load none (.t 13),none,3,[]⟩,
  ⟨some 15,.bin .lss (.t 12) (.t 14),none,4,[]⟩,
  ⟨some 4,.move (.t 15),none,5,[]⟩]) (RC.ret)) (RC.seq (RC.region 6 [
  ⟨some 17,.fieldAddr 0 (.t 2),none,0,[]⟩,
  ⟨some 18,.load none (.t 17),none,1,[]⟩,
  ⟨some 19,.fieldAddr 0 (.t 3),none,2,[]⟩,
  ⟨some 20,.load none (.t 19),none,3,[]⟩,
  ⟨some 21,.eqs .bool true (.t 18) (.t 20),none,4,[]⟩,
  ⟨some 16,.move (.t 21),none,5,[]⟩]) (RC.cond (.t 16) (RC.seq (RC.region 3 [
  ⟨some 22,.fieldAddr 0 (.t 2),none,0,[]⟩,
  ⟨some 23,.load none (.t 22),none,1,[]⟩,
  ⟨some 4,.move (.t 23),none,2,[]⟩]) (RC.ret)) (RC.skip)))))) (RC.seq (RC.region 6 [
  ⟨some 24,.fieldAddr 1 (.t 2),none,0,[]⟩,
  ⟨some 25,.load none (.t 24),none,1,[]⟩,
  ⟨some 26,.fieldAddr 1 (.t 3),none,2,[]⟩,
  ⟨some 27,.load none (.t 26),none,3,[]⟩,
  ⟨some 28,.bin .lss (.t 25) (.t 27),none,4,[]⟩,
  ⟨some 4,.move (.t 28),none,5,[]⟩]) (RC.ret))))
theorem detentref20_before_ok : chkFunc Go.Proofs.Try.prog [] Go.Proofs.Try.f63 detentref20_before = true := by kernel_rfl
def slices_IndexFunc_heap_row_heap_entry_l0 : RC :=
  RC.seq (RC.region 1 [
  ⟨some 9,.bin .lss (.t 8) (.t 7),none,0,[]⟩]) (RC.seq (RC.cond (.t 9) (RC.skip) (RC.exit 0)) (RC.seq (RC.block 1 (RC.seq (RC.region 2 [
  ⟨some 10,.move (.t 8),none,0,[]⟩,
  ⟨some 5,.move (.t 10),none,1,[]⟩]) (RC.seq (RC.region 6 [
  ⟨some 11,.move (.t 1),none,0,[]⟩,
  ⟨some 12,.move (.t 0),none,1,[]⟩,
  ⟨some 13,.move (.t 5),none,2,[]⟩,
  ⟨some 14,.indexSl 3 (.t 12) (.t 13),none,3,[]⟩,
  ⟨some 15,.load (some 3) (.t 14),none,4,[]⟩,
  ⟨some 16,.callv (.t 11) [(.t 15)],none,5,[]⟩]) (RC.cond (.t 16) (RC.seq (RC.region 2 [
  ⟨some 17,.move (.t 5),none,0,[]⟩,
  ⟨some 4,.move (.t 17),none,1,[]⟩]) (RC.ret)) (RC.skip))))) (RC.region 2 [
  ⟨some 18,.bin .add (.t 8) (.c (.s (.int .i64 1))),none,0,[]⟩,
  ⟨some 8,.move (.t 18),none,1,[]⟩])))
def slices_IndexFunc_heap_row_heap_entry_s1 : RC :=
  RC.seq (RC.region 1 [
  ⟨some 4,.move (.c (.s (.int .i64 (-1)))),none,0,[]⟩]) (RC.ret)
def slices_IndexFunc_heap_row_heap_entry : RFunc := RFunc.mk 19 [.tmp 4] (
  RC.seq (RC.region 1 [
  ⟨some 4,.move (.c (.s (.int .i64 0))),none,0,[]⟩]) (RC.seq (RC.seq (RC.region 3 [
  ⟨some 6,.move (.t 0),none,0,[]⟩,
  ⟨some 7,.len (.t 6),none,1,[]⟩,
  ⟨some 8,.move (.c (.s (.int .i64 0))),none,2,[]⟩]) (RC.block 0 (RC.loop R.slices_IndexFunc_heap_row_heap_entry_l0))) R.slices_IndexFunc_heap_row_heap_entry_s1))
theorem slices_IndexFunc_heap_row_heap_entry_ok : chkFunc Go.Proofs.Try.prog [] Go.Proofs.Try.f64 slices_IndexFunc_heap_row_heap_entry = true := by kernel_rfl
def heap_Timers_find_1 : RFunc := RFunc.mk 8 [.tmp 3] (
  RC.seq (RC.region 2 [
  ⟨some 2,.box (.t 0),none,0,[]⟩,
  ⟨some 3,.move (.c (.s (.bool false))),none,1,[]⟩]) (RC.seq (RC.region 5 [
  ⟨some 4,.fieldAddr 1 (.t 2),none,0,[]⟩,
  ⟨some 5,.load none (.t 4),none,1,[]⟩,
  ⟨some 6,.load none (.t 1),none,2,[]⟩,
  ⟨some 7,.bin .eql (.t 5) (.t 6),none,3,[]⟩,
  ⟨some 3,.move (.t 7),none,4,[]⟩]) (RC.ret)))
theorem heap_Timers_find_1_ok : chkFunc Go.Proofs.Try.prog [] Go.Proofs.Try.f65 heap_Timers_find_1 = true := by kernel_rfl
def heap_row_up_l0 : RC :=
  RC.seq (RC.seq (RC.region 10 [
  ⟨some 4,.move (.t 1),none,0,[]⟩,
  ⟨some 5,.bin .gtr (.t 4) (.c (.s (.int .i64 0))),none,1,[]⟩,
  ⟨some 6,.move (.t 5),none,2,[]⟩,
  ⟨some 7,.move (.t 0),(some (6,true)),3,[]⟩,
  ⟨some 8,.move (.t 1),(some (6,true)),4,[]⟩,
  ⟨some 9,.move (.t 1),(some (6,true)),5,[]⟩,
  ⟨some 10,.bin .sub (.t 9) (.c (.s (.int .i64 1))),(some (6,true)),6,[]⟩,
  ⟨some 11,.bin .quo (.t 10) (.c (.s (.int .i64 2))),(some (6,true)),7,[]⟩,
  ⟨some 12,.call F.heap_row_ahead [(.t 7),(.t 8),(.t 11)],(some (6,true)),8,[]⟩,
  ⟨some 13,.pick (.t 6) (.t 12) (.c (.s (.bool false))),none,9,[]⟩]) (RC.cond (.t 13) (RC.skip) (RC.exit 0))) (RC.block 1 (RC.seq (RC.region 20 [
  ⟨some 14,.move (.t 0),none,0,[]⟩,
  ⟨some 15,.move (.t 1),none,1,[]⟩,
  ⟨some 16,.move (.t 0),none,2,[]⟩,
  ⟨some 17,.move (.t 1),none,3,[]⟩,
  ⟨some 18,.bin .sub (.t 17) (.c (.s (.int .i64 1))),none,4,[]⟩,
  ⟨some 19,.bin .quo (.t 18) (.c (.s (.int .i64 2))),none,5,[]⟩,
  ⟨some 20,.move (.t 0),none,6,[]⟩,
  ⟨some 21,.move (.t 1),none,7,[]⟩,
  ⟨some 22,.bin .sub (.t 21) (.c (.s (.int .i64 1))),none,8,[]⟩,
  ⟨some 23,.bin .quo (.t 22) (.c (.s (.int .i64 2))),none,9,[]⟩,
  ⟨some 24,.indexSl 3 (.t 20) (.t 23),none,10,[]⟩,
  ⟨some 25,.load (some 3) (.t 24),none,11,[]⟩,
  ⟨some 26,.move (.t 0),none,12,[]⟩,
  ⟨some 27,.move (.t 1),none,13,[]⟩,
  ⟨some 28,.indexSl 3 (.t 26) (.t 27),none,14,[]⟩,
  ⟨some 29,.load (some 3) (.t 28),none,15,[]⟩,
  ⟨some 30,.indexSl 3 (.t 14) (.t 15),none,16,[]⟩,
  ⟨none,.store 3 (.t 30) (.t 25),none,17,[]⟩,
  ⟨some 31,.indexSl 3 (.t 16) (.t 19),none,18,[]⟩,
  ⟨none,.store 3 (.t 31) (.t 29),none,19,[]⟩]) (RC.region 4 [
  ⟨some 32,.move (.t 1),none,0,[]⟩,
  ⟨some 33,.bin .sub (.t 32) (.c (.s (.int .i64 1))),none,1,[]⟩,
  ⟨some 34,.bin .quo (.t 33) (.c (.s (.int .i64 2))),none,2,[]⟩,
  ⟨some 1,.move (.t 34),none,3,[]⟩])))
def heap_row_up : RFunc := RFunc.mk 35 [] (
  RC.block 0 (RC.loop R.heap_row_up_l0))
theorem heap_row_up_ok : chkFunc Go.Proofs.Try.prog [] Go.Proofs.Try.f66 heap_row_up = true := by kernel_rfl
def heap_row_down_s0 : RC :=
  RC.seq (RC.seq (RC.region 11 [
  ⟨some 22,.move (.t 4),none,0,[]⟩,
  ⟨some 23,.move (.t 0),none,1,[]⟩,
  ⟨some 24,.len (.t 23),none,2,[]⟩,
  ⟨some 25,.bin .geq (.t 22) (.t 24),none,3,[]⟩,
  ⟨some 26,.move (.t 25),none,4,[]⟩,
  ⟨some 27,.move (.t 0),(some (26,false)),5,[]⟩,
  ⟨some 28,.move (.t 4),(some (26,false)),6,[]⟩,
  ⟨some 29,.move (.t 1),(some (26,false)),7,[]⟩,
  ⟨some 30,.call F.heap_row_ahead [(.t 27),(.t 28),(.t 29)],(some (26,false)),8,[]⟩,
  ⟨some 31,.un .not (.t 30),(some (26,false)),9,[]⟩,
  ⟨some 32,.pick (.t 26) (.c (.s (.bool true))) (.t 31),none,10,[]⟩]) (RC.cond (.t 32) (RC.ret) (RC.skip))) (RC.seq (RC.region 16 [
  ⟨some 33,.move (.t 0),none,0,[]⟩,
  ⟨some 34,.move (.t 1),none,1,[]⟩,
  ⟨some 35,.move (.t 0),none,2,[]⟩,
  ⟨some 36,.move (.t 4),none,3,[]⟩,
  ⟨some 37,.move (.t 0),none,4,[]⟩,
  ⟨some 38,.move (.t 4),none,5,[]⟩,
  ⟨some 39,.indexSl 3 (.t 37) (.t 38),none,6,[]⟩,
  ⟨some 40,.load (some 3) (.t 39),none,7,[]⟩,
  ⟨some 41,.move (.t 0),none,8,[]⟩,
  ⟨some 42,.move (.t 1),none,9,[]⟩,
  ⟨some 43,.indexSl 3 (.t 41) (.t 42),none,10,[]⟩,
  ⟨some 44,.load (some 3) (.t 43),none,11,[]⟩,
  ⟨some 45,.indexSl 3 (.t 33) (.t 34),none,12,[]⟩,
  ⟨none,.store 3 (.t 45) (.t 40),none,13,[]⟩,
  ⟨some 46,.indexSl 3 (.t 35) (.t 36),none,14,[]⟩,
  ⟨none,.store 3 (.t 46) (.t 44),none,15,[]⟩]) (RC.region 2 [
  ⟨some 47,.move (.t 4),none,0,[]⟩,
  ⟨some 1,.move (.t 47),none,1,[]⟩]))
def heap_row_down_l1 : RC :=
  RC.block 1 (RC.seq (RC.region 4 [
  ⟨some 5,.move (.t 1),none,0,[]⟩,
  ⟨some 6,.bin .mul (.c (.s (.int .i64 2))) (.t 5),none,1,[]⟩,
  ⟨some 7,.bin .add (.t 6) (.c (.s (.int .i64 1))),none,2,[]⟩,
  ⟨some 4,.move (.t 7),none,3,[]⟩]) (RC.seq (RC.seq (RC.region 12 [
  ⟨some 8,.move (.t 4),none,0,[]⟩,
  ⟨some 9,.bin .add (.t 8) (.c (.s (.int .i64 1))),none,1,[]⟩,
  ⟨some 10,.move (.t 0),none,2,[]⟩,
  ⟨some 11,.len (.t 10),none,3,[]⟩,
  ⟨some 12,.bin .lss (.t 9) (.t 11),none,4,[]⟩,
  ⟨some 13,.move (.t 12),none,5,[]⟩,
  ⟨some 14,.move (.t 0),(some (13,true)),6,[]⟩,
  ⟨some 15,.move (.t 4),(some (13,true)),7,[]⟩,
  ⟨some 16,.bin .add (.t 15) (.c (.s (.int .i64 1))),(some (13,true)),8,[]⟩,
  ⟨some 17,.move (.t 4),(some (13,true)),9,[]⟩,
  ⟨some 18,.call F.heap_row_ahead [(.t 14),(.t 16),(.t 17)],(some (13,true)),10,[]⟩,
  ⟨some 19,.pick (.t 13) (.t 18) (.c (.s (.bool false))),none,11,[]⟩]) (RC.cond (.t 19) (RC.region 3 [
  ⟨some 20,.move (.t 4),none,0,[]⟩,
  ⟨some 21,.bin .add (.t 20) (.c (.s (.int .i64 1))),none,1,[]⟩,
  ⟨some 4,.move (.t 21),none,2,[]⟩]) (RC.skip))) R.heap_row_down_s0))
def heap_row_down : RFunc := RFunc.mk 48 [] (
  RC.block 0 (RC.loop R.heap_row_down_l1))
theorem heap_row_down_ok : chkFunc Go.Proofs.Try.prog [] Go.Proofs.Try.f67 heap_row_down = true := by kernel_rfl
def slices_insertionSortCmpFunc_cyc_Fired_l0 : RC :=
  RC.seq (RC.seq (RC.region 17 [
  ⟨some 18,.move (.t 9),none,0,[]⟩,
  ⟨some 19,.move (.t 1),none,1,[]⟩,
  ⟨some 20,.bin .gtr (.t 18) (.t 19),none,2,[]⟩,
  ⟨some 21,.move (.t 20),none,3,[]⟩,
  ⟨some 22,.move (.t 3),(some (21,true)),4,[]⟩,
  ⟨some 23,.move (.t 0),(some (21,true)),5,[]⟩,
  ⟨some 24,.move (.t 9),(some (21,true)),6,[]⟩,
  ⟨some 25,.indexSl 3 (.t 23) (.t 24),(some (21,true)),7,[]⟩,
  ⟨some 26,.load (some 3) (.t 25),(some (21,true)),8,[]⟩,
  ⟨some 27,.move (.t 0),(some (21,true)),9,[]⟩,
  ⟨some 28,.move (.t 9),(some (21,true)),10,[]⟩,
  ⟨some 29,.bin .sub (.t 28) (.c (.s (.int .i64 1))),(some (21,true)),11,[]⟩,
  ⟨some 30,.indexSl 3 (.t 27) (.t 29),(some (21,true)),12,[]⟩,
  ⟨some 31,.load (some 3) (.t 30),(some (21,true)),13,[]⟩,
  ⟨some 32,.callv (.t 22) [(.t 26),(.t 31)],(some (21,true)),14,[]⟩,
  ⟨some 33,.bin .lss (.t 32) (.c (.s (.int .i64 0))),(some (21,true)),15,[]⟩,
  ⟨some 34,.pick (.t 21) (.t 33) (.c (.s (.bool false))),none,16,[]⟩]) (RC.cond (.t 34) (RC.skip) (RC.exit 2))) (RC.seq (RC.block 3 (RC.region 18 [
  ⟨some 37,.move (.t 0),none,0,[]⟩,
  ⟨some 38,.move (.t 9),none,1,[]⟩,
  ⟨some 39,.move (.t 0),none,2,[]⟩,
  ⟨some 40,.move (.t 9),none,3,[]⟩,
  ⟨some 41,.bin .sub (.t 40) (.c (.s (.int .i64 1))),none,4,[]⟩,
  ⟨some 42,.move (.t 0),none,5,[]⟩,
  ⟨some 43,.move (.t 9),none,6,[]⟩,
  ⟨some 44,.bin .sub (.t 43) (.c (.s (.int .i64 1))),none,7,[]⟩,
  ⟨some 45,.indexSl 3 (.t 42) (.t 44),none,8,[]⟩,
  ⟨some 46,.load (some 3) (.t 45),none,9,[]⟩,
  ⟨some 47,.move (.t 0),none,10,[]⟩,
  ⟨some 48,.move (.t 9),none,11,[]⟩,
  ⟨some 49,.indexSl 3 (.t 47) (.t 48),none,12,[]⟩,
  ⟨some 50,.load (some 3) (.t 49),none,13,[]⟩,
  ⟨some 51,.indexSl 3 (.t 37) (.t 38),none,14,[]⟩,
  ⟨none,.store 3 (.t 51) (.t 46),none,15,[]⟩,
  ⟨some 52,.indexSl 3 (.t 39) (.t 41),none,16,[]⟩,
  ⟨none,.store 3 (.t 52) (.t 50),none,17,[]⟩])) (RC.region 3 [
  ⟨some 35,.move (.t 9),none,0,[]⟩,
  ⟨some 36,.bin .sub (.t 35) (.c (.s (.int .i64 1))),none,1,[]⟩,
  ⟨some 9,.move (.t 36),none,2,[]⟩]))
def slices_insertionSortCmpFunc_cyc_Fired_s1 : RC :=
  RC.region 3 [
  ⟨some 15,.move (.t 8),none,0,[]⟩,
  ⟨some 16,.bin .add (.t 15) (.c (.s (.int .i64 1))),none,1,[]⟩,
  ⟨some 8,.move (.t 16),none,2,[]⟩]
def slices_insertionSortCmpFunc_cyc_Fired_l2 : RC :=
  RC.seq (RC.seq (RC.region 3 [
  ⟨some 12,.move (.t 8),none,0,[]⟩,
  ⟨some 13,.move (.t 2),none,1,[]⟩,
  ⟨some 14,.bin .lss (.t 12) (.t 13),none,2,[]⟩]) (RC.cond (.t 14) (RC.skip) (RC.exit 0))) (RC.seq (RC.block 1 (RC.seq (RC.region 2 [
  ⟨some 17,.move (.t 8),none,0,[]⟩,
  ⟨some 9,.move (.t 17),none,1,[]⟩]) (RC.block 2 (RC.loop R.slices_insertionSortCmpFunc_cyc_Fired_l0)))) R.slices_insertionSortCmpFunc_cyc_Fired_s1)
def slices_insertionSortCmpFunc_cyc_Fired : RFunc := RFunc.mk 53 [] (
  RC.seq (RC.region 3 [
  ⟨some 10,.move (.t 1),none,0,[]⟩,
  ⟨some 11,.bin .add (.t 10) (.c (.s (.int .i64 1))),none,1,[]⟩,
  ⟨some 8,.move (.t 11),none,2,[]⟩]) (RC.block 0 (RC.loop R.slices_insertionSortCmpFunc_cyc_Fired_l2)))
theorem slices_insertionSortCmpFunc_cyc_Fired_ok : chkFunc Go.Proofs.Try.prog [] Go.Proofs.Try.f68 slices_insertionSortCmpFunc_cyc_Fired = true := by kernel_rfl
def slices_symMergeCmpFunc_cyc_Fired_l0 : RC :=
  RC.seq (RC.seq (RC.region 3 [
  ⟨some 31,.move (.t 10),none,0,[]⟩,
  ⟨some 32,.move (.t 11),none,1,[]⟩,
  ⟨some 33,.bin .lss (.t 31) (.t 32),none,2,[]⟩]) (RC.cond (.t 33) (RC.skip) (RC.exit 0))) (RC.block 1 (RC.seq (RC.region 7 [
  ⟨some 34,.move (.t 10),none,0,[]⟩,
  ⟨some 35,.move (.t 11),none,1,[]⟩,
  ⟨some 36,.bin .add (.t 34) (.t 35),none,2,[]⟩,
  ⟨some 37,.conv .u64 (.t 36),none,3,[]⟩,
  ⟨some 38,.bin .shr (.t 37) (.c (.s (.int .u64 1))),none,4,[]⟩,
  ⟨some 39,.conv .i64 (.t 38),none,5,[]⟩,
  ⟨some 12,.move (.t 39),none,6,[]⟩]) (RC.seq (RC.region 11 [
  ⟨some 40,.move (.t 4),none,0,[]⟩,
  ⟨some 41,.move (.t 0),none,1,[]⟩,
  ⟨some 42,.move (.t 12),none,2,[]⟩,
  ⟨some 43,.indexSl 3 (.t 41) (.t 42),none,3,[]⟩,
  ⟨some 44,.load (some 3) (.t 43),none,4,[]⟩,
  ⟨some 45,.move (.t 0),none,5,[]⟩,
  ⟨some 46,.move (.t 1),none,6,[]⟩,
  ⟨some 47,.indexSl 3 (.t 45) (.t 46),none,7,[]⟩,
  ⟨some 48,.load (some 3) (.t 47),none,8,[]⟩,
  ⟨some 49,.callv (.t 40) [(.t 44),(.t 48)],none,9,[]⟩,
  ⟨some 50,.bin .lss (.t 49) (.c (.s (.int .i64 0))),none,10,[]⟩]) (RC.cond (.t 50) (RC.region 3 [
  ⟨some 51,.move (.t 12),none,0,[]⟩,
  ⟨some 52,.bin .add (.t 51) (.c (.s (.int .i64 1))),none,1,[]⟩,
  ⟨some 10,.move (.t 52),none,2,[]⟩]) (RC.region 2 [
  ⟨some 53,.move (.t 12),none,0,[]⟩,
  ⟨some 11,.move (.t 53),none,1,[]⟩])))))
def slices_symMergeCmpFunc_cyc_Fired_l1 : RC :=
  RC.seq (RC.seq (RC.region 4 [
  ⟨some 55,.move (.t 13),none,0,[]⟩,
  ⟨some 56,.move (.t 10),none,1,[]⟩,
  ⟨some 57,.bin .sub (.t 56) (.c (.s (.int .i64 1))),none,2,[]⟩,
  ⟨some 58,.bin .lss (.t 55) (.t 57),none,3,[]⟩]) (RC.cond (.t 58) (RC.skip) (RC.exit 2))) (RC.seq (RC.block 3 (RC.region 18 [
  ⟨some 61,.move (.t 0),none,0,[]⟩,
  ⟨some 62,.move (.t 13),none,1,[]⟩,
  ⟨some 63,.move (.t 0),none,2,[]⟩,
  ⟨some 64,.move (.t 13),none,3,[]⟩,
  ⟨some 65,.bin .add (.t 64) (.c (.s (.int .i64 1))),none,4,[]⟩,
  ⟨some 66,.move (.t 0),none,5,[]⟩,
  ⟨some 67,.move (.t 13),none,6,[]⟩,
  ⟨some 68,.bin .add (.t 67) (.c (.s (.int .i64 1))),none,7,[]⟩,
  ⟨some 69,.indexSl 3 (.t 66) (.t 68),none,8,[]⟩,
  ⟨some 70,.load (some 3) (.t 69),none,9,[]⟩,
  ⟨some 71,.move (.t 0),none,10,[]⟩,
  ⟨some 72,.move (.t 13),none,11,[]⟩,
  ⟨some 73,.indexSl 3 (.t 71) (.t 72),none,12,[]⟩,
  ⟨some 74,.load (some 3) (.t 73),none,13,[]⟩,
  ⟨some 75,.indexSl 3 (.t 61) (.t 62),none,14,[]⟩,
  ⟨none,.store 3 (.t 75) (.t 70),none,15,[]⟩,
  ⟨some 76,.indexSl 3 (.t 63) (.t 65),none,16,[]⟩,
  ⟨none,.store 3 (.t 76) (.t 74),none,17,[]⟩])) (RC.region 3 [
  ⟨some 59,.move (.t 13),none,0,[]⟩,
  ⟨some 60,.bin .add (.t 59) (.c (.s (.int .i64 1))),none,1,[]⟩,
  ⟨some 13,.move (.t 60),none,2,[]⟩]))
def slices_symMergeCmpFunc_cyc_Fired_s2 : RC :=
  RC.ret
def slices_symMergeCmpFunc_cyc_Fired_s3 : RC :=
  RC.seq (RC.seq (RC.region 2 [
  ⟨some 54,.move (.t 1),none,0,[]⟩,
  ⟨some 13,.move (.t 54),none,1,[]⟩]) (RC.block 2 (RC.loop R.slices_symMergeCmpFunc_cyc_Fired_l1))) R.slices_symMergeCmpFunc_cyc_Fired_s2
def slices_symMergeCmpFunc_cyc_Fired_l4 : RC :=
  RC.seq (RC.seq (RC.region 3 [
  ⟨some 83,.move (.t 14),none,0,[]⟩,
  ⟨some 84,.move (.t 15),none,1,[]⟩,
  ⟨some 85,.bin .lss (.t 83) (.t 84),none,2,[]⟩]) (RC.cond (.t 85) (RC.skip) (RC.exit 4))) (RC.block 5 (RC.seq (RC.region 7 [
  ⟨some 86,.move (.t 14),none,0,[]⟩,
  ⟨some 87,.move (.t 15),none,1,[]⟩,
  ⟨some 88,.bin .add (.t 86) (.t 87),none,2,[]⟩,
  ⟨some 89,.conv .u64 (.t 88),none,3,[]⟩,
  ⟨some 90,.bin .shr (.t 89) (.c (.s (.int .u64 1))),none,4,[]⟩,
  ⟨some 91,.conv .i64 (.t 90),none,5,[]⟩,
  ⟨some 16,.move (.t 91),none,6,[]⟩]) (RC.seq (RC.region 12 [
  ⟨some 92,.move (.t 4),none,0,[]⟩,
  ⟨some 93,.move (.t 0),none,1,[]⟩,
  ⟨some 94,.move (.t 2),none,2,[]⟩,
  ⟨some 95,.indexSl 3 (.t 93) (.t 94),none,3,[]⟩,
  ⟨some 96,.load (some 3) (.t 95),none,4,[]⟩,
  ⟨some 97,.move (.t 0),none,5,[]⟩,
  ⟨some 98,.move (.t 16),none,6,[]⟩,
  ⟨some 99,.indexSl 3 (.t 97) (.t 98),none,7,[]⟩,
  ⟨some 100,.load (some 3) (.t 99),none,8,[]⟩,
  ⟨some 101,.callv (.t 92) [(.t 96),(.t 100)],none,9,[]⟩,
  ⟨some 102,.bin .lss (.t 101) (.c (.s (.int .i64 0))),none,10,[]⟩,
  ⟨some 103,.un .not (.t 102),none,11,[]⟩]) (RC.cond (.t 103) (RC.region 3 [
  ⟨some 104,.move (.t 16),none,0,[]⟩,
  ⟨some 105,.bin .add (.t 104) (.c (.s (.int .i64 1))),none,1,[]⟩,
  ⟨some 14,.move (.t 105),none,2,[]⟩]) (RC.region 2 [
  ⟨some 106,.move (.t 16),none,0,[]⟩,
  ⟨some 15,.move (.t 106),none,1,[]⟩])))))
def slices_symMergeCmpFunc_cyc_Fired_l5 : RC :=
  RC.seq (RC.seq (RC.region 3 [
  ⟨some 108,.move (.t 17),none,0,[]⟩,
  ⟨some 109,.move (.t 14),none,1,[]⟩,
  ⟨some 110,.bin .gtr (.t 108) (.t 109),none,2,[]⟩]) (RC.cond (.t 110) (RC.skip) (RC.exit 6))) (RC.seq (RC.block 7 (RC.region 18 [
  ⟨some 113,.move (.t 0),none,0,[]⟩,
  ⟨some 114,.move (.t 17),none,1,[]⟩,
  ⟨some 115,.move (.t 0),none,2,[]⟩,
  ⟨some 116,.move (.t 17),none,3,[]⟩,
  ⟨some 117,.bin .sub (.t 116) (.c (.s (.int .i64 1))),none,4,[]⟩,
  ⟨some 118,.move (.t 0),none,5,[]⟩,
  ⟨some 119,.move (.t 17),none,6,[]⟩,
  ⟨some 120,.bin .sub (.t 119) (.c (.s (.int .i64 1))),none,7,[]⟩,
  ⟨some 121,.indexSl 3 (.t 118) (.t 120),none,8,[]⟩,
  ⟨some 122,.load (some 3) (.t 121),none,9,[]⟩,
  ⟨some 123,.move (.t 0),none,10,[]⟩,
  ⟨some 124,.move (.t 17),none,11,[]⟩,
  ⟨some 125,.indexSl 3 (.t 123) (.t 124),none,12,[]⟩,
  ⟨some 126,.load (some 3) (.t 125),none,13,[]⟩,
  ⟨some 127,.indexSl 3 (.t 113) (.t 114),none,14,[]⟩,
  ⟨none,.store 3 (.t 127) (.t 122),none,15,[]⟩,
  ⟨some 128,.indexSl 3 (.t 115) (.t 117),none,16,[]⟩,
  ⟨none,.store 3 (.t 128) (.t 126),none,17,[]⟩])) (RC.region 3 [
  ⟨some 111,.move (.t 17),none,0,[]⟩,
  ⟨some 112,.bin .sub (.t 111) (.c (.s (.int .i64 1))),none,1,[]⟩,
  ⟨some 17,.move (.t 112),none,2,[]⟩]))
def slices_symMergeCmpFunc_cyc_Fired_s6 : RC :=
  RC.ret
def slices_symMergeCmpFunc_cyc_Fired_s7 : RC :=
  RC.seq (RC.seq (RC.region 2 [
  ⟨some 107,.move (.t 2),none,0,[]⟩,
  ⟨some 17,.move (.t 107),none,1,[]⟩]) (RC.block 6 (RC.loop R.slices_symMergeCmpFunc_cyc_Fired_l5))) R.slices_symMergeCmpFunc_cyc_Fired_s6
def slices_symMergeCmpFunc_cyc_Fired_l8 : RC :=
  RC.seq (RC.seq (RC.region 3 [
  ⟨some 149,.move (.t 20),none,0,[]⟩,
  ⟨some 150,.move (.t 21),none,1,[]⟩,
  ⟨some 151,.bin .lss (.t 149) (.t 150),none,2,[]⟩]) (RC.cond (.t 151) (RC.skip) (RC.exit 8))) (RC.block 9 (RC.seq (RC.region 7 [
  ⟨some 152,.move (.t 20),none,0,[]⟩,
  ⟨some 153,.move (.t 21),none,1,[]⟩,
  ⟨some 154,.bin .add (.t 152) (.t 153),none,2,[]⟩,
  ⟨some 155,.conv .u64 (.t 154),none,3,[]⟩,
  ⟨some 156,.bin .shr (.t 155) (.c (.s (.int .u64 1))),none,4,[]⟩,
  ⟨some 157,.conv .i64 (.t 156),none,5,[]⟩,
  ⟨some 23,.move (.t 157),none,6,[]⟩]) (RC.seq (RC.region 14 [
  ⟨some 158,.move (.t 4),none,0,[]⟩,
  ⟨some 159,.move (.t 0),none,1,[]⟩,
  ⟨some 160,.move (.t 22),none,2,[]⟩,
  ⟨some 161,.move (.t 23),none,3,[]⟩,
  ⟨some 162,.bin .sub (.t 160) (.t 161),none,4,[]⟩,
  ⟨some 163,.indexSl 3 (.t 159) (.t 162),none,5,[]⟩,
  ⟨some 164,.load (some 3) (.t 163),none,6,[]⟩,
  ⟨some 165,.move (.t 0),none,7,[]⟩,
  ⟨some 166,.move (.t 23),none,8,[]⟩,
  ⟨some 167,.indexSl 3 (.t 165) (.t 166),none,9,[]⟩,
  ⟨some 168,.load (some 3) (.t 167),none,10,[]⟩,
  ⟨some 169,.callv (.t 158) [(.t 164),(.t 168)],none,11,[]⟩,
  ⟨some 170,.bin .lss (.t 169) (.c (.s (.int .i64 0))),none,12,[]⟩,
  ⟨some 171,.un .not (.t 170),none,13,[]⟩]) (RC.cond (.t 171) (RC.region 3 [
  ⟨some 172,.move (.t 23),none,0,[]⟩,
  ⟨some 173,.bin .add (.t 172) (.c (.s (.int .i64 1))),none,1,[]⟩,
  ⟨some 20,.move (.t 173),none,2,[]⟩]) (RC.region 2 [
  ⟨some 174,.move (.t 23),none,0,[]⟩,
  ⟨some 21,.move (.t 174),none,1,[]⟩])))))
def slices_symMergeCmpFunc_cyc_Fired_s9 : RC :=
  RC.seq (RC.region 8 [
  ⟨some 206,.move (.t 18),none,0,[]⟩,
  ⟨some 207,.move (.t 24),none,1,[]⟩,
  ⟨some 208,.bin .lss (.t 206) (.t 207),none,2,[]⟩,
  ⟨some 209,.move (.t 208),none,3,[]⟩,
  ⟨some 210,.move (.t 24),(some (209,true)),4,[]⟩,
  ⟨some 211,.move (.t 3),(some (209,true)),5,[]⟩,
  ⟨some 212,.bin .lss (.t 210) (.t 211),(some (209,true)),6,[]⟩,
  ⟨some 213,.pick (.t 209) (.t 212) (.c (.s (.bool false))),none,7,[]⟩]) (RC.cond (.t 213) (RC.region 6 [
  ⟨some 214,.move (.t 0),none,0,[]⟩,
  ⟨some 215,.move (.t 18),none,1,[]⟩,
  ⟨some 216,.move (.t 24),none,2,[]⟩,
  ⟨some 217,.move (.t 3),none,3,[]⟩,
  ⟨some 218,.move (.t 4),none,4,[]⟩,
  ⟨some 219,.call F.slices_symMergeCmpFunc_cyc_Fired [(.t 214),(.t 215),(.t 216),(.t 217),(.t 218)],none,5,[]⟩]) (RC.skip))
def slices_symMergeCmpFunc_cyc_Fired_s10 : RC :=
  RC.seq (RC.seq (RC.region 8 [
  ⟨some 192,.move (.t 1),none,0,[]⟩,
  ⟨some 193,.move (.t 20),none,1,[]⟩,
  ⟨some 194,.bin .lss (.t 192) (.t 193),none,2,[]⟩,
  ⟨some 195,.move (.t 194),none,3,[]⟩,
  ⟨some 196,.move (.t 20),(some (195,true)),4,[]⟩,
  ⟨some 197,.move (.t 18),(some (195,true)),5,[]⟩,
  ⟨some 198,.bin .lss (.t 196) (.t 197),(some (195,true)),6,[]⟩,
  ⟨some 199,.pick (.t 195) (.t 198) (.c (.s (.bool false))),none,7,[]⟩]) (RC.cond (.t 199) (RC.region 6 [
  ⟨some 200,.move (.t 0),none,0,[]⟩,
  ⟨some 201,.move (.t 1),none,1,[]⟩,
  ⟨some 202,.move (.t 20),none,2,[]⟩,
  ⟨some 203,.move (.t 18),none,3,[]⟩,
  ⟨some 204,.move (.t 4),none,4,[]⟩,
  ⟨some 205,.call F.slices_symMergeCmpFunc_cyc_Fired [(.t 200),(.t 201),(.t 202),(.t 203),(.t 204)],none,5,[]⟩]) (RC.skip))) R.slices_symMergeCmpFunc_cyc_Fired_s9
def slices_symMergeCmpFunc_cyc_Fired_s11 : RC :=
  RC.seq (RC.region 4 [
  ⟨some 175,.move (.t 19),none,0,[]⟩,
  ⟨some 176,.move (.t 20),none,1,[]⟩,
  ⟨some 177,.bin .sub (.t 175) (.t 176),none,2,[]⟩,
  ⟨some 24,.move (.t 177),none,3,[]⟩]) (RC.seq (RC.seq (RC.region 8 [
  ⟨some 178,.move (.t 20),none,0,[]⟩,
  ⟨some 179,.move (.t 2),none,1,[]⟩,
  ⟨some 180,.bin .lss (.t 178) (.t 179),none,2,[]⟩,
  ⟨some 181,.move (.t 180),none,3,[]⟩,
  ⟨some 182,.move (.t 2),(some (181,true)),4,[]⟩,
  ⟨some 183,.move (.t 24),(some (181,true)),5,[]⟩,
  ⟨some 184,.bin .lss (.t 182) (.t 183),(some (181,true)),6,[]⟩,
  ⟨some 185,.pick (.t 181) (.t 184) (.c (.s (.bool false))),none,7,[]⟩]) (RC.cond (.t 185) (RC.region 6 [
  ⟨some 186,.move (.t 0),none,0,[]⟩,
  ⟨some 187,.move (.t 20),none,1,[]⟩,
  ⟨some 188,.move (.t 2),none,2,[]⟩,
  ⟨some 189,.move (.t 24),none,3,[]⟩,
  ⟨some 190,.move (.t 4),none,4,[]⟩,
  ⟨some 191,.call F.slices_rotateCmpFunc_cyc_Fired [(.t 186),(.t 187),(.t 188),(.t 189),(.t 190)],none,5,[]⟩]) (RC.skip))) R.slices_symMergeCmpFunc_cyc_Fired_s10)
def slices_symMergeCmpFunc_cyc_Fired_s12 : RC :=
  RC.seq (RC.region 3 [
  ⟨some 147,.move (.t 19),none,0,[]⟩,
  ⟨some 148,.bin .sub (.t 147) (.c (.s (.int .i64 1))),none,1,[]⟩,
  ⟨some 22,.move (.t 148),none,2,[]⟩]) (RC.seq (RC.block 8 (RC.loop R.slices_symMergeCmpFunc_cyc_Fired_l8)) R.slices_symMergeCmpFunc_cyc_Fired_s11)
def slices_symMergeCmpFunc_cyc_Fired_s13 : RC :=
  RC.seq (RC.region 7 [
  ⟨some 129,.move (.t 1),none,0,[]⟩,
  ⟨some 130,.move (.t 3),none,1,[]⟩,
  ⟨some 131,.bin .add (.t 129) (.t 130),none,2,[]⟩,
  ⟨some 132,.conv .u64 (.t 131),none,3,[]⟩,
  ⟨some 133,.bin .shr (.t 132) (.c (.s (.int .u64 1))),none,4,[]⟩,
  ⟨some 134,.conv .i64 (.t 133),none,5,[]⟩,
  ⟨some 18,.move (.t 134),none,6,[]⟩]) (RC.seq (RC.region 4 [
  ⟨some 135,.move (.t 18),none,0,[]⟩,
  ⟨some 136,.move (.t 2),none,1,[]⟩,
  ⟨some 137,.bin .add (.t 135) (.t 136),none,2,[]⟩,
  ⟨some 19,.move (.t 137),none,3,[]⟩]) (RC.seq (RC.region 2 [
  ⟨some 20,.move (.c (.s (.int .i64 0))),none,0,[]⟩,
  ⟨some 21,.move (.c (.s (.int .i64 0))),none,1,[]⟩]) (RC.seq (RC.seq (RC.region 3 [
  ⟨some 138,.move (.t 2),none,0,[]⟩,
  ⟨some 139,.move (.t 18),none,1,[]⟩,
  ⟨some 140,.bin .gtr (.t 138) (.t 139),none,2,[]⟩]) (RC.cond (.t 140) (RC.seq (RC.region 4 [
  ⟨some 141,.move (.t 19),none,0,[]⟩,
  ⟨some 142,.move (.t 3),none,1,[]⟩,
  ⟨some 143,.bin .sub (.t 141) (.t 142),none,2,[]⟩,
  ⟨some 20,.move (.t 143),none,3,[]⟩]) (RC.region 2 [
  ⟨some 144,.move (.t 18),none,0,[]⟩,
  ⟨some 21,.move (.t 144),none,1,[]⟩])) (RC.seq (RC.region 2 [
  ⟨some 145,.move (.t 1),none,0,[]⟩,
  ⟨some 20,.move (.t 145),none,1,[]⟩]) (RC.region 2 [
  ⟨some 146,.move (.t 2),none,0,[]⟩,
  ⟨some 21,.move (.t 146),none,1,[]⟩])))) R.slices_symMergeCmpFunc_cyc_Fired_s12)))
def slices_symMergeCmpFunc_cyc_Fired_s14 : RC :=
  RC.seq (RC.seq (RC.region 4 [
  ⟨some 77,.move (.t 3),none,0,[]⟩,
  ⟨some 78,.move (.t 2),none,1,[]⟩,
  ⟨some 79,.bin .sub (.t 77) (.t 78),none,2,[]⟩,
  ⟨some 80,.bin .eql (.t 79) (.c (.s (.int .i64 1))),none,3,[]⟩]) (RC.cond (.t 80) (RC.seq (RC.region 2 [
  ⟨some 81,.move (.t 1),none,0,[]⟩,
  ⟨some 14,.move (.t 81),none,1,[]⟩]) (RC.seq (RC.region 2 [
  ⟨some 82,.move (.t 2),none,0,[]⟩,
  ⟨some 15,.move (.t 82),none,1,[]⟩]) (RC.seq (RC.block 4 (RC.loop R.slices_symMergeCmpFunc_cyc_Fired_l4)) R.slices_symMergeCmpFunc_cyc_Fired_s7))) (RC.skip))) R.slices_symMergeCmpFunc_cyc_Fired_s13
def slices_symMergeCmpFunc_cyc_Fired : RFunc := RFunc.mk 220 [] (
  RC.seq (RC.seq (RC.region 4 [
  ⟨some 25,.move (.t 2),none,0,[]⟩,
  ⟨some 26,.move (.t 1),none,1,[]⟩,
  ⟨some 27,.bin .sub (.t 25) (.t 26),none,2,[]⟩,
  ⟨some 28,.bin .eql (.t 27) (.c (.s (.int .i64 1))),none,3,[]⟩]) (RC.cond (.t 28) (RC.seq (RC.region 2 [
  ⟨some 29,.move (.t 2),none,0,[]⟩,
  ⟨some 10,.move (.t 29),none,1,[]⟩]) (RC.seq (RC.region 2 [
  ⟨some 30,.move (.t 3),none,0,[]⟩,
  ⟨some 11,.move (.t 30),none,1,[]⟩]) (RC.seq (RC.block 0 (RC.loop R.slices_symMergeCmpFunc_cyc_Fired_l0)) R.slices_symMergeCmpFunc_cyc_Fired_s3))) (RC.skip))) R.slices_symMergeCmpFunc_cyc_Fired_s14)
theorem slices_symMergeCmpFunc_cyc_Fired_ok : chkFunc Go.Proofs.Try.prog [] Go.Proofs.Try.f69 slices_symMergeCmpFunc_cyc_Fired = true := by kernel_rfl
def cmp_isNaN_uint64 : RFunc := RFunc.mk 6 [.tmp 2] (
  RC.seq (RC.region 1 [
  ⟨some 2,.move (.c (.s (.bool false))),none,0,[]⟩]) (RC.seq (RC.region 4 [
  ⟨some 3,.move (.t 0),none,0,[]⟩,
  ⟨some 4,.move (.t 0),none,1,[]⟩,
  ⟨some 5,.bin .neq (.t 3) (.t 4),none,2,[]⟩,
  ⟨some 2,.move (.t 5),none,3,[]⟩]) (RC.ret)))
theorem cmp_isNaN_uint64_ok : chkFunc Go.Proofs.Try.prog [] Go.Proofs.Try.f70 cmp_isNaN_uint64 = true := by kernel_rfl
def cmp_isNaN_int : RFunc := RFunc.mk 6 [.tmp 2] (
  RC.seq (RC.region 1 [
  ⟨some 2,.move (.c (.s (.bool false))),none,0,[]⟩]) (RC.seq (RC.region 4 [
  ⟨some 3,.move (.t 0),none,0,[]⟩,
  ⟨some 4,.move (.t 0),none,1,[]⟩,
  ⟨some 5,.bin .neq (.t 3) (.t 4),none,2,[]⟩,
  ⟨some 2,.move (.t 5),none,3,[]⟩]) (RC.ret)))
theorem cmp_isNaN_int_ok : chkFunc Go.Proofs.Try.prog [] Go.Proofs.Try.f71 cmp_isNaN_int = true := by kernel_rfl
def detentref7_Timers_least_l0 : RC :=
  RC.seq (RC.seq (RC.region 7 [
  ⟨some 5,.move (.t 4),none,0,[]⟩,
  ⟨some 6,.move (.t 0),none,1,[]⟩,
  ⟨some 7,.nilCheck (.t 6),none,2,[]⟩,
  ⟨some 8,.fieldAddr 0 (.t 7),none,3,[]⟩,
  ⟨some 9,.load none (.t 8),none,4,[]⟩,
  ⟨some 10,.len (.t 9),none,5,[]⟩,
  ⟨some 11,.bin .lss (.t 5) (.t 10),none,6,[]⟩]) (RC.cond (.t 11) (RC.skip) (RC.exit 0))) (RC.seq (RC.block 1 (RC.seq (RC.region 21 [
  ⟨some 14,.move (.t 3),none,0,[]⟩,
  ⟨some 15,.bin .lss (.t 14) (.c (.s (.int .i64 0))),none,1,[]⟩,
  ⟨some 16,.move (.t 15),none,2,[]⟩,
  ⟨some 17,.move (.t 0),(some (16,false)),3,[]⟩,
  ⟨some 18,.nilCheck (.t 17),(some (16,false)),4,[]⟩,
  ⟨some 19,.fieldAddr 0 (.t 18),(some (16,false)),5,[]⟩,
  ⟨some 20,.load none (.t 19),(some (16,false)),6,[]⟩,
  ⟨some 21,.move (.t 4),(some (16,false)),7,[]⟩,
  ⟨some 22,.indexSl 3 (.t 20) (.t 21),(some (16,false)),8,[]⟩,
  ⟨some 23,.fieldAddr 1 (.t 22),(some (16,false)),9,[]⟩,
  ⟨some 24,.load none (.t 23),(some (16,false)),10,[]⟩,
  ⟨some 25,.move (.t 0),(some (16,false)),11,[]⟩,
  ⟨some 26,.nilCheck (.t 25),(some (16,false)),12,[]⟩,
  ⟨some 27,.fieldAddr 0 (.t 26),(some (16,false)),13,[]⟩,
  ⟨some 28,.load none (.t 27),(some (16,false)),14,[]⟩,
  ⟨some 29,.move (.t 3),(some (16,false)),15,[]⟩,
  ⟨some 30,.indexSl 3 (.t 28) (.t 29),(some (16,false)),16,[]⟩,
  ⟨some 31,.fieldAddr 1 (.t 30),(some (16,false)),17,[]⟩,
  ⟨some 32,.load none (.t 31),(some (16,false)),18,[]⟩,
  ⟨some 33,.bin .lss (.t 24) (.t 32),(some (16,false)),19,[]⟩,
  ⟨some 34,.pick (.t 16) (.c (.s (.bool true))) (.t 33),none,20,[]⟩]) (RC.cond (.t 34) (RC.region 2 [
  ⟨some 35,.move (.t 4),none,0,[]⟩,
  ⟨some 3,.move (.t 35),none,1,[]⟩]) (RC.skip)))) (RC.region 3 [
  ⟨some 12,.move (.t 4),none,0,[]⟩,
  ⟨some 13,.bin .add (.t 12) (.c (.s (.int .i64 1))),none,1,[]⟩,
  ⟨some 4,.move (.t 13),none,2,[]⟩]))
def detentref7_Timers_least_s1 : RC :=
  RC.seq (RC.region 2 [
  ⟨some 36,.move (.t 3),none,0,[]⟩,
  ⟨some 2,.move (.t 36),none,1,[]⟩]) (RC.ret)
def detentref7_Timers_least : RFunc := RFunc.mk 37 [.tmp 2] (
  RC.seq (RC.region 1 [
  ⟨some 2,.move (.c (.s (.int .i64 0))),none,0,[]⟩]) (RC.seq (RC.region 1 [
  ⟨some 3,.move (.c (.s (.int .i64 (-1)))),none,0,[]⟩]) (RC.seq (RC.seq (RC.region 1 [
  ⟨some 4,.move (.c (.s (.int .i64 0))),none,0,[]⟩]) (RC.block 0 (RC.loop R.detentref7_Timers_least_l0))) R.detentref7_Timers_least_s1)))
theorem detentref7_Timers_least_ok : chkFunc Go.Proofs.Try.prog [] Go.Proofs.Try.f72 detentref7_Timers_least = true := by kernel_rfl
def heap_row_ahead : RFunc := RFunc.mk 36 [.tmp 6] (
  RC.seq (RC.region 1 [
  ⟨some 6,.move (.c (.s (.bool false))),none,0,[]⟩]) (RC.seq (RC.region 12 [
  ⟨some 9,.move (.t 0),none,0,[]⟩,
  ⟨some 10,.move (.t 1),none,1,[]⟩,
  ⟨some 11,.indexSl 3 (.t 9) (.t 10),none,2,[]⟩,
  ⟨some 12,.load (some 3) (.t 11),none,3,[]⟩,
  ⟨some 13,.move (.t 0),none,4,[]⟩,
  ⟨some 14,.move (.t 2),none,5,[]⟩,
  ⟨some 15,.indexSl 3 (.t 13) (.t 14),none,6,[]⟩,
  ⟨some 16,.load (some 3) (.t 15),none,7,[]⟩,
  ⟨some 7,.newc [.int .u64 0,.int .i64 0,.int .i64 0],none,8,[]⟩,
  ⟨some 8,.newc [.int .u64 0,.int .i64 0,.int .i64 0],none,9,[]⟩,
  ⟨none,.store 3 (.t 7) (.t 12),none,10,[⟨16,(some 3),(.t 15),none⟩]⟩,
  ⟨none,.store 3 (.t 8) (.t 16),none,11,[]⟩]) (RC.seq (RC.region 20 [
  ⟨some 17,.fieldAddr 0 (.t 7),none,0,[]⟩,
  ⟨some 18,.load none (.t 17),none,1,[]⟩,
  ⟨some 19,.fieldAddr 0 (.t 8),none,2,[]⟩,
  ⟨some 20,.load none (.t 19),none,3,[]⟩,
  ⟨some 21,.bin .lss (.t 18) (.t 20),none,4,[]⟩,
  ⟨some 22,.move (.t 21),none,5,[]⟩,
  ⟨some 23,.fieldAddr 0 (.t 7),(some (22,false)),6,[]⟩,
  ⟨some 24,.load none (.t 23),(some (22,false)),7,[]⟩,
  ⟨some 25,.fieldAddr 0 (.t 8),(some (22,false)),8,[]⟩,
  ⟨some 26,.load none (.t 25),(some (22,false)),9,[]⟩,
  ⟨some 27,.bin .eql (.t 24) (.t 26),(some (22,false)),10,[]⟩,
  ⟨some 28,.move (.t 27),(some (22,false)),11,[]⟩,
  ⟨some 29,.fieldAddr 1 (.t 7),(some (28,true)),12,[]⟩,
  ⟨some 30,.load none (.t 29),(some (28,true)),13,[]⟩,
  ⟨some 31,.fieldAddr 1 (.t 8),(some (28,true)),14,[]⟩,
  ⟨some 32,.load none (.t 31),(some (28,true)),15,[]⟩,
  ⟨some 33,.bin .lss (.t 30) (.t 32),(some (28,true)),16,[]⟩,
  ⟨some 34,.pick (.t 28) (.t 33) (.c (.s (.bool false))),(some (22,false)),17,[]⟩,
  ⟨some 35,.pick (.t 22) (.c (.s (.bool true))) (.t 34),none,18,[]⟩,
  ⟨some 6,.move (.t 35),none,19,[]⟩]) (RC.ret))))
theorem heap_row_ahead_ok : chkFunc Go.Proofs.Try.prog [] Go.Proofs.Try.f73 heap_row_ahead = true := by kernel_rfl
def slices_rotateCmpFunc_cyc_Fired_l0 : RC :=
  RC.seq (RC.seq (RC.region 3 [
  ⟨some 18,.move (.t 10),none,0,[]⟩,
  ⟨some 19,.move (.t 11),none,1,[]⟩,
  ⟨some 20,.bin .neq (.t 18) (.t 19),none,2,[]⟩]) (RC.cond (.t 20) (RC.skip) (RC.exit 0))) (RC.block 1 (RC.seq (RC.region 3 [
  ⟨some 21,.move (.t 10),none,0,[]⟩,
  ⟨some 22,.move (.t 11),none,1,[]⟩,
  ⟨some 23,.bin .gtr (.t 21) (.t 22),none,2,[]⟩]) (RC.cond (.t 23) (RC.seq (RC.region 8 [
  ⟨some 24,.move (.t 0),none,0,[]⟩,
  ⟨some 25,.move (.t 2),none,1,[]⟩,
  ⟨some 26,.move (.t 10),none,2,[]⟩,
  ⟨some 27,.bin .sub (.t 25) (.t 26),none,3,[]⟩,
  ⟨some 28,.move (.t 2),none,4,[]⟩,
  ⟨some 29,.move (.t 11),none,5,[]⟩,
  ⟨some 30,.move (.t 4),none,6,[]⟩,
  ⟨some 31,.call F.slices_swapRangeCmpFunc_cyc_Fired [(.t 24),(.t 27),(.t 28),(.t 29),(.t 30)],none,7,[]⟩]) (RC.region 4 [
  ⟨some 32,.move (.t 10),none,0,[]⟩,
  ⟨some 33,.move (.t 11),none,1,[]⟩,
  ⟨some 34,.bin .sub (.t 32) (.t 33),none,2,[]⟩,
  ⟨some 10,.move (.t 34),none,3,[]⟩])) (RC.seq (RC.region 12 [
  ⟨some 35,.move (.t 0),none,0,[]⟩,
  ⟨some 36,.move (.t 2),none,1,[]⟩,
  ⟨some 37,.move (.t 10),none,2,[]⟩,
  ⟨some 38,.bin .sub (.t 36) (.t 37),none,3,[]⟩,
  ⟨some 39,.move (.t 2),none,4,[]⟩,
  ⟨some 40,.move (.t 11),none,5,[]⟩,
  ⟨some 41,.bin .add (.t 39) (.t 40),none,6,[]⟩,
  ⟨some 42,.move (.t 10),none,7,[]⟩,
  ⟨some 43,.bin .sub (.t 41) (.t 42),none,8,[]⟩,
  ⟨some 44,.move (.t 10),none,9,[]⟩,
  ⟨some 45,.move (.t 4),none,10,[]⟩,
  ⟨some 46,.call F.slices_swapRangeCmpFunc_cyc_Fired [(.t 35),(.t 38),(.t 43),(.t 44),(.t 45)],none,11,[]⟩]) (RC.region 4 [
  ⟨some 47,.move (.t 11),none,0,[]⟩,
  ⟨some 48,.move (.t 10),none,1,[]⟩,
  ⟨some 49,.bin .sub (.t 47) (.t 48),none,2,[]⟩,
  ⟨some 11,.move (.t 49),none,3,[]⟩])))))
def slices_rotateCmpFunc_cyc_Fired_s1 : RC :=
  RC.region 8 [
  ⟨some 50,.move (.t 0),none,0,[]⟩,
  ⟨some 51,.move (.t 2),none,1,[]⟩,
  ⟨some 52,.move (.t 10),none,2,[]⟩,
  ⟨some 53,.bin .sub (.t 51) (.t 52),none,3,[]⟩,
  ⟨some 54,.move (.t 2),none,4,[]⟩,
  ⟨some 55,.move (.t 10),none,5,[]⟩,
  ⟨some 56,.move (.t 4),none,6,[]⟩,
  ⟨some 57,.call F.slices_swapRangeCmpFunc_cyc_Fired [(.t 50),(.t 53),(.t 54),(.t 55),(.t 56)],none,7,[]⟩]
def slices_rotateCmpFunc_cyc_Fired : RFunc := RFunc.mk 58 [] (
  RC.seq (RC.region 4 [
  ⟨some 12,.move (.t 2),none,0,[]⟩,
  ⟨some 13,.move (.t 1),none,1,[]⟩,
  ⟨some 14,.bin .sub (.t 12) (.t 13),none,2,[]⟩,
  ⟨some 10,.move (.t 14),none,3,[]⟩]) (RC.seq (RC.region 4 [
  ⟨some 15,.move (.t 3),none,0,[]⟩,
  ⟨some 16,.move (.t 2),none,1,[]⟩,
  ⟨some 17,.bin .sub (.t 15) (.t 16),none,2,[]⟩,
  ⟨some 11,.move (.t 17),none,3,[]⟩]) (RC.seq (RC.block 0 (RC.loop R.slices_rotateCmpFunc_cyc_Fired_l0)) R.slices_rotateCmpFunc_cyc_Fired_s1)))
theorem slices_rotateCmpFunc_cyc_Fired_ok : chkFunc Go.Proofs.Try.prog [] Go.Proofs.Try.f74 slices_rotateCmpFunc_cyc_Fired = true := by kernel_rfl
def slices_swapRangeCmpFunc_cyc_Fired_l0 : RC :=
  RC.seq (RC.seq (RC.region 3 [
  ⟨some 11,.move (.t 10),none,0,[]⟩,
  ⟨some 12,.move (.t 3),none,1,[]⟩,
  ⟨some 13,.bin .lss (.t 11) (.t 12),none,2,[]⟩]) (RC.cond (.t 13) (RC.skip) (RC.exit 0))) (RC.seq (RC.block 1 (RC.region 24 [
  ⟨some 16,.move (.t 0),none,0,[]⟩,
  ⟨some 17,.move (.t 1),none,1,[]⟩,
  ⟨some 18,.move (.t 10),none,2,[]⟩,
  ⟨some 19,.bin .add (.t 17) (.t 18),none,3,[]⟩,
  ⟨some 20,.move (.t 0),none,4,[]⟩,
  ⟨some 21,.move (.t 2),none,5,[]⟩,
  ⟨some 22,.move (.t 10),none,6,[]⟩,
  ⟨some 23,.bin .add (.t 21) (.t 22),none,7,[]⟩,
  ⟨some 24,.move (.t 0),none,8,[]⟩,
  ⟨some 25,.move (.t 2),none,9,[]⟩,
  ⟨some 26,.move (.t 10),none,10,[]⟩,
  ⟨some 27,.bin .add (.t 25) (.t 26),none,11,[]⟩,
  ⟨some 28,.indexSl 3 (.t 24) (.t 27),none,12,[]⟩,
  ⟨some 29,.load (some 3) (.t 28),none,13,[]⟩,
  ⟨some 30,.move (.t 0),none,14,[]⟩,
  ⟨some 31,.move (.t 1),none,15,[]⟩,
  ⟨some 32,.move (.t 10),none,16,[]⟩,
  ⟨some 33,.bin .add (.t 31) (.t 32),none,17,[]⟩,
  ⟨some 34,.indexSl 3 (.t 30) (.t 33),none,18,[]⟩,
  ⟨some 35,.load (some 3) (.t 34),none,19,[]⟩,
  ⟨some 36,.indexSl 3 (.t 16) (.t 19),none,20,[]⟩,
  ⟨none,.store 3 (.t 36) (.t 29),none,21,[]⟩,
  ⟨some 37,.indexSl 3 (.t 20) (.t 23),none,22,[]⟩,
  ⟨none,.store 3 (.t 37) (.t 35),none,23,[]⟩])) (RC.region 3 [
  ⟨some 14,.move (.t 10),none,0,[]⟩,
  ⟨some 15,.bin .add (.t 14) (.c (.s (.int .i64 1))),none,1,[]⟩,
  ⟨some 10,.move (.t 15),none,2,[]⟩]))
def slices_swapRangeCmpFunc_cyc_Fired : RFunc := RFunc.mk 38 [] (
  RC.seq (RC.region 1 [
  ⟨some 10,.move (.c (.s (.int .i64 0))),none,0,[]⟩]) (RC.block 0 (RC.loop R.slices_swapRangeCmpFunc_cyc_Fired_l0)))
theorem slices_swapRangeCmpFunc_cyc_Fired_ok : chkFunc Go.Proofs.Try.prog [] Go.Proofs.Try.f75 slices_swapRangeCmpFunc_cyc_Fired = true := by kernel_rfl
end Go.AM.R

/-
  The table of the functions' codes.
-/
set_option maxRecDepth 100000
namespace Go.AM
def tabL : List (Option RFunc) := [none, none, none, none, none, none, none, none, some R.detentlaw20_HandPlays, some R.detentlaw20_known, some R.cyc_NewHands, some R.cyc_Hands_Cyclic, some R.cyc_Hands_Pass, some R.cyc_Hands_Alarm, some R.cyc_Hands_Set, some R.clock_Clock_Up, some R.cyc_Hands_Clear, some R.cyc_Hands_Stop, some R.cyc_Hands_Start, some R.detentref20_New, some R.detentref20_Hands_Cyclic, some R.detentref20_Hands_NewAlarm, some R.detentref20_Hands_Start, some R.detentref20_Hands_Stop, some R.detentref20_Hands_Set, some R.detentref20_Hands_Clear, some R.cyc_Hands_Wait, some R.detentref20_Hands_Wait, some R.detentref20_Hands_Pass, some R.detentlaw20_Fired, some R.detentlaw3_Same, some R.heap_Timers_Cancel, some R.detentref7_Timers_Cancel, some R.clock_Clock_Now, some R.detentref8_Clock_Now, some R.heap_Timers_Len, some R.clock_NewClock, some R.nums_Rel, some R.clock_Clock_Tick, some R.slices_SortStableFunc__cyc_Fired_cyc_Fired, some R.cyc_order, some R.slices_Clip__cyc_Fired_cyc_Fired, some R.cyc_Hands_alarm, some R.cyc_Hands_cyc, some R.detentref8_New, some R.detentref1_Rel, some R.clock_Clock_After, some R.detentref8_Clock_After, some R.detentref8_Clock_Tick, some R.detentref20_put, some R.heap_Timers_find, some R.heap_Timers_remove, some R.detentref7_Timers_Find, some R.nums_Add, some R.detentref1_Add, some R.heap_New, some R.heap_Timers_Due, some R.slices_stableCmpFunc_cyc_Fired, some R.cmp_Compare_uint64, some R.cmp_Compare_int, some R.heap_Timers_Insert, some R.detentref7_Timers_Insert, some R.detentref7_Timers_Due, some R.detentref20_before, some R.slices_IndexFunc_heap_row_heap_entry, some R.heap_Timers_find_1, some R.heap_row_up, some R.heap_row_down, some R.slices_insertionSortCmpFunc_cyc_Fired, some R.slices_symMergeCmpFunc_cyc_Fired, some R.cmp_isNaN_uint64, some R.cmp_isNaN_int, some R.detentref7_Timers_least, some R.heap_row_ahead, some R.slices_rotateCmpFunc_cyc_Fired, some R.slices_swapRangeCmpFunc_cyc_Fired]
def tab (f : Nat) : Option RFunc := (tabL[f]?).join
theorem tab_ok : TabOk Go.Proofs.Try.prog [] tab := tabOk_of (l := tabL) (⟨⟨_, Go.Proofs.Try.func8, R.detentlaw20_HandPlays_ok⟩, ⟨⟨_, Go.Proofs.Try.func9, R.detentlaw20_known_ok⟩, ⟨⟨_, Go.Proofs.Try.func10, R.cyc_NewHands_ok⟩, ⟨⟨_, Go.Proofs.Try.func11, R.cyc_Hands_Cyclic_ok⟩, ⟨⟨_, Go.Proofs.Try.func12, R.cyc_Hands_Pass_ok⟩, ⟨⟨_, Go.Proofs.Try.func13, R.cyc_Hands_Alarm_ok⟩, ⟨⟨_, Go.Proofs.Try.func14, R.cyc_Hands_Set_ok⟩, ⟨⟨_, Go.Proofs.Try.func15, R.clock_Clock_Up_ok⟩, ⟨⟨_, Go.Proofs.Try.func16, R.cyc_Hands_Clear_ok⟩, ⟨⟨_, Go.Proofs.Try.func17, R.cyc_Hands_Stop_ok⟩, ⟨⟨_, Go.Proofs.Try.func18, R.cyc_Hands_Start_ok⟩, ⟨⟨_, Go.Proofs.Try.func19, R.detentref20_New_ok⟩, ⟨⟨_, Go.Proofs.Try.func20, R.detentref20_Hands_Cyclic_ok⟩, ⟨⟨_, Go.Proofs.Try.func21, R.detentref20_Hands_NewAlarm_ok⟩, ⟨⟨_, Go.Proofs.Try.func22, R.detentref20_Hands_Start_ok⟩, ⟨⟨_, Go.Proofs.Try.func23, R.detentref20_Hands_Stop_ok⟩, ⟨⟨_, Go.Proofs.Try.func24, R.detentref20_Hands_Set_ok⟩, ⟨⟨_, Go.Proofs.Try.func25, R.detentref20_Hands_Clear_ok⟩, ⟨⟨_, Go.Proofs.Try.func26, R.cyc_Hands_Wait_ok⟩, ⟨⟨_, Go.Proofs.Try.func27, R.detentref20_Hands_Wait_ok⟩, ⟨⟨_, Go.Proofs.Try.func28, R.detentref20_Hands_Pass_ok⟩, ⟨⟨_, Go.Proofs.Try.func29, R.detentlaw20_Fired_ok⟩, ⟨⟨_, Go.Proofs.Try.func30, R.detentlaw3_Same_ok⟩, ⟨⟨_, Go.Proofs.Try.func31, R.heap_Timers_Cancel_ok⟩, ⟨⟨_, Go.Proofs.Try.func32, R.detentref7_Timers_Cancel_ok⟩, ⟨⟨_, Go.Proofs.Try.func33, R.clock_Clock_Now_ok⟩, ⟨⟨_, Go.Proofs.Try.func34, R.detentref8_Clock_Now_ok⟩, ⟨⟨_, Go.Proofs.Try.func35, R.heap_Timers_Len_ok⟩, ⟨⟨_, Go.Proofs.Try.func36, R.clock_NewClock_ok⟩, ⟨⟨_, Go.Proofs.Try.func37, R.nums_Rel_ok⟩, ⟨⟨_, Go.Proofs.Try.func38, R.clock_Clock_Tick_ok⟩, ⟨⟨_, Go.Proofs.Try.func39, R.slices_SortStableFunc__cyc_Fired_cyc_Fired_ok⟩, ⟨⟨_, Go.Proofs.Try.func40, R.cyc_order_ok⟩, ⟨⟨_, Go.Proofs.Try.func41, R.slices_Clip__cyc_Fired_cyc_Fired_ok⟩, ⟨⟨_, Go.Proofs.Try.func42, R.cyc_Hands_alarm_ok⟩, ⟨⟨_, Go.Proofs.Try.func43, R.cyc_Hands_cyc_ok⟩, ⟨⟨_, Go.Proofs.Try.func44, R.detentref8_New_ok⟩, ⟨⟨_, Go.Proofs.Try.func45, R.detentref1_Rel_ok⟩, ⟨⟨_, Go.Proofs.Try.func46, R.clock_Clock_After_ok⟩, ⟨⟨_, Go.Proofs.Try.func47, R.detentref8_Clock_After_ok⟩, ⟨⟨_, Go.Proofs.Try.func48, R.detentref8_Clock_Tick_ok⟩, ⟨⟨_, Go.Proofs.Try.func49, R.detentref20_put_ok⟩, ⟨⟨_, Go.Proofs.Try.func50, R.heap_Timers_find_ok⟩, ⟨⟨_, Go.Proofs.Try.func51, R.heap_Timers_remove_ok⟩, ⟨⟨_, Go.Proofs.Try.func52, R.detentref7_Timers_Find_ok⟩, ⟨⟨_, Go.Proofs.Try.func53, R.nums_Add_ok⟩, ⟨⟨_, Go.Proofs.Try.func54, R.detentref1_Add_ok⟩, ⟨⟨_, Go.Proofs.Try.func55, R.heap_New_ok⟩, ⟨⟨_, Go.Proofs.Try.func56, R.heap_Timers_Due_ok⟩, ⟨⟨_, Go.Proofs.Try.func57, R.slices_stableCmpFunc_cyc_Fired_ok⟩, ⟨⟨_, Go.Proofs.Try.func58, R.cmp_Compare_uint64_ok⟩, ⟨⟨_, Go.Proofs.Try.func59, R.cmp_Compare_int_ok⟩, ⟨⟨_, Go.Proofs.Try.func60, R.heap_Timers_Insert_ok⟩, ⟨⟨_, Go.Proofs.Try.func61, R.detentref7_Timers_Insert_ok⟩, ⟨⟨_, Go.Proofs.Try.func62, R.detentref7_Timers_Due_ok⟩, ⟨⟨_, Go.Proofs.Try.func63, R.detentref20_before_ok⟩, ⟨⟨_, Go.Proofs.Try.func64, R.slices_IndexFunc_heap_row_heap_entry_ok⟩, ⟨⟨_, Go.Proofs.Try.func65, R.heap_Timers_find_1_ok⟩, ⟨⟨_, Go.Proofs.Try.func66, R.heap_row_up_ok⟩, ⟨⟨_, Go.Proofs.Try.func67, R.heap_row_down_ok⟩, ⟨⟨_, Go.Proofs.Try.func68, R.slices_insertionSortCmpFunc_cyc_Fired_ok⟩, ⟨⟨_, Go.Proofs.Try.func69, R.slices_symMergeCmpFunc_cyc_Fired_ok⟩, ⟨⟨_, Go.Proofs.Try.func70, R.cmp_isNaN_uint64_ok⟩, ⟨⟨_, Go.Proofs.Try.func71, R.cmp_isNaN_int_ok⟩, ⟨⟨_, Go.Proofs.Try.func72, R.detentref7_Timers_least_ok⟩, ⟨⟨_, Go.Proofs.Try.func73, R.heap_row_ahead_ok⟩, ⟨⟨_, Go.Proofs.Try.func74, R.slices_rotateCmpFunc_cyc_Fired_ok⟩, ⟨⟨_, Go.Proofs.Try.func75, R.slices_swapRangeCmpFunc_cyc_Fired_ok⟩, trivial⟩⟩⟩⟩⟩⟩⟩⟩⟩⟩⟩⟩⟩⟩⟩⟩⟩⟩⟩⟩⟩⟩⟩⟩⟩⟩⟩⟩⟩⟩⟩⟩⟩⟩⟩⟩⟩⟩⟩⟩⟩⟩⟩⟩⟩⟩⟩⟩⟩⟩⟩⟩⟩⟩⟩⟩⟩⟩⟩⟩⟩⟩⟩⟩⟩⟩⟩⟩)
theorem tab_wf : TabWf tab := tabWf_of (l := tabL) (by kernel_rfl)
theorem tab_detentlaw20_HandPlays : tab F.detentlaw20_HandPlays = some R.detentlaw20_HandPlays := rfl
theorem tab_detentlaw20_Fired : tab F.detentlaw20_Fired = some R.detentlaw20_Fired := rfl
theorem tab_detentlaw3_Same : tab F.detentlaw3_Same = some R.detentlaw3_Same := rfl
theorem tab_cyc_NewHands : tab F.cyc_NewHands = some R.cyc_NewHands := rfl
theorem tab_cyc_Hands_Cyclic : tab F.cyc_Hands_Cyclic = some R.cyc_Hands_Cyclic := rfl
theorem tab_cyc_Hands_Pass : tab F.cyc_Hands_Pass = some R.cyc_Hands_Pass := rfl
theorem tab_cyc_Hands_Alarm : tab F.cyc_Hands_Alarm = some R.cyc_Hands_Alarm := rfl
theorem tab_cyc_Hands_Set : tab F.cyc_Hands_Set = some R.cyc_Hands_Set := rfl
theorem tab_clock_Clock_Up : tab F.clock_Clock_Up = some R.clock_Clock_Up := rfl
theorem tab_cyc_Hands_Clear : tab F.cyc_Hands_Clear = some R.cyc_Hands_Clear := rfl
theorem tab_cyc_Hands_Stop : tab F.cyc_Hands_Stop = some R.cyc_Hands_Stop := rfl
theorem tab_cyc_Hands_Start : tab F.cyc_Hands_Start = some R.cyc_Hands_Start := rfl
theorem tab_detentref20_New : tab F.detentref20_New = some R.detentref20_New := rfl
theorem tab_detentref20_Hands_Cyclic : tab F.detentref20_Hands_Cyclic = some R.detentref20_Hands_Cyclic := rfl
theorem tab_detentref20_Hands_NewAlarm : tab F.detentref20_Hands_NewAlarm = some R.detentref20_Hands_NewAlarm := rfl
theorem tab_detentref20_Hands_Start : tab F.detentref20_Hands_Start = some R.detentref20_Hands_Start := rfl
theorem tab_detentref20_Hands_Stop : tab F.detentref20_Hands_Stop = some R.detentref20_Hands_Stop := rfl
theorem tab_detentref20_Hands_Set : tab F.detentref20_Hands_Set = some R.detentref20_Hands_Set := rfl
theorem tab_detentref20_Hands_Clear : tab F.detentref20_Hands_Clear = some R.detentref20_Hands_Clear := rfl
theorem tab_cyc_Hands_Wait : tab F.cyc_Hands_Wait = some R.cyc_Hands_Wait := rfl
theorem tab_detentref20_Hands_Wait : tab F.detentref20_Hands_Wait = some R.detentref20_Hands_Wait := rfl
theorem tab_detentref20_Hands_Pass : tab F.detentref20_Hands_Pass = some R.detentref20_Hands_Pass := rfl
theorem tab_heap_Timers_Cancel : tab F.heap_Timers_Cancel = some R.heap_Timers_Cancel := rfl
theorem tab_detentref7_Timers_Cancel : tab F.detentref7_Timers_Cancel = some R.detentref7_Timers_Cancel := rfl
theorem tab_clock_Clock_Now : tab F.clock_Clock_Now = some R.clock_Clock_Now := rfl
theorem tab_detentref8_Clock_Now : tab F.detentref8_Clock_Now = some R.detentref8_Clock_Now := rfl
theorem tab_heap_Timers_Len : tab F.heap_Timers_Len = some R.heap_Timers_Len := rfl
theorem tab_clock_NewClock : tab F.clock_NewClock = some R.clock_NewClock := rfl
theorem tab_nums_Rel : tab F.nums_Rel = some R.nums_Rel := rfl
theorem tab_clock_Clock_Tick : tab F.clock_Clock_Tick = some R.clock_Clock_Tick := rfl
theorem tab_slices_SortStableFunc__cyc_Fired_cyc_Fired : tab F.slices_SortStableFunc__cyc_Fired_cyc_Fired = some R.slices_SortStableFunc__cyc_Fired_cyc_Fired := rfl
theorem tab_cyc_order : tab F.cyc_order = some R.cyc_order := rfl
theorem tab_slices_Clip__cyc_Fired_cyc_Fired : tab F.slices_Clip__cyc_Fired_cyc_Fired = some R.slices_Clip__cyc_Fired_cyc_Fired := rfl
theorem tab_cyc_Hands_alarm : tab F.cyc_Hands_alarm = some R.cyc_Hands_alarm := rfl
theorem tab_cyc_Hands_cyc : tab F.cyc_Hands_cyc = some R.cyc_Hands_cyc := rfl
theorem tab_detentref8_New : tab F.detentref8_New = some R.detentref8_New := rfl
theorem tab_detentref1_Rel : tab F.detentref1_Rel = some R.detentref1_Rel := rfl
theorem tab_clock_Clock_After : tab F.clock_Clock_After = some R.clock_Clock_After := rfl
theorem tab_detentref8_Clock_After : tab F.detentref8_Clock_After = some R.detentref8_Clock_After := rfl
theorem tab_detentref8_Clock_Tick : tab F.detentref8_Clock_Tick = some R.detentref8_Clock_Tick := rfl
theorem tab_detentref20_put : tab F.detentref20_put = some R.detentref20_put := rfl
theorem tab_heap_Timers_find : tab F.heap_Timers_find = some R.heap_Timers_find := rfl
theorem tab_heap_Timers_remove : tab F.heap_Timers_remove = some R.heap_Timers_remove := rfl
theorem tab_detentref7_Timers_Find : tab F.detentref7_Timers_Find = some R.detentref7_Timers_Find := rfl
theorem tab_nums_Add : tab F.nums_Add = some R.nums_Add := rfl
theorem tab_detentref1_Add : tab F.detentref1_Add = some R.detentref1_Add := rfl
theorem tab_heap_New : tab F.heap_New = some R.heap_New := rfl
theorem tab_heap_Timers_Due : tab F.heap_Timers_Due = some R.heap_Timers_Due := rfl
theorem tab_slices_stableCmpFunc_cyc_Fired : tab F.slices_stableCmpFunc_cyc_Fired = some R.slices_stableCmpFunc_cyc_Fired := rfl
theorem tab_cmp_Compare_uint64 : tab F.cmp_Compare_uint64 = some R.cmp_Compare_uint64 := rfl
theorem tab_cmp_Compare_int : tab F.cmp_Compare_int = some R.cmp_Compare_int := rfl
theorem tab_heap_Timers_Insert : tab F.heap_Timers_Insert = some R.heap_Timers_Insert := rfl
theorem tab_detentref7_Timers_Insert : tab F.detentref7_Timers_Insert = some R.detentref7_Timers_Insert := rfl
theorem tab_detentref7_Timers_Due : tab F.detentref7_Timers_Due = some R.detentref7_Timers_Due := rfl
theorem tab_detentref20_before : tab F.detentref20_before = some R.detentref20_before := rfl
theorem tab_slices_IndexFunc_heap_row_heap_entry : tab F.slices_IndexFunc_heap_row_heap_entry = some R.slices_IndexFunc_heap_row_heap_entry := rfl
theorem tab_heap_Timers_find_1 : tab F.heap_Timers_find_1 = some R.heap_Timers_find_1 := rfl
theorem tab_heap_row_up : tab F.heap_row_up = some R.heap_row_up := rfl
theorem tab_heap_row_down : tab F.heap_row_down = some R.heap_row_down := rfl
theorem tab_slices_insertionSortCmpFunc_cyc_Fired : tab F.slices_insertionSortCmpFunc_cyc_Fired = some R.slices_insertionSortCmpFunc_cyc_Fired := rfl
theorem tab_slices_symMergeCmpFunc_cyc_Fired : tab F.slices_symMergeCmpFunc_cyc_Fired = some R.slices_symMergeCmpFunc_cyc_Fired := rfl
theorem tab_cmp_isNaN_uint64 : tab F.cmp_isNaN_uint64 = some R.cmp_isNaN_uint64 := rfl
theorem tab_cmp_isNaN_int : tab F.cmp_isNaN_int = some R.cmp_isNaN_int := rfl
theorem tab_detentref7_Timers_least : tab F.detentref7_Timers_least = some R.detentref7_Timers_least := rfl
theorem tab_heap_row_ahead : tab F.heap_row_ahead = some R.heap_row_ahead := rfl
theorem tab_slices_rotateCmpFunc_cyc_Fired : tab F.slices_rotateCmpFunc_cyc_Fired = some R.slices_rotateCmpFunc_cyc_Fired := rfl
theorem tab_slices_swapRangeCmpFunc_cyc_Fired : tab F.slices_swapRangeCmpFunc_cyc_Fired = some R.slices_swapRangeCmpFunc_cyc_Fired := rfl
end Go.AM

/-
  What must hold ahead of each function and each piece,written out.
-/
set_option maxRecDepth 100000
set_option maxHeartbeats 8000000
set_option linter.unusedVariables false
namespace Go.AM
end Go.AM

/-
  What must hold ahead of each function and each piece,written out.
-/
set_option maxRecDepth 100000
set_option maxHeartbeats 8000000
set_option linter.unusedVariables false
namespace Go.AM
theorem detentlaw20_HandPlays_s0_at {T : List AV} (hT : T.length = 299) (H : AH) (K : Ex → List AV → AH → Prop) :
  wpC tab noExt R.detentlaw20_HandPlays_s0 T H K = (andThen (binA .neq (sl T 11) (sl T 12)) fun v1 => gP (gd v1 false) (AH.bump H 58) (fun k2 => k2 (sl T 13) (AH.bump H 58)) fun v3 H4 => gP (gd v1 false) H4 (fun k5 => k5 (sl T 14) H4) fun v6 H7 => gP (gd v1 false) H7 (fun k8 => andThen (binA .neq v3 v6) fun v11 => k8 v11 H7) fun v9 H10 => andThen (pickA v1 (AV.s (SV.bool true)) v9) fun v12 => gP (gd v12 false) H10 (fun k13 => k13 (sl T 5) H10) fun v14 H15 => gP (gd v12 false) H15 (fun k16 => andThen (nilCheckA v14) fun v19 => k16 v19 H15) fun v17 H18 => gP (gd v12 false) H18 (fun k20 => andThen (fieldAddrA 0 v17) fun v23 => k20 v23 H18) fun v21 H22 => gP (gd v12 false) H22 (fun k24 => andThen (loadA none v21 H22) fun v27 => k24 v27 H22) fun v25 H26 => gP (gd v12 false) H26 (fun k28 => k28 (sl T 7) H26) fun v29 H30 => gP (gd v12 false) H30 (fun k31 => andThen (nilCheckA v29) fun v34 => k31 v34 H30) fun v32 H33 => gP (gd v12 false) H33 (fun k35 => andThen (fieldAddrA 0 v32) fun v38 => k35 v38 H33) fun v36 H37 => gP (gd v12 false) H37 (fun k39 => andThen (loadA none v36 H37) fun v42 => k39 v42 H37) fun v40 H41 => gP (gd v12 false) H41 (fun k43 => andThen (nilCheckA v40) fun v46 => k43 v46 H41) fun v44 H45 => gP (gd v12 false) H45 (fun k47 => andThen (fieldAddrA 2 v44) fun v50 => k47 v50 H45) fun v48 H49 => gP (gd v12 false) H49 (fun k51 => andThen (loadA none v48 H49) fun v54 => k51 v54 H49) fun v52 H53 => gP (gd v12 false) H53 (fun k55 => CallP tab noExt F.clock_Clock_Up [v25] H53 fun v58 H59 => k55 v58 H59) fun v56 H57 => (gd v12 false = true → loadA none v36 H57 = some v40) ∧ ((gd v12 false = true → loadA none v48 H57 = some v52) ∧ (gP (gd v12 false) H57 (fun k60 => andThen (binA .neq v56 v52) fun v63 => k60 v63 H57) fun v61 H62 => andThen (pickA v12 (AV.s (SV.bool true)) v61) fun v64 => gP (gd v64 false) H62 (fun k65 => k65 (sl T 5) H62) fun v66 H67 => gP (gd v64 false) H67 (fun k68 => andThen (nilCheckA v66) fun v71 => k68 v71 H67) fun v69 H70 => gP (gd v64 false) H70 (fun k72 => andThen (fieldAddrA 0 v69) fun v75 => k72 v75 H70) fun v73 H74 => gP (gd v64 false) H74 (fun k76 => andThen (loadA none v73 H74) fun v79 => k76 v79 H74) fun v77 H78 => gP (gd v64 false) H78 (fun k80 => k80 (sl T 7) H78) fun v81 H82 => gP (gd v64 false) H82 (fun k83 => andThen (nilCheckA v81) fun v86 => k83 v86 H82) fun v84 H85 => gP (gd v64 false) H85 (fun k87 => andThen (fieldAddrA 0 v84) fun v90 => k87 v90 H85) fun v88 H89 => gP (gd v64 false) H89 (fun k91 => andThen (loadA none v88 H89) fun v94 => k91 v94 H89) fun v92 H93 => gP (gd v64 false) H93 (fun k95 => CallP tab noExt F.clock_Clock_Now [v77] H93 fun v98 H99 => k95 v98 H99) fun v96 H97 => (gd v64 false = true → loadA none v88 H97 = some v92) ∧ (gP (gd v64 false) H97 (fun k100 => CallP tab noExt F.detentref8_Clock_Now [v92] H97 fun v103 H104 => k100 v103 H104) fun v101 H102 => gP (gd v64 false) H102 (fun k105 => andThen (binA .neq v96 v101) fun v108 => k105 v108 H102) fun v106 H107 => andThen (pickA v64 (AV.s (SV.bool true)) v106) fun v109 => gP (gd v109 false) H107 (fun k110 => k110 (sl T 5) H107) fun v111 H112 => gP (gd v109 false) H112 (fun k113 => andThen (nilCheckA v111) fun v116 => k113 v116 H112) fun v114 H115 => gP (gd v109 false) H115 (fun k117 => andThen (fieldAddrA 0 v114) fun v120 => k117 v120 H115) fun v118 H119 => gP (gd v109 false) H119 (fun k121 => andThen (loadA none v118 H119) fun v124 => k121 v124 H119) fun v122 H123 => gP (gd v109 false) H123 (fun k125 => andThen (nilCheckA v122) fun v128 => k125 v128 H123) fun v126 H127 => gP (gd v109 false) H127 (fun k129 => andThen (fieldAddrA 0 v126) fun v132 => k129 v132 H127) fun v130 H131 => gP (gd v109 false) H131 (fun k133 => andThen (loadA none v130 H131) fun v136 => k133 v136 H131) fun v134 H135 => gP (gd v109 false) H135 (fun k137 => k137 (sl T 7) H135) fun v138 H139 => gP (gd v109 false) H139 (fun k140 => andThen (nilCheckA v138) fun v143 => k140 v143 H139) fun v141 H142 => gP (gd v109 false) H142 (fun k144 => andThen (fieldAddrA 0 v141) fun v147 => k144 v147 H142) fun v145 H146 => gP (gd v109 false) H146 (fun k148 => andThen (loadA none v145 H146) fun v151 => k148 v151 H146) fun v149 H150 => gP (gd v109 false) H150 (fun k152 => andThen (nilCheckA v149) fun v155 => k152 v155 H150) fun v153 H154 => gP (gd v109 false) H154 (fun k156 => andThen (fieldAddrA 0 v153) fun v159 => k156 v159 H154) fun v157 H158 => gP (gd v109 false) H158 (fun k160 => andThen (loadA none v157 H158) fun v163 => k160 v163 H158) fun v161 H162 => gP (gd v109 false) H162 (fun k164 => andThen (nilCheckA v161) fun v167 => k164 v167 H162) fun v165 H166 => gP (gd v109 false) H166 (fun k168 => andThen (fieldAddrA 0 v165) fun v171 => k168 v171 H166) fun v169 H170 => gP (gd v109 false) H170 (fun k172 => andThen (loadA none v169 H170) fun v175 => k172 v175 H170) fun v173 H174 => gP (gd v109 false) H174 (fun k176 => andThen (lenA v173) fun v179 => k176 v179 H174) fun v177 H178 => gP (gd v109 false) H178 (fun k180 => CallP tab noExt F.heap_Timers_Len [v134] H178 fun v183 H184 => k180 v183 H184) fun v181 H182 => (gd v109 false = true → loadA none v145 H182 = some v149) ∧ ((gd v109 false = true → loadA none v157 H182 = some v161) ∧ ((gd v109 false = true → loadA none v169 H182 = some v173) ∧ (gP (gd v109 false) H182 (fun k185 => andThen (binA .neq v181 v177) fun v188 => k185 v188 H182) fun v186 H187 => andThen (pickA v109 (AV.s (SV.bool true)) v186) fun v189 => condP v189 (K Ex.ret [sl T 0,sl T 1,sl T 2,sl T 3,(AV.s (SV.bool false)),sl T 5,sl T 6,sl T 7,sl T 8,sl T 9,sl T 10,sl T 11,sl T 12,sl T 13,sl T 14,sl T 15,sl T 16,sl T 17,sl T 18,sl T 19,sl T 20,sl T 21,sl T 22,sl T 23,sl T 24,sl T 25,sl T 26,sl T 27,sl T 28,sl T 29,sl T 30,sl T 31,sl T 32,sl T 33,sl T 34,sl T 35,sl T 36,sl T 37,sl T 38,sl T 39,sl T 40,sl T 41,sl T 42,sl T 43,sl T 44,sl T 45,sl T 46,sl T 47,sl T 48,sl T 49,sl T 50,sl T 51,sl T 52,sl T 53,sl T 54,sl T 55,sl T 56,sl T 57,sl T 58,sl T 59,sl T 60,sl T 61,sl T 62,sl T 63,sl T 64,sl T 65,sl T 66,sl T 67,sl T 68,sl T 69,sl T 70,sl T 71,sl T 72,sl T 73,sl T 74,sl T 75,sl T 76,sl T 77,sl T 78,sl T 79,sl T 80,sl T 81,sl T 82,sl T 83,sl T 84,sl T 85,sl T 86,sl T 87,sl T 88,sl T 89,sl T 90,sl T 91,sl T 92,sl T 93,sl T 94,sl T 95,sl T 96,sl T 97,sl T 98,sl T 99,sl T 100,sl T 101,sl T 102,sl T 103,sl T 104,sl T 105,sl T 106,sl T 107,sl T 108,sl T 109,sl T 110,sl T 111,sl T 112,sl T 113,sl T 114,sl T 115,sl T 116,sl T 117,sl T 118,sl T 119,sl T 120,sl T 121,sl T 122,sl T 123,sl T 124,sl T 125,sl T 126,sl T 127,sl T 128,sl T 129,sl T 130,sl T 131,sl T 132,sl T 133,sl T 134,sl T 135,sl T 136,sl T 137,sl T 138,sl T 139,sl T 140,sl T 141,sl T 142,sl T 143,sl T 144,sl T 145,sl T 146,sl T 147,sl T 148,sl T 149,sl T 150,sl T 151,sl T 152,sl T 153,sl T 154,sl T 155,sl T 156,sl T 157,sl T 158,sl T 159,sl T 160,sl T 161,sl T 162,sl T 163,sl T 164,sl T 165,sl T 166,sl T 167,sl T 168,sl T 169,sl T 170,sl T 171,sl T 172,sl T 173,sl T 174,sl T 175,sl T 176,sl T 177,sl T 178,sl T 179,sl T 180,sl T 181,sl T 182,sl T 183,sl T 184,sl T 185,sl T 186,sl T 187,sl T 188,sl T 189,sl T 190,sl T 191,sl T 192,sl T 193,sl T 194,sl T 195,sl T 196,sl T 197,sl T 198,sl T 199,sl T 200,sl T 201,sl T 202,sl T 203,sl T 204,sl T 205,sl T 206,sl T 207,sl T 208,sl T 209,sl T 210,sl T 211,sl T 212,sl T 213,sl T 214,sl T 215,sl T 216,sl T 217,sl T 218,sl T 219,sl T 220,sl T 221,sl T 222,sl T 223,sl T 224,sl T 225,sl T 226,sl T 227,sl T 228,sl T 229,sl T 230,sl T 231,sl T 232,sl T 233,sl T 234,sl T 235,sl T 236,sl T 237,sl T 238,sl T 239,sl T 240,sl T 11,sl T 12,v1,v1,v3,v6,v9,v12,v12,v14,v17,v21,v25,v56,v29,v32,v36,v40,v44,v48,v52,v61,v64,v64,v66,v69,v73,v77,v96,v81,v84,v88,v92,v101,v106,v109,v109,v111,v114,v118,v122,v126,v130,v134,v181,v138,v141,v145,v149,v153,v157,v161,v165,v169,v173,v177,v186,v189] (AH.bump H187 1)) (K Ex.norm [sl T 0,sl T 1,sl T 2,sl T 3,sl T 4,sl T 5,sl T 6,sl T 7,sl T 8,sl T 9,sl T 10,sl T 11,sl T 12,sl T 13,sl T 14,sl T 15,sl T 16,sl T 17,sl T 18,sl T 19,sl T 20,sl T 21,sl T 22,sl T 23,sl T 24,sl T 25,sl T 26,sl T 27,sl T 28,sl T 29,sl T 30,sl T 31,sl T 32,sl T 33,sl T 34,sl T 35,sl T 36,sl T 37,sl T 38,sl T 39,sl T 40,sl T 41,sl T 42,sl T 43,sl T 44,sl T 45,sl T 46,sl T 47,sl T 48,sl T 49,sl T 50,sl T 51,sl T 52,sl T 53,sl T 54,sl T 55,sl T 56,sl T 57,sl T 58,sl T 59,sl T 60,sl T 61,sl T 62,sl T 63,sl T 64,sl T 65,sl T 66,sl T 67,sl T 68,sl T 69,sl T 70,sl T 71,sl T 72,sl T 73,sl T 74,sl T 75,sl T 76,sl T 77,sl T 78,sl T 79,sl T 80,sl T 81,sl T 82,sl T 83,sl T 84,sl T 85,sl T 86,sl T 87,sl T 88,sl T 89,sl T 90,sl T 91,sl T 92,sl T 93,sl T 94,sl T 95,sl T 96,sl T 97,sl T 98,sl T 99,sl T 100,sl T 101,sl T 102,sl T 103,sl T 104,sl T 105,sl T 106,sl T 107,sl T 108,sl T 109,sl T 110,sl T 111,sl T 112,sl T 113,sl T 114,sl T 115,sl T 116,sl T 117,sl T 118,sl T 119,sl T 120,sl T 121,sl T 122,sl T 123,sl T 124,sl T 125,sl T 126,sl T 127,sl T 128,sl T 129,sl T 130,sl T 131,sl T 132,sl T 133,sl T 134,sl T 135,sl T 136,sl T 137,sl T 138,sl T 139,sl T 140,sl T 141,sl T 142,sl T 143,sl T 144,sl T 145,sl T 146,sl T 147,sl T 148,sl T 149,sl T 150,sl T 151,sl T 152,sl T 153,sl T 154,sl T 155,sl T 156,sl T 157,sl T 158,sl T 159,sl T 160,sl T 161,sl T 162,sl T 163,sl T 164,sl T 165,sl T 166,sl T 167,sl T 168,sl T 169,sl T 170,sl T 171,sl T 172,sl T 173,sl T 174,sl T 175,sl T 176,sl T 177,sl T 178,sl T 179,sl T 180,sl T 181,sl T 182,sl T 183,sl T 184,sl T 185,sl T 186,sl T 187,sl T 188,sl T 189,sl T 190,sl T 191,sl T 192,sl T 193,sl T 194,sl T 195,sl T 196,sl T 197,sl T 198,sl T 199,sl T 200,sl T 201,sl T 202,sl T 203,sl T 204,sl T 205,sl T 206,sl T 207,sl T 208,sl T 209,sl T 210,sl T 211,sl T 212,sl T 213,sl T 214,sl T 215,sl T 216,sl T 217,sl T 218,sl T 219,sl T 220,sl T 221,sl T 222,sl T 223,sl T 224,sl T 225,sl T 226,sl T 227,sl T 228,sl T 229,sl T 230,sl T 231,sl T 232,sl T 233,sl T 234,sl T 235,sl T 236,sl T 237,sl T 238,sl T 239,sl T 240,sl T 11,sl T 12,v1,v1,v3,v6,v9,v12,v12,v14,v17,v21,v25,v56,v29,v32,v36,v40,v44,v48,v52,v61,v64,v64,v66,v69,v73,v77,v96,v81,v84,v88,v92,v101,v106,v109,v109,v111,v114,v118,v122,v126,v130,v134,v181,v138,v141,v145,v149,v153,v157,v161,v165,v169,v173,v177,v186,v189] H187)))))))) :=
  (congrArg (fun T => wpC tab noExt R.detentlaw20_HandPlays_s0 T H K) (sl_eta hT)).trans (by kernel_rfl)
theorem detentlaw20_HandPlays_s1_at {T : List AV} (hT : T.length = 299) (H : AH) (K : Ex → List AV → AH → Prop) :
  wpC tab noExt R.detentlaw20_HandPlays_s1 T H K = (andThen (binA .add (sl T 9) (AV.s (SV.int .i64 1))) fun v1 => K Ex.norm [sl T 0,sl T 1,sl T 2,sl T 3,sl T 4,sl T 5,sl T 6,sl T 7,sl T 8,v1,sl T 10,sl T 11,sl T 12,sl T 13,sl T 14,sl T 15,sl T 16,sl T 17,sl T 18,sl T 19,sl T 20,sl T 21,sl T 22,sl T 23,sl T 24,sl T 25,sl T 26,sl T 27,sl T 28,sl T 29,sl T 30,sl T 31,sl T 32,sl T 33,sl T 34,sl T 35,sl T 36,sl T 37,sl T 38,sl T 39,sl T 40,sl T 41,sl T 42,sl T 43,sl T 44,sl T 45,sl T 46,sl T 47,sl T 48,sl T 49,sl T 50,sl T 51,sl T 52,sl T 53,sl T 54,sl T 55,sl T 56,sl T 57,sl T 58,sl T 59,sl T 60,sl T 61,sl T 9,v1,sl T 64,sl T 65,sl T 66,sl T 67,sl T 68,sl T 69,sl T 70,sl T 71,sl T 72,sl T 73,sl T 74,sl T 75,sl T 76,sl T 77,sl T 78,sl T 79,sl T 80,sl T 81,sl T 82,sl T 83,sl T 84,sl T 85,sl T 86,sl T 87,sl T 88,sl T 89,sl T 90,sl T 91,sl T 92,sl T 93,sl T 94,sl T 95,sl T 96,sl T 97,sl T 98,sl T 99,sl T 100,sl T 101,sl T 102,sl T 103,sl T 104,sl T 105,sl T 106,sl T 107,sl T 108,sl T 109,sl T 110,sl T 111,sl T 112,sl T 113,sl T 114,sl T 115,sl T 116,sl T 117,sl T 118,sl T 119,sl T 120,sl T 121,sl T 122,sl T 123,sl T 124,sl T 125,sl T 126,sl T 127,sl T 128,sl T 129,sl T 130,sl T 131,sl T 132,sl T 133,sl T 134,sl T 135,sl T 136,sl T 137,sl T 138,sl T 139,sl T 140,sl T 141,sl T 142,sl T 143,sl T 144,sl T 145,sl T 146,sl T 147,sl T 148,sl T 149,sl T 150,sl T 151,sl T 152,sl T 153,sl T 154,sl T 155,sl T 156,sl T 157,sl T 158,sl T 159,sl T 160,sl T 161,sl T 162,sl T 163,sl T 164,sl T 165,sl T 166,sl T 167,sl T 168,sl T 169,sl T 170,sl T 171,sl T 172,sl T 173,sl T 174,sl T 175,sl T 176,sl T 177,sl T 178,sl T 179,sl T 180,sl T 181,sl T 182,sl T 183,sl T 184,sl T 185,sl T 186,sl T 187,sl T 188,sl T 189,sl T 190,sl T 191,sl T 192,sl T 193,sl T 194,sl T 195,sl T 196,sl T 197,sl T 198,sl T 199,sl T 200,sl T 201,sl T 202,sl T 203,sl T 204,sl T 205,sl T 206,sl T 207,sl T 208,sl T 209,sl T 210,sl T 211,sl T 212,sl T 213,sl T 214,sl T 215,sl T 216,sl T 217,sl T 218,sl T 219,sl T 220,sl T 221,sl T 222,sl T 223,sl T 224,sl T 225,sl T 226,sl T 227,sl T 228,sl T 229,sl T 230,sl T 231,sl T 232,sl T 233,sl T 234,sl T 235,sl T 236,sl T 237,sl T 238,sl T 239,sl T 240,sl T 241,sl T 242,sl T 243,sl T 244,sl T 245,sl T 246,sl T 247,sl T 248,sl T 249,sl T 250,sl T 251,sl T 252,sl T 253,sl T 254,sl T 255,sl T 256,sl T 257,sl T 258,sl T 259,sl T 260,sl T 261,sl T 262,sl T 263,sl T 264,sl T 265,sl T 266,sl T 267,sl T 268,sl T 269,sl T 270,sl T 271,sl T 272,sl T 273,sl T 274,sl T 275,sl T 276,sl T 277,sl T 278,sl T 279,sl T 280,sl T 281,sl T 282,sl T 283,sl T 284,sl T 285,sl T 286,sl T 287,sl T 288,sl T 289,sl T 290,sl T 291,sl T 292,sl T 293,sl T 294,sl T 295,sl T 296,sl T 297,sl T 298] (AH.bump H 3)) :=
  (congrArg (fun T => wpC tab noExt R.detentlaw20_HandPlays_s1 T H K) (sl_eta hT)).trans (by kernel_rfl)
theorem detentlaw20_HandPlays_l2_gen (c_detentlaw20_HandPlays_s0 : RC) (c_detentlaw20_HandPlays_s1 : RC) {T : List AV} (hT : T.length = 299) (H : AH) (K : Ex → List AV → AH → Prop) :
  wpC tab noExt (RC.seq (RC.seq (RC.region 4 [
  ⟨some 58,.move (.t 9),none,0,[]⟩,
  ⟨some 59,.move (.t 1),none,1,[]⟩,
  ⟨some 60,.len (.t 59),none,2,[]⟩,
  ⟨some 61,.bin .lss (.t 58) (.t 60),none,3,[]⟩]) (RC.cond (.t 61) (RC.skip) (RC.exit 0))) (RC.seq (RC.block 1 (RC.seq (RC.region 6 [
  ⟨some 64,.move (.t 1),none,0,[]⟩,
  ⟨some 65,.move (.t 9),none,1,[]⟩,
  ⟨some 66,.indexSl 6 (.t 64) (.t 65),none,2,[]⟩,
  ⟨some 67,.load (some 6) (.t 66),none,3,[]⟩,
  ⟨some 10,.newc [.int .i64 0,.int .i64 0,.int .i64 0,.int .i64 0,.bool false,.bool false],none,4,[]⟩,
  ⟨none,.store 6 (.t 10) (.t 67),none,5,[]⟩]) (RC.seq (RC.region 1 [
  ⟨some 11,.move (.c (.s (.int .i64 0))),none,0,[]⟩]) (RC.seq (RC.region 1 [
  ⟨some 12,.move (.c (.s (.int .i64 0))),none,0,[]⟩]) (RC.seq (RC.region 1 [
  ⟨some 13,.move (.c (.s (.int .i64 0))),none,0,[]⟩]) (RC.seq (RC.region 1 [
  ⟨some 14,.move (.c (.s (.int .i64 0))),none,0,[]⟩]) (RC.seq (RC.seq (RC.region 2 [
  ⟨some 68,.fieldAddr 0 (.t 10),none,0,[]⟩,
  ⟨some 69,.load none (.t 68),none,1,[]⟩]) (RC.block 2 (RC.seq (RC.region 2 [
  ⟨some 71,.bin .eql (.t 69) (.c (.s (.int .i64 1))),none,0,[]⟩,
  ⟨some 70,.move (.t 71),none,1,[]⟩]) (RC.cond (.t 70) (RC.seq (RC.seq (RC.region 10 [
  ⟨some 72,.fieldAddr 2 (.t 10),none,0,[]⟩,
  ⟨some 73,.load none (.t 72),none,1,[]⟩,
  ⟨some 74,.bin .geq (.t 73) (.c (.s (.int .i64 1))),none,2,[]⟩,
  ⟨some 75,.move (.t 74),none,3,[]⟩,
  ⟨some 76,.fieldAddr 2 (.t 10),(some (75,true)),4,[]⟩,
  ⟨some 77,.load none (.t 76),(some (75,true)),5,[]⟩,
  ⟨some 78,.move (.t 0),(some (75,true)),6,[]⟩,
  ⟨some 79,.bin .quo (.t 78) (.c (.s (.int .i64 20))),(some (75,true)),7,[]⟩,
  ⟨some 80,.bin .lss (.t 77) (.t 79),(some (75,true)),8,[]⟩,
  ⟨some 81,.pick (.t 75) (.t 80) (.c (.s (.bool false))),none,9,[]⟩]) (RC.cond (.t 81) (RC.seq (RC.region 1 [
  ⟨some 4,.move (.c (.s (.bool true))),none,0,[]⟩]) (RC.ret)) (RC.skip))) (RC.seq (RC.region 15 [
  ⟨some 83,.move (.t 5),none,0,[]⟩,
  ⟨some 84,.fieldAddr 2 (.t 10),none,1,[]⟩,
  ⟨some 85,.load none (.t 84),none,2,[]⟩,
  ⟨some 86,.fieldAddr 3 (.t 10),none,3,[]⟩,
  ⟨some 87,.load none (.t 86),none,4,[]⟩,
  ⟨some 88,.fieldAddr 4 (.t 10),none,5,[]⟩,
  ⟨some 89,.load none (.t 88),none,6,[]⟩,
  ⟨some 90,.fieldAddr 5 (.t 10),none,7,[]⟩,
  ⟨some 91,.load none (.t 90),none,8,[]⟩,
  ⟨some 92,.call F.cyc_Hands_Cyclic [(.t 83),(.t 85),(.t 87),(.t 89),(.t 91)],none,9,[]⟩,
  ⟨some 82,.move (.t 92),none,10,[]⟩,
  ⟨some 93,.extract 0 (.t 82),none,11,[]⟩,
  ⟨some 94,.extract 1 (.t 82),none,12,[]⟩,
  ⟨some 15,.move (.t 93),none,13,[]⟩,
  ⟨some 16,.move (.t 94),none,14,[]⟩]) (RC.seq (RC.region 15 [
  ⟨some 96,.move (.t 7),none,0,[]⟩,
  ⟨some 97,.fieldAddr 2 (.t 10),none,1,[]⟩,
  ⟨some 98,.load none (.t 97),none,2,[]⟩,
  ⟨some 99,.fieldAddr 3 (.t 10),none,3,[]⟩,
  ⟨some 100,.load none (.t 99),none,4,[]⟩,
  ⟨some 101,.fieldAddr 4 (.t 10),none,5,[]⟩,
  ⟨some 102,.load none (.t 101),none,6,[]⟩,
  ⟨some 103,.fieldAddr 5 (.t 10),none,7,[]⟩,
  ⟨some 104,.load none (.t 103),none,8,[]⟩,
  ⟨some 105,.call F.detentref20_Hands_Cyclic [(.t 96),(.t 98),(.t 100),(.t 102),(.t 104)],none,9,[]⟩,
  ⟨some 95,.move (.t 105),none,10,[]⟩,
  ⟨some 106,.extract 0 (.t 95),none,11,[]⟩,
  ⟨some 107,.extract 1 (.t 95),none,12,[]⟩,
  ⟨some 17,.move (.t 106),none,13,[]⟩,
  ⟨some 18,.move (.t 107),none,14,[]⟩]) (RC.region 8 [
  ⟨some 108,.move (.t 15),none,0,[]⟩,
  ⟨some 109,.move (.t 17),none,1,[]⟩,
  ⟨some 110,.move (.t 16),none,2,[]⟩,
  ⟨some 111,.move (.t 18),none,3,[]⟩,
  ⟨some 13,.move (.t 108),none,4,[]⟩,
  ⟨some 14,.move (.t 109),none,5,[]⟩,
  ⟨some 11,.move (.t 110),none,6,[]⟩,
  ⟨some 12,.move (.t 111),none,7,[]⟩])))) (RC.seq (RC.region 2 [
  ⟨some 113,.bin .eql (.t 69) (.c (.s (.int .i64 2))),none,0,[]⟩,
  ⟨some 112,.move (.t 113),none,1,[]⟩]) (RC.cond (.t 112) (RC.seq (RC.region 7 [
  ⟨some 115,.move (.t 5),none,0,[]⟩,
  ⟨some 116,.call F.cyc_Hands_Alarm [(.t 115)],none,1,[]⟩,
  ⟨some 114,.move (.t 116),none,2,[]⟩,
  ⟨some 117,.extract 0 (.t 114),none,3,[]⟩,
  ⟨some 118,.extract 1 (.t 114),none,4,[]⟩,
  ⟨some 19,.move (.t 117),none,5,[]⟩,
  ⟨some 20,.move (.t 118),none,6,[]⟩]) (RC.seq (RC.region 7 [
  ⟨some 120,.move (.t 7),none,0,[]⟩,
  ⟨some 121,.call F.detentref20_Hands_NewAlarm [(.t 120)],none,1,[]⟩,
  ⟨some 119,.move (.t 121),none,2,[]⟩,
  ⟨some 122,.extract 0 (.t 119),none,3,[]⟩,
  ⟨some 123,.extract 1 (.t 119),none,4,[]⟩,
  ⟨some 21,.move (.t 122),none,5,[]⟩,
  ⟨some 22,.move (.t 123),none,6,[]⟩]) (RC.region 8 [
  ⟨some 124,.move (.t 19),none,0,[]⟩,
  ⟨some 125,.move (.t 21),none,1,[]⟩,
  ⟨some 126,.move (.t 20),none,2,[]⟩,
  ⟨some 127,.move (.t 22),none,3,[]⟩,
  ⟨some 13,.move (.t 124),none,4,[]⟩,
  ⟨some 14,.move (.t 125),none,5,[]⟩,
  ⟨some 11,.move (.t 126),none,6,[]⟩,
  ⟨some 12,.move (.t 127),none,7,[]⟩]))) (RC.seq (RC.region 2 [
  ⟨some 129,.bin .eql (.t 69) (.c (.s (.int .i64 3))),none,0,[]⟩,
  ⟨some 128,.move (.t 129),none,1,[]⟩]) (RC.cond (.t 128) (RC.seq (RC.region 5 [
  ⟨some 130,.move (.t 5),none,0,[]⟩,
  ⟨some 131,.fieldAddr 1 (.t 10),none,1,[]⟩,
  ⟨some 132,.load none (.t 131),none,2,[]⟩,
  ⟨some 133,.call F.cyc_Hands_Start [(.t 130),(.t 132)],none,3,[]⟩,
  ⟨some 11,.move (.t 133),none,4,[]⟩]) (RC.region 5 [
  ⟨some 134,.move (.t 7),none,0,[]⟩,
  ⟨some 135,.fieldAddr 1 (.t 10),none,1,[]⟩,
  ⟨some 136,.load none (.t 135),none,2,[]⟩,
  ⟨some 137,.call F.detentref20_Hands_Start [(.t 134),(.t 136)],none,3,[]⟩,
  ⟨some 12,.move (.t 137),none,4,[]⟩])) (RC.seq (RC.region 2 [
  ⟨some 139,.bin .eql (.t 69) (.c (.s (.int .i64 4))),none,0,[]⟩,
  ⟨some 138,.move (.t 139),none,1,[]⟩]) (RC.cond (.t 138) (RC.seq (RC.region 5 [
  ⟨some 140,.move (.t 5),none,0,[]⟩,
  ⟨some 141,.fieldAddr 1 (.t 10),none,1,[]⟩,
  ⟨some 142,.load none (.t 141),none,2,[]⟩,
  ⟨some 143,.call F.cyc_Hands_Stop [(.t 140),(.t 142)],none,3,[]⟩,
  ⟨some 11,.move (.t 143),none,4,[]⟩]) (RC.region 5 [
  ⟨some 144,.move (.t 7),none,0,[]⟩,
  ⟨some 145,.fieldAddr 1 (.t 10),none,1,[]⟩,
  ⟨some 146,.load none (.t 145),none,2,[]⟩,
  ⟨some 147,.call F.detentref20_Hands_Stop [(.t 144),(.t 146)],none,3,[]⟩,
  ⟨some 12,.move (.t 147),none,4,[]⟩])) (RC.seq (RC.region 2 [
  ⟨some 149,.bin .eql (.t 69) (.c (.s (.int .i64 5))),none,0,[]⟩,
  ⟨some 148,.move (.t 149),none,1,[]⟩]) (RC.cond (.t 148) (RC.seq (RC.region 7 [
  ⟨some 150,.move (.t 5),none,0,[]⟩,
  ⟨some 151,.fieldAddr 1 (.t 10),none,1,[]⟩,
  ⟨some 152,.load none (.t 151),none,2,[]⟩,
  ⟨some 153,.fieldAddr 2 (.t 10),none,3,[]⟩,
  ⟨some 154,.load none (.t 153),none,4,[]⟩,
  ⟨some 155,.call F.cyc_Hands_Set [(.t 150),(.t 152),(.t 154)],none,5,[]⟩,
  ⟨some 11,.move (.t 155),none,6,[]⟩]) (RC.region 7 [
  ⟨some 156,.move (.t 7),none,0,[]⟩,
  ⟨some 157,.fieldAddr 1 (.t 10),none,1,[]⟩,
  ⟨some 158,.load none (.t 157),none,2,[]⟩,
  ⟨some 159,.fieldAddr 2 (.t 10),none,3,[]⟩,
  ⟨some 160,.load none (.t 159),none,4,[]⟩,
  ⟨some 161,.call F.detentref20_Hands_Set [(.t 156),(.t 158),(.t 160)],none,5,[]⟩,
  ⟨some 12,.move (.t 161),none,6,[]⟩])) (RC.seq (RC.region 2 [
  ⟨some 163,.bin .eql (.t 69) (.c (.s (.int .i64 6))),none,0,[]⟩,
  ⟨some 162,.move (.t 163),none,1,[]⟩]) (RC.cond (.t 162) (RC.seq (RC.region 5 [
  ⟨some 164,.move (.t 5),none,0,[]⟩,
  ⟨some 165,.fieldAddr 1 (.t 10),none,1,[]⟩,
  ⟨some 166,.load none (.t 165),none,2,[]⟩,
  ⟨some 167,.call F.cyc_Hands_Clear [(.t 164),(.t 166)],none,3,[]⟩,
  ⟨some 11,.move (.t 167),none,4,[]⟩]) (RC.region 5 [
  ⟨some 168,.move (.t 7),none,0,[]⟩,
  ⟨some 169,.fieldAddr 1 (.t 10),none,1,[]⟩,
  ⟨some 170,.load none (.t 169),none,2,[]⟩,
  ⟨some 171,.call F.detentref20_Hands_Clear [(.t 168),(.t 170)],none,3,[]⟩,
  ⟨some 12,.move (.t 171),none,4,[]⟩])) (RC.seq (RC.region 2 [
  ⟨some 173,.bin .eql (.t 69) (.c (.s (.int .i64 7))),none,0,[]⟩,
  ⟨some 172,.move (.t 173),none,1,[]⟩]) (RC.cond (.t 172) (RC.seq (RC.region 11 [
  ⟨some 175,.move (.t 5),none,0,[]⟩,
  ⟨some 176,.fieldAddr 2 (.t 10),none,1,[]⟩,
  ⟨some 177,.load none (.t 176),none,2,[]⟩,
  ⟨some 178,.fieldAddr 1 (.t 10),none,3,[]⟩,
  ⟨some 179,.load none (.t 178),none,4,[]⟩,
  ⟨some 180,.call F.cyc_Hands_Wait [(.t 175),(.t 177),(.t 179)],none,5,[]⟩,
  ⟨some 174,.move (.t 180),none,6,[]⟩,
  ⟨some 181,.extract 0 (.t 174),none,7,[]⟩,
  ⟨some 182,.extract 1 (.t 174),none,8,[]⟩,
  ⟨some 23,.move (.t 181),none,9,[]⟩,
  ⟨some 24,.move (.t 182),none,10,[]⟩]) (RC.seq (RC.region 11 [
  ⟨some 184,.move (.t 7),none,0,[]⟩,
  ⟨some 185,.fieldAddr 2 (.t 10),none,1,[]⟩,
  ⟨some 186,.load none (.t 185),none,2,[]⟩,
  ⟨some 187,.fieldAddr 1 (.t 10),none,3,[]⟩,
  ⟨some 188,.load none (.t 187),none,4,[]⟩,
  ⟨some 189,.call F.detentref20_Hands_Wait [(.t 184),(.t 186),(.t 188)],none,5,[]⟩,
  ⟨some 183,.move (.t 189),none,6,[]⟩,
  ⟨some 190,.extract 0 (.t 183),none,7,[]⟩,
  ⟨some 191,.extract 1 (.t 183),none,8,[]⟩,
  ⟨some 25,.move (.t 190),none,9,[]⟩,
  ⟨some 26,.move (.t 191),none,10,[]⟩]) (RC.region 8 [
  ⟨some 192,.move (.t 23),none,0,[]⟩,
  ⟨some 193,.move (.t 25),none,1,[]⟩,
  ⟨some 194,.move (.t 24),none,2,[]⟩,
  ⟨some 195,.move (.t 26),none,3,[]⟩,
  ⟨some 13,.move (.t 192),none,4,[]⟩,
  ⟨some 14,.move (.t 193),none,5,[]⟩,
  ⟨some 11,.move (.t 194),none,6,[]⟩,
  ⟨some 12,.move (.t 195),none,7,[]⟩]))) (RC.seq (RC.region 2 [
  ⟨some 197,.bin .eql (.t 69) (.c (.s (.int .i64 8))),none,0,[]⟩,
  ⟨some 196,.move (.t 197),none,1,[]⟩]) (RC.cond (.t 196) (RC.seq (RC.region 7 [
  ⟨some 199,.move (.t 5),none,0,[]⟩,
  ⟨some 200,.call F.cyc_Hands_Pass [(.t 199)],none,1,[]⟩,
  ⟨some 198,.move (.t 200),none,2,[]⟩,
  ⟨some 201,.extract 0 (.t 198),none,3,[]⟩,
  ⟨some 202,.extract 1 (.t 198),none,4,[]⟩,
  ⟨some 27,.move (.t 201),none,5,[]⟩,
  ⟨some 28,.move (.t 202),none,6,[]⟩]) (RC.seq (RC.region 7 [
  ⟨some 204,.move (.t 7),none,0,[]⟩,
  ⟨some 205,.call F.detentref20_Hands_Pass [(.t 204)],none,1,[]⟩,
  ⟨some 203,.move (.t 205),none,2,[]⟩,
  ⟨some 206,.extract 0 (.t 203),none,3,[]⟩,
  ⟨some 207,.extract 1 (.t 203),none,4,[]⟩,
  ⟨some 29,.move (.t 206),none,5,[]⟩,
  ⟨some 30,.move (.t 207),none,6,[]⟩]) (RC.seq (RC.region 10 [
  ⟨some 208,.move (.t 27),none,0,[]⟩,
  ⟨some 209,.move (.t 29),none,1,[]⟩,
  ⟨some 210,.call F.detentlaw20_Fired [(.t 208),(.t 209)],none,2,[]⟩,
  ⟨some 211,.un .not (.t 210),none,3,[]⟩,
  ⟨some 212,.move (.t 211),none,4,[]⟩,
  ⟨some 213,.move (.t 28),(some (212,false)),5,[]⟩,
  ⟨some 214,.move (.t 30),(some (212,false)),6,[]⟩,
  ⟨some 215,.call F.detentlaw3_Same [(.t 213),(.t 214)],(some (212,false)),7,[]⟩,
  ⟨some 216,.un .not (.t 215),(some (212,false)),8,[]⟩,
  ⟨some 217,.pick (.t 212) (.c (.s (.bool true))) (.t 216),none,9,[]⟩]) (RC.cond (.t 217) (RC.seq (RC.region 1 [
  ⟨some 4,.move (.c (.s (.bool false))),none,0,[]⟩]) (RC.ret)) (RC.skip))))) (RC.seq (RC.region 2 [
  ⟨some 219,.bin .eql (.t 69) (.c (.s (.int .i64 9))),none,0,[]⟩,
  ⟨some 218,.move (.t 219),none,1,[]⟩]) (RC.cond (.t 218) (RC.seq (RC.region 21 [
  ⟨some 220,.move (.t 5),none,0,[]⟩,
  ⟨some 221,.nilCheck (.t 220),none,1,[]⟩,
  ⟨some 222,.fieldAddr 0 (.t 221),none,2,[]⟩,
  ⟨some 223,.load none (.t 222),none,3,[]⟩,
  ⟨some 224,.nilCheck (.t 223),none,4,[]⟩,
  ⟨some 225,.fieldAddr 0 (.t 224),none,5,[]⟩,
  ⟨some 226,.load none (.t 225),none,6,[]⟩,
  ⟨some 227,.fieldAddr 1 (.t 10),none,7,[]⟩,
  ⟨some 228,.load none (.t 227),none,8,[]⟩,
  ⟨some 230,.move (.t 7),none,10,[]⟩,
  ⟨some 231,.nilCheck (.t 230),none,11,[]⟩,
  ⟨some 232,.fieldAddr 0 (.t 231),none,12,[]⟩,
  ⟨some 233,.load none (.t 232),none,13,[]⟩,
  ⟨some 234,.nilCheck (.t 233),none,14,[]⟩,
  ⟨some 235,.fieldAddr 0 (.t 234),none,15,[]⟩,
  ⟨some 236,.load none (.t 235),none,16,[]⟩,
  ⟨some 237,.fieldAddr 1 (.t 10),none,17,[]⟩,
  ⟨some 238,.load none (.t 237),none,18,[]⟩,
  ⟨some 229,.call F.heap_Timers_Cancel [(.t 226),(.t 228)],none,9,[⟨233,none,(.t 232),none⟩,⟨236,none,(.t 235),none⟩,⟨238,none,(.t 237),none⟩]⟩,
  ⟨some 239,.call F.detentref7_Timers_Cancel [(.t 236),(.t 238)],none,19,[]⟩,
  ⟨some 240,.eqs .bool true (.t 229) (.t 239),none,20,[]⟩]) (RC.cond (.t 240) (RC.seq (RC.region 1 [
  ⟨some 4,.move (.c (.s (.bool false))),none,0,[]⟩]) (RC.ret)) (RC.skip))) (RC.skip))))))))))))))))))))) c_detentlaw20_HandPlays_s0))))))) c_detentlaw20_HandPlays_s1)) T H K = (andThen (lenA (sl T 1)) fun v1 => andThen (binA .lss (sl T 9) v1) fun v2 => condP v2 (andThen (indexSlA 6 (sl T 1) (sl T 9)) fun v3 => andThen (loadA (some 6) v3 (AH.bump (AH.bump H 4) 6)) fun v4 => andThen (AH.new (AH.bump (AH.bump H 4) 6) (AH.next (AH.bump H 4) + 4) (Blk.cells false [.int .i64 0,.int .i64 0,.int .i64 0,.int .i64 0,.bool false,.bool false])) fun H5 => andThen (storeA 6 (AV.s (SV.ptr (some (AH.next (AH.bump H 4) + 4,0)))) v4 H5) fun H6 => andThen (fieldAddrA 0 (AV.s (SV.ptr (some (AH.next (AH.bump H 4) + 4,0))))) fun v7 => andThen (loadA none v7 (AH.bump (AH.bump (AH.bump (AH.bump (AH.bump H6 1) 1) 1) 1) 2)) fun v8 => andThen (binA .eql v8 (AV.s (SV.int .i64 1))) fun v9 => condP v9 (andThen (fieldAddrA 2 (AV.s (SV.ptr (some (AH.next (AH.bump H 4) + 4,0))))) fun v10 => andThen (loadA none v10 (AH.bump (AH.bump (AH.bump (AH.bump (AH.bump (AH.bump (AH.bump H6 1) 1) 1) 1) 2) 2) 10)) fun v11 => andThen (binA .geq v11 (AV.s (SV.int .i64 1))) fun v12 => gP (gd v12 true) (AH.bump (AH.bump (AH.bump (AH.bump (AH.bump (AH.bump (AH.bump H6 1) 1) 1) 1) 2) 2) 10) (fun k13 => andThen (fieldAddrA 2 (AV.s (SV.ptr (some (AH.next (AH.bump H 4) + 4,0))))) fun v16 => k13 v16 (AH.bump (AH.bump (AH.bump (AH.bump (AH.bump (AH.bump (AH.bump H6 1) 1) 1) 1) 2) 2) 10)) fun v14 H15 => gP (gd v12 true) H15 (fun k17 => andThen (loadA none v14 H15) fun v20 => k17 v20 H15) fun v18 H19 => gP (gd v12 true) H19 (fun k21 => k21 (sl T 0) H19) fun v22 H23 => gP (gd v12 true) H23 (fun k24 => andThen (binA .quo v22 (AV.s (SV.int .i64 20))) fun v27 => k24 v27 H23) fun v25 H26 => gP (gd v12 true) H26 (fun k28 => andThen (binA .lss v18 v25) fun v31 => k28 v31 H26) fun v29 H30 => andThen (pickA v12 v29 (AV.s (SV.bool false))) fun v32 => condP v32 (K Ex.ret [sl T 0,sl T 1,sl T 2,sl T 3,(AV.s (SV.bool true)),sl T 5,sl T 6,sl T 7,sl T 8,sl T 9,(AV.s (SV.ptr (some (AH.next (AH.bump H 4) + 4,0)))),(AV.s (SV.int .i64 0)),(AV.s (SV.int .i64 0)),(AV.s (SV.int .i64 0)),(AV.s (SV.int .i64 0)),sl T 15,sl T 16,sl T 17,sl T 18,sl T 19,sl T 20,sl T 21,sl T 22,sl T 23,sl T 24,sl T 25,sl T 26,sl T 27,sl T 28,sl T 29,sl T 30,sl T 31,sl T 32,sl T 33,sl T 34,sl T 35,sl T 36,sl T 37,sl T 38,sl T 39,sl T 40,sl T 41,sl T 42,sl T 43,sl T 44,sl T 45,sl T 46,sl T 47,sl T 48,sl T 49,sl T 50,sl T 51,sl T 52,sl T 53,sl T 54,sl T 55,sl T 56,sl T 57,sl T 9,sl T 1,v1,v2,sl T 62,sl T 63,sl T 1,sl T 9,v3,v4,v7,v8,v9,v9,v10,v11,v12,v12,v14,v18,v22,v25,v29,v32,sl T 82,sl T 83,sl T 84,sl T 85,sl T 86,sl T 87,sl T 88,sl T 89,sl T 90,sl T 91,sl T 92,sl T 93,sl T 94,sl T 95,sl T 96,sl T 97,sl T 98,sl T 99,sl T 100,sl T 101,sl T 102,sl T 103,sl T 104,sl T 105,sl T 106,sl T 107,sl T 108,sl T 109,sl T 110,sl T 111,sl T 112,sl T 113,sl T 114,sl T 115,sl T 116,sl T 117,sl T 118,sl T 119,sl T 120,sl T 121,sl T 122,sl T 123,sl T 124,sl T 125,sl T 126,sl T 127,sl T 128,sl T 129,sl T 130,sl T 131,sl T 132,sl T 133,sl T 134,sl T 135,sl T 136,sl T 137,sl T 138,sl T 139,sl T 140,sl T 141,sl T 142,sl T 143,sl T 144,sl T 145,sl T 146,sl T 147,sl T 148,sl T 149,sl T 150,sl T 151,sl T 152,sl T 153,sl T 154,sl T 155,sl T 156,sl T 157,sl T 158,sl T 159,sl T 160,sl T 161,sl T 162,sl T 163,sl T 164,sl T 165,sl T 166,sl T 167,sl T 168,sl T 169,sl T 170,sl T 171,sl T 172,sl T 173,sl T 174,sl T 175,sl T 176,sl T 177,sl T 178,sl T 179,sl T 180,sl T 181,sl T 182,sl T 183,sl T 184,sl T 185,sl T 186,sl T 187,sl T 188,sl T 189,sl T 190,sl T 191,sl T 192,sl T 193,sl T 194,sl T 195,sl T 196,sl T 197,sl T 198,sl T 199,sl T 200,sl T 201,sl T 202,sl T 203,sl T 204,sl T 205,sl T 206,sl T 207,sl T 208,sl T 209,sl T 210,sl T 211,sl T 212,sl T 213,sl T 214,sl T 215,sl T 216,sl T 217,sl T 218,sl T 219,sl T 220,sl T 221,sl T 222,sl T 223,sl T 224,sl T 225,sl T 226,sl T 227,sl T 228,sl T 229,sl T 230,sl T 231,sl T 232,sl T 233,sl T 234,sl T 235,sl T 236,sl T 237,sl T 238,sl T 239,sl T 240,sl T 241,sl T 242,sl T 243,sl T 244,sl T 245,sl T 246,sl T 247,sl T 248,sl T 249,sl T 250,sl T 251,sl T 252,sl T 253,sl T 254,sl T 255,sl T 256,sl T 257,sl T 258,sl T 259,sl T 260,sl T 261,sl T 262,sl T 263,sl T 264,sl T 265,sl T 266,sl T 267,sl T 268,sl T 269,sl T 270,sl T 271,sl T 272,sl T 273,sl T 274,sl T 275,sl T 276,sl T 277,sl T 278,sl T 279,sl T 280,sl T 281,sl T 282,sl T 283,sl T 284,sl T 285,sl T 286,sl T 287,sl T 288,sl T 289,sl T 290,sl T 291,sl T 292,sl T 293,sl T 294,sl T 295,sl T 296,sl T 297,sl T 298] (AH.bump H30 1)) (andThen (fieldAddrA 2 (AV.s (SV.ptr (some (AH.next (AH.bump H 4) + 4,0))))) fun v33 => andThen (loadA none v33 (AH.bump H30 15)) fun v34 => andThen (fieldAddrA 3 (AV.s (SV.ptr (some (AH.next (AH.bump H 4) + 4,0))))) fun v35 => andThen (loadA none v35 (AH.bump H30 15)) fun v36 => andThen (fieldAddrA 4 (AV.s (SV.ptr (some (AH.next (AH.bump H 4) + 4,0))))) fun v37 => andThen (loadA none v37 (AH.bump H30 15)) fun v38 => andThen (fieldAddrA 5 (AV.s (SV.ptr (some (AH.next (AH.bump H 4) + 4,0))))) fun v39 => andThen (loadA none v39 (AH.bump H30 15)) fun v40 => CallP tab noExt F.cyc_Hands_Cyclic [sl T 5,v34,v36,v38,v40] (AH.bump H30 15) fun v41 H42 => andThen (extractA 0 v41) fun v43 => andThen (extractA 1 v41) fun v44 => andThen (fieldAddrA 2 (AV.s (SV.ptr (some (AH.next (AH.bump H 4) + 4,0))))) fun v45 => andThen (loadA none v45 (AH.bump H42 15)) fun v46 => andThen (fieldAddrA 3 (AV.s (SV.ptr (some (AH.next (AH.bump H 4) + 4,0))))) fun v47 => andThen (loadA none v47 (AH.bump H42 15)) fun v48 => andThen (fieldAddrA 4 (AV.s (SV.ptr (some (AH.next (AH.bump H 4) + 4,0))))) fun v49 => andThen (loadA none v49 (AH.bump H42 15)) fun v50 => andThen (fieldAddrA 5 (AV.s (SV.ptr (some (AH.next (AH.bump H 4) + 4,0))))) fun v51 => andThen (loadA none v51 (AH.bump H42 15)) fun v52 => CallP tab noExt F.detentref20_Hands_Cyclic [sl T 7,v46,v48,v50,v52] (AH.bump H42 15) fun v53 H54 => andThen (extractA 0 v53) fun v55 => andThen (extractA 1 v53) fun v56 => wpC tab noExt c_detentlaw20_HandPlays_s0 [sl T 0,sl T 1,sl T 2,sl T 3,sl T 4,sl T 5,sl T 6,sl T 7,sl T 8,sl T 9,(AV.s (SV.ptr (some (AH.next (AH.bump H 4) + 4,0)))),v44,v56,v43,v55,v43,v44,v55,v56,sl T 19,sl T 20,sl T 21,sl T 22,sl T 23,sl T 24,sl T 25,sl T 26,sl T 27,sl T 28,sl T 29,sl T 30,sl T 31,sl T 32,sl T 33,sl T 34,sl T 35,sl T 36,sl T 37,sl T 38,sl T 39,sl T 40,sl T 41,sl T 42,sl T 43,sl T 44,sl T 45,sl T 46,sl T 47,sl T 48,sl T 49,sl T 50,sl T 51,sl T 52,sl T 53,sl T 54,sl T 55,sl T 56,sl T 57,sl T 9,sl T 1,v1,v2,sl T 62,sl T 63,sl T 1,sl T 9,v3,v4,v7,v8,v9,v9,v10,v11,v12,v12,v14,v18,v22,v25,v29,v32,v41,sl T 5,v33,v34,v35,v36,v37,v38,v39,v40,v41,v43,v44,v53,sl T 7,v45,v46,v47,v48,v49,v50,v51,v52,v53,v55,v56,v43,v55,v44,v56,sl T 112,sl T 113,sl T 114,sl T 115,sl T 116,sl T 117,sl T 118,sl T 119,sl T 120,sl T 121,sl T 122,sl T 123,sl T 124,sl T 125,sl T 126,sl T 127,sl T 128,sl T 129,sl T 130,sl T 131,sl T 132,sl T 133,sl T 134,sl T 135,sl T 136,sl T 137,sl T 138,sl T 139,sl T 140,sl T 141,sl T 142,sl T 143,sl T 144,sl T 145,sl T 146,sl T 147,sl T 148,sl T 149,sl T 150,sl T 151,sl T 152,sl T 153,sl T 154,sl T 155,sl T 156,sl T 157,sl T 158,sl T 159,sl T 160,sl T 161,sl T 162,sl T 163,sl T 164,sl T 165,sl T 166,sl T 167,sl T 168,sl T 169,sl T 170,sl T 171,sl T 172,sl T 173,sl T 174,sl T 175,sl T 176,sl T 177,sl T 178,sl T 179,sl T 180,sl T 181,sl T 182,sl T 183,sl T 184,sl T 185,sl T 186,sl T 187,sl T 188,sl T 189,sl T 190,sl T 191,sl T 192,sl T 193,sl T 194,sl T 195,sl T 196,sl T 197,sl T 198,sl T 199,sl T 200,sl T 201,sl T 202,sl T 203,sl T 204,sl T 205,sl T 206,sl T 207,sl T 208,sl T 209,sl T 210,sl T 211,sl T 212,sl T 213,sl T 214,sl T 215,sl T 216,sl T 217,sl T 218,sl T 219,sl T 220,sl T 221,sl T 222,sl T 223,sl T 224,sl T 225,sl T 226,sl T 227,sl T 228,sl T 229,sl T 230,sl T 231,sl T 232,sl T 233,sl T 234,sl T 235,sl T 236,sl T 237,sl T 238,sl T 239,sl T 240,sl T 241,sl T 242,sl T 243,sl T 244,sl T 245,sl T 246,sl T 247,sl T 248,sl T 249,sl T 250,sl T 251,sl T 252,sl T 253,sl T 254,sl T 255,sl T 256,sl T 257,sl T 258,sl T 259,sl T 260,sl T 261,sl T 262,sl T 263,sl T 264,sl T 265,sl T 266,sl T 267,sl T 268,sl T 269,sl T 270,sl T 271,sl T 272,sl T 273,sl T 274,sl T 275,sl T 276,sl T 277,sl T 278,sl T 279,sl T 280,sl T 281,sl T 282,sl T 283,sl T 284,sl T 285,sl T 286,sl T 287,sl T 288,sl T 289,sl T 290,sl T 291,sl T 292,sl T 293,sl T 294,sl T 295,sl T 296,sl T 297,sl T 298] (AH.bump H54 8) (blockK 1 (seqK (fun T H => wpC tab noExt c_detentlaw20_HandPlays_s1 T H K) K)))) (andThen (binA .eql v8 (AV.s (SV.int .i64 2))) fun v57 => condP v57 (CallP tab noExt F.cyc_Hands_Alarm [sl T 5] (AH.bump (AH.bump (AH.bump (AH.bump (AH.bump (AH.bump (AH.bump (AH.bump H6 1) 1) 1) 1) 2) 2) 2) 7) fun v58 H59 => andThen (extractA 0 v58) fun v60 => andThen (extractA 1 v58) fun v61 => CallP tab noExt F.detentref20_Hands_NewAlarm [sl T 7] (AH.bump H59 7) fun v62 H63 => andThen (extractA 0 v62) fun v64 => andThen (extractA 1 v62) fun v65 => wpC tab noExt c_detentlaw20_HandPlays_s0 [sl T 0,sl T 1,sl T 2,sl T 3,sl T 4,sl T 5,sl T 6,sl T 7,sl T 8,sl T 9,(AV.s (SV.ptr (some (AH.next (AH.bump H 4) + 4,0)))),v61,v65,v60,v64,sl T 15,sl T 16,sl T 17,sl T 18,v60,v61,v64,v65,sl T 23,sl T 24,sl T 25,sl T 26,sl T 27,sl T 28,sl T 29,sl T 30,sl T 31,sl T 32,sl T 33,sl T 34,sl T 35,sl T 36,sl T 37,sl T 38,sl T 39,sl T 40,sl T 41,sl T 42,sl T 43,sl T 44,sl T 45,sl T 46,sl T 47,sl T 48,sl T 49,sl T 50,sl T 51,sl T 52,sl T 53,sl T 54,sl T 55,sl T 56,sl T 57,sl T 9,sl T 1,v1,v2,sl T 62,sl T 63,sl T 1,sl T 9,v3,v4,v7,v8,v9,v9,sl T 72,sl T 73,sl T 74,sl T 75,sl T 76,sl T 77,sl T 78,sl T 79,sl T 80,sl T 81,sl T 82,sl T 83,sl T 84,sl T 85,sl T 86,sl T 87,sl T 88,sl T 89,sl T 90,sl T 91,sl T 92,sl T 93,sl T 94,sl T 95,sl T 96,sl T 97,sl T 98,sl T 99,sl T 100,sl T 101,sl T 102,sl T 103,sl T 104,sl T 105,sl T 106,sl T 107,sl T 108,sl T 109,sl T 110,sl T 111,v57,v57,v58,sl T 5,v58,v60,v61,v62,sl T 7,v62,v64,v65,v60,v64,v61,v65,sl T 128,sl T 129,sl T 130,sl T 131,sl T 132,sl T 133,sl T 134,sl T 135,sl T 136,sl T 137,sl T 138,sl T 139,sl T 140,sl T 141,sl T 142,sl T 143,sl T 144,sl T 145,sl T 146,sl T 147,sl T 148,sl T 149,sl T 150,sl T 151,sl T 152,sl T 153,sl T 154,sl T 155,sl T 156,sl T 157,sl T 158,sl T 159,sl T 160,sl T 161,sl T 162,sl T 163,sl T 164,sl T 165,sl T 166,sl T 167,sl T 168,sl T 169,sl T 170,sl T 171,sl T 172,sl T 173,sl T 174,sl T 175,sl T 176,sl T 177,sl T 178,sl T 179,sl T 180,sl T 181,sl T 182,sl T 183,sl T 184,sl T 185,sl T 186,sl T 187,sl T 188,sl T 189,sl T 190,sl T 191,sl T 192,sl T 193,sl T 194,sl T 195,sl T 196,sl T 197,sl T 198,sl T 199,sl T 200,sl T 201,sl T 202,sl T 203,sl T 204,sl T 205,sl T 206,sl T 207,sl T 208,sl T 209,sl T 210,sl T 211,sl T 212,sl T 213,sl T 214,sl T 215,sl T 216,sl T 217,sl T 218,sl T 219,sl T 220,sl T 221,sl T 222,sl T 223,sl T 224,sl T 225,sl T 226,sl T 227,sl T 228,sl T 229,sl T 230,sl T 231,sl T 232,sl T 233,sl T 234,sl T 235,sl T 236,sl T 237,sl T 238,sl T 239,sl T 240,sl T 241,sl T 242,sl T 243,sl T 244,sl T 245,sl T 246,sl T 247,sl T 248,sl T 249,sl T 250,sl T 251,sl T 252,sl T 253,sl T 254,sl T 255,sl T 256,sl T 257,sl T 258,sl T 259,sl T 260,sl T 261,sl T 262,sl T 263,sl T 264,sl T 265,sl T 266,sl T 267,sl T 268,sl T 269,sl T 270,sl T 271,sl T 272,sl T 273,sl T 274,sl T 275,sl T 276,sl T 277,sl T 278,sl T 279,sl T 280,sl T 281,sl T 282,sl T 283,sl T 284,sl T 285,sl T 286,sl T 287,sl T 288,sl T 289,sl T 290,sl T 291,sl T 292,sl T 293,sl T 294,sl T 295,sl T 296,sl T 297,sl T 298] (AH.bump H63 8) (blockK 1 (seqK (fun T H => wpC tab noExt c_detentlaw20_HandPlays_s1 T H K) K))) (andThen (binA .eql v8 (AV.s (SV.int .i64 3))) fun v66 => condP v66 (andThen (fieldAddrA 1 (AV.s (SV.ptr (some (AH.next (AH.bump H 4) + 4,0))))) fun v67 => andThen (loadA none v67 (AH.bump (AH.bump (AH.bump (AH.bump (AH.bump (AH.bump (AH.bump (AH.bump (AH.bump H6 1) 1) 1) 1) 2) 2) 2) 2) 5)) fun v68 => CallP tab noExt F.cyc_Hands_Start [sl T 5,v68] (AH.bump (AH.bump (AH.bump (AH.bump (AH.bump (AH.bump (AH.bump (AH.bump (AH.bump H6 1) 1) 1) 1) 2) 2) 2) 2) 5) fun v69 H70 => andThen (fieldAddrA 1 (AV.s (SV.ptr (some (AH.next (AH.bump H 4) + 4,0))))) fun v71 => andThen (loadA none v71 (AH.bump H70 5)) fun v72 => CallP tab noExt F.detentref20_Hands_Start [sl T 7,v72] (AH.bump H70 5) fun v73 H74 => wpC tab noExt c_detentlaw20_HandPlays_s0 [sl T 0,sl T 1,sl T 2,sl T 3,sl T 4,sl T 5,sl T 6,sl T 7,sl T 8,sl T 9,(AV.s (SV.ptr (some (AH.next (AH.bump H 4) + 4,0)))),v69,v73,(AV.s (SV.int .i64 0)),(AV.s (SV.int .i64 0)),sl T 15,sl T 16,sl T 17,sl T 18,sl T 19,sl T 20,sl T 21,sl T 22,sl T 23,sl T 24,sl T 25,sl T 26,sl T 27,sl T 28,sl T 29,sl T 30,sl T 31,sl T 32,sl T 33,sl T 34,sl T 35,sl T 36,sl T 37,sl T 38,sl T 39,sl T 40,sl T 41,sl T 42,sl T 43,sl T 44,sl T 45,sl T 46,sl T 47,sl T 48,sl T 49,sl T 50,sl T 51,sl T 52,sl T 53,sl T 54,sl T 55,sl T 56,sl T 57,sl T 9,sl T 1,v1,v2,sl T 62,sl T 63,sl T 1,sl T 9,v3,v4,v7,v8,v9,v9,sl T 72,sl T 73,sl T 74,sl T 75,sl T 76,sl T 77,sl T 78,sl T 79,sl T 80,sl T 81,sl T 82,sl T 83,sl T 84,sl T 85,sl T 86,sl T 87,sl T 88,sl T 89,sl T 90,sl T 91,sl T 92,sl T 93,sl T 94,sl T 95,sl T 96,sl T 97,sl T 98,sl T 99,sl T 100,sl T 101,sl T 102,sl T 103,sl T 104,sl T 105,sl T 106,sl T 107,sl T 108,sl T 109,sl T 110,sl T 111,v57,v57,sl T 114,sl T 115,sl T 116,sl T 117,sl T 118,sl T 119,sl T 120,sl T 121,sl T 122,sl T 123,sl T 124,sl T 125,sl T 126,sl T 127,v66,v66,sl T 5,v67,v68,v69,sl T 7,v71,v72,v73,sl T 138,sl T 139,sl T 140,sl T 141,sl T 142,sl T 143,sl T 144,sl T 145,sl T 146,sl T 147,sl T 148,sl T 149,sl T 150,sl T 151,sl T 152,sl T 153,sl T 154,sl T 155,sl T 156,sl T 157,sl T 158,sl T 159,sl T 160,sl T 161,sl T 162,sl T 163,sl T 164,sl T 165,sl T 166,sl T 167,sl T 168,sl T 169,sl T 170,sl T 171,sl T 172,sl T 173,sl T 174,sl T 175,sl T 176,sl T 177,sl T 178,sl T 179,sl T 180,sl T 181,sl T 182,sl T 183,sl T 184,sl T 185,sl T 186,sl T 187,sl T 188,sl T 189,sl T 190,sl T 191,sl T 192,sl T 193,sl T 194,sl T 195,sl T 196,sl T 197,sl T 198,sl T 199,sl T 200,sl T 201,sl T 202,sl T 203,sl T 204,sl T 205,sl T 206,sl T 207,sl T 208,sl T 209,sl T 210,sl T 211,sl T 212,sl T 213,sl T 214,sl T 215,sl T 216,sl T 217,sl T 218,sl T 219,sl T 220,sl T 221,sl T 222,sl T 223,sl T 224,sl T 225,sl T 226,sl T 227,sl T 228,sl T 229,sl T 230,sl T 231,sl T 232,sl T 233,sl T 234,sl T 235,sl T 236,sl T 237,sl T 238,sl T 239,sl T 240,sl T 241,sl T 242,sl T 243,sl T 244,sl T 245,sl T 246,sl T 247,sl T 248,sl T 249,sl T 250,sl T 251,sl T 252,sl T 253,sl T 254,sl T 255,sl T 256,sl T 257,sl T 258,sl T 259,sl T 260,sl T 261,sl T 262,sl T 263,sl T 264,sl T 265,sl T 266,sl T 267,sl T 268,sl T 269,sl T 270,sl T 271,sl T 272,sl T 273,sl T 274,sl T 275,sl T 276,sl T 277,sl T 278,sl T 279,sl T 280,sl T 281,sl T 282,sl T 283,sl T 284,sl T 285,sl T 286,sl T 287,sl T 288,sl T 289,sl T 290,sl T 291,sl T 292,sl T 293,sl T 294,sl T 295,sl T 296,sl T 297,sl T 298] H74 (blockK 1 (seqK (fun T H => wpC tab noExt c_detentlaw20_HandPlays_s1 T H K) K))) (andThen (binA .eql v8 (AV.s (SV.int .i64 4))) fun v75 => condP v75 (andThen (fieldAddrA 1 (AV.s (SV.ptr (some (AH.next (AH.bump H 4) + 4,0))))) fun v76 => andThen (loadA none v76 (AH.bump (AH.bump (AH.bump (AH.bump (AH.bump (AH.bump (AH.bump (AH.bump (AH.bump (AH.bump H6 1) 1) 1) 1) 2) 2) 2) 2) 2) 5)) fun v77 => CallP tab noExt F.cyc_Hands_Stop [sl T 5,v77] (AH.bump (AH.bump (AH.bump (AH.bump (AH.bump (AH.bump (AH.bump (AH.bump (AH.bump (AH.bump H6 1) 1) 1) 1) 2) 2) 2) 2) 2) 5) fun v78 H79 => andThen (fieldAddrA 1 (AV.s (SV.ptr (some (AH.next (AH.bump H 4) + 4,0))))) fun v80 => andThen (loadA none v80 (AH.bump H79 5)) fun v81 => CallP tab noExt F.detentref20_Hands_Stop [sl T 7,v81] (AH.bump H79 5) fun v82 H83 => wpC tab noExt c_detentlaw20_HandPlays_s0 [sl T 0,sl T 1,sl T 2,sl T 3,sl T 4,sl T 5,sl T 6,sl T 7,sl T 8,sl T 9,(AV.s (SV.ptr (some (AH.next (AH.bump H 4) + 4,0)))),v78,v82,(AV.s (SV.int .i64 0)),(AV.s (SV.int .i64 0)),sl T 15,sl T 16,sl T 17,sl T 18,sl T 19,sl T 20,sl T 21,sl T 22,sl T 23,sl T 24,sl T 25,sl T 26,sl T 27,sl T 28,sl T 29,sl T 30,sl T 31,sl T 32,sl T 33,sl T 34,sl T 35,sl T 36,sl T 37,sl T 38,sl T 39,sl T 40,sl T 41,sl T 42,sl T 43,sl T 44,sl T 45,sl T 46,sl T 47,sl T 48,sl T 49,sl T 50,sl T 51,sl T 52,sl T 53,sl T 54,sl T 55,sl T 56,sl T 57,sl T 9,sl T 1,v1,v2,sl T 62,sl T 63,sl T 1,sl T 9,v3,v4,v7,v8,v9,v9,sl T 72,sl T 73,sl T 74,sl T 75,sl T 76,sl T 77,sl T 78,sl T 79,sl T 80,sl T 81,sl T 82,sl T 83,sl T 84,sl T 85,sl T 86,sl T 87,sl T 88,sl T 89,sl T 90,sl T 91,sl T 92,sl T 93,sl T 94,sl T 95,sl T 96,sl T 97,sl T 98,sl T 99,sl T 100,sl T 101,sl T 102,sl T 103,sl T 104,sl T 105,sl T 106,sl T 107,sl T 108,sl T 109,sl T 110,sl T 111,v57,v57,sl T 114,sl T 115,sl T 116,sl T 117,sl T 118,sl T 119,sl T 120,sl T 121,sl T 122,sl T 123,sl T 124,sl T 125,sl T 126,sl T 127,v66,v66,sl T 130,sl T 131,sl T 132,sl T 133,sl T 134,sl T 135,sl T 136,sl T 137,v75,v75,sl T 5,v76,v77,v78,sl T 7,v80,v81,v82,sl T 148,sl T 149,sl T 150,sl T 151,sl T 152,sl T 153,sl T 154,sl T 155,sl T 156,sl T 157,sl T 158,sl T 159,sl T 160,sl T 161,sl T 162,sl T 163,sl T 164,sl T 165,sl T 166,sl T 167,sl T 168,sl T 169,sl T 170,sl T 171,sl T 172,sl T 173,sl T 174,sl T 175,sl T 176,sl T 177,sl T 178,sl T 179,sl T 180,sl T 181,sl T 182,sl T 183,sl T 184,sl T 185,sl T 186,sl T 187,sl T 188,sl T 189,sl T 190,sl T 191,sl T 192,sl T 193,sl T 194,sl T 195,sl T 196,sl T 197,sl T 198,sl T 199,sl T 200,sl T 201,sl T 202,sl T 203,sl T 204,sl T 205,sl T 206,sl T 207,sl T 208,sl T 209,sl T 210,sl T 211,sl T 212,sl T 213,sl T 214,sl T 215,sl T 216,sl T 217,sl T 218,sl T 219,sl T 220,sl T 221,sl T 222,sl T 223,sl T 224,sl T 225,sl T 226,sl T 227,sl T 228,sl T 229,sl T 230,sl T 231,sl T 232,sl T 233,sl T 234,sl T 235,sl T 236,sl T 237,sl T 238,sl T 239,sl T 240,sl T 241,sl T 242,sl T 243,sl T 244,sl T 245,sl T 246,sl T 247,sl T 248,sl T 249,sl T 250,sl T 251,sl T 252,sl T 253,sl T 254,sl T 255,sl T 256,sl T 257,sl T 258,sl T 259,sl T 260,sl T 261,sl T 262,sl T 263,sl T 264,sl T 265,sl T 266,sl T 267,sl T 268,sl T 269,sl T 270,sl T 271,sl T 272,sl T 273,sl T 274,sl T 275,sl T 276,sl T 277,sl T 278,sl T 279,sl T 280,sl T 281,sl T 282,sl T 283,sl T 284,sl T 285,sl T 286,sl T 287,sl T 288,sl T 289,sl T 290,sl T 291,sl T 292,sl T 293,sl T 294,sl T 295,sl T 296,sl T 297,sl T 298] H83 (blockK 1 (seqK (fun T H => wpC tab noExt c_detentlaw20_HandPlays_s1 T H K) K))) (andThen (binA .eql v8 (AV.s (SV.int .i64 5))) fun v84 => condP v84 (andThen (fieldAddrA 1 (AV.s (SV.ptr (some (AH.next (AH.bump H 4) + 4,0))))) fun v85 => andThen (loadA none v85 (AH.bump (AH.bump (AH.bump (AH.bump (AH.bump (AH.bump (AH.bump (AH.bump (AH.bump (AH.bump (AH.bump H6 1) 1) 1) 1) 2) 2) 2) 2) 2) 2) 7)) fun v86 => andThen (fieldAddrA 2 (AV.s (SV.ptr (some (AH.next (AH.bump H 4) + 4,0))))) fun v87 => andThen (loadA none v87 (AH.bump (AH.bump (AH.bump (AH.bump (AH.bump (AH.bump (AH.bump (AH.bump (AH.bump (AH.bump (AH.bump H6 1) 1) 1) 1) 2) 2) 2) 2) 2) 2) 7)) fun v88 => CallP tab noExt F.cyc_Hands_Set [sl T 5,v86,v88] (AH.bump (AH.bump (AH.bump (AH.bump (AH.bump (AH.bump (AH.bump (AH.bump (AH.bump (AH.bump (AH.bump H6 1) 1) 1) 1) 2) 2) 2) 2) 2) 2) 7) fun v89 H90 => andThen (fieldAddrA 1 (AV.s (SV.ptr (some (AH.next (AH.bump H 4) + 4,0))))) fun v91 => andThen (loadA none v91 (AH.bump H90 7)) fun v92 => andThen (fieldAddrA 2 (AV.s (SV.ptr (some (AH.next (AH.bump H 4) + 4,0))))) fun v93 => andThen (loadA none v93 (AH.bump H90 7)) fun v94 => CallP tab noExt F.detentref20_Hands_Set [sl T 7,v92,v94] (AH.bump H90 7) fun v95 H96 => wpC tab noExt c_detentlaw20_HandPlays_s0 [sl T 0,sl T 1,sl T 2,sl T 3,sl T 4,sl T 5,sl T 6,sl T 7,sl T 8,sl T 9,(AV.s (SV.ptr (some (AH.next (AH.bump H 4) + 4,0)))),v89,v95,(AV.s (SV.int .i64 0)),(AV.s (SV.int .i64 0)),sl T 15,sl T 16,sl T 17,sl T 18,sl T 19,sl T 20,sl T 21,sl T 22,sl T 23,sl T 24,sl T 25,sl T 26,sl T 27,sl T 28,sl T 29,sl T 30,sl T 31,sl T 32,sl T 33,sl T 34,sl T 35,sl T 36,sl T 37,sl T 38,sl T 39,sl T 40,sl T 41,sl T 42,sl T 43,sl T 44,sl T 45,sl T 46,sl T 47,sl T 48,sl T 49,sl T 50,sl T 51,sl T 52,sl T 53,sl T 54,sl T 55,sl T 56,sl T 57,sl T 9,sl T 1,v1,v2,sl T 62,sl T 63,sl T 1,sl T 9,v3,v4,v7,v8,v9,v9,sl T 72,sl T 73,sl T 74,sl T 75,sl T 76,sl T 77,sl T 78,sl T 79,sl T 80,sl T 81,sl T 82,sl T 83,sl T 84,sl T 85,sl T 86,sl T 87,sl T 88,sl T 89,sl T 90,sl T 91,sl T 92,sl T 93,sl T 94,sl T 95,sl T 96,sl T 97,sl T 98,sl T 99,sl T 100,sl T 101,sl T 102,sl T 103,sl T 104,sl T 105,sl T 106,sl T 107,sl T 108,sl T 109,sl T 110,sl T 111,v57,v57,sl T 114,sl T 115,sl T 116,sl T 117,sl T 118,sl T 119,sl T 120,sl T 121,sl T 122,sl T 123,sl T 124,sl T 125,sl T 126,sl T 127,v66,v66,sl T 130,sl T 131,sl T 132,sl T 133,sl T 134,sl T 135,sl T 136,sl T 137,v75,v75,sl T 140,sl T 141,sl T 142,sl T 143,sl T 144,sl T 145,sl T 146,sl T 147,v84,v84,sl T 5,v85,v86,v87,v88,v89,sl T 7,v91,v92,v93,v94,v95,sl T 162,sl T 163,sl T 164,sl T 165,sl T 166,sl T 167,sl T 168,sl T 169,sl T 170,sl T 171,sl T 172,sl T 173,sl T 174,sl T 175,sl T 176,sl T 177,sl T 178,sl T 179,sl T 180,sl T 181,sl T 182,sl T 183,sl T 184,sl T 185,sl T 186,sl T 187,sl T 188,sl T 189,sl T 190,sl T 191,sl T 192,sl T 193,sl T 194,sl T 195,sl T 196,sl T 197,sl T 198,sl T 199,sl T 200,sl T 201,sl T 202,sl T 203,sl T 204,sl T 205,sl T 206,sl T 207,sl T 208,sl T 209,sl T 210,sl T 211,sl T 212,sl T 213,sl T 214,sl T 215,sl T 216,sl T 217,sl T 218,sl T 219,sl T 220,sl T 221,sl T 222,sl T 223,sl T 224,sl T 225,sl T 226,sl T 227,sl T 228,sl T 229,sl T 230,sl T 231,sl T 232,sl T 233,sl T 234,sl T 235,sl T 236,sl T 237,sl T 238,sl T 239,sl T 240,sl T 241,sl T 242,sl T 243,sl T 244,sl T 245,sl T 246,sl T 247,sl T 248,sl T 249,sl T 250,sl T 251,sl T 252,sl T 253,sl T 254,sl T 255,sl T 256,sl T 257,sl T 258,sl T 259,sl T 260,sl T 261,sl T 262,sl T 263,sl T 264,sl T 265,sl T 266,sl T 267,sl T 268,sl T 269,sl T 270,sl T 271,sl T 272,sl T 273,sl T 274,sl T 275,sl T 276,sl T 277,sl T 278,sl T 279,sl T 280,sl T 281,sl T 282,sl T 283,sl T 284,sl T 285,sl T 286,sl T 287,sl T 288,sl T 289,sl T 290,sl T 291,sl T 292,sl T 293,sl T 294,sl T 295,sl T 296,sl T 297,sl T 298] H96 (blockK 1 (seqK (fun T H => wpC tab noExt c_detentlaw20_HandPlays_s1 T H K) K))) (andThen (binA .eql v8 (AV.s (SV.int .i64 6))) fun v97 => condP v97 (andThen (fieldAddrA 1 (AV.s (SV.ptr (some (AH.next (AH.bump H 4) + 4,0))))) fun v98 => andThen (loadA none v98 (AH.bump (AH.bump (AH.bump (AH.bump (AH.bump (AH.bump (AH.bump (AH.bump (AH.bump (AH.bump (AH.bump (AH.bump H6 1) 1) 1) 1) 2) 2) 2) 2) 2) 2) 2) 5)) fun v99 => CallP tab noExt F.cyc_Hands_Clear [sl T 5,v99] (AH.bump (AH.bump (AH.bump (AH.bump (AH.bump (AH.bump (AH.bump (AH.bump (AH.bump (AH.bump (AH.bump (AH.bump H6 1) 1) 1) 1) 2) 2) 2) 2) 2) 2) 2) 5) fun v100 H101 => andThen (fieldAddrA 1 (AV.s (SV.ptr (some (AH.next (AH.bump H 4) + 4,0))))) fun v102 => andThen (loadA none v102 (AH.bump H101 5)) fun v103 => CallP tab noExt F.detentref20_Hands_Clear [sl T 7,v103] (AH.bump H101 5) fun v104 H105 => wpC tab noExt c_detentlaw20_HandPlays_s0 [sl T 0,sl T 1,sl T 2,sl T 3,sl T 4,sl T 5,sl T 6,sl T 7,sl T 8,sl T 9,(AV.s (SV.ptr (some (AH.next (AH.bump H 4) + 4,0)))),v100,v104,(AV.s (SV.int .i64 0)),(AV.s (SV.int .i64 0)),sl T 15,sl T 16,sl T 17,sl T 18,sl T 19,sl T 20,sl T 21,sl T 22,sl T 23,sl T 24,sl T 25,sl T 26,sl T 27,sl T 28,sl T 29,sl T 30,sl T 31,sl T 32,sl T 33,sl T 34,sl T 35,sl T 36,sl T 37,sl T 38,sl T 39,sl T 40,sl T 41,sl T 42,sl T 43,sl T 44,sl T 45,sl T 46,sl T 47,sl T 48,sl T 49,sl T 50,sl T 51,sl T 52,sl T 53,sl T 54,sl T 55,sl T 56,sl T 57,sl T 9,sl T 1,v1,v2,sl T 62,sl T 63,sl T 1,sl T 9,v3,v4,v7,v8,v9,v9,sl T 72,sl T 73,sl T 74,sl T 75,sl T 76,sl T 77,sl T 78,sl T 79,sl T 80,sl T 81,sl T 82,sl T 83,sl T 84,sl T 85,sl T 86,sl T 87,sl T 88,sl T 89,sl T 90,sl T 91,sl T 92,sl T 93,sl T 94,sl T 95,sl T 96,sl T 97,sl T 98,sl T 99,sl T 100,sl T 101,sl T 102,sl T 103,sl T 104,sl T 105,sl T 106,sl T 107,sl T 108,sl T 109,sl T 110,sl T 111,v57,v57,sl T 114,sl T 115,sl T 116,sl T 117,sl T 118,sl T 119,sl T 120,sl T 121,sl T 122,sl T 123,sl T 124,sl T 125,sl T 126,sl T 127,v66,v66,sl T 130,sl T 131,sl T 132,sl T 133,sl T 134,sl T 135,sl T 136,sl T 137,v75,v75,sl T 140,sl T 141,sl T 142,sl T 143,sl T 144,sl T 145,sl T 146,sl T 147,v84,v84,sl T 150,sl T 151,sl T 152,sl T 153,sl T 154,sl T 155,sl T 156,sl T 157,sl T 158,sl T 159,sl T 160,sl T 161,v97,v97,sl T 5,v98,v99,v100,sl T 7,v102,v103,v104,sl T 172,sl T 173,sl T 174,sl T 175,sl T 176,sl T 177,sl T 178,sl T 179,sl T 180,sl T 181,sl T 182,sl T 183,sl T 184,sl T 185,sl T 186,sl T 187,sl T 188,sl T 189,sl T 190,sl T 191,sl T 192,sl T 193,sl T 194,sl T 195,sl T 196,sl T 197,sl T 198,sl T 199,sl T 200,sl T 201,sl T 202,sl T 203,sl T 204,sl T 205,sl T 206,sl T 207,sl T 208,sl T 209,sl T 210,sl T 211,sl T 212,sl T 213,sl T 214,sl T 215,sl T 216,sl T 217,sl T 218,sl T 219,sl T 220,sl T 221,sl T 222,sl T 223,sl T 224,sl T 225,sl T 226,sl T 227,sl T 228,sl T 229,sl T 230,sl T 231,sl T 232,sl T 233,sl T 234,sl T 235,sl T 236,sl T 237,sl T 238,sl T 239,sl T 240,sl T 241,sl T 242,sl T 243,sl T 244,sl T 245,sl T 246,sl T 247,sl T 248,sl T 249,sl T 250,sl T 251,sl T 252,sl T 253,sl T 254,sl T 255,sl T 256,sl T 257,sl T 258,sl T 259,sl T 260,sl T 261,sl T 262,sl T 263,sl T 264,sl T 265,sl T 266,sl T 267,sl T 268,sl T 269,sl T 270,sl T 271,sl T 272,sl T 273,sl T 274,sl T 275,sl T 276,sl T 277,sl T 278,sl T 279,sl T 280,sl T 281,sl T 282,sl T 283,sl T 284,sl T 285,sl T 286,sl T 287,sl T 288,sl T 289,sl T 290,sl T 291,sl T 292,sl T 293,sl T 294,sl T 295,sl T 296,sl T 297,sl T 298] H105 (blockK 1 (seqK (fun T H => wpC tab noExt c_detentlaw20_HandPlays_s1 T H K) K))) (andThen (binA .eql v8 (AV.s (SV.int .i64 7))) fun v106 => condP v106 (andThen (fieldAddrA 2 (AV.s (SV.ptr (some (AH.next (AH.bump H 4) + 4,0))))) fun v107 => andThen (loadA none v107 (AH.bump (AH.bump (AH.bump (AH.bump (AH.bump (AH.bump (AH.bump (AH.bump (AH.bump (AH.bump (AH.bump (AH.bump (AH.bump H6 1) 1) 1) 1) 2) 2) 2) 2) 2) 2) 2) 2) 11)) fun v108 => andThen (fieldAddrA 1 (AV.s (SV.ptr (some (AH.next (AH.bump H 4) + 4,0))))) fun v109 => andThen (loadA none v109 (AH.bump (AH.bump (AH.bump (AH.bump (AH.bump (AH.bump (AH.bump (AH.bump (AH.bump (AH.bump (AH.bump (AH.bump (AH.bump H6 1) 1) 1) 1) 2) 2) 2) 2) 2) 2) 2) 2) 11)) fun v110 => CallP tab noExt F.cyc_Hands_Wait [sl T 5,v108,v110] (AH.bump (AH.bump (AH.bump (AH.bump (AH.bump (AH.bump (AH.bump (AH.bump (AH.bump (AH.bump (AH.bump (AH.bump (AH.bump H6 1) 1) 1) 1) 2) 2) 2) 2) 2) 2) 2) 2) 11) fun v111 H112 => andThen (extractA 0 v111) fun v113 => andThen (extractA 1 v111) fun v114 => andThen (fieldAddrA 2 (AV.s (SV.ptr (some (AH.next (AH.bump H 4) + 4,0))))) fun v115 => andThen (loadA none v115 (AH.bump H112 11)) fun v116 => andThen (fieldAddrA 1 (AV.s (SV.ptr (some (AH.next (AH.bump H 4) + 4,0))))) fun v117 => andThen (loadA none v117 (AH.bump H112 11)) fun v118 => CallP tab noExt F.detentref20_Hands_Wait [sl T 7,v116,v118] (AH.bump H112 11) fun v119 H120 => andThen (extractA 0 v119) fun v121 => andThen (extractA 1 v119) fun v122 => wpC tab noExt c_detentlaw20_HandPlays_s0 [sl T 0,sl T 1,sl T 2,sl T 3,sl T 4,sl T 5,sl T 6,sl T 7,sl T 8,sl T 9,(AV.s (SV.ptr (some (AH.next (AH.bump H 4) + 4,0)))),v114,v122,v113,v121,sl T 15,sl T 16,sl T 17,sl T 18,sl T 19,sl T 20,sl T 21,sl T 22,v113,v114,v121,v122,sl T 27,sl T 28,sl T 29,sl T 30,sl T 31,sl T 32,sl T 33,sl T 34,sl T 35,sl T 36,sl T 37,sl T 38,sl T 39,sl T 40,sl T 41,sl T 42,sl T 43,sl T 44,sl T 45,sl T 46,sl T 47,sl T 48,sl T 49,sl T 50,sl T 51,sl T 52,sl T 53,sl T 54,sl T 55,sl T 56,sl T 57,sl T 9,sl T 1,v1,v2,sl T 62,sl T 63,sl T 1,sl T 9,v3,v4,v7,v8,v9,v9,sl T 72,sl T 73,sl T 74,sl T 75,sl T 76,sl T 77,sl T 78,sl T 79,sl T 80,sl T 81,sl T 82,sl T 83,sl T 84,sl T 85,sl T 86,sl T 87,sl T 88,sl T 89,sl T 90,sl T 91,sl T 92,sl T 93,sl T 94,sl T 95,sl T 96,sl T 97,sl T 98,sl T 99,sl T 100,sl T 101,sl T 102,sl T 103,sl T 104,sl T 105,sl T 106,sl T 107,sl T 108,sl T 109,sl T 110,sl T 111,v57,v57,sl T 114,sl T 115,sl T 116,sl T 117,sl T 118,sl T 119,sl T 120,sl T 121,sl T 122,sl T 123,sl T 124,sl T 125,sl T 126,sl T 127,v66,v66,sl T 130,sl T 131,sl T 132,sl T 133,sl T 134,sl T 135,sl T 136,sl T 137,v75,v75,sl T 140,sl T 141,sl T 142,sl T 143,sl T 144,sl T 145,sl T 146,sl T 147,v84,v84,sl T 150,sl T 151,sl T 152,sl T 153,sl T 154,sl T 155,sl T 156,sl T 157,sl T 158,sl T 159,sl T 160,sl T 161,v97,v97,sl T 164,sl T 165,sl T 166,sl T 167,sl T 168,sl T 169,sl T 170,sl T 171,v106,v106,v111,sl T 5,v107,v108,v109,v110,v111,v113,v114,v119,sl T 7,v115,v116,v117,v118,v119,v121,v122,v113,v121,v114,v122,sl T 196,sl T 197,sl T 198,sl T 199,sl T 200,sl T 201,sl T 202,sl T 203,sl T 204,sl T 205,sl T 206,sl T 207,sl T 208,sl T 209,sl T 210,sl T 211,sl T 212,sl T 213,sl T 214,sl T 215,sl T 216,sl T 217,sl T 218,sl T 219,sl T 220,sl T 221,sl T 222,sl T 223,sl T 224,sl T 225,sl T 226,sl T 227,sl T 228,sl T 229,sl T 230,sl T 231,sl T 232,sl T 233,sl T 234,sl T 235,sl T 236,sl T 237,sl T 238,sl T 239,sl T 240,sl T 241,sl T 242,sl T 243,sl T 244,sl T 245,sl T 246,sl T 247,sl T 248,sl T 249,sl T 250,sl T 251,sl T 252,sl T 253,sl T 254,sl T 255,sl T 256,sl T 257,sl T 258,sl T 259,sl T 260,sl T 261,sl T 262,sl T 263,sl T 264,sl T 265,sl T 266,sl T 267,sl T 268,sl T 269,sl T 270,sl T 271,sl T 272,sl T 273,sl T 274,sl T 275,sl T 276,sl T 277,sl T 278,sl T 279,sl T 280,sl T 281,sl T 282,sl T 283,sl T 284,sl T 285,sl T 286,sl T 287,sl T 288,sl T 289,sl T 290,sl T 291,sl T 292,sl T 293,sl T 294,sl T 295,sl T 296,sl T 297,sl T 298] (AH.bump H120 8) (blockK 1 (seqK (fun T H => wpC tab noExt c_detentlaw20_HandPlays_s1 T H K) K))) (andThen (binA .eql v8 (AV.s (SV.int .i64 8))) fun v123 => condP v123 (CallP tab noExt F.cyc_Hands_Pass [sl T 5] (AH.bump (AH.bump (AH.bump (AH.bump (AH.bump (AH.bump (AH.bump (AH.bump (AH.bump (AH.bump (AH.bump (AH.bump (AH.bump (AH.bump H6 1) 1) 1) 1) 2) 2) 2) 2) 2) 2) 2) 2) 2) 7) fun v124 H125 => andThen (extractA 0 v124) fun v126 => andThen (extractA 1 v124) fun v127 => CallP tab noExt F.detentref20_Hands_Pass [sl T 7] (AH.bump H125 7) fun v128 H129 => andThen (extractA 0 v128) fun v130 => andThen (extractA 1 v128) fun v131 => CallP tab noExt F.detentlaw20_Fired [v126,v130] (AH.bump H129 10) fun v132 H133 => andThen (unA .not v132) fun v134 => gP (gd v134 false) H133 (fun k135 => k135 v127 H133) fun v136 H137 => gP (gd v134 false) H137 (fun k138 => k138 v131 H137) fun v139 H140 => gP (gd v134 false) H140 (fun k141 => CallP tab noExt F.detentlaw3_Same [v136,v139] H140 fun v144 H145 => k141 v144 H145) fun v142 H143 => gP (gd v134 false) H143 (fun k146 => andThen (unA .not v142) fun v149 => k146 v149 H143) fun v147 H148 => andThen (pickA v134 (AV.s (SV.bool true)) v147) fun v150 => condP v150 (K Ex.ret [sl T 0,sl T 1,sl T 2,sl T 3,(AV.s (SV.bool false)),sl T 5,sl T 6,sl T 7,sl T 8,sl T 9,(AV.s (SV.ptr (some (AH.next (AH.bump H 4) + 4,0)))),(AV.s (SV.int .i64 0)),(AV.s (SV.int .i64 0)),(AV.s (SV.int .i64 0)),(AV.s (SV.int .i64 0)),sl T 15,sl T 16,sl T 17,sl T 18,sl T 19,sl T 20,sl T 21,sl T 22,sl T 23,sl T 24,sl T 25,sl T 26,v126,v127,v130,v131,sl T 31,sl T 32,sl T 33,sl T 34,sl T 35,sl T 36,sl T 37,sl T 38,sl T 39,sl T 40,sl T 41,sl T 42,sl T 43,sl T 44,sl T 45,sl T 46,sl T 47,sl T 48,sl T 49,sl T 50,sl T 51,sl T 52,sl T 53,sl T 54,sl T 55,sl T 56,sl T 57,sl T 9,sl T 1,v1,v2,sl T 62,sl T 63,sl T 1,sl T 9,v3,v4,v7,v8,v9,v9,sl T 72,sl T 73,sl T 74,sl T 75,sl T 76,sl T 77,sl T 78,sl T 79,sl T 80,sl T 81,sl T 82,sl T 83,sl T 84,sl T 85,sl T 86,sl T 87,sl T 88,sl T 89,sl T 90,sl T 91,sl T 92,sl T 93,sl T 94,sl T 95,sl T 96,sl T 97,sl T 98,sl T 99,sl T 100,sl T 101,sl T 102,sl T 103,sl T 104,sl T 105,sl T 106,sl T 107,sl T 108,sl T 109,sl T 110,sl T 111,v57,v57,sl T 114,sl T 115,sl T 116,sl T 117,sl T 118,sl T 119,sl T 120,sl T 121,sl T 122,sl T 123,sl T 124,sl T 125,sl T 126,sl T 127,v66,v66,sl T 130,sl T 131,sl T 132,sl T 133,sl T 134,sl T 135,sl T 136,sl T 137,v75,v75,sl T 140,sl T 141,sl T 142,sl T 143,sl T 144,sl T 145,sl T 146,sl T 147,v84,v84,sl T 150,sl T 151,sl T 152,sl T 153,sl T 154,sl T 155,sl T 156,sl T 157,sl T 158,sl T 159,sl T 160,sl T 161,v97,v97,sl T 164,sl T 165,sl T 166,sl T 167,sl T 168,sl T 169,sl T 170,sl T 171,v106,v106,sl T 174,sl T 175,sl T 176,sl T 177,sl T 178,sl T 179,sl T 180,sl T 181,sl T 182,sl T 183,sl T 184,sl T 185,sl T 186,sl T 187,sl T 188,sl T 189,sl T 190,sl T 191,sl T 192,sl T 193,sl T 194,sl T 195,v123,v123,v124,sl T 5,v124,v126,v127,v128,sl T 7,v128,v130,v131,v126,v130,v132,v134,v134,v136,v139,v142,v147,v150,sl T 218,sl T 219,sl T 220,sl T 221,sl T 222,sl T 223,sl T 224,sl T 225,sl T 226,sl T 227,sl T 228,sl T 229,sl T 230,sl T 231,sl T 232,sl T 233,sl T 234,sl T 235,sl T 236,sl T 237,sl T 238,sl T 239,sl T 240,sl T 241,sl T 242,sl T 243,sl T 244,sl T 245,sl T 246,sl T 247,sl T 248,sl T 249,sl T 250,sl T 251,sl T 252,sl T 253,sl T 254,sl T 255,sl T 256,sl T 257,sl T 258,sl T 259,sl T 260,sl T 261,sl T 262,sl T 263,sl T 264,sl T 265,sl T 266,sl T 267,sl T 268,sl T 269,sl T 270,sl T 271,sl T 272,sl T 273,sl T 274,sl T 275,sl T 276,sl T 277,sl T 278,sl T 279,sl T 280,sl T 281,sl T 282,sl T 283,sl T 284,sl T 285,sl T 286,sl T 287,sl T 288,sl T 289,sl T 290,sl T 291,sl T 292,sl T 293,sl T 294,sl T 295,sl T 296,sl T 297,sl T 298] (AH.bump H148 1)) (wpC tab noExt c_detentlaw20_HandPlays_s0 [sl T 0,sl T 1,sl T 2,sl T 3,sl T 4,sl T 5,sl T 6,sl T 7,sl T 8,sl T 9,(AV.s (SV.ptr (some (AH.next (AH.bump H 4) + 4,0)))),(AV.s (SV.int .i64 0)),(AV.s (SV.int .i64 0)),(AV.s (SV.int .i64 0)),(AV.s (SV.int .i64 0)),sl T 15,sl T 16,sl T 17,sl T 18,sl T 19,sl T 20,sl T 21,sl T 22,sl T 23,sl T 24,sl T 25,sl T 26,v126,v127,v130,v131,sl T 31,sl T 32,sl T 33,sl T 34,sl T 35,sl T 36,sl T 37,sl T 38,sl T 39,sl T 40,sl T 41,sl T 42,sl T 43,sl T 44,sl T 45,sl T 46,sl T 47,sl T 48,sl T 49,sl T 50,sl T 51,sl T 52,sl T 53,sl T 54,sl T 55,sl T 56,sl T 57,sl T 9,sl T 1,v1,v2,sl T 62,sl T 63,sl T 1,sl T 9,v3,v4,v7,v8,v9,v9,sl T 72,sl T 73,sl T 74,sl T 75,sl T 76,sl T 77,sl T 78,sl T 79,sl T 80,sl T 81,sl T 82,sl T 83,sl T 84,sl T 85,sl T 86,sl T 87,sl T 88,sl T 89,sl T 90,sl T 91,sl T 92,sl T 93,sl T 94,sl T 95,sl T 96,sl T 97,sl T 98,sl T 99,sl T 100,sl T 101,sl T 102,sl T 103,sl T 104,sl T 105,sl T 106,sl T 107,sl T 108,sl T 109,sl T 110,sl T 111,v57,v57,sl T 114,sl T 115,sl T 116,sl T 117,sl T 118,sl T 119,sl T 120,sl T 121,sl T 122,sl T 123,sl T 124,sl T 125,sl T 126,sl T 127,v66,v66,sl T 130,sl T 131,sl T 132,sl T 133,sl T 134,sl T 135,sl T 136,sl T 137,v75,v75,sl T 140,sl T 141,sl T 142,sl T 143,sl T 144,sl T 145,sl T 146,sl T 147,v84,v84,sl T 150,sl T 151,sl T 152,sl T 153,sl T 154,sl T 155,sl T 156,sl T 157,sl T 158,sl T 159,sl T 160,sl T 161,v97,v97,sl T 164,sl T 165,sl T 166,sl T 167,sl T 168,sl T 169,sl T 170,sl T 171,v106,v106,sl T 174,sl T 175,sl T 176,sl T 177,sl T 178,sl T 179,sl T 180,sl T 181,sl T 182,sl T 183,sl T 184,sl T 185,sl T 186,sl T 187,sl T 188,sl T 189,sl T 190,sl T 191,sl T 192,sl T 193,sl T 194,sl T 195,v123,v123,v124,sl T 5,v124,v126,v127,v128,sl T 7,v128,v130,v131,v126,v130,v132,v134,v134,v136,v139,v142,v147,v150,sl T 218,sl T 219,sl T 220,sl T 221,sl T 222,sl T 223,sl T 224,sl T 225,sl T 226,sl T 227,sl T 228,sl T 229,sl T 230,sl T 231,sl T 232,sl T 233,sl T 234,sl T 235,sl T 236,sl T 237,sl T 238,sl T 239,sl T 240,sl T 241,sl T 242,sl T 243,sl T 244,sl T 245,sl T 246,sl T 247,sl T 248,sl T 249,sl T 250,sl T 251,sl T 252,sl T 253,sl T 254,sl T 255,sl T 256,sl T 257,sl T 258,sl T 259,sl T 260,sl T 261,sl T 262,sl T 263,sl T 264,sl T 265,sl T 266,sl T 267,sl T 268,sl T 269,sl T 270,sl T 271,sl T 272,sl T 273,sl T 274,sl T 275,sl T 276,sl T 277,sl T 278,sl T 279,sl T 280,sl T 281,sl T 282,sl T 283,sl T 284,sl T 285,sl T 286,sl T 287,sl T 288,sl T 289,sl T 290,sl T 291,sl T 292,sl T 293,sl T 294,sl T 295,sl T 296,sl T 297,sl T 298] H148 (blockK 1 (seqK (fun T H => wpC tab noExt c_detentlaw20_HandPlays_s1 T H K) K)))) (andThen (binA .eql v8 (AV.s (SV.int .i64 9))) fun v151 => condP v151 (andThen (nilCheckA (sl T 5)) fun v152 => andThen (fieldAddrA 0 v152) fun v153 => andThen (loadA none v153 (AH.bump (AH.bump (AH.bump (AH.bump (AH.bump (AH.bump (AH.bump (AH.bump (AH.bump (AH.bump (AH.bump (AH.bump (AH.bump (AH.bump (AH.bump H6 1) 1) 1) 1) 2) 2) 2) 2) 2) 2) 2) 2) 2) 2) 21)) fun v154 => andThen (nilCheckA v154) fun v155 => andThen (fieldAddrA 0 v155) fun v156 => andThen (loadA none v156 (AH.bump (AH.bump (AH.bump (AH.bump (AH.bump (AH.bump (AH.bump (AH.bump (AH.bump (AH.bump (AH.bump (AH.bump (AH.bump (AH.bump (AH.bump H6 1) 1) 1) 1) 2) 2) 2) 2) 2) 2) 2) 2) 2) 2) 21)) fun v157 => andThen (fieldAddrA 1 (AV.s (SV.ptr (some (AH.next (AH.bump H 4) + 4,0))))) fun v158 => andThen (loadA none v158 (AH.bump (AH.bump (AH.bump (AH.bump (AH.bump (AH.bump (AH.bump (AH.bump (AH.bump (AH.bump (AH.bump (AH.bump (AH.bump (AH.bump (AH.bump H6 1) 1) 1) 1) 2) 2) 2) 2) 2) 2) 2) 2) 2) 2) 21)) fun v159 => andThen (nilCheckA (sl T 7)) fun v160 => andThen (fieldAddrA 0 v160) fun v161 => andThen (loadA none v161 (AH.bump (AH.bump (AH.bump (AH.bump (AH.bump (AH.bump (AH.bump (AH.bump (AH.bump (AH.bump (AH.bump (AH.bump (AH.bump (AH.bump (AH.bump H6 1) 1) 1) 1) 2) 2) 2) 2) 2) 2) 2) 2) 2) 2) 21)) fun v162 => andThen (nilCheckA v162) fun v163 => andThen (fieldAddrA 0 v163) fun v164 => andThen (loadA none v164 (AH.bump (AH.bump (AH.bump (AH.bump (AH.bump (AH.bump (AH.bump (AH.bump (AH.bump (AH.bump (AH.bump (AH.bump (AH.bump (AH.bump (AH.bump H6 1) 1) 1) 1) 2) 2) 2) 2) 2) 2) 2) 2) 2) 2) 21)) fun v165 => andThen (fieldAddrA 1 (AV.s (SV.ptr (some (AH.next (AH.bump H 4) + 4,0))))) fun v166 => andThen (loadA none v166 (AH.bump (AH.bump (AH.bump (AH.bump (AH.bump (AH.bump (AH.bump (AH.bump (AH.bump (AH.bump (AH.bump (AH.bump (AH.bump (AH.bump (AH.bump H6 1) 1) 1) 1) 2) 2) 2) 2) 2) 2) 2) 2) 2) 2) 21)) fun v167 => CallP tab noExt F.heap_Timers_Cancel [v157,v159] (AH.bump (AH.bump (AH.bump (AH.bump (AH.bump (AH.bump (AH.bump (AH.bump (AH.bump (AH.bump (AH.bump (AH.bump (AH.bump (AH.bump (AH.bump H6 1) 1) 1) 1) 2) 2) 2) 2) 2) 2) 2) 2) 2) 2) 21) fun v168 H169 => (loadA none v161 H169 = some v162) ∧ ((loadA none v164 H169 = some v165) ∧ ((loadA none v166 H169 = some v167) ∧ (CallP tab noExt F.detentref7_Timers_Cancel [v165,v167] H169 fun v170 H171 => andThen (eqsA .bool true v168 v170) fun v172 => condP v172 (K Ex.ret [sl T 0,sl T 1,sl T 2,sl T 3,(AV.s (SV.bool false)),sl T 5,sl T 6,sl T 7,sl T 8,sl T 9,(AV.s (SV.ptr (some (AH.next (AH.bump H 4) + 4,0)))),(AV.s (SV.int .i64 0)),(AV.s (SV.int .i64 0)),(AV.s (SV.int .i64 0)),(AV.s (SV.int .i64 0)),sl T 15,sl T 16,sl T 17,sl T 18,sl T 19,sl T 20,sl T 21,sl T 22,sl T 23,sl T 24,sl T 25,sl T 26,sl T 27,sl T 28,sl T 29,sl T 30,sl T 31,sl T 32,sl T 33,sl T 34,sl T 35,sl T 36,sl T 37,sl T 38,sl T 39,sl T 40,sl T 41,sl T 42,sl T 43,sl T 44,sl T 45,sl T 46,sl T 47,sl T 48,sl T 49,sl T 50,sl T 51,sl T 52,sl T 53,sl T 54,sl T 55,sl T 56,sl T 57,sl T 9,sl T 1,v1,v2,sl T 62,sl T 63,sl T 1,sl T 9,v3,v4,v7,v8,v9,v9,sl T 72,sl T 73,sl T 74,sl T 75,sl T 76,sl T 77,sl T 78,sl T 79,sl T 80,sl T 81,sl T 82,sl T 83,sl T 84,sl T 85,sl T 86,sl T 87,sl T 88,sl T 89,sl T 90,sl T 91,sl T 92,sl T 93,sl T 94,sl T 95,sl T 96,sl T 97,sl T 98,sl T 99,sl T 100,sl T 101,sl T 102,sl T 103,sl T 104,sl T 105,sl T 106,sl T 107,sl T 108,sl T 109,sl T 110,sl T 111,v57,v57,sl T 114,sl T 115,sl T 116,sl T 117,sl T 118,sl T 119,sl T 120,sl T 121,sl T 122,sl T 123,sl T 124,sl T 125,sl T 126,sl T 127,v66,v66,sl T 130,sl T 131,sl T 132,sl T 133,sl T 134,sl T 135,sl T 136,sl T 137,v75,v75,sl T 140,sl T 141,sl T 142,sl T 143,sl T 144,sl T 145,sl T 146,sl T 147,v84,v84,sl T 150,sl T 151,sl T 152,sl T 153,sl T 154,sl T 155,sl T 156,sl T 157,sl T 158,sl T 159,sl T 160,sl T 161,v97,v97,sl T 164,sl T 165,sl T 166,sl T 167,sl T 168,sl T 169,sl T 170,sl T 171,v106,v106,sl T 174,sl T 175,sl T 176,sl T 177,sl T 178,sl T 179,sl T 180,sl T 181,sl T 182,sl T 183,sl T 184,sl T 185,sl T 186,sl T 187,sl T 188,sl T 189,sl T 190,sl T 191,sl T 192,sl T 193,sl T 194,sl T 195,v123,v123,sl T 198,sl T 199,sl T 200,sl T 201,sl T 202,sl T 203,sl T 204,sl T 205,sl T 206,sl T 207,sl T 208,sl T 209,sl T 210,sl T 211,sl T 212,sl T 213,sl T 214,sl T 215,sl T 216,sl T 217,v151,v151,sl T 5,v152,v153,v154,v155,v156,v157,v158,v159,v168,sl T 7,v160,v161,v162,v163,v164,v165,v166,v167,v170,v172,sl T 241,sl T 242,sl T 243,sl T 244,sl T 245,sl T 246,sl T 247,sl T 248,sl T 249,sl T 250,sl T 251,sl T 252,sl T 253,sl T 254,sl T 255,sl T 256,sl T 257,sl T 258,sl T 259,sl T 260,sl T 261,sl T 262,sl T 263,sl T 264,sl T 265,sl T 266,sl T 267,sl T 268,sl T 269,sl T 270,sl T 271,sl T 272,sl T 273,sl T 274,sl T 275,sl T 276,sl T 277,sl T 278,sl T 279,sl T 280,sl T 281,sl T 282,sl T 283,sl T 284,sl T 285,sl T 286,sl T 287,sl T 288,sl T 289,sl T 290,sl T 291,sl T 292,sl T 293,sl T 294,sl T 295,sl T 296,sl T 297,sl T 298] (AH.bump H171 1)) (wpC tab noExt c_detentlaw20_HandPlays_s0 [sl T 0,sl T 1,sl T 2,sl T 3,sl T 4,sl T 5,sl T 6,sl T 7,sl T 8,sl T 9,(AV.s (SV.ptr (some (AH.next (AH.bump H 4) + 4,0)))),(AV.s (SV.int .i64 0)),(AV.s (SV.int .i64 0)),(AV.s (SV.int .i64 0)),(AV.s (SV.int .i64 0)),sl T 15,sl T 16,sl T 17,sl T 18,sl T 19,sl T 20,sl T 21,sl T 22,sl T 23,sl T 24,sl T 25,sl T 26,sl T 27,sl T 28,sl T 29,sl T 30,sl T 31,sl T 32,sl T 33,sl T 34,sl T 35,sl T 36,sl T 37,sl T 38,sl T 39,sl T 40,sl T 41,sl T 42,sl T 43,sl T 44,sl T 45,sl T 46,sl T 47,sl T 48,sl T 49,sl T 50,sl T 51,sl T 52,sl T 53,sl T 54,sl T 55,sl T 56,sl T 57,sl T 9,sl T 1,v1,v2,sl T 62,sl T 63,sl T 1,sl T 9,v3,v4,v7,v8,v9,v9,sl T 72,sl T 73,sl T 74,sl T 75,sl T 76,sl T 77,sl T 78,sl T 79,sl T 80,sl T 81,sl T 82,sl T 83,sl T 84,sl T 85,sl T 86,sl T 87,sl T 88,sl T 89,sl T 90,sl T 91,sl T 92,sl T 93,sl T 94,sl T 95,sl T 96,sl T 97,sl T 98,sl T 99,sl T 100,sl T 101,sl T 102,sl T 103,sl T 104,sl T 105,sl T 106,sl T 107,sl T 108,sl T 109,sl T 110,sl T 111,v57,v57,sl T 114,sl T 115,sl T 116,sl T 117,sl T 118,sl T 119,sl T 120,sl T 121,sl T 122,sl T 123,sl T 124,sl T 125,sl T 126,sl T 127,v66,v66,sl T 130,sl T 131,sl T 132,sl T 133,sl T 134,sl T 135,sl T 136,sl T 137,v75,v75,sl T 140,sl T 141,sl T 142,sl T 143,sl T 144,sl T 145,sl T 146,sl T 147,v84,v84,sl T 150,sl T 151,sl T 152,sl T 153,sl T 154,sl T 155,sl T 156,sl T 157,sl T 158,sl T 159,sl T 160,sl T 161,v97,v97,sl T 164,sl T 165,sl T 166,sl T 167,sl T 168,sl T 169,sl T 170,sl T 171,v106,v106,sl T 174,sl T 175,sl T 176,sl T 177,sl T 178,sl T 179,sl T 180,sl T 181,sl T 182,sl T 183,sl T 184,sl T 185,sl T 186,sl T 187,sl T 188,sl T 189,sl T 190,sl T 191,sl T 192,sl T 193,sl T 194,sl T 195,v123,v123,sl T 198,sl T 199,sl T 200,sl T 201,sl T 202,sl T 203,sl T 204,sl T 205,sl T 206,sl T 207,sl T 208,sl T 209,sl T 210,sl T 211,sl T 212,sl T 213,sl T 214,sl T 215,sl T 216,sl T 217,v151,v151,sl T 5,v152,v153,v154,v155,v156,v157,v158,v159,v168,sl T 7,v160,v161,v162,v163,v164,v165,v166,v167,v170,v172,sl T 241,sl T 242,sl T 243,sl T 244,sl T 245,sl T 246,sl T 247,sl T 248,sl T 249,sl T 250,sl T 251,sl T 252,sl T 253,sl T 254,sl T 255,sl T 256,sl T 257,sl T 258,sl T 259,sl T 260,sl T 261,sl T 262,sl T 263,sl T 264,sl T 265,sl T 266,sl T 267,sl T 268,sl T 269,sl T 270,sl T 271,sl T 272,sl T 273,sl T 274,sl T 275,sl T 276,sl T 277,sl T 278,sl T 279,sl T 280,sl T 281,sl T 282,sl T 283,sl T 284,sl T 285,sl T 286,sl T 287,sl T 288,sl T 289,sl T 290,sl T 291,sl T 292,sl T 293,sl T 294,sl T 295,sl T 296,sl T 297,sl T 298] H171 (blockK 1 (seqK (fun T H => wpC tab noExt c_detentlaw20_HandPlays_s1 T H K) K))))))) (wpC tab noExt c_detentlaw20_HandPlays_s0 [sl T 0,sl T 1,sl T 2,sl T 3,sl T 4,sl T 5,sl T 6,sl T 7,sl T 8,sl T 9,(AV.s (SV.ptr (some (AH.next (AH.bump H 4) + 4,0)))),(AV.s (SV.int .i64 0)),(AV.s (SV.int .i64 0)),(AV.s (SV.int .i64 0)),(AV.s (SV.int .i64 0)),sl T 15,sl T 16,sl T 17,sl T 18,sl T 19,sl T 20,sl T 21,sl T 22,sl T 23,sl T 24,sl T 25,sl T 26,sl T 27,sl T 28,sl T 29,sl T 30,sl T 31,sl T 32,sl T 33,sl T 34,sl T 35,sl T 36,sl T 37,sl T 38,sl T 39,sl T 40,sl T 41,sl T 42,sl T 43,sl T 44,sl T 45,sl T 46,sl T 47,sl T 48,sl T 49,sl T 50,sl T 51,sl T 52,sl T 53,sl T 54,sl T 55,sl T 56,sl T 57,sl T 9,sl T 1,v1,v2,sl T 62,sl T 63,sl T 1,sl T 9,v3,v4,v7,v8,v9,v9,sl T 72,sl T 73,sl T 74,sl T 75,sl T 76,sl T 77,sl T 78,sl T 79,sl T 80,sl T 81,sl T 82,sl T 83,sl T 84,sl T 85,sl T 86,sl T 87,sl T 88,sl T 89,sl T 90,sl T 91,sl T 92,sl T 93,sl T 94,sl T 95,sl T 96,sl T 97,sl T 98,sl T 99,sl T 100,sl T 101,sl T 102,sl T 103,sl T 104,sl T 105,sl T 106,sl T 107,sl T 108,sl T 109,sl T 110,sl T 111,v57,v57,sl T 114,sl T 115,sl T 116,sl T 117,sl T 118,sl T 119,sl T 120,sl T 121,sl T 122,sl T 123,sl T 124,sl T 125,sl T 126,sl T 127,v66,v66,sl T 130,sl T 131,sl T 132,sl T 133,sl T 134,sl T 135,sl T 136,sl T 137,v75,v75,sl T 140,sl T 141,sl T 142,sl T 143,sl T 144,sl T 145,sl T 146,sl T 147,v84,v84,sl T 150,sl T 151,sl T 152,sl T 153,sl T 154,sl T 155,sl T 156,sl T 157,sl T 158,sl T 159,sl T 160,sl T 161,v97,v97,sl T 164,sl T 165,sl T 166,sl T 167,sl T 168,sl T 169,sl T 170,sl T 171,v106,v106,sl T 174,sl T 175,sl T 176,sl T 177,sl T 178,sl T 179,sl T 180,sl T 181,sl T 182,sl T 183,sl T 184,sl T 185,sl T 186,sl T 187,sl T 188,sl T 189,sl T 190,sl T 191,sl T 192,sl T 193,sl T 194,sl T 195,v123,v123,sl T 198,sl T 199,sl T 200,sl T 201,sl T 202,sl T 203,sl T 204,sl T 205,sl T 206,sl T 207,sl T 208,sl T 209,sl T 210,sl T 211,sl T 212,sl T 213,sl T 214,sl T 215,sl T 216,sl T 217,v151,v151,sl T 220,sl T 221,sl T 222,sl T 223,sl T 224,sl T 225,sl T 226,sl T 227,sl T 228,sl T 229,sl T 230,sl T 231,sl T 232,sl T 233,sl T 234,sl T 235,sl T 236,sl T 237,sl T 238,sl T 239,sl T 240,sl T 241,sl T 242,sl T 243,sl T 244,sl T 245,sl T 246,sl T 247,sl T 248,sl T 249,sl T 250,sl T 251,sl T 252,sl T 253,sl T 254,sl T 255,sl T 256,sl T 257,sl T 258,sl T 259,sl T 260,sl T 261,sl T 262,sl T 263,sl T 264,sl T 265,sl T 266,sl T 267,sl T 268,sl T 269,sl T 270,sl T 271,sl T 272,sl T 273,sl T 274,sl T 275,sl T 276,sl T 277,sl T 278,sl T 279,sl T 280,sl T 281,sl T 282,sl T 283,sl T 284,sl T 285,sl T 286,sl T 287,sl T 288,sl T 289,sl T 290,sl T 291,sl T 292,sl T 293,sl T 294,sl T 295,sl T 296,sl T 297,sl T 298] (AH.bump (AH.bump (AH.bump (AH.bump (AH.bump (AH.bump (AH.bump (AH.bump (AH.bump (AH.bump (AH.bump (AH.bump (AH.bump (AH.bump H6 1) 1) 1) 1) 2) 2) 2) 2) 2) 2) 2) 2) 2) 2) (blockK 1 (seqK (fun T H => wpC tab noExt c_detentlaw20_HandPlays_s1 T H K) K)))))))))))) (K (Ex.out 0) [sl T 0,sl T 1,sl T 2,sl T 3,sl T 4,sl T 5,sl T 6,sl T 7,sl T 8,sl T 9,sl T 10,sl T 11,sl T 12,sl T 13,sl T 14,sl T 15,sl T 16,sl T 17,sl T 18,sl T 19,sl T 20,sl T 21,sl T 22,sl T 23,sl T 24,sl T 25,sl T 26,sl T 27,sl T 28,sl T 29,sl T 30,sl T 31,sl T 32,sl T 33,sl T 34,sl T 35,sl T 36,sl T 37,sl T 38,sl T 39,sl T 40,sl T 41,sl T 42,sl T 43,sl T 44,sl T 45,sl T 46,sl T 47,sl T 48,sl T 49,sl T 50,sl T 51,sl T 52,sl T 53,sl T 54,sl T 55,sl T 56,sl T 57,sl T 9,sl T 1,v1,v2,sl T 62,sl T 63,sl T 64,sl T 65,sl T 66,sl T 67,sl T 68,sl T 69,sl T 70,sl T 71,sl T 72,sl T 73,sl T 74,sl T 75,sl T 76,sl T 77,sl T 78,sl T 79,sl T 80,sl T 81,sl T 82,sl T 83,sl T 84,sl T 85,sl T 86,sl T 87,sl T 88,sl T 89,sl T 90,sl T 91,sl T 92,sl T 93,sl T 94,sl T 95,sl T 96,sl T 97,sl T 98,sl T 99,sl T 100,sl T 101,sl T 102,sl T 103,sl T 104,sl T 105,sl T 106,sl T 107,sl T 108,sl T 109,sl T 110,sl T 111,sl T 112,sl T 113,sl T 114,sl T 115,sl T 116,sl T 117,sl T 118,sl T 119,sl T 120,sl T 121,sl T 122,sl T 123,sl T 124,sl T 125,sl T 126,sl T 127,sl T 128,sl T 129,sl T 130,sl T 131,sl T 132,sl T 133,sl T 134,sl T 135,sl T 136,sl T 137,sl T 138,sl T 139,sl T 140,sl T 141,sl T 142,sl T 143,sl T 144,sl T 145,sl T 146,sl T 147,sl T 148,sl T 149,sl T 150,sl T 151,sl T 152,sl T 153,sl T 154,sl T 155,sl T 156,sl T 157,sl T 158,sl T 159,sl T 160,sl T 161,sl T 162,sl T 163,sl T 164,sl T 165,sl T 166,sl T 167,sl T 168,sl T 169,sl T 170,sl T 171,sl T 172,sl T 173,sl T 174,sl T 175,sl T 176,sl T 177,sl T 178,sl T 179,sl T 180,sl T 181,sl T 182,sl T 183,sl T 184,sl T 185,sl T 186,sl T 187,sl T 188,sl T 189,sl T 190,sl T 191,sl T 192,sl T 193,sl T 194,sl T 195,sl T 196,sl T 197,sl T 198,sl T 199,sl T 200,sl T 201,sl T 202,sl T 203,sl T 204,sl T 205,sl T 206,sl T 207,sl T 208,sl T 209,sl T 210,sl T 211,sl T 212,sl T 213,sl T 214,sl T 215,sl T 216,sl T 217,sl T 218,sl T 219,sl T 220,sl T 221,sl T 222,sl T 223,sl T 224,sl T 225,sl T 226,sl T 227,sl T 228,sl T 229,sl T 230,sl T 231,sl T 232,sl T 233,sl T 234,sl T 235,sl T 236,sl T 237,sl T 238,sl T 239,sl T 240,sl T 241,sl T 242,sl T 243,sl T 244,sl T 245,sl T 246,sl T 247,sl T 248,sl T 249,sl T 250,sl T 251,sl T 252,sl T 253,sl T 254,sl T 255,sl T 256,sl T 257,sl T 258,sl T 259,sl T 260,sl T 261,sl T 262,sl T 263,sl T 264,sl T 265,sl T 266,sl T 267,sl T 268,sl T 269,sl T 270,sl T 271,sl T 272,sl T 273,sl T 274,sl T 275,sl T 276,sl T 277,sl T 278,sl T 279,sl T 280,sl T 281,sl T 282,sl T 283,sl T 284,sl T 285,sl T 286,sl T 287,sl T 288,sl T 289,sl T 290,sl T 291,sl T 292,sl T 293,sl T 294,sl T 295,sl T 296,sl T 297,sl T 298] (AH.bump H 4))) :=
  (congrArg (fun T => wpC tab noExt _ T H K) (sl_eta hT)).trans (by kernel_rfl)
theorem detentlaw20_HandPlays_s3_at {T : List AV} (hT : T.length = 299) (H : AH) (K : Ex → List AV → AH → Prop) :
  wpC tab noExt R.detentlaw20_HandPlays_s3 T H K = (K Ex.ret [sl T 0,sl T 1,sl T 2,sl T 3,(AV.s (SV.bool true)),sl T 5,sl T 6,sl T 7,sl T 8,sl T 9,sl T 10,sl T 11,sl T 12,sl T 13,sl T 14,sl T 15,sl T 16,sl T 17,sl T 18,sl T 19,sl T 20,sl T 21,sl T 22,sl T 23,sl T 24,sl T 25,sl T 26,sl T 27,sl T 28,sl T 29,sl T 30,sl T 31,sl T 32,sl T 33,sl T 34,sl T 35,sl T 36,sl T 37,sl T 38,sl T 39,sl T 40,sl T 41,sl T 42,sl T 43,sl T 44,sl T 45,sl T 46,sl T 47,sl T 48,sl T 49,sl T 50,sl T 51,sl T 52,sl T 53,sl T 54,sl T 55,sl T 56,sl T 57,sl T 58,sl T 59,sl T 60,sl T 61,sl T 62,sl T 63,sl T 64,sl T 65,sl T 66,sl T 67,sl T 68,sl T 69,sl T 70,sl T 71,sl T 72,sl T 73,sl T 74,sl T 75,sl T 76,sl T 77,sl T 78,sl T 79,sl T 80,sl T 81,sl T 82,sl T 83,sl T 84,sl T 85,sl T 86,sl T 87,sl T 88,sl T 89,sl T 90,sl T 91,sl T 92,sl T 93,sl T 94,sl T 95,sl T 96,sl T 97,sl T 98,sl T 99,sl T 100,sl T 101,sl T 102,sl T 103,sl T 104,sl T 105,sl T 106,sl T 107,sl T 108,sl T 109,sl T 110,sl T 111,sl T 112,sl T 113,sl T 114,sl T 115,sl T 116,sl T 117,sl T 118,sl T 119,sl T 120,sl T 121,sl T 122,sl T 123,sl T 124,sl T 125,sl T 126,sl T 127,sl T 128,sl T 129,sl T 130,sl T 131,sl T 132,sl T 133,sl T 134,sl T 135,sl T 136,sl T 137,sl T 138,sl T 139,sl T 140,sl T 141,sl T 142,sl T 143,sl T 144,sl T 145,sl T 146,sl T 147,sl T 148,sl T 149,sl T 150,sl T 151,sl T 152,sl T 153,sl T 154,sl T 155,sl T 156,sl T 157,sl T 158,sl T 159,sl T 160,sl T 161,sl T 162,sl T 163,sl T 164,sl T 165,sl T 166,sl T 167,sl T 168,sl T 169,sl T 170,sl T 171,sl T 172,sl T 173,sl T 174,sl T 175,sl T 176,sl T 177,sl T 178,sl T 179,sl T 180,sl T 181,sl T 182,sl T 183,sl T 184,sl T 185,sl T 186,sl T 187,sl T 188,sl T 189,sl T 190,sl T 191,sl T 192,sl T 193,sl T 194,sl T 195,sl T 196,sl T 197,sl T 198,sl T 199,sl T 200,sl T 201,sl T 202,sl T 203,sl T 204,sl T 205,sl T 206,sl T 207,sl T 208,sl T 209,sl T 210,sl T 211,sl T 212,sl T 213,sl T 214,sl T 215,sl T 216,sl T 217,sl T 218,sl T 219,sl T 220,sl T 221,sl T 222,sl T 223,sl T 224,sl T 225,sl T 226,sl T 227,sl T 228,sl T 229,sl T 230,sl T 231,sl T 232,sl T 233,sl T 234,sl T 235,sl T 236,sl T 237,sl T 238,sl T 239,sl T 240,sl T 241,sl T 242,sl T 243,sl T 244,sl T 245,sl T 246,sl T 247,sl T 248,sl T 249,sl T 250,sl T 251,sl T 252,sl T 253,sl T 254,sl T 255,sl T 256,sl T 257,sl T 258,sl T 259,sl T 260,sl T 261,sl T 262,sl T 263,sl T 264,sl T 265,sl T 266,sl T 267,sl T 268,sl T 269,sl T 270,sl T 271,sl T 272,sl T 273,sl T 274,sl T 275,sl T 276,sl T 277,sl T 278,sl T 279,sl T 280,sl T 281,sl T 282,sl T 283,sl T 284,sl T 285,sl T 286,sl T 287,sl T 288,sl T 289,sl T 290,sl T 291,sl T 292,sl T 293,sl T 294,sl T 295,sl T 296,sl T 297,sl T 298] (AH.bump H 1)) :=
  (congrArg (fun T => wpC tab noExt R.detentlaw20_HandPlays_s3 T H K) (sl_eta hT)).trans (by kernel_rfl)
theorem detentlaw20_HandPlays_call {a0 a1 : AV} {H : AH} {K : AV → AH → Prop} (h : CallP tab noExt F.detentlaw20_known [] (AH.bump (AH.bump H 1) 2) fun v1 H2 => andThen (unA .not v1) fun v3 => condP v3 (andThen (some (AV.s (SV.bool false))) fun v => K v (AH.bump H2 1)) (andThen (lenA a1) fun v4 => andThen (binA .gtr v4 (AV.s (SV.int .i64 80))) fun v5 => condP v5 (andThen (some (AV.s (SV.bool true))) fun v => K v (AH.bump (AH.bump H2 3) 1)) (CallP tab noExt F.cyc_NewHands [a0] (AH.bump (AH.bump H2 3) 7) fun v6 H7 => andThen (extractA 0 v6) fun v8 => andThen (extractA 1 v6) fun v9 => CallP tab noExt F.detentref20_New [a0] (AH.bump H7 7) fun v10 H11 => andThen (extractA 0 v10) fun v12 => andThen (extractA 1 v10) fun v13 => andThen (binA .neq v9 v13) fun v14 => gP (gd v14 false) (AH.bump H11 10) (fun k15 => k15 v8 (AH.bump H11 10)) fun v16 H17 => gP (gd v14 false) H17 (fun k18 => andThen (eqsA .ptr false v16 (AV.s (SV.ptr none))) fun v21 => k18 v21 H17) fun v19 H20 => gP (gd v14 false) H20 (fun k22 => k22 v13 H20) fun v23 H24 => gP (gd v14 false) H24 (fun k25 => andThen (binA .neq v23 (AV.s (SV.int .i64 0))) fun v28 => k25 v28 H24) fun v26 H27 => gP (gd v14 false) H27 (fun k29 => andThen (eqsA .bool true v19 v26) fun v32 => k29 v32 H27) fun v30 H31 => andThen (pickA v14 (AV.s (SV.bool true)) v30) fun v33 => condP v33 (andThen (some (AV.s (SV.bool false))) fun v => K v (AH.bump H31 1)) (andThen (eqsA .ptr false v12 (AV.s (SV.ptr none))) fun v34 => condP v34 (andThen (some (AV.s (SV.bool true))) fun v => K v (AH.bump (AH.bump H31 2) 1)) (loopP tab noExt R.detentlaw20_HandPlays_l2 [a0,a1,undef,undef,(AV.s (SV.bool false)),v8,v9,v12,v13,(AV.s (SV.int .i64 0)),undef,undef,undef,undef,undef,undef,undef,undef,undef,undef,undef,undef,undef,undef,undef,undef,undef,undef,undef,undef,undef,v1,v3,a1,v4,v5,v6,a0,v6,v8,v9,v10,a0,v10,v12,v13,v9,v13,v14,v14,v16,v19,v23,v26,v30,v33,v12,v34,undef,undef,undef,undef,undef,undef,undef,undef,undef,undef,undef,undef,undef,undef,undef,undef,undef,undef,undef,undef,undef,undef,undef,undef,undef,undef,undef,undef,undef,undef,undef,undef,undef,undef,undef,undef,undef,undef,undef,undef,undef,undef,undef,undef,undef,undef,undef,undef,undef,undef,undef,undef,undef,undef,undef,undef,undef,undef,undef,undef,undef,undef,undef,undef,undef,undef,undef,undef,undef,undef,undef,undef,undef,undef,undef,undef,undef,undef,undef,undef,undef,undef,undef,undef,undef,undef,undef,undef,undef,undef,undef,undef,undef,undef,undef,undef,undef,undef,undef,undef,undef,undef,undef,undef,undef,undef,undef,undef,undef,undef,undef,undef,undef,undef,undef,undef,undef,undef,undef,undef,undef,undef,undef,undef,undef,undef,undef,undef,undef,undef,undef,undef,undef,undef,undef,undef,undef,undef,undef,undef,undef,undef,undef,undef,undef,undef,undef,undef,undef,undef,undef,undef,undef,undef,undef,undef,undef,undef,undef,undef,undef,undef,undef,undef,undef,undef,undef,undef,undef,undef,undef,undef,undef,undef,undef,undef,undef,undef,undef,undef,undef,undef,undef,undef,undef,undef,undef,undef,undef,undef,undef,undef,undef,undef,undef,undef,undef,undef,undef,undef,undef,undef,undef,undef,undef,undef,undef,undef,undef,undef,undef,undef,undef,undef,undef,undef,undef,undef,undef,undef,undef,undef,undef,undef,undef,undef,undef,undef,undef,undef,undef,undef,undef,undef,undef,undef,undef,undef,undef,undef,undef] (AH.bump (AH.bump H31 2) 1) (blockK 0 (seqK (fun T H => wpC tab noExt R.detentlaw20_HandPlays_s3 T H (retK [.tmp 4] K)) (retK [.tmp 4] K)))))))) : CallP tab noExt F.detentlaw20_HandPlays [a0,a1] H K :=
  CallP_of tab_detentlaw20_HandPlays (cast (by kernel_rfl) h)
theorem detentlaw20_Fired_l0_at {T : List AV} (hT : T.length = 54) (H : AH) (K : Ex → List AV → AH → Prop) :
  wpC tab noExt R.detentlaw20_Fired_l0 T H K = (andThen (lenA (sl T 0)) fun v1 => andThen (binA .lss (sl T 5) v1) fun v2 => condP v2 (andThen (indexSlA 3 (sl T 0) (sl T 5)) fun v3 => andThen (fieldAddrA 0 v3) fun v4 => andThen (loadA none v4 (AH.bump (AH.bump H 4) 37)) fun v5 => andThen (indexSlA 3 (sl T 1) (sl T 5)) fun v6 => andThen (fieldAddrA 0 v6) fun v7 => andThen (loadA none v7 (AH.bump (AH.bump H 4) 37)) fun v8 => andThen (eqsA .bool true v5 v8) fun v9 => gP (gd v9 false) (AH.bump (AH.bump H 4) 37) (fun k10 => k10 (sl T 0) (AH.bump (AH.bump H 4) 37)) fun v11 H12 => gP (gd v9 false) H12 (fun k13 => k13 (sl T 5) H12) fun v14 H15 => gP (gd v9 false) H15 (fun k16 => andThen (indexSlA 3 v11 v14) fun v19 => k16 v19 H15) fun v17 H18 => gP (gd v9 false) H18 (fun k20 => andThen (fieldAddrA 1 v17) fun v23 => k20 v23 H18) fun v21 H22 => gP (gd v9 false) H22 (fun k24 => andThen (loadA none v21 H22) fun v27 => k24 v27 H22) fun v25 H26 => gP (gd v9 false) H26 (fun k28 => k28 (sl T 1) H26) fun v29 H30 => gP (gd v9 false) H30 (fun k31 => k31 (sl T 5) H30) fun v32 H33 => gP (gd v9 false) H33 (fun k34 => andThen (indexSlA 3 v29 v32) fun v37 => k34 v37 H33) fun v35 H36 => gP (gd v9 false) H36 (fun k38 => andThen (fieldAddrA 1 v35) fun v41 => k38 v41 H36) fun v39 H40 => gP (gd v9 false) H40 (fun k42 => andThen (loadA none v39 H40) fun v45 => k42 v45 H40) fun v43 H44 => gP (gd v9 false) H44 (fun k46 => andThen (binA .neq v25 v43) fun v49 => k46 v49 H44) fun v47 H48 => andThen (pickA v9 (AV.s (SV.bool true)) v47) fun v50 => gP (gd v50 false) H48 (fun k51 => k51 (sl T 0) H48) fun v52 H53 => gP (gd v50 false) H53 (fun k54 => k54 (sl T 5) H53) fun v55 H56 => gP (gd v50 false) H56 (fun k57 => andThen (indexSlA 3 v52 v55) fun v60 => k57 v60 H56) fun v58 H59 => gP (gd v50 false) H59 (fun k61 => andThen (fieldAddrA 2 v58) fun v64 => k61 v64 H59) fun v62 H63 => gP (gd v50 false) H63 (fun k65 => andThen (loadA none v62 H63) fun v68 => k65 v68 H63) fun v66 H67 => gP (gd v50 false) H67 (fun k69 => k69 (sl T 1) H67) fun v70 H71 => gP (gd v50 false) H71 (fun k72 => k72 (sl T 5) H71) fun v73 H74 => gP (gd v50 false) H74 (fun k75 => andThen (indexSlA 3 v70 v73) fun v78 => k75 v78 H74) fun v76 H77 => gP (gd v50 false) H77 (fun k79 => andThen (fieldAddrA 2 v76) fun v82 => k79 v82 H77) fun v80 H81 => gP (gd v50 false) H81 (fun k83 => andThen (loadA none v80 H81) fun v86 => k83 v86 H81) fun v84 H85 => gP (gd v50 false) H85 (fun k87 => andThen (binA .neq v66 v84) fun v90 => k87 v90 H85) fun v88 H89 => andThen (pickA v50 (AV.s (SV.bool true)) v88) fun v91 => condP v91 (K Ex.ret [sl T 0,sl T 1,sl T 2,sl T 3,(AV.s (SV.bool false)),sl T 5,sl T 6,sl T 7,sl T 8,sl T 9,sl T 10,sl T 5,sl T 0,v1,v2,sl T 15,sl T 16,sl T 0,sl T 5,v3,v4,v5,sl T 1,sl T 5,v6,v7,v8,v9,v9,v11,v14,v17,v21,v25,v29,v32,v35,v39,v43,v47,v50,v50,v52,v55,v58,v62,v66,v70,v73,v76,v80,v84,v88,v91] (AH.bump H89 1)) (andThen (binA .add (sl T 5) (AV.s (SV.int .i64 1))) fun v92 => K Ex.norm [sl T 0,sl T 1,sl T 2,sl T 3,sl T 4,v92,sl T 6,sl T 7,sl T 8,sl T 9,sl T 10,sl T 5,sl T 0,v1,v2,sl T 5,v92,sl T 0,sl T 5,v3,v4,v5,sl T 1,sl T 5,v6,v7,v8,v9,v9,v11,v14,v17,v21,v25,v29,v32,v35,v39,v43,v47,v50,v50,v52,v55,v58,v62,v66,v70,v73,v76,v80,v84,v88,v91] (AH.bump H89 3))) (K (Ex.out 0) [sl T 0,sl T 1,sl T 2,sl T 3,sl T 4,sl T 5,sl T 6,sl T 7,sl T 8,sl T 9,sl T 10,sl T 5,sl T 0,v1,v2,sl T 15,sl T 16,sl T 17,sl T 18,sl T 19,sl T 20,sl T 21,sl T 22,sl T 23,sl T 24,sl T 25,sl T 26,sl T 27,sl T 28,sl T 29,sl T 30,sl T 31,sl T 32,sl T 33,sl T 34,sl T 35,sl T 36,sl T 37,sl T 38,sl T 39,sl T 40,sl T 41,sl T 42,sl T 43,sl T 44,sl T 45,sl T 46,sl T 47,sl T 48,sl T 49,sl T 50,sl T 51,sl T 52,sl T 53] (AH.bump H 4))) :=
  (congrArg (fun T => wpC tab noExt R.detentlaw20_Fired_l0 T H K) (sl_eta hT)).trans (by kernel_rfl)
theorem detentlaw20_Fired_s1_at {T : List AV} (hT : T.length = 54) (H : AH) (K : Ex → List AV → AH → Prop) :
  wpC tab noExt R.detentlaw20_Fired_s1 T H K = (K Ex.ret [sl T 0,sl T 1,sl T 2,sl T 3,(AV.s (SV.bool true)),sl T 5,sl T 6,sl T 7,sl T 8,sl T 9,sl T 10,sl T 11,sl T 12,sl T 13,sl T 14,sl T 15,sl T 16,sl T 17,sl T 18,sl T 19,sl T 20,sl T 21,sl T 22,sl T 23,sl T 24,sl T 25,sl T 26,sl T 27,sl T 28,sl T 29,sl T 30,sl T 31,sl T 32,sl T 33,sl T 34,sl T 35,sl T 36,sl T 37,sl T 38,sl T 39,sl T 40,sl T 41,sl T 42,sl T 43,sl T 44,sl T 45,sl T 46,sl T 47,sl T 48,sl T 49,sl T 50,sl T 51,sl T 52,sl T 53] (AH.bump H 1)) :=
  (congrArg (fun T => wpC tab noExt R.detentlaw20_Fired_s1 T H K) (sl_eta hT)).trans (by kernel_rfl)
theorem detentlaw20_Fired_call {a0 a1 : AV} {H : AH} {K : AV → AH → Prop} (h : andThen (lenA a0) fun v1 => andThen (lenA a1) fun v2 => andThen (binA .neq v1 v2) fun v3 => condP v3 (andThen (some (AV.s (SV.bool false))) fun v => K v (AH.bump (AH.bump (AH.bump H 1) 5) 1)) (loopP tab noExt R.detentlaw20_Fired_l0 [a0,a1,undef,undef,(AV.s (SV.bool false)),(AV.s (SV.int .i64 0)),a0,v1,a1,v2,v3,undef,undef,undef,undef,undef,undef,undef,undef,undef,undef,undef,undef,undef,undef,undef,undef,undef,undef,undef,undef,undef,undef,undef,undef,undef,undef,undef,undef,undef,undef,undef,undef,undef,undef,undef,undef,undef,undef,undef,undef,undef,undef,undef] (AH.bump (AH.bump (AH.bump H 1) 5) 1) (blockK 0 (seqK (fun T H => wpC tab noExt R.detentlaw20_Fired_s1 T H (retK [.tmp 4] K)) (retK [.tmp 4] K))))) : CallP tab noExt F.detentlaw20_Fired [a0,a1] H K :=
  CallP_of tab_detentlaw20_Fired (cast (by kernel_rfl) h)
theorem detentlaw3_Same_l0_at {T : List AV} (hT : T.length = 26) (H : AH) (K : Ex → List AV → AH → Prop) :
  wpC tab noExt R.detentlaw3_Same_l0 T H K = (andThen (lenA (sl T 0)) fun v1 => andThen (binA .lss (sl T 5) v1) fun v2 => condP v2 (andThen (indexSlA 1 (sl T 0) (sl T 5)) fun v3 => andThen (loadA none v3 (AH.bump (AH.bump H 4) 9)) fun v4 => andThen (indexSlA 1 (sl T 1) (sl T 5)) fun v5 => andThen (loadA none v5 (AH.bump (AH.bump H 4) 9)) fun v6 => andThen (binA .neq v4 v6) fun v7 => condP v7 (K Ex.ret [sl T 0,sl T 1,sl T 2,sl T 3,(AV.s (SV.bool false)),sl T 5,sl T 6,sl T 7,sl T 8,sl T 9,sl T 10,sl T 5,sl T 0,v1,v2,sl T 15,sl T 16,sl T 0,sl T 5,v3,v4,sl T 1,sl T 5,v5,v6,v7] (AH.bump (AH.bump (AH.bump H 4) 9) 1)) (andThen (binA .add (sl T 5) (AV.s (SV.int .i64 1))) fun v8 => K Ex.norm [sl T 0,sl T 1,sl T 2,sl T 3,sl T 4,v8,sl T 6,sl T 7,sl T 8,sl T 9,sl T 10,sl T 5,sl T 0,v1,v2,sl T 5,v8,sl T 0,sl T 5,v3,v4,sl T 1,sl T 5,v5,v6,v7] (AH.bump (AH.bump (AH.bump H 4) 9) 3))) (K (Ex.out 0) [sl T 0,sl T 1,sl T 2,sl T 3,sl T 4,sl T 5,sl T 6,sl T 7,sl T 8,sl T 9,sl T 10,sl T 5,sl T 0,v1,v2,sl T 15,sl T 16,sl T 17,sl T 18,sl T 19,sl T 20,sl T 21,sl T 22,sl T 23,sl T 24,sl T 25] (AH.bump H 4))) :=
  (congrArg (fun T => wpC tab noExt R.detentlaw3_Same_l0 T H K) (sl_eta hT)).trans (by kernel_rfl)
theorem detentlaw3_Same_s1_at {T : List AV} (hT : T.length = 26) (H : AH) (K : Ex → List AV → AH → Prop) :
  wpC tab noExt R.detentlaw3_Same_s1 T H K = (K Ex.ret [sl T 0,sl T 1,sl T 2,sl T 3,(AV.s (SV.bool true)),sl T 5,sl T 6,sl T 7,sl T 8,sl T 9,sl T 10,sl T 11,sl T 12,sl T 13,sl T 14,sl T 15,sl T 16,sl T 17,sl T 18,sl T 19,sl T 20,sl T 21,sl T 22,sl T 23,sl T 24,sl T 25] (AH.bump H 1)) :=
  (congrArg (fun T => wpC tab noExt R.detentlaw3_Same_s1 T H K) (sl_eta hT)).trans (by kernel_rfl)
theorem detentlaw3_Same_call {a0 a1 : AV} {H : AH} {K : AV → AH → Prop} (h : andThen (lenA a0) fun v1 => andThen (lenA a1) fun v2 => andThen (binA .neq v1 v2) fun v3 => condP v3 (andThen (some (AV.s (SV.bool false))) fun v => K v (AH.bump (AH.bump (AH.bump H 1) 5) 1)) (loopP tab noExt R.detentlaw3_Same_l0 [a0,a1,undef,undef,(AV.s (SV.bool false)),(AV.s (SV.int .i64 0)),a0,v1,a1,v2,v3,undef,undef,undef,undef,undef,undef,undef,undef,undef,undef,undef,undef,undef,undef,undef] (AH.bump (AH.bump (AH.bump H 1) 5) 1) (blockK 0 (seqK (fun T H => wpC tab noExt R.detentlaw3_Same_s1 T H (retK [.tmp 4] K)) (retK [.tmp 4] K))))) : CallP tab noExt F.detentlaw3_Same [a0,a1] H K :=
  CallP_of tab_detentlaw3_Same (cast (by kernel_rfl) h)
end Go.AM
