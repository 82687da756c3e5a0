/-
  The code of the functions, as the abstract machine has it; it is the program's.
-/
import Derived.Test.YtlkpeondecnhnaaDoorAmO
import Derived.Test.YtlkpeondecnhnaaDoorIds
import Derived.Test.YtlkpeondecnhnaaDoorProg
import Derived.KernelRfl
set_option maxRecDepth 100000
namespace Go.AM.R
open Go.AM
def detentref9_Queue_All_l0 : RC :=
  RC.seq (RC.seq (RC.region 2 [
    ⟨(some 5), .move (.t 4), none, 0, []⟩,
    ⟨(some 6), .bin .leq (.t 5) (.c (.s (.int .i64 16))), none, 1, []⟩]) (RC.cond (.t 6) (RC.skip) (RC.exit 0))) (RC.seq (RC.block 1 (RC.region 9 [
    ⟨(some 9), .move (.t 3), none, 0, []⟩,
    ⟨(some 10), .move (.t 0), none, 1, []⟩,
    ⟨(some 11), .move (.t 4), none, 2, []⟩,
    ⟨(some 12), .nilCheck (.t 10), none, 3, []⟩,
    ⟨(some 13), .fieldAddr 0 (.t 12), none, 4, []⟩,
    ⟨(some 14), .indexArr 17 1 (.t 13) (.t 11), none, 5, []⟩,
    ⟨(some 15), .load none (.t 14), none, 6, []⟩,
    ⟨(some 16), .append 1 8 (.t 9) (.t 15), none, 7, []⟩,
    ⟨(some 3), .move (.t 16), none, 8, []⟩])) (RC.region 3 [
    ⟨(some 7), .move (.t 4), none, 0, []⟩,
    ⟨(some 8), .bin .add (.t 7) (.c (.s (.int .i64 1))), none, 1, []⟩,
    ⟨(some 4), .move (.t 8), none, 2, []⟩]))
def detentref9_Queue_All_s1 : RC :=
  RC.seq (RC.region 2 [
    ⟨(some 17), .move (.t 3), none, 0, []⟩,
    ⟨(some 2), .move (.t 17), none, 1, []⟩]) (RC.ret)
def detentref9_Queue_All : RFunc := RFunc.mk 18 [.tmp 2] (
  RC.seq (RC.region 1 [
    ⟨(some 2), .move (.c (.s (.slice none 0 0 1))), none, 0, []⟩]) (RC.seq (RC.region 1 [
    ⟨(some 3), .move (.c (.s (.slice none 0 0 1))), none, 0, []⟩]) (RC.seq (RC.seq (RC.region 1 [
    ⟨(some 4), .move (.c (.s (.int .i64 1))), none, 0, []⟩]) (RC.block 0 (RC.loop R.detentref9_Queue_All_l0))) R.detentref9_Queue_All_s1)))
theorem detentref9_Queue_All_ok : chkFunc Go.Proofs.Tryd.prog [0] Go.Proofs.Tryd.f50 detentref9_Queue_All = true := by kernel_rfl
end Go.AM.R
