/-
  The table of the functions' codes.
-/
import Derived.Test.YtinlhpgfoojneaaRc0
import Derived.Test.YtinlhpgfoojneaaRc1
set_option maxRecDepth 100000
namespace Go.AM
def tabL : List (Option RFunc) := [none, none, none, some R.detentlaw15_MutexChain, some R.detentlaw15_MutexPasses, some R.detentlaw15_MutexRing, some R.detentlaw15_MutexOwns, some R.detentlaw15_MutexCeilings, some R.detentlaw15_MutexFrees, some R.detentlaw15_MutexPlays, some R.detentlaw15_known, some R.mtx_New, some R.mtx_All_SetBase, some R.mtx_All_Lock, some R.mtx_All_Pri, some R.mtx_All_Unlock, some R.mtx_All_Owner, some R.mtx_All_TryLock, some R.mtx_All_Waiting, some R.mtx_All_Free, some R.mtx_All_Held, some R.detentref15_New, some R.detentlaw15_Kinds, some R.detentref15_All_Lock, some R.detentref15_All_TryLock, some R.detentref15_All_Unlock, some R.detentref15_All_SetBase, some R.mtx_All_Drop, some R.detentref15_All_Drop, some R.detentlaw3_Same, some R.detentref15_All_Free, some R.mtx_All_Twin, some R.detentlaw15_same, some R.mtx_All_Base, some R.mtx_Kind_right, some R.mtx_is, some R.mtx_may, some R.mtx_All_settle, some R.mtx_All_over, some R.mtx_All_stand, some R.mtx_All_in, some R.slices_Delete__int_int, some R.slices_Clip__int_int, some R.slices_Clone__int_int, some R.detentref15_All_try, some R.detentref15_All_round, some R.detentref4_Queue_Add, some R.detentref15_All_Pri, some R.detentref15_All_settle, some R.detentref15_All_mutex, some R.detentref15_is, some R.detentref15_All_pass, some R.detentref4_Queue_At, some R.slices_DeleteFunc__int_int, some R.mtx_All_Drop_1, some R.detentref15_All_waits, some R.detentref4_Queue_Remove, some R.slices_Clone__mtx_mutex_mtx_mutex, some R.detentref4_Queue_IDs, some R.detentref15_All_Held, some R.mtx_All_reckon, some R.mtx_All_leave, some R.mtx_All_rejoin, some R.slices_Insert__int_int, some R.detentref4_Good, some R.detentref4_Queue_put, some R.detentref15_All_pri, some R.detentref4_Queue_Change, some R.detentref4_Queue_Take, some R.slices_IndexFunc__int_int, some R.mtx_All_leave_1, none, some R.slices_rotateRight_int, some R.slices_rotateLeft_int, some R.slices_Reverse__int_int]
def tab (f : Nat) : Option RFunc := (tabL[f]?).join
theorem tab_ok : TabOk Go.Proofs.Try.prog [] tab := tabOk_of (l := tabL) (⟨⟨_, Go.Proofs.Try.func3, R.detentlaw15_MutexChain_ok⟩, ⟨⟨_, Go.Proofs.Try.func4, R.detentlaw15_MutexPasses_ok⟩, ⟨⟨_, Go.Proofs.Try.func5, R.detentlaw15_MutexRing_ok⟩, ⟨⟨_, Go.Proofs.Try.func6, R.detentlaw15_MutexOwns_ok⟩, ⟨⟨_, Go.Proofs.Try.func7, R.detentlaw15_MutexCeilings_ok⟩, ⟨⟨_, Go.Proofs.Try.func8, R.detentlaw15_MutexFrees_ok⟩, ⟨⟨_, Go.Proofs.Try.func9, R.detentlaw15_MutexPlays_ok⟩, ⟨⟨_, Go.Proofs.Try.func10, R.detentlaw15_known_ok⟩, ⟨⟨_, Go.Proofs.Try.func11, R.mtx_New_ok⟩, ⟨⟨_, Go.Proofs.Try.func12, R.mtx_All_SetBase_ok⟩, ⟨⟨_, Go.Proofs.Try.func13, R.mtx_All_Lock_ok⟩, ⟨⟨_, Go.Proofs.Try.func14, R.mtx_All_Pri_ok⟩, ⟨⟨_, Go.Proofs.Try.func15, R.mtx_All_Unlock_ok⟩, ⟨⟨_, Go.Proofs.Try.func16, R.mtx_All_Owner_ok⟩, ⟨⟨_, Go.Proofs.Try.func17, R.mtx_All_TryLock_ok⟩, ⟨⟨_, Go.Proofs.Try.func18, R.mtx_All_Waiting_ok⟩, ⟨⟨_, Go.Proofs.Try.func19, R.mtx_All_Free_ok⟩, ⟨⟨_, Go.Proofs.Try.func20, R.mtx_All_Held_ok⟩, ⟨⟨_, Go.Proofs.Try.func21, R.detentref15_New_ok⟩, ⟨⟨_, Go.Proofs.Try.func22, R.detentlaw15_Kinds_ok⟩, ⟨⟨_, Go.Proofs.Try.func23, R.detentref15_All_Lock_ok⟩, ⟨⟨_, Go.Proofs.Try.func24, R.detentref15_All_TryLock_ok⟩, ⟨⟨_, Go.Proofs.Try.func25, R.detentref15_All_Unlock_ok⟩, ⟨⟨_, Go.Proofs.Try.func26, R.detentref15_All_SetBase_ok⟩, ⟨⟨_, Go.Proofs.Try.func27, R.mtx_All_Drop_ok⟩, ⟨⟨_, Go.Proofs.Try.func28, R.detentref15_All_Drop_ok⟩, ⟨⟨_, Go.Proofs.Try.func29, R.detentlaw3_Same_ok⟩, ⟨⟨_, Go.Proofs.Try.func30, R.detentref15_All_Free_ok⟩, ⟨⟨_, Go.Proofs.Try.func31, R.mtx_All_Twin_ok⟩, ⟨⟨_, Go.Proofs.Try.func32, R.detentlaw15_same_ok⟩, ⟨⟨_, Go.Proofs.Try.func33, R.mtx_All_Base_ok⟩, ⟨⟨_, Go.Proofs.Try.func34, R.mtx_Kind_right_ok⟩, ⟨⟨_, Go.Proofs.Try.func35, R.mtx_is_ok⟩, ⟨⟨_, Go.Proofs.Try.func36, R.mtx_may_ok⟩, ⟨⟨_, Go.Proofs.Try.func37, R.mtx_All_settle_ok⟩, ⟨⟨_, Go.Proofs.Try.func38, R.mtx_All_over_ok⟩, ⟨⟨_, Go.Proofs.Try.func39, R.mtx_All_stand_ok⟩, ⟨⟨_, Go.Proofs.Try.func40, R.mtx_All_in_ok⟩, ⟨⟨_, Go.Proofs.Try.func41, R.slices_Delete__int_int_ok⟩, ⟨⟨_, Go.Proofs.Try.func42, R.slices_Clip__int_int_ok⟩, ⟨⟨_, Go.Proofs.Try.func43, R.slices_Clone__int_int_ok⟩, ⟨⟨_, Go.Proofs.Try.func44, R.detentref15_All_try_ok⟩, ⟨⟨_, Go.Proofs.Try.func45, R.detentref15_All_round_ok⟩, ⟨⟨_, Go.Proofs.Try.func46, R.detentref4_Queue_Add_ok⟩, ⟨⟨_, Go.Proofs.Try.func47, R.detentref15_All_Pri_ok⟩, ⟨⟨_, Go.Proofs.Try.func48, R.detentref15_All_settle_ok⟩, ⟨⟨_, Go.Proofs.Try.func49, R.detentref15_All_mutex_ok⟩, ⟨⟨_, Go.Proofs.Try.func50, R.detentref15_is_ok⟩, ⟨⟨_, Go.Proofs.Try.func51, R.detentref15_All_pass_ok⟩, ⟨⟨_, Go.Proofs.Try.func52, R.detentref4_Queue_At_ok⟩, ⟨⟨_, Go.Proofs.Try.func53, R.slices_DeleteFunc__int_int_ok⟩, ⟨⟨_, Go.Proofs.Try.func54, R.mtx_All_Drop_1_ok⟩, ⟨⟨_, Go.Proofs.Try.func55, R.detentref15_All_waits_ok⟩, ⟨⟨_, Go.Proofs.Try.func56, R.detentref4_Queue_Remove_ok⟩, ⟨⟨_, Go.Proofs.Try.func57, R.slices_Clone__mtx_mutex_mtx_mutex_ok⟩, ⟨⟨_, Go.Proofs.Try.func58, R.detentref4_Queue_IDs_ok⟩, ⟨⟨_, Go.Proofs.Try.func59, R.detentref15_All_Held_ok⟩, ⟨⟨_, Go.Proofs.Try.func60, R.mtx_All_reckon_ok⟩, ⟨⟨_, Go.Proofs.Try.func61, R.mtx_All_leave_ok⟩, ⟨⟨_, Go.Proofs.Try.func62, R.mtx_All_rejoin_ok⟩, ⟨⟨_, Go.Proofs.Try.func63, R.slices_Insert__int_int_ok⟩, ⟨⟨_, Go.Proofs.Try.func64, R.detentref4_Good_ok⟩, ⟨⟨_, Go.Proofs.Try.func65, R.detentref4_Queue_put_ok⟩, ⟨⟨_, Go.Proofs.Try.func66, R.detentref15_All_pri_ok⟩, ⟨⟨_, Go.Proofs.Try.func67, R.detentref4_Queue_Change_ok⟩, ⟨⟨_, Go.Proofs.Try.func68, R.detentref4_Queue_Take_ok⟩, ⟨⟨_, Go.Proofs.Try.func69, R.slices_IndexFunc__int_int_ok⟩, ⟨⟨_, Go.Proofs.Try.func70, R.mtx_All_leave_1_ok⟩, ⟨⟨_, Go.Proofs.Try.func72, R.slices_rotateRight_int_ok⟩, ⟨⟨_, Go.Proofs.Try.func73, R.slices_rotateLeft_int_ok⟩, ⟨⟨_, Go.Proofs.Try.func74, R.slices_Reverse__int_int_ok⟩, trivial⟩⟩⟩⟩⟩⟩⟩⟩⟩⟩⟩⟩⟩⟩⟩⟩⟩⟩⟩⟩⟩⟩⟩⟩⟩⟩⟩⟩⟩⟩⟩⟩⟩⟩⟩⟩⟩⟩⟩⟩⟩⟩⟩⟩⟩⟩⟩⟩⟩⟩⟩⟩⟩⟩⟩⟩⟩⟩⟩⟩⟩⟩⟩⟩⟩⟩⟩⟩⟩⟩⟩)
theorem tab_wf : TabWf tab := tabWf_of (l := tabL) (by kernel_rfl)
theorem tab_detentlaw15_MutexChain : tab F.detentlaw15_MutexChain = some R.detentlaw15_MutexChain := rfl
theorem tab_detentlaw15_MutexPasses : tab F.detentlaw15_MutexPasses = some R.detentlaw15_MutexPasses := rfl
theorem tab_detentlaw15_MutexRing : tab F.detentlaw15_MutexRing = some R.detentlaw15_MutexRing := rfl
theorem tab_detentlaw15_MutexOwns : tab F.detentlaw15_MutexOwns = some R.detentlaw15_MutexOwns := rfl
theorem tab_detentlaw15_MutexCeilings : tab F.detentlaw15_MutexCeilings = some R.detentlaw15_MutexCeilings := rfl
theorem tab_detentlaw15_MutexFrees : tab F.detentlaw15_MutexFrees = some R.detentlaw15_MutexFrees := rfl
theorem tab_detentlaw15_MutexPlays : tab F.detentlaw15_MutexPlays = some R.detentlaw15_MutexPlays := rfl
theorem tab_detentlaw15_Kinds : tab F.detentlaw15_Kinds = some R.detentlaw15_Kinds := rfl
theorem tab_detentlaw3_Same : tab F.detentlaw3_Same = some R.detentlaw3_Same := rfl
theorem tab_detentlaw15_known : tab F.detentlaw15_known = some R.detentlaw15_known := rfl
theorem tab_mtx_New : tab F.mtx_New = some R.mtx_New := rfl
theorem tab_mtx_All_SetBase : tab F.mtx_All_SetBase = some R.mtx_All_SetBase := rfl
theorem tab_mtx_All_Lock : tab F.mtx_All_Lock = some R.mtx_All_Lock := rfl
theorem tab_mtx_All_Pri : tab F.mtx_All_Pri = some R.mtx_All_Pri := rfl
theorem tab_mtx_All_Unlock : tab F.mtx_All_Unlock = some R.mtx_All_Unlock := rfl
theorem tab_mtx_All_Owner : tab F.mtx_All_Owner = some R.mtx_All_Owner := rfl
theorem tab_mtx_All_TryLock : tab F.mtx_All_TryLock = some R.mtx_All_TryLock := rfl
theorem tab_mtx_All_Waiting : tab F.mtx_All_Waiting = some R.mtx_All_Waiting := rfl
theorem tab_mtx_All_Free : tab F.mtx_All_Free = some R.mtx_All_Free := rfl
theorem tab_mtx_All_Held : tab F.mtx_All_Held = some R.mtx_All_Held := rfl
theorem tab_detentref15_New : tab F.detentref15_New = some R.detentref15_New := rfl
theorem tab_detentref15_All_Lock : tab F.detentref15_All_Lock = some R.detentref15_All_Lock := rfl
theorem tab_detentref15_All_TryLock : tab F.detentref15_All_TryLock = some R.detentref15_All_TryLock := rfl
theorem tab_detentref15_All_Unlock : tab F.detentref15_All_Unlock = some R.detentref15_All_Unlock := rfl
theorem tab_detentref15_All_SetBase : tab F.detentref15_All_SetBase = some R.detentref15_All_SetBase := rfl
theorem tab_mtx_All_Drop : tab F.mtx_All_Drop = some R.mtx_All_Drop := rfl
theorem tab_detentref15_All_Drop : tab F.detentref15_All_Drop = some R.detentref15_All_Drop := rfl
theorem tab_detentref15_All_Free : tab F.detentref15_All_Free = some R.detentref15_All_Free := rfl
theorem tab_mtx_All_Twin : tab F.mtx_All_Twin = some R.mtx_All_Twin := rfl
theorem tab_detentlaw15_same : tab F.detentlaw15_same = some R.detentlaw15_same := rfl
theorem tab_mtx_All_Base : tab F.mtx_All_Base = some R.mtx_All_Base := rfl
theorem tab_mtx_Kind_right : tab F.mtx_Kind_right = some R.mtx_Kind_right := rfl
theorem tab_mtx_is : tab F.mtx_is = some R.mtx_is := rfl
theorem tab_mtx_may : tab F.mtx_may = some R.mtx_may := rfl
theorem tab_mtx_All_settle : tab F.mtx_All_settle = some R.mtx_All_settle := rfl
theorem tab_mtx_All_over : tab F.mtx_All_over = some R.mtx_All_over := rfl
theorem tab_mtx_All_stand : tab F.mtx_All_stand = some R.mtx_All_stand := rfl
theorem tab_mtx_All_in : tab F.mtx_All_in = some R.mtx_All_in := rfl
theorem tab_slices_Delete__int_int : tab F.slices_Delete__int_int = some R.slices_Delete__int_int := rfl
theorem tab_slices_Clip__int_int : tab F.slices_Clip__int_int = some R.slices_Clip__int_int := rfl
theorem tab_slices_Clone__int_int : tab F.slices_Clone__int_int = some R.slices_Clone__int_int := rfl
theorem tab_detentref15_All_try : tab F.detentref15_All_try = some R.detentref15_All_try := rfl
theorem tab_detentref15_All_round : tab F.detentref15_All_round = some R.detentref15_All_round := rfl
theorem tab_detentref4_Queue_Add : tab F.detentref4_Queue_Add = some R.detentref4_Queue_Add := rfl
theorem tab_detentref15_All_Pri : tab F.detentref15_All_Pri = some R.detentref15_All_Pri := rfl
theorem tab_detentref15_All_settle : tab F.detentref15_All_settle = some R.detentref15_All_settle := rfl
theorem tab_detentref15_All_mutex : tab F.detentref15_All_mutex = some R.detentref15_All_mutex := rfl
theorem tab_detentref15_is : tab F.detentref15_is = some R.detentref15_is := rfl
theorem tab_detentref15_All_pass : tab F.detentref15_All_pass = some R.detentref15_All_pass := rfl
theorem tab_detentref4_Queue_At : tab F.detentref4_Queue_At = some R.detentref4_Queue_At := rfl
theorem tab_slices_DeleteFunc__int_int : tab F.slices_DeleteFunc__int_int = some R.slices_DeleteFunc__int_int := rfl
theorem tab_mtx_All_Drop_1 : tab F.mtx_All_Drop_1 = some R.mtx_All_Drop_1 := rfl
theorem tab_detentref15_All_waits : tab F.detentref15_All_waits = some R.detentref15_All_waits := rfl
theorem tab_detentref4_Queue_Remove : tab F.detentref4_Queue_Remove = some R.detentref4_Queue_Remove := rfl
theorem tab_slices_Clone__mtx_mutex_mtx_mutex : tab F.slices_Clone__mtx_mutex_mtx_mutex = some R.slices_Clone__mtx_mutex_mtx_mutex := rfl
theorem tab_detentref4_Queue_IDs : tab F.detentref4_Queue_IDs = some R.detentref4_Queue_IDs := rfl
theorem tab_detentref15_All_Held : tab F.detentref15_All_Held = some R.detentref15_All_Held := rfl
theorem tab_mtx_All_reckon : tab F.mtx_All_reckon = some R.mtx_All_reckon := rfl
theorem tab_mtx_All_leave : tab F.mtx_All_leave = some R.mtx_All_leave := rfl
theorem tab_mtx_All_rejoin : tab F.mtx_All_rejoin = some R.mtx_All_rejoin := rfl
theorem tab_slices_Insert__int_int : tab F.slices_Insert__int_int = some R.slices_Insert__int_int := rfl
theorem tab_detentref4_Good : tab F.detentref4_Good = some R.detentref4_Good := rfl
theorem tab_detentref4_Queue_put : tab F.detentref4_Queue_put = some R.detentref4_Queue_put := rfl
theorem tab_detentref15_All_pri : tab F.detentref15_All_pri = some R.detentref15_All_pri := rfl
theorem tab_detentref4_Queue_Change : tab F.detentref4_Queue_Change = some R.detentref4_Queue_Change := rfl
theorem tab_detentref4_Queue_Take : tab F.detentref4_Queue_Take = some R.detentref4_Queue_Take := rfl
theorem tab_slices_IndexFunc__int_int : tab F.slices_IndexFunc__int_int = some R.slices_IndexFunc__int_int := rfl
theorem tab_mtx_All_leave_1 : tab F.mtx_All_leave_1 = some R.mtx_All_leave_1 := rfl
theorem tab_slices_rotateRight_int : tab F.slices_rotateRight_int = some R.slices_rotateRight_int := rfl
theorem tab_slices_rotateLeft_int : tab F.slices_rotateLeft_int = some R.slices_rotateLeft_int := rfl
theorem tab_slices_Reverse__int_int : tab F.slices_Reverse__int_int = some R.slices_Reverse__int_int := rfl
end Go.AM
