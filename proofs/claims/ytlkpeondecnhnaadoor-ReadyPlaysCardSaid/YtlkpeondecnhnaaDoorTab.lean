/-
  The table of the functions' codes.
-/
import Derived.Test.YtlkpeondecnhnaaDoorRc0
import Derived.Test.YtlkpeondecnhnaaDoorRc1
set_option maxRecDepth 100000
namespace Go.AM
def tabL : List (Option RFunc) := [none, none, none, some R.detentlaw5_BitsPlays, some R.detentlaw5_BitsWalks, some R.detentlaw5_BitsBack, some R.detentlaw5_BitsEnds, some R.detentlaw9_ReadyTurns, some R.detentlaw9_ReadyRefuses, some R.detentlaw9_ReadyFirst, some R.detentlaw9_ReadyAgain, some R.detentlaw9_ReadyPlays, some R.detentlaw5_known, some R.bits_Map_Set, some R.bits_Map_Clear, some R.bits_Map_Has, some R.bits_Map_First, some R.bits_Map_After, some R.bits_Map_Row, some R.bits_Map_Len, some R.detentlaw9_known, some R.ready_New, some R.ready_Queue_Add, some R.ready_Queue_All, some R.ready_Queue_Row, some R.ready_Queue_Rotate, some R.detentlaw3_Same, some R.ready_Queue_Pri, some R.ready_Queue_First, some R.ready_Queue_Remove, some R.ready_Queue_Change, some R.detentref9_Queue_Add, some R.detentref9_Queue_Remove, some R.detentref9_Queue_Change, some R.detentref9_Queue_Rotate, some R.ready_Queue_Twin, some R.detentlaw9_same, some R.bits_place, some R.math_bits_TrailingZeros64, some R.math_bits_OnesCount64, some R.ready_task, some R.ready_may, some R.ready_Queue_put, some R.slices_Clip__int_int, some R.slices_Clone__int_int, some R.slices_Index__int_int, some R.slices_Delete__int_int, some R.detentref9_good, some R.detentref9_Queue_Pri, some R.detentref9_Queue_First, some R.detentref9_Queue_All]
def tab (f : Nat) : Option RFunc := (tabL[f]?).join
theorem tab_ok : TabOk Go.Proofs.Tryd.prog [0] tab := tabOk_of (l := tabL) (⟨⟨_, Go.Proofs.Tryd.func3, R.detentlaw5_BitsPlays_ok⟩, ⟨⟨_, Go.Proofs.Tryd.func4, R.detentlaw5_BitsWalks_ok⟩, ⟨⟨_, Go.Proofs.Tryd.func5, R.detentlaw5_BitsBack_ok⟩, ⟨⟨_, Go.Proofs.Tryd.func6, R.detentlaw5_BitsEnds_ok⟩, ⟨⟨_, Go.Proofs.Tryd.func7, R.detentlaw9_ReadyTurns_ok⟩, ⟨⟨_, Go.Proofs.Tryd.func8, R.detentlaw9_ReadyRefuses_ok⟩, ⟨⟨_, Go.Proofs.Tryd.func9, R.detentlaw9_ReadyFirst_ok⟩, ⟨⟨_, Go.Proofs.Tryd.func10, R.detentlaw9_ReadyAgain_ok⟩, ⟨⟨_, Go.Proofs.Tryd.func11, R.detentlaw9_ReadyPlays_ok⟩, ⟨⟨_, Go.Proofs.Tryd.func12, R.detentlaw5_known_ok⟩, ⟨⟨_, Go.Proofs.Tryd.func13, R.bits_Map_Set_ok⟩, ⟨⟨_, Go.Proofs.Tryd.func14, R.bits_Map_Clear_ok⟩, ⟨⟨_, Go.Proofs.Tryd.func15, R.bits_Map_Has_ok⟩, ⟨⟨_, Go.Proofs.Tryd.func16, R.bits_Map_First_ok⟩, ⟨⟨_, Go.Proofs.Tryd.func17, R.bits_Map_After_ok⟩, ⟨⟨_, Go.Proofs.Tryd.func18, R.bits_Map_Row_ok⟩, ⟨⟨_, Go.Proofs.Tryd.func19, R.bits_Map_Len_ok⟩, ⟨⟨_, Go.Proofs.Tryd.func20, R.detentlaw9_known_ok⟩, ⟨⟨_, Go.Proofs.Tryd.func21, R.ready_New_ok⟩, ⟨⟨_, Go.Proofs.Tryd.func22, R.ready_Queue_Add_ok⟩, ⟨⟨_, Go.Proofs.Tryd.func23, R.ready_Queue_All_ok⟩, ⟨⟨_, Go.Proofs.Tryd.func24, R.ready_Queue_Row_ok⟩, ⟨⟨_, Go.Proofs.Tryd.func25, R.ready_Queue_Rotate_ok⟩, ⟨⟨_, Go.Proofs.Tryd.func26, R.detentlaw3_Same_ok⟩, ⟨⟨_, Go.Proofs.Tryd.func27, R.ready_Queue_Pri_ok⟩, ⟨⟨_, Go.Proofs.Tryd.func28, R.ready_Queue_First_ok⟩, ⟨⟨_, Go.Proofs.Tryd.func29, R.ready_Queue_Remove_ok⟩, ⟨⟨_, Go.Proofs.Tryd.func30, R.ready_Queue_Change_ok⟩, ⟨⟨_, Go.Proofs.Tryd.func31, R.detentref9_Queue_Add_ok⟩, ⟨⟨_, Go.Proofs.Tryd.func32, R.detentref9_Queue_Remove_ok⟩, ⟨⟨_, Go.Proofs.Tryd.func33, R.detentref9_Queue_Change_ok⟩, ⟨⟨_, Go.Proofs.Tryd.func34, R.detentref9_Queue_Rotate_ok⟩, ⟨⟨_, Go.Proofs.Tryd.func35, R.ready_Queue_Twin_ok⟩, ⟨⟨_, Go.Proofs.Tryd.func36, R.detentlaw9_same_ok⟩, ⟨⟨_, Go.Proofs.Tryd.func37, R.bits_place_ok⟩, ⟨⟨_, Go.Proofs.Tryd.func38, R.math_bits_TrailingZeros64_ok⟩, ⟨⟨_, Go.Proofs.Tryd.func39, R.math_bits_OnesCount64_ok⟩, ⟨⟨_, Go.Proofs.Tryd.func40, R.ready_task_ok⟩, ⟨⟨_, Go.Proofs.Tryd.func41, R.ready_may_ok⟩, ⟨⟨_, Go.Proofs.Tryd.func42, R.ready_Queue_put_ok⟩, ⟨⟨_, Go.Proofs.Tryd.func43, R.slices_Clip__int_int_ok⟩, ⟨⟨_, Go.Proofs.Tryd.func44, R.slices_Clone__int_int_ok⟩, ⟨⟨_, Go.Proofs.Tryd.func45, R.slices_Index__int_int_ok⟩, ⟨⟨_, Go.Proofs.Tryd.func46, R.slices_Delete__int_int_ok⟩, ⟨⟨_, Go.Proofs.Tryd.func47, R.detentref9_good_ok⟩, ⟨⟨_, Go.Proofs.Tryd.func48, R.detentref9_Queue_Pri_ok⟩, ⟨⟨_, Go.Proofs.Tryd.func49, R.detentref9_Queue_First_ok⟩, ⟨⟨_, Go.Proofs.Tryd.func50, R.detentref9_Queue_All_ok⟩, trivial⟩⟩⟩⟩⟩⟩⟩⟩⟩⟩⟩⟩⟩⟩⟩⟩⟩⟩⟩⟩⟩⟩⟩⟩⟩⟩⟩⟩⟩⟩⟩⟩⟩⟩⟩⟩⟩⟩⟩⟩⟩⟩⟩⟩⟩⟩⟩⟩)
theorem tab_wf : TabWf tab := tabWf_of (l := tabL) (by kernel_rfl)
theorem tab_detentlaw5_BitsPlays : tab F.detentlaw5_BitsPlays = some R.detentlaw5_BitsPlays := rfl
theorem tab_detentlaw5_BitsWalks : tab F.detentlaw5_BitsWalks = some R.detentlaw5_BitsWalks := rfl
theorem tab_detentlaw5_BitsBack : tab F.detentlaw5_BitsBack = some R.detentlaw5_BitsBack := rfl
theorem tab_detentlaw5_BitsEnds : tab F.detentlaw5_BitsEnds = some R.detentlaw5_BitsEnds := rfl
theorem tab_detentlaw9_ReadyTurns : tab F.detentlaw9_ReadyTurns = some R.detentlaw9_ReadyTurns := rfl
theorem tab_detentlaw9_ReadyRefuses : tab F.detentlaw9_ReadyRefuses = some R.detentlaw9_ReadyRefuses := rfl
theorem tab_detentlaw9_ReadyFirst : tab F.detentlaw9_ReadyFirst = some R.detentlaw9_ReadyFirst := rfl
theorem tab_detentlaw9_ReadyAgain : tab F.detentlaw9_ReadyAgain = some R.detentlaw9_ReadyAgain := rfl
theorem tab_detentlaw9_ReadyPlays : tab F.detentlaw9_ReadyPlays = some R.detentlaw9_ReadyPlays := rfl
theorem tab_detentlaw3_Same : tab F.detentlaw3_Same = some R.detentlaw3_Same := rfl
theorem tab_detentlaw5_known : tab F.detentlaw5_known = some R.detentlaw5_known := rfl
theorem tab_bits_Map_Set : tab F.bits_Map_Set = some R.bits_Map_Set := rfl
theorem tab_bits_Map_Clear : tab F.bits_Map_Clear = some R.bits_Map_Clear := rfl
theorem tab_bits_Map_Has : tab F.bits_Map_Has = some R.bits_Map_Has := rfl
theorem tab_bits_Map_First : tab F.bits_Map_First = some R.bits_Map_First := rfl
theorem tab_bits_Map_After : tab F.bits_Map_After = some R.bits_Map_After := rfl
theorem tab_bits_Map_Row : tab F.bits_Map_Row = some R.bits_Map_Row := rfl
theorem tab_bits_Map_Len : tab F.bits_Map_Len = some R.bits_Map_Len := rfl
theorem tab_detentlaw9_known : tab F.detentlaw9_known = some R.detentlaw9_known := rfl
theorem tab_ready_New : tab F.ready_New = some R.ready_New := rfl
theorem tab_ready_Queue_Add : tab F.ready_Queue_Add = some R.ready_Queue_Add := rfl
theorem tab_ready_Queue_All : tab F.ready_Queue_All = some R.ready_Queue_All := rfl
theorem tab_ready_Queue_Row : tab F.ready_Queue_Row = some R.ready_Queue_Row := rfl
theorem tab_ready_Queue_Rotate : tab F.ready_Queue_Rotate = some R.ready_Queue_Rotate := rfl
theorem tab_ready_Queue_Pri : tab F.ready_Queue_Pri = some R.ready_Queue_Pri := rfl
theorem tab_ready_Queue_First : tab F.ready_Queue_First = some R.ready_Queue_First := rfl
theorem tab_ready_Queue_Remove : tab F.ready_Queue_Remove = some R.ready_Queue_Remove := rfl
theorem tab_ready_Queue_Change : tab F.ready_Queue_Change = some R.ready_Queue_Change := rfl
theorem tab_detentref9_Queue_Add : tab F.detentref9_Queue_Add = some R.detentref9_Queue_Add := rfl
theorem tab_detentref9_Queue_Remove : tab F.detentref9_Queue_Remove = some R.detentref9_Queue_Remove := rfl
theorem tab_detentref9_Queue_Change : tab F.detentref9_Queue_Change = some R.detentref9_Queue_Change := rfl
theorem tab_detentref9_Queue_Rotate : tab F.detentref9_Queue_Rotate = some R.detentref9_Queue_Rotate := rfl
theorem tab_ready_Queue_Twin : tab F.ready_Queue_Twin = some R.ready_Queue_Twin := rfl
theorem tab_detentlaw9_same : tab F.detentlaw9_same = some R.detentlaw9_same := rfl
theorem tab_bits_place : tab F.bits_place = some R.bits_place := rfl
theorem tab_math_bits_TrailingZeros64 : tab F.math_bits_TrailingZeros64 = some R.math_bits_TrailingZeros64 := rfl
theorem tab_math_bits_OnesCount64 : tab F.math_bits_OnesCount64 = some R.math_bits_OnesCount64 := rfl
theorem tab_ready_task : tab F.ready_task = some R.ready_task := rfl
theorem tab_ready_may : tab F.ready_may = some R.ready_may := rfl
theorem tab_ready_Queue_put : tab F.ready_Queue_put = some R.ready_Queue_put := rfl
theorem tab_slices_Clip__int_int : tab F.slices_Clip__int_int = some R.slices_Clip__int_int := rfl
theorem tab_slices_Clone__int_int : tab F.slices_Clone__int_int = some R.slices_Clone__int_int := rfl
theorem tab_slices_Index__int_int : tab F.slices_Index__int_int = some R.slices_Index__int_int := rfl
theorem tab_slices_Delete__int_int : tab F.slices_Delete__int_int = some R.slices_Delete__int_int := rfl
theorem tab_detentref9_good : tab F.detentref9_good = some R.detentref9_good := rfl
theorem tab_detentref9_Queue_Pri : tab F.detentref9_Queue_Pri = some R.detentref9_Queue_Pri := rfl
theorem tab_detentref9_Queue_First : tab F.detentref9_Queue_First = some R.detentref9_Queue_First := rfl
theorem tab_detentref9_Queue_All : tab F.detentref9_Queue_All = some R.detentref9_Queue_All := rfl
end Go.AM
