/-
  The table of the functions' codes.
-/
import Derived.Test.YtbihokcagceoaaaRc0
import Derived.Test.YtbihokcagceoaaaRc1
set_option maxRecDepth 100000
namespace Go.AM
def tabL : List (Option RFunc) := [none, none, none, some R.detentlaw20_HandCycles, some R.detentlaw20_HandOrder, some R.detentlaw20_HandRefuses, some R.detentlaw20_HandAlarms, some R.detentlaw20_HandKeeps, some R.detentlaw20_HandPlays, some R.detentlaw20_known, some R.cyc_NewHands, some R.cyc_Hands_Cyclic, some R.cyc_Hands_Pass, some R.cyc_Hands_Alarm, some R.cyc_Hands_Set, some R.clock_Clock_Up, some R.cyc_Hands_Clear, some R.cyc_Hands_Stop, some R.cyc_Hands_Start, some R.detentref20_New, some R.detentref20_Hands_Cyclic, some R.detentref20_Hands_NewAlarm, some R.detentref20_Hands_Start, some R.detentref20_Hands_Stop, some R.detentref20_Hands_Set, some R.detentref20_Hands_Clear, some R.cyc_Hands_Wait, some R.detentref20_Hands_Wait, some R.detentref20_Hands_Pass, some R.detentlaw20_Fired, some R.detentlaw3_Same, some R.heap_Timers_Cancel, some R.detentref7_Timers_Cancel, some R.clock_Clock_Now, some R.detentref8_Clock_Now, some R.heap_Timers_Len, some R.clock_NewClock, some R.nums_Rel, some R.clock_Clock_Tick, some R.slices_SortStableFunc__cyc_Fired_cyc_Fired, some R.cyc_order, some R.slices_Clip__cyc_Fired_cyc_Fired, some R.cyc_Hands_alarm, some R.cyc_Hands_cyc, some R.detentref8_New, some R.detentref1_Rel, some R.clock_Clock_After, some R.detentref8_Clock_After, some R.detentref8_Clock_Tick, some R.detentref20_put, some R.heap_Timers_find, some R.heap_Timers_remove, some R.detentref7_Timers_Find, some R.nums_Add, some R.detentref1_Add, some R.heap_New, some R.heap_Timers_Due, some R.slices_stableCmpFunc_cyc_Fired, some R.cmp_Compare_uint64, some R.cmp_Compare_int, some R.heap_Timers_Insert, some R.detentref7_Timers_Insert, some R.detentref7_Timers_Due, some R.detentref20_before, some R.slices_IndexFunc_heap_row_heap_entry, some R.heap_Timers_find_1, some R.heap_row_up, some R.heap_row_down, some R.slices_insertionSortCmpFunc_cyc_Fired, some R.slices_symMergeCmpFunc_cyc_Fired, some R.cmp_isNaN_uint64, some R.cmp_isNaN_int, some R.detentref7_Timers_least, some R.heap_row_ahead, some R.slices_rotateCmpFunc_cyc_Fired, some R.slices_swapRangeCmpFunc_cyc_Fired]
def tab (f : Nat) : Option RFunc := (tabL[f]?).join
theorem tab_ok : TabOk Go.Proofs.Try.prog [] tab := tabOk_of (l := tabL) (⟨⟨_, Go.Proofs.Try.func3, R.detentlaw20_HandCycles_ok⟩, ⟨⟨_, Go.Proofs.Try.func4, R.detentlaw20_HandOrder_ok⟩, ⟨⟨_, Go.Proofs.Try.func5, R.detentlaw20_HandRefuses_ok⟩, ⟨⟨_, Go.Proofs.Try.func6, R.detentlaw20_HandAlarms_ok⟩, ⟨⟨_, Go.Proofs.Try.func7, R.detentlaw20_HandKeeps_ok⟩, ⟨⟨_, Go.Proofs.Try.func8, R.detentlaw20_HandPlays_ok⟩, ⟨⟨_, Go.Proofs.Try.func9, R.detentlaw20_known_ok⟩, ⟨⟨_, Go.Proofs.Try.func10, R.cyc_NewHands_ok⟩, ⟨⟨_, Go.Proofs.Try.func11, R.cyc_Hands_Cyclic_ok⟩, ⟨⟨_, Go.Proofs.Try.func12, R.cyc_Hands_Pass_ok⟩, ⟨⟨_, Go.Proofs.Try.func13, R.cyc_Hands_Alarm_ok⟩, ⟨⟨_, Go.Proofs.Try.func14, R.cyc_Hands_Set_ok⟩, ⟨⟨_, Go.Proofs.Try.func15, R.clock_Clock_Up_ok⟩, ⟨⟨_, Go.Proofs.Try.func16, R.cyc_Hands_Clear_ok⟩, ⟨⟨_, Go.Proofs.Try.func17, R.cyc_Hands_Stop_ok⟩, ⟨⟨_, Go.Proofs.Try.func18, R.cyc_Hands_Start_ok⟩, ⟨⟨_, Go.Proofs.Try.func19, R.detentref20_New_ok⟩, ⟨⟨_, Go.Proofs.Try.func20, R.detentref20_Hands_Cyclic_ok⟩, ⟨⟨_, Go.Proofs.Try.func21, R.detentref20_Hands_NewAlarm_ok⟩, ⟨⟨_, Go.Proofs.Try.func22, R.detentref20_Hands_Start_ok⟩, ⟨⟨_, Go.Proofs.Try.func23, R.detentref20_Hands_Stop_ok⟩, ⟨⟨_, Go.Proofs.Try.func24, R.detentref20_Hands_Set_ok⟩, ⟨⟨_, Go.Proofs.Try.func25, R.detentref20_Hands_Clear_ok⟩, ⟨⟨_, Go.Proofs.Try.func26, R.cyc_Hands_Wait_ok⟩, ⟨⟨_, Go.Proofs.Try.func27, R.detentref20_Hands_Wait_ok⟩, ⟨⟨_, Go.Proofs.Try.func28, R.detentref20_Hands_Pass_ok⟩, ⟨⟨_, Go.Proofs.Try.func29, R.detentlaw20_Fired_ok⟩, ⟨⟨_, Go.Proofs.Try.func30, R.detentlaw3_Same_ok⟩, ⟨⟨_, Go.Proofs.Try.func31, R.heap_Timers_Cancel_ok⟩, ⟨⟨_, Go.Proofs.Try.func32, R.detentref7_Timers_Cancel_ok⟩, ⟨⟨_, Go.Proofs.Try.func33, R.clock_Clock_Now_ok⟩, ⟨⟨_, Go.Proofs.Try.func34, R.detentref8_Clock_Now_ok⟩, ⟨⟨_, Go.Proofs.Try.func35, R.heap_Timers_Len_ok⟩, ⟨⟨_, Go.Proofs.Try.func36, R.clock_NewClock_ok⟩, ⟨⟨_, Go.Proofs.Try.func37, R.nums_Rel_ok⟩, ⟨⟨_, Go.Proofs.Try.func38, R.clock_Clock_Tick_ok⟩, ⟨⟨_, Go.Proofs.Try.func39, R.slices_SortStableFunc__cyc_Fired_cyc_Fired_ok⟩, ⟨⟨_, Go.Proofs.Try.func40, R.cyc_order_ok⟩, ⟨⟨_, Go.Proofs.Try.func41, R.slices_Clip__cyc_Fired_cyc_Fired_ok⟩, ⟨⟨_, Go.Proofs.Try.func42, R.cyc_Hands_alarm_ok⟩, ⟨⟨_, Go.Proofs.Try.func43, R.cyc_Hands_cyc_ok⟩, ⟨⟨_, Go.Proofs.Try.func44, R.detentref8_New_ok⟩, ⟨⟨_, Go.Proofs.Try.func45, R.detentref1_Rel_ok⟩, ⟨⟨_, Go.Proofs.Try.func46, R.clock_Clock_After_ok⟩, ⟨⟨_, Go.Proofs.Try.func47, R.detentref8_Clock_After_ok⟩, ⟨⟨_, Go.Proofs.Try.func48, R.detentref8_Clock_Tick_ok⟩, ⟨⟨_, Go.Proofs.Try.func49, R.detentref20_put_ok⟩, ⟨⟨_, Go.Proofs.Try.func50, R.heap_Timers_find_ok⟩, ⟨⟨_, Go.Proofs.Try.func51, R.heap_Timers_remove_ok⟩, ⟨⟨_, Go.Proofs.Try.func52, R.detentref7_Timers_Find_ok⟩, ⟨⟨_, Go.Proofs.Try.func53, R.nums_Add_ok⟩, ⟨⟨_, Go.Proofs.Try.func54, R.detentref1_Add_ok⟩, ⟨⟨_, Go.Proofs.Try.func55, R.heap_New_ok⟩, ⟨⟨_, Go.Proofs.Try.func56, R.heap_Timers_Due_ok⟩, ⟨⟨_, Go.Proofs.Try.func57, R.slices_stableCmpFunc_cyc_Fired_ok⟩, ⟨⟨_, Go.Proofs.Try.func58, R.cmp_Compare_uint64_ok⟩, ⟨⟨_, Go.Proofs.Try.func59, R.cmp_Compare_int_ok⟩, ⟨⟨_, Go.Proofs.Try.func60, R.heap_Timers_Insert_ok⟩, ⟨⟨_, Go.Proofs.Try.func61, R.detentref7_Timers_Insert_ok⟩, ⟨⟨_, Go.Proofs.Try.func62, R.detentref7_Timers_Due_ok⟩, ⟨⟨_, Go.Proofs.Try.func63, R.detentref20_before_ok⟩, ⟨⟨_, Go.Proofs.Try.func64, R.slices_IndexFunc_heap_row_heap_entry_ok⟩, ⟨⟨_, Go.Proofs.Try.func65, R.heap_Timers_find_1_ok⟩, ⟨⟨_, Go.Proofs.Try.func66, R.heap_row_up_ok⟩, ⟨⟨_, Go.Proofs.Try.func67, R.heap_row_down_ok⟩, ⟨⟨_, Go.Proofs.Try.func68, R.slices_insertionSortCmpFunc_cyc_Fired_ok⟩, ⟨⟨_, Go.Proofs.Try.func69, R.slices_symMergeCmpFunc_cyc_Fired_ok⟩, ⟨⟨_, Go.Proofs.Try.func70, R.cmp_isNaN_uint64_ok⟩, ⟨⟨_, Go.Proofs.Try.func71, R.cmp_isNaN_int_ok⟩, ⟨⟨_, Go.Proofs.Try.func72, R.detentref7_Timers_least_ok⟩, ⟨⟨_, Go.Proofs.Try.func73, R.heap_row_ahead_ok⟩, ⟨⟨_, Go.Proofs.Try.func74, R.slices_rotateCmpFunc_cyc_Fired_ok⟩, ⟨⟨_, Go.Proofs.Try.func75, R.slices_swapRangeCmpFunc_cyc_Fired_ok⟩, trivial⟩⟩⟩⟩⟩⟩⟩⟩⟩⟩⟩⟩⟩⟩⟩⟩⟩⟩⟩⟩⟩⟩⟩⟩⟩⟩⟩⟩⟩⟩⟩⟩⟩⟩⟩⟩⟩⟩⟩⟩⟩⟩⟩⟩⟩⟩⟩⟩⟩⟩⟩⟩⟩⟩⟩⟩⟩⟩⟩⟩⟩⟩⟩⟩⟩⟩⟩⟩⟩⟩⟩⟩⟩)
theorem tab_wf : TabWf tab := tabWf_of (l := tabL) (by kernel_rfl)
theorem tab_detentlaw20_HandCycles : tab F.detentlaw20_HandCycles = some R.detentlaw20_HandCycles := rfl
theorem tab_detentlaw20_HandOrder : tab F.detentlaw20_HandOrder = some R.detentlaw20_HandOrder := rfl
theorem tab_detentlaw20_HandRefuses : tab F.detentlaw20_HandRefuses = some R.detentlaw20_HandRefuses := rfl
theorem tab_detentlaw20_HandAlarms : tab F.detentlaw20_HandAlarms = some R.detentlaw20_HandAlarms := rfl
theorem tab_detentlaw20_HandKeeps : tab F.detentlaw20_HandKeeps = some R.detentlaw20_HandKeeps := rfl
theorem tab_detentlaw20_HandPlays : tab F.detentlaw20_HandPlays = some R.detentlaw20_HandPlays := rfl
theorem tab_detentlaw20_Fired : tab F.detentlaw20_Fired = some R.detentlaw20_Fired := rfl
theorem tab_detentlaw3_Same : tab F.detentlaw3_Same = some R.detentlaw3_Same := rfl
theorem tab_detentlaw20_known : tab F.detentlaw20_known = some R.detentlaw20_known := rfl
theorem tab_cyc_NewHands : tab F.cyc_NewHands = some R.cyc_NewHands := rfl
theorem tab_cyc_Hands_Cyclic : tab F.cyc_Hands_Cyclic = some R.cyc_Hands_Cyclic := rfl
theorem tab_cyc_Hands_Pass : tab F.cyc_Hands_Pass = some R.cyc_Hands_Pass := rfl
theorem tab_cyc_Hands_Alarm : tab F.cyc_Hands_Alarm = some R.cyc_Hands_Alarm := rfl
theorem tab_cyc_Hands_Set : tab F.cyc_Hands_Set = some R.cyc_Hands_Set := rfl
theorem tab_clock_Clock_Up : tab F.clock_Clock_Up = some R.clock_Clock_Up := rfl
theorem tab_cyc_Hands_Clear : tab F.cyc_Hands_Clear = some R.cyc_Hands_Clear := rfl
theorem tab_cyc_Hands_Stop : tab F.cyc_Hands_Stop = some R.cyc_Hands_Stop := rfl
theorem tab_cyc_Hands_Start : tab F.cyc_Hands_Start = some R.cyc_Hands_Start := rfl
theorem tab_detentref20_New : tab F.detentref20_New = some R.detentref20_New := rfl
theorem tab_detentref20_Hands_Cyclic : tab F.detentref20_Hands_Cyclic = some R.detentref20_Hands_Cyclic := rfl
theorem tab_detentref20_Hands_NewAlarm : tab F.detentref20_Hands_NewAlarm = some R.detentref20_Hands_NewAlarm := rfl
theorem tab_detentref20_Hands_Start : tab F.detentref20_Hands_Start = some R.detentref20_Hands_Start := rfl
theorem tab_detentref20_Hands_Stop : tab F.detentref20_Hands_Stop = some R.detentref20_Hands_Stop := rfl
theorem tab_detentref20_Hands_Set : tab F.detentref20_Hands_Set = some R.detentref20_Hands_Set := rfl
theorem tab_detentref20_Hands_Clear : tab F.detentref20_Hands_Clear = some R.detentref20_Hands_Clear := rfl
theorem tab_cyc_Hands_Wait : tab F.cyc_Hands_Wait = some R.cyc_Hands_Wait := rfl
theorem tab_detentref20_Hands_Wait : tab F.detentref20_Hands_Wait = some R.detentref20_Hands_Wait := rfl
theorem tab_detentref20_Hands_Pass : tab F.detentref20_Hands_Pass = some R.detentref20_Hands_Pass := rfl
theorem tab_heap_Timers_Cancel : tab F.heap_Timers_Cancel = some R.heap_Timers_Cancel := rfl
theorem tab_detentref7_Timers_Cancel : tab F.detentref7_Timers_Cancel = some R.detentref7_Timers_Cancel := rfl
theorem tab_clock_Clock_Now : tab F.clock_Clock_Now = some R.clock_Clock_Now := rfl
theorem tab_detentref8_Clock_Now : tab F.detentref8_Clock_Now = some R.detentref8_Clock_Now := rfl
theorem tab_heap_Timers_Len : tab F.heap_Timers_Len = some R.heap_Timers_Len := rfl
theorem tab_clock_NewClock : tab F.clock_NewClock = some R.clock_NewClock := rfl
theorem tab_nums_Rel : tab F.nums_Rel = some R.nums_Rel := rfl
theorem tab_clock_Clock_Tick : tab F.clock_Clock_Tick = some R.clock_Clock_Tick := rfl
theorem tab_slices_SortStableFunc__cyc_Fired_cyc_Fired : tab F.slices_SortStableFunc__cyc_Fired_cyc_Fired = some R.slices_SortStableFunc__cyc_Fired_cyc_Fired := rfl
theorem tab_cyc_order : tab F.cyc_order = some R.cyc_order := rfl
theorem tab_slices_Clip__cyc_Fired_cyc_Fired : tab F.slices_Clip__cyc_Fired_cyc_Fired = some R.slices_Clip__cyc_Fired_cyc_Fired := rfl
theorem tab_cyc_Hands_alarm : tab F.cyc_Hands_alarm = some R.cyc_Hands_alarm := rfl
theorem tab_cyc_Hands_cyc : tab F.cyc_Hands_cyc = some R.cyc_Hands_cyc := rfl
theorem tab_detentref8_New : tab F.detentref8_New = some R.detentref8_New := rfl
theorem tab_detentref1_Rel : tab F.detentref1_Rel = some R.detentref1_Rel := rfl
theorem tab_clock_Clock_After : tab F.clock_Clock_After = some R.clock_Clock_After := rfl
theorem tab_detentref8_Clock_After : tab F.detentref8_Clock_After = some R.detentref8_Clock_After := rfl
theorem tab_detentref8_Clock_Tick : tab F.detentref8_Clock_Tick = some R.detentref8_Clock_Tick := rfl
theorem tab_detentref20_put : tab F.detentref20_put = some R.detentref20_put := rfl
theorem tab_heap_Timers_find : tab F.heap_Timers_find = some R.heap_Timers_find := rfl
theorem tab_heap_Timers_remove : tab F.heap_Timers_remove = some R.heap_Timers_remove := rfl
theorem tab_detentref7_Timers_Find : tab F.detentref7_Timers_Find = some R.detentref7_Timers_Find := rfl
theorem tab_nums_Add : tab F.nums_Add = some R.nums_Add := rfl
theorem tab_detentref1_Add : tab F.detentref1_Add = some R.detentref1_Add := rfl
theorem tab_heap_New : tab F.heap_New = some R.heap_New := rfl
theorem tab_heap_Timers_Due : tab F.heap_Timers_Due = some R.heap_Timers_Due := rfl
theorem tab_slices_stableCmpFunc_cyc_Fired : tab F.slices_stableCmpFunc_cyc_Fired = some R.slices_stableCmpFunc_cyc_Fired := rfl
theorem tab_cmp_Compare_uint64 : tab F.cmp_Compare_uint64 = some R.cmp_Compare_uint64 := rfl
theorem tab_cmp_Compare_int : tab F.cmp_Compare_int = some R.cmp_Compare_int := rfl
theorem tab_heap_Timers_Insert : tab F.heap_Timers_Insert = some R.heap_Timers_Insert := rfl
theorem tab_detentref7_Timers_Insert : tab F.detentref7_Timers_Insert = some R.detentref7_Timers_Insert := rfl
theorem tab_detentref7_Timers_Due : tab F.detentref7_Timers_Due = some R.detentref7_Timers_Due := rfl
theorem tab_detentref20_before : tab F.detentref20_before = some R.detentref20_before := rfl
theorem tab_slices_IndexFunc_heap_row_heap_entry : tab F.slices_IndexFunc_heap_row_heap_entry = some R.slices_IndexFunc_heap_row_heap_entry := rfl
theorem tab_heap_Timers_find_1 : tab F.heap_Timers_find_1 = some R.heap_Timers_find_1 := rfl
theorem tab_heap_row_up : tab F.heap_row_up = some R.heap_row_up := rfl
theorem tab_heap_row_down : tab F.heap_row_down = some R.heap_row_down := rfl
theorem tab_slices_insertionSortCmpFunc_cyc_Fired : tab F.slices_insertionSortCmpFunc_cyc_Fired = some R.slices_insertionSortCmpFunc_cyc_Fired := rfl
theorem tab_slices_symMergeCmpFunc_cyc_Fired : tab F.slices_symMergeCmpFunc_cyc_Fired = some R.slices_symMergeCmpFunc_cyc_Fired := rfl
theorem tab_cmp_isNaN_uint64 : tab F.cmp_isNaN_uint64 = some R.cmp_isNaN_uint64 := rfl
theorem tab_cmp_isNaN_int : tab F.cmp_isNaN_int = some R.cmp_isNaN_int := rfl
theorem tab_detentref7_Timers_least : tab F.detentref7_Timers_least = some R.detentref7_Timers_least := rfl
theorem tab_heap_row_ahead : tab F.heap_row_ahead = some R.heap_row_ahead := rfl
theorem tab_slices_rotateCmpFunc_cyc_Fired : tab F.slices_rotateCmpFunc_cyc_Fired = some R.slices_rotateCmpFunc_cyc_Fired := rfl
theorem tab_slices_swapRangeCmpFunc_cyc_Fired : tab F.slices_swapRangeCmpFunc_cyc_Fired = some R.slices_swapRangeCmpFunc_cyc_Fired := rfl
end Go.AM
