/-
  The table of the functions' codes.
-/
import Derived.Test.YtkhffcbnhleeoaaRc0
import Derived.Test.YtkhffcbnhleeoaaRc1
set_option maxRecDepth 100000
namespace Go.AM
def tabL : List (Option RFunc) := [none, none, none, some R.detentlaw8_ClockWaits, some R.detentlaw8_ClockRounds, some R.detentlaw8_ClockSets, some R.detentlaw8_ClockOrder, some R.detentlaw7_TimerFull, some R.detentlaw7_TimerSorts, some R.detentlaw7_TimerLeft, some R.detentlaw7_TimerOnce, some R.detentlaw7_TimerNext, some R.detentlaw7_TimerPlays, some R.detentlaw8_ClockPlays, some R.detentlaw8_known, some R.clock_NewClock, some R.clock_Clock_Tick, some R.clock_Clock_After, some R.clock_Clock_Set, some R.clock_Clock_Now, some R.clock_Clock_Up, some R.heap_Timers_Len, some R.detentlaw7_known, some R.heap_New, some R.heap_Timers_Insert, some R.heap_Timers_Due, some R.heap_Timers_Next, some R.heap_Timers_Left, some R.heap_Timers_Cancel, some R.detentref7_Timers_Insert, some R.detentref7_Timers_Cancel, some R.detentlaw3_Same, some R.detentref7_Timers_Due, some R.heap_Timers_Twin, some R.detentlaw7_Same, some R.detentref8_New, some R.detentref8_Clock_Set, some R.detentref8_Clock_After, some R.detentref8_Clock_Tick, some R.clock_Clock_Apart, some R.detentref8_Clock_Now, some R.nums_Rel, some R.nums_Add, some R.heap_row_up, some R.heap_Timers_remove, some R.heap_Timers_find, some R.detentref7_Timers_Find, some R.detentref7_Timers_least, some R.slices_Clone_heap_row_heap_entry, some R.detentref7_Timers_Next, some R.detentref7_Timers_Left, some R.detentref1_Add, some R.detentref1_Rel, some R.heap_row_ahead, some R.heap_row_down, some R.slices_IndexFunc_heap_row_heap_entry, some R.heap_Timers_find_1]
def tab (f : Nat) : Option RFunc := (tabL[f]?).join
theorem tab_ok : TabOk Go.Proofs.Try.prog [] tab := tabOk_of (l := tabL) (⟨⟨_, Go.Proofs.Try.func3, R.detentlaw8_ClockWaits_ok⟩, ⟨⟨_, Go.Proofs.Try.func4, R.detentlaw8_ClockRounds_ok⟩, ⟨⟨_, Go.Proofs.Try.func5, R.detentlaw8_ClockSets_ok⟩, ⟨⟨_, Go.Proofs.Try.func6, R.detentlaw8_ClockOrder_ok⟩, ⟨⟨_, Go.Proofs.Try.func7, R.detentlaw7_TimerFull_ok⟩, ⟨⟨_, Go.Proofs.Try.func8, R.detentlaw7_TimerSorts_ok⟩, ⟨⟨_, Go.Proofs.Try.func9, R.detentlaw7_TimerLeft_ok⟩, ⟨⟨_, Go.Proofs.Try.func10, R.detentlaw7_TimerOnce_ok⟩, ⟨⟨_, Go.Proofs.Try.func11, R.detentlaw7_TimerNext_ok⟩, ⟨⟨_, Go.Proofs.Try.func12, R.detentlaw7_TimerPlays_ok⟩, ⟨⟨_, Go.Proofs.Try.func13, R.detentlaw8_ClockPlays_ok⟩, ⟨⟨_, Go.Proofs.Try.func14, R.detentlaw8_known_ok⟩, ⟨⟨_, Go.Proofs.Try.func15, R.clock_NewClock_ok⟩, ⟨⟨_, Go.Proofs.Try.func16, R.clock_Clock_Tick_ok⟩, ⟨⟨_, Go.Proofs.Try.func17, R.clock_Clock_After_ok⟩, ⟨⟨_, Go.Proofs.Try.func18, R.clock_Clock_Set_ok⟩, ⟨⟨_, Go.Proofs.Try.func19, R.clock_Clock_Now_ok⟩, ⟨⟨_, Go.Proofs.Try.func20, R.clock_Clock_Up_ok⟩, ⟨⟨_, Go.Proofs.Try.func21, R.heap_Timers_Len_ok⟩, ⟨⟨_, Go.Proofs.Try.func22, R.detentlaw7_known_ok⟩, ⟨⟨_, Go.Proofs.Try.func23, R.heap_New_ok⟩, ⟨⟨_, Go.Proofs.Try.func24, R.heap_Timers_Insert_ok⟩, ⟨⟨_, Go.Proofs.Try.func25, R.heap_Timers_Due_ok⟩, ⟨⟨_, Go.Proofs.Try.func26, R.heap_Timers_Next_ok⟩, ⟨⟨_, Go.Proofs.Try.func27, R.heap_Timers_Left_ok⟩, ⟨⟨_, Go.Proofs.Try.func28, R.heap_Timers_Cancel_ok⟩, ⟨⟨_, Go.Proofs.Try.func29, R.detentref7_Timers_Insert_ok⟩, ⟨⟨_, Go.Proofs.Try.func30, R.detentref7_Timers_Cancel_ok⟩, ⟨⟨_, Go.Proofs.Try.func31, R.detentlaw3_Same_ok⟩, ⟨⟨_, Go.Proofs.Try.func32, R.detentref7_Timers_Due_ok⟩, ⟨⟨_, Go.Proofs.Try.func33, R.heap_Timers_Twin_ok⟩, ⟨⟨_, Go.Proofs.Try.func34, R.detentlaw7_Same_ok⟩, ⟨⟨_, Go.Proofs.Try.func35, R.detentref8_New_ok⟩, ⟨⟨_, Go.Proofs.Try.func36, R.detentref8_Clock_Set_ok⟩, ⟨⟨_, Go.Proofs.Try.func37, R.detentref8_Clock_After_ok⟩, ⟨⟨_, Go.Proofs.Try.func38, R.detentref8_Clock_Tick_ok⟩, ⟨⟨_, Go.Proofs.Try.func39, R.clock_Clock_Apart_ok⟩, ⟨⟨_, Go.Proofs.Try.func40, R.detentref8_Clock_Now_ok⟩, ⟨⟨_, Go.Proofs.Try.func41, R.nums_Rel_ok⟩, ⟨⟨_, Go.Proofs.Try.func42, R.nums_Add_ok⟩, ⟨⟨_, Go.Proofs.Try.func43, R.heap_row_up_ok⟩, ⟨⟨_, Go.Proofs.Try.func44, R.heap_Timers_remove_ok⟩, ⟨⟨_, Go.Proofs.Try.func45, R.heap_Timers_find_ok⟩, ⟨⟨_, Go.Proofs.Try.func46, R.detentref7_Timers_Find_ok⟩, ⟨⟨_, Go.Proofs.Try.func47, R.detentref7_Timers_least_ok⟩, ⟨⟨_, Go.Proofs.Try.func48, R.slices_Clone_heap_row_heap_entry_ok⟩, ⟨⟨_, Go.Proofs.Try.func49, R.detentref7_Timers_Next_ok⟩, ⟨⟨_, Go.Proofs.Try.func50, R.detentref7_Timers_Left_ok⟩, ⟨⟨_, Go.Proofs.Try.func51, R.detentref1_Add_ok⟩, ⟨⟨_, Go.Proofs.Try.func52, R.detentref1_Rel_ok⟩, ⟨⟨_, Go.Proofs.Try.func53, R.heap_row_ahead_ok⟩, ⟨⟨_, Go.Proofs.Try.func54, R.heap_row_down_ok⟩, ⟨⟨_, Go.Proofs.Try.func55, R.slices_IndexFunc_heap_row_heap_entry_ok⟩, ⟨⟨_, Go.Proofs.Try.func56, R.heap_Timers_find_1_ok⟩, trivial⟩⟩⟩⟩⟩⟩⟩⟩⟩⟩⟩⟩⟩⟩⟩⟩⟩⟩⟩⟩⟩⟩⟩⟩⟩⟩⟩⟩⟩⟩⟩⟩⟩⟩⟩⟩⟩⟩⟩⟩⟩⟩⟩⟩⟩⟩⟩⟩⟩⟩⟩⟩⟩⟩)
theorem tab_wf : TabWf tab := tabWf_of (l := tabL) (by kernel_rfl)
theorem tab_detentlaw8_ClockWaits : tab F.detentlaw8_ClockWaits = some R.detentlaw8_ClockWaits := rfl
theorem tab_detentlaw8_ClockRounds : tab F.detentlaw8_ClockRounds = some R.detentlaw8_ClockRounds := rfl
theorem tab_detentlaw8_ClockSets : tab F.detentlaw8_ClockSets = some R.detentlaw8_ClockSets := rfl
theorem tab_detentlaw8_ClockOrder : tab F.detentlaw8_ClockOrder = some R.detentlaw8_ClockOrder := rfl
theorem tab_detentlaw7_TimerFull : tab F.detentlaw7_TimerFull = some R.detentlaw7_TimerFull := rfl
theorem tab_detentlaw7_TimerSorts : tab F.detentlaw7_TimerSorts = some R.detentlaw7_TimerSorts := rfl
theorem tab_detentlaw7_TimerLeft : tab F.detentlaw7_TimerLeft = some R.detentlaw7_TimerLeft := rfl
theorem tab_detentlaw7_TimerOnce : tab F.detentlaw7_TimerOnce = some R.detentlaw7_TimerOnce := rfl
theorem tab_detentlaw7_TimerNext : tab F.detentlaw7_TimerNext = some R.detentlaw7_TimerNext := rfl
theorem tab_detentlaw7_TimerPlays : tab F.detentlaw7_TimerPlays = some R.detentlaw7_TimerPlays := rfl
theorem tab_detentlaw8_ClockPlays : tab F.detentlaw8_ClockPlays = some R.detentlaw8_ClockPlays := rfl
theorem tab_detentlaw3_Same : tab F.detentlaw3_Same = some R.detentlaw3_Same := rfl
theorem tab_detentlaw7_Same : tab F.detentlaw7_Same = some R.detentlaw7_Same := rfl
theorem tab_detentlaw8_known : tab F.detentlaw8_known = some R.detentlaw8_known := rfl
theorem tab_clock_NewClock : tab F.clock_NewClock = some R.clock_NewClock := rfl
theorem tab_clock_Clock_Tick : tab F.clock_Clock_Tick = some R.clock_Clock_Tick := rfl
theorem tab_clock_Clock_After : tab F.clock_Clock_After = some R.clock_Clock_After := rfl
theorem tab_clock_Clock_Set : tab F.clock_Clock_Set = some R.clock_Clock_Set := rfl
theorem tab_clock_Clock_Now : tab F.clock_Clock_Now = some R.clock_Clock_Now := rfl
theorem tab_clock_Clock_Up : tab F.clock_Clock_Up = some R.clock_Clock_Up := rfl
theorem tab_heap_Timers_Len : tab F.heap_Timers_Len = some R.heap_Timers_Len := rfl
theorem tab_detentlaw7_known : tab F.detentlaw7_known = some R.detentlaw7_known := rfl
theorem tab_heap_New : tab F.heap_New = some R.heap_New := rfl
theorem tab_heap_Timers_Insert : tab F.heap_Timers_Insert = some R.heap_Timers_Insert := rfl
theorem tab_heap_Timers_Due : tab F.heap_Timers_Due = some R.heap_Timers_Due := rfl
theorem tab_heap_Timers_Next : tab F.heap_Timers_Next = some R.heap_Timers_Next := rfl
theorem tab_heap_Timers_Left : tab F.heap_Timers_Left = some R.heap_Timers_Left := rfl
theorem tab_heap_Timers_Cancel : tab F.heap_Timers_Cancel = some R.heap_Timers_Cancel := rfl
theorem tab_detentref7_Timers_Insert : tab F.detentref7_Timers_Insert = some R.detentref7_Timers_Insert := rfl
theorem tab_detentref7_Timers_Cancel : tab F.detentref7_Timers_Cancel = some R.detentref7_Timers_Cancel := rfl
theorem tab_detentref7_Timers_Due : tab F.detentref7_Timers_Due = some R.detentref7_Timers_Due := rfl
theorem tab_heap_Timers_Twin : tab F.heap_Timers_Twin = some R.heap_Timers_Twin := rfl
theorem tab_detentref8_New : tab F.detentref8_New = some R.detentref8_New := rfl
theorem tab_detentref8_Clock_Set : tab F.detentref8_Clock_Set = some R.detentref8_Clock_Set := rfl
theorem tab_detentref8_Clock_After : tab F.detentref8_Clock_After = some R.detentref8_Clock_After := rfl
theorem tab_detentref8_Clock_Tick : tab F.detentref8_Clock_Tick = some R.detentref8_Clock_Tick := rfl
theorem tab_clock_Clock_Apart : tab F.clock_Clock_Apart = some R.clock_Clock_Apart := rfl
theorem tab_detentref8_Clock_Now : tab F.detentref8_Clock_Now = some R.detentref8_Clock_Now := rfl
theorem tab_detentref7_Timers_Next : tab F.detentref7_Timers_Next = some R.detentref7_Timers_Next := rfl
theorem tab_detentref7_Timers_Left : tab F.detentref7_Timers_Left = some R.detentref7_Timers_Left := rfl
theorem tab_nums_Rel : tab F.nums_Rel = some R.nums_Rel := rfl
theorem tab_nums_Add : tab F.nums_Add = some R.nums_Add := rfl
theorem tab_heap_row_up : tab F.heap_row_up = some R.heap_row_up := rfl
theorem tab_heap_Timers_remove : tab F.heap_Timers_remove = some R.heap_Timers_remove := rfl
theorem tab_heap_Timers_find : tab F.heap_Timers_find = some R.heap_Timers_find := rfl
theorem tab_detentref7_Timers_Find : tab F.detentref7_Timers_Find = some R.detentref7_Timers_Find := rfl
theorem tab_detentref7_Timers_least : tab F.detentref7_Timers_least = some R.detentref7_Timers_least := rfl
theorem tab_slices_Clone_heap_row_heap_entry : tab F.slices_Clone_heap_row_heap_entry = some R.slices_Clone_heap_row_heap_entry := rfl
theorem tab_detentref1_Add : tab F.detentref1_Add = some R.detentref1_Add := rfl
theorem tab_detentref1_Rel : tab F.detentref1_Rel = some R.detentref1_Rel := rfl
theorem tab_heap_row_ahead : tab F.heap_row_ahead = some R.heap_row_ahead := rfl
theorem tab_heap_row_down : tab F.heap_row_down = some R.heap_row_down := rfl
theorem tab_slices_IndexFunc_heap_row_heap_entry : tab F.slices_IndexFunc_heap_row_heap_entry = some R.slices_IndexFunc_heap_row_heap_entry := rfl
theorem tab_heap_Timers_find_1 : tab F.heap_Timers_find_1 = some R.heap_Timers_find_1 := rfl
end Go.AM
