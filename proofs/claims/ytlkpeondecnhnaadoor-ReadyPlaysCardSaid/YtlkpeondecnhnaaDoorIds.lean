/-
  The numbers of the functions in this translation.
-/
namespace Go.AM.F
abbrev detentlaw5_BitsPlays : Nat := 3
abbrev detentlaw5_BitsWalks : Nat := 4
abbrev detentlaw5_BitsBack : Nat := 5
abbrev detentlaw5_BitsEnds : Nat := 6
abbrev detentlaw9_ReadyTurns : Nat := 7
abbrev detentlaw9_ReadyRefuses : Nat := 8
abbrev detentlaw9_ReadyFirst : Nat := 9
abbrev detentlaw9_ReadyAgain : Nat := 10
abbrev detentlaw9_ReadyPlays : Nat := 11
abbrev detentlaw3_Same : Nat := 26
abbrev detentlaw5_known : Nat := 12
abbrev bits_Map_Set : Nat := 13
abbrev bits_Map_Clear : Nat := 14
abbrev bits_Map_Has : Nat := 15
abbrev bits_Map_First : Nat := 16
abbrev bits_Map_After : Nat := 17
abbrev bits_Map_Row : Nat := 18
abbrev bits_Map_Len : Nat := 19
abbrev detentlaw9_known : Nat := 20
abbrev ready_New : Nat := 21
abbrev ready_Queue_Add : Nat := 22
abbrev ready_Queue_All : Nat := 23
abbrev ready_Queue_Row : Nat := 24
abbrev ready_Queue_Rotate : Nat := 25
abbrev ready_Queue_Pri : Nat := 27
abbrev ready_Queue_First : Nat := 28
abbrev ready_Queue_Remove : Nat := 29
abbrev ready_Queue_Change : Nat := 30
abbrev detentref9_Queue_Add : Nat := 31
abbrev detentref9_Queue_Remove : Nat := 32
abbrev detentref9_Queue_Change : Nat := 33
abbrev detentref9_Queue_Rotate : Nat := 34
abbrev ready_Queue_Twin : Nat := 35
abbrev detentlaw9_same : Nat := 36
abbrev bits_place : Nat := 37
abbrev math_bits_TrailingZeros64 : Nat := 38
abbrev math_bits_OnesCount64 : Nat := 39
abbrev ready_task : Nat := 40
abbrev ready_may : Nat := 41
abbrev ready_Queue_put : Nat := 42
abbrev slices_Clip__int_int : Nat := 43
abbrev slices_Clone__int_int : Nat := 44
abbrev slices_Index__int_int : Nat := 45
abbrev slices_Delete__int_int : Nat := 46
abbrev detentref9_good : Nat := 47
abbrev detentref9_Queue_Pri : Nat := 48
abbrev detentref9_Queue_First : Nat := 49
abbrev detentref9_Queue_All : Nat := 50
end Go.AM.F
