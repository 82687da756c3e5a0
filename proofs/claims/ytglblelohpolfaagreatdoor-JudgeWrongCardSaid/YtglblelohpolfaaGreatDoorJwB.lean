/-
  The law JudgeWrong, by the symbolic machine: cases 0; 1; 2; 3; 4; 5; 6; 7; 8.
-/
import Derived.Test.YtglblelohpolfaaGreatDoorJwA
namespace Go.AM
set_option maxRecDepth 100000 in
theorem run_0 : runQ F.detentlaw28_JudgeWrong [unk .i64 0, unk .u8 1] (stC [bFact 0 (-9223372036854775808) 9223372036854775807, bFact 1 0 255, ⟨[(.md 1 9, 1)], some 0, some 0⟩]) = true := by kernel_rfl
set_option maxRecDepth 100000 in
theorem run_1 : runQ F.detentlaw28_JudgeWrong [unk .i64 0, unk .u8 1] (stC [bFact 0 (-9223372036854775808) 9223372036854775807, bFact 1 0 255, ⟨[(.md 1 9, 1)], some 1, some 1⟩]) = true := by kernel_rfl
set_option maxRecDepth 100000 in
theorem run_2 : runQ F.detentlaw28_JudgeWrong [unk .i64 0, unk .u8 1] (stC [bFact 0 (-9223372036854775808) 9223372036854775807, bFact 1 0 255, ⟨[(.md 1 9, 1)], some 2, some 2⟩]) = true := by kernel_rfl
set_option maxRecDepth 100000 in
theorem run_3 : runQ F.detentlaw28_JudgeWrong [unk .i64 0, unk .u8 1] (stC [bFact 0 (-9223372036854775808) 9223372036854775807, bFact 1 0 255, ⟨[(.md 1 9, 1)], some 3, some 3⟩]) = true := by kernel_rfl
set_option maxRecDepth 100000 in
theorem run_4 : runQ F.detentlaw28_JudgeWrong [unk .i64 0, unk .u8 1] (stC [bFact 0 (-9223372036854775808) 9223372036854775807, bFact 1 0 255, ⟨[(.md 1 9, 1)], some 4, some 4⟩]) = true := by kernel_rfl
set_option maxRecDepth 100000 in
theorem run_5 : runQ F.detentlaw28_JudgeWrong [unk .i64 0, unk .u8 1] (stC [bFact 0 (-9223372036854775808) 9223372036854775807, bFact 1 0 255, ⟨[(.md 1 9, 1)], some 5, some 5⟩]) = true := by kernel_rfl
set_option maxRecDepth 100000 in
theorem run_6 : runQ F.detentlaw28_JudgeWrong [unk .i64 0, unk .u8 1] (stC [bFact 0 (-9223372036854775808) 9223372036854775807, bFact 1 0 255, ⟨[(.md 1 9, 1)], some 6, some 6⟩]) = true := by kernel_rfl
set_option maxRecDepth 100000 in
theorem run_7 : runQ F.detentlaw28_JudgeWrong [unk .i64 0, unk .u8 1] (stC [bFact 0 (-9223372036854775808) 9223372036854775807, bFact 1 0 255, ⟨[(.md 1 9, 1)], some 7, some 7⟩]) = true := by kernel_rfl
set_option maxRecDepth 100000 in
theorem run_8 : runQ F.detentlaw28_JudgeWrong [unk .i64 0, unk .u8 1] (stC [bFact 0 (-9223372036854775808) 9223372036854775807, bFact 1 0 255, ⟨[(.md 1 9, 1)], some 8, some 8⟩]) = true := by kernel_rfl
end Go.AM
