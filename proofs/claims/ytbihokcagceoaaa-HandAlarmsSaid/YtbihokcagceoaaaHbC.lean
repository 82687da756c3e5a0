/-
  The law HandAlarms, by the symbolic machine: cleared.
-/
import Derived.Test.YtbihokcagceoaaaSxE
import Derived.Test.YtbihokcagceoaaaTab
import Derived.Test.YtbihokcagceoaaaKeS
namespace Go.AM
set_option maxRecDepth 100000 in
theorem al_c0 : runX tab 60 F.detentlaw20_HandAlarms [unk .i64 0, unk .i64 1, unk .i64 2, .s (.s (.bool false)), .s (.s (.bool true))] ⟨.e, 0, [bFact 0 1 50, bFact 1 0 1000, bFact 2 0 1000], 0⟩ isTrue = true := by kernel_rfl
set_option maxRecDepth 100000 in
theorem al_c1 : runX tab 60 F.detentlaw20_HandAlarms [unk .i64 0, unk .i64 1, unk .i64 2, .s (.s (.bool true)), .s (.s (.bool true))] ⟨.e, 0, [bFact 0 1 50, bFact 1 0 1000, bFact 2 0 1000], 0⟩ isTrue = true := by kernel_rfl
set_option maxRecDepth 100000 in
theorem al_g0_00 : runX tab 60 F.detentlaw20_HandAlarms [unk .i64 0, unk .i64 1, unk .i64 2, .s (.s (.bool false)), .s (.s (.bool false))] ⟨.e, 0, [bFact 0 (-9223372036854775808) 0, bFact 1 (-9223372036854775808) 9223372036854775807, bFact 2 (-9223372036854775808) 9223372036854775807], 0⟩ isTrue = true := by kernel_rfl
set_option maxRecDepth 100000 in
theorem al_g1_00 : runX tab 60 F.detentlaw20_HandAlarms [unk .i64 0, unk .i64 1, unk .i64 2, .s (.s (.bool false)), .s (.s (.bool false))] ⟨.e, 0, [bFact 0 51 9223372036854775807, bFact 1 (-9223372036854775808) 9223372036854775807, bFact 2 (-9223372036854775808) 9223372036854775807], 0⟩ isTrue = true := by kernel_rfl
set_option maxRecDepth 100000 in
theorem al_g2_00 : runX tab 60 F.detentlaw20_HandAlarms [unk .i64 0, unk .i64 1, unk .i64 2, .s (.s (.bool false)), .s (.s (.bool false))] ⟨.e, 0, [bFact 0 1 50, bFact 1 (-9223372036854775808) (-1), bFact 2 (-9223372036854775808) 9223372036854775807], 0⟩ isTrue = true := by kernel_rfl
set_option maxRecDepth 100000 in
theorem al_g3_00 : runX tab 60 F.detentlaw20_HandAlarms [unk .i64 0, unk .i64 1, unk .i64 2, .s (.s (.bool false)), .s (.s (.bool false))] ⟨.e, 0, [bFact 0 1 50, bFact 1 1001 9223372036854775807, bFact 2 (-9223372036854775808) 9223372036854775807], 0⟩ isTrue = true := by kernel_rfl
set_option maxRecDepth 100000 in
theorem al_g4_00 : runX tab 60 F.detentlaw20_HandAlarms [unk .i64 0, unk .i64 1, unk .i64 2, .s (.s (.bool false)), .s (.s (.bool false))] ⟨.e, 0, [bFact 0 1 50, bFact 1 0 1000, bFact 2 (-9223372036854775808) (-1)], 0⟩ isTrue = true := by kernel_rfl
set_option maxRecDepth 100000 in
theorem al_g5_00 : runX tab 60 F.detentlaw20_HandAlarms [unk .i64 0, unk .i64 1, unk .i64 2, .s (.s (.bool false)), .s (.s (.bool false))] ⟨.e, 0, [bFact 0 1 50, bFact 1 0 1000, bFact 2 1001 9223372036854775807], 0⟩ isTrue = true := by kernel_rfl
set_option maxRecDepth 100000 in
theorem al_g0_01 : runX tab 60 F.detentlaw20_HandAlarms [unk .i64 0, unk .i64 1, unk .i64 2, .s (.s (.bool false)), .s (.s (.bool true))] ⟨.e, 0, [bFact 0 (-9223372036854775808) 0, bFact 1 (-9223372036854775808) 9223372036854775807, bFact 2 (-9223372036854775808) 9223372036854775807], 0⟩ isTrue = true := by kernel_rfl
set_option maxRecDepth 100000 in
theorem al_g1_01 : runX tab 60 F.detentlaw20_HandAlarms [unk .i64 0, unk .i64 1, unk .i64 2, .s (.s (.bool false)), .s (.s (.bool true))] ⟨.e, 0, [bFact 0 51 9223372036854775807, bFact 1 (-9223372036854775808) 9223372036854775807, bFact 2 (-9223372036854775808) 9223372036854775807], 0⟩ isTrue = true := by kernel_rfl
set_option maxRecDepth 100000 in
theorem al_g2_01 : runX tab 60 F.detentlaw20_HandAlarms [unk .i64 0, unk .i64 1, unk .i64 2, .s (.s (.bool false)), .s (.s (.bool true))] ⟨.e, 0, [bFact 0 1 50, bFact 1 (-9223372036854775808) (-1), bFact 2 (-9223372036854775808) 9223372036854775807], 0⟩ isTrue = true := by kernel_rfl
set_option maxRecDepth 100000 in
theorem al_g3_01 : runX tab 60 F.detentlaw20_HandAlarms [unk .i64 0, unk .i64 1, unk .i64 2, .s (.s (.bool false)), .s (.s (.bool true))] ⟨.e, 0, [bFact 0 1 50, bFact 1 1001 9223372036854775807, bFact 2 (-9223372036854775808) 9223372036854775807], 0⟩ isTrue = true := by kernel_rfl
set_option maxRecDepth 100000 in
theorem al_g4_01 : runX tab 60 F.detentlaw20_HandAlarms [unk .i64 0, unk .i64 1, unk .i64 2, .s (.s (.bool false)), .s (.s (.bool true))] ⟨.e, 0, [bFact 0 1 50, bFact 1 0 1000, bFact 2 (-9223372036854775808) (-1)], 0⟩ isTrue = true := by kernel_rfl
set_option maxRecDepth 100000 in
theorem al_g5_01 : runX tab 60 F.detentlaw20_HandAlarms [unk .i64 0, unk .i64 1, unk .i64 2, .s (.s (.bool false)), .s (.s (.bool true))] ⟨.e, 0, [bFact 0 1 50, bFact 1 0 1000, bFact 2 1001 9223372036854775807], 0⟩ isTrue = true := by kernel_rfl
set_option maxRecDepth 100000 in
theorem al_g0_10 : runX tab 60 F.detentlaw20_HandAlarms [unk .i64 0, unk .i64 1, unk .i64 2, .s (.s (.bool true)), .s (.s (.bool false))] ⟨.e, 0, [bFact 0 (-9223372036854775808) 0, bFact 1 (-9223372036854775808) 9223372036854775807, bFact 2 (-9223372036854775808) 9223372036854775807], 0⟩ isTrue = true := by kernel_rfl
set_option maxRecDepth 100000 in
theorem al_g1_10 : runX tab 60 F.detentlaw20_HandAlarms [unk .i64 0, unk .i64 1, unk .i64 2, .s (.s (.bool true)), .s (.s (.bool false))] ⟨.e, 0, [bFact 0 51 9223372036854775807, bFact 1 (-9223372036854775808) 9223372036854775807, bFact 2 (-9223372036854775808) 9223372036854775807], 0⟩ isTrue = true := by kernel_rfl
set_option maxRecDepth 100000 in
theorem al_g2_10 : runX tab 60 F.detentlaw20_HandAlarms [unk .i64 0, unk .i64 1, unk .i64 2, .s (.s (.bool true)), .s (.s (.bool false))] ⟨.e, 0, [bFact 0 1 50, bFact 1 (-9223372036854775808) (-1), bFact 2 (-9223372036854775808) 9223372036854775807], 0⟩ isTrue = true := by kernel_rfl
set_option maxRecDepth 100000 in
theorem al_g3_10 : runX tab 60 F.detentlaw20_HandAlarms [unk .i64 0, unk .i64 1, unk .i64 2, .s (.s (.bool true)), .s (.s (.bool false))] ⟨.e, 0, [bFact 0 1 50, bFact 1 1001 9223372036854775807, bFact 2 (-9223372036854775808) 9223372036854775807], 0⟩ isTrue = true := by kernel_rfl
set_option maxRecDepth 100000 in
theorem al_g4_10 : runX tab 60 F.detentlaw20_HandAlarms [unk .i64 0, unk .i64 1, unk .i64 2, .s (.s (.bool true)), .s (.s (.bool false))] ⟨.e, 0, [bFact 0 1 50, bFact 1 0 1000, bFact 2 (-9223372036854775808) (-1)], 0⟩ isTrue = true := by kernel_rfl
set_option maxRecDepth 100000 in
theorem al_g5_10 : runX tab 60 F.detentlaw20_HandAlarms [unk .i64 0, unk .i64 1, unk .i64 2, .s (.s (.bool true)), .s (.s (.bool false))] ⟨.e, 0, [bFact 0 1 50, bFact 1 0 1000, bFact 2 1001 9223372036854775807], 0⟩ isTrue = true := by kernel_rfl
set_option maxRecDepth 100000 in
theorem al_g0_11 : runX tab 60 F.detentlaw20_HandAlarms [unk .i64 0, unk .i64 1, unk .i64 2, .s (.s (.bool true)), .s (.s (.bool true))] ⟨.e, 0, [bFact 0 (-9223372036854775808) 0, bFact 1 (-9223372036854775808) 9223372036854775807, bFact 2 (-9223372036854775808) 9223372036854775807], 0⟩ isTrue = true := by kernel_rfl
set_option maxRecDepth 100000 in
theorem al_g1_11 : runX tab 60 F.detentlaw20_HandAlarms [unk .i64 0, unk .i64 1, unk .i64 2, .s (.s (.bool true)), .s (.s (.bool true))] ⟨.e, 0, [bFact 0 51 9223372036854775807, bFact 1 (-9223372036854775808) 9223372036854775807, bFact 2 (-9223372036854775808) 9223372036854775807], 0⟩ isTrue = true := by kernel_rfl
set_option maxRecDepth 100000 in
theorem al_g2_11 : runX tab 60 F.detentlaw20_HandAlarms [unk .i64 0, unk .i64 1, unk .i64 2, .s (.s (.bool true)), .s (.s (.bool true))] ⟨.e, 0, [bFact 0 1 50, bFact 1 (-9223372036854775808) (-1), bFact 2 (-9223372036854775808) 9223372036854775807], 0⟩ isTrue = true := by kernel_rfl
set_option maxRecDepth 100000 in
theorem al_g3_11 : runX tab 60 F.detentlaw20_HandAlarms [unk .i64 0, unk .i64 1, unk .i64 2, .s (.s (.bool true)), .s (.s (.bool true))] ⟨.e, 0, [bFact 0 1 50, bFact 1 1001 9223372036854775807, bFact 2 (-9223372036854775808) 9223372036854775807], 0⟩ isTrue = true := by kernel_rfl
set_option maxRecDepth 100000 in
theorem al_g4_11 : runX tab 60 F.detentlaw20_HandAlarms [unk .i64 0, unk .i64 1, unk .i64 2, .s (.s (.bool true)), .s (.s (.bool true))] ⟨.e, 0, [bFact 0 1 50, bFact 1 0 1000, bFact 2 (-9223372036854775808) (-1)], 0⟩ isTrue = true := by kernel_rfl
set_option maxRecDepth 100000 in
theorem al_g5_11 : runX tab 60 F.detentlaw20_HandAlarms [unk .i64 0, unk .i64 1, unk .i64 2, .s (.s (.bool true)), .s (.s (.bool true))] ⟨.e, 0, [bFact 0 1 50, bFact 1 0 1000, bFact 2 1001 9223372036854775807], 0⟩ isTrue = true := by kernel_rfl
end Go.AM
