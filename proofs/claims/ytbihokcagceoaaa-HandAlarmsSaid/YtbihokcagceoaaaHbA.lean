/-
  The law HandAlarms, by the symbolic machine: not cleared, set once.
-/
import Derived.Test.YtbihokcagceoaaaSxE
import Derived.Test.YtbihokcagceoaaaTab
import Derived.Test.YtbihokcagceoaaaKeS
namespace Go.AM
set_option maxRecDepth 100000 in
theorem al_0_0 : runX tab 60 F.detentlaw20_HandAlarms [unk .i64 0, unk .i64 1, unk .i64 2, .s (.s (.bool false)), .s (.s (.bool false))] ⟨.e, 0, [bFact 0 1 50, bFact 1 0 1000, bFact 2 0 1000, ⟨[(.v 0, 7), (.v 1, -1)], some 1, none⟩], 0⟩ isTrue = true := by kernel_rfl
set_option maxRecDepth 100000 in
theorem al_0_1 : runX tab 60 F.detentlaw20_HandAlarms [unk .i64 0, unk .i64 1, unk .i64 2, .s (.s (.bool false)), .s (.s (.bool false))] ⟨.e, 0, [bFact 0 1 50, bFact 1 0 1000, bFact 2 0 1000, ⟨[(.v 0, 14), (.v 1, -1)], some 1, none⟩, ⟨[(.v 0, 7), (.v 1, -1)], none, some 0⟩], 0⟩ isTrue = true := by kernel_rfl
set_option maxRecDepth 100000 in
theorem al_0_2 : runX tab 60 F.detentlaw20_HandAlarms [unk .i64 0, unk .i64 1, unk .i64 2, .s (.s (.bool false)), .s (.s (.bool false))] ⟨.e, 0, [bFact 0 1 50, bFact 1 0 1000, bFact 2 0 1000, ⟨[(.v 0, 14), (.v 1, -1)], none, some 0⟩], 0⟩ isTrue = true := by kernel_rfl
end Go.AM
