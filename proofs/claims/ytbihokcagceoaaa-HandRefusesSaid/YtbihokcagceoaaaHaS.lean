/-
  The laws HandRefuses: by the symbolic machine.
-/
import Derived.Test.YtbihokcagceoaaaSxE
import Derived.Test.YtbihokcagceoaaaTab
import Derived.Test.YtbihokcagceoaaaAmV
namespace Go.AM

set_option maxRecDepth 100000 in
theorem HandRefuses_run : runX tab 60 F.detentlaw20_HandRefuses [unk .i64 0, unk .i64 1, unk .i64 2, unk .i64 3] ⟨.e, 0, [kFact 0 .i64, kFact 1 .i64, kFact 2 .i64, kFact 3 .i64]⟩ isTrue = true := by kernel_rfl

theorem HandRefuses_abs (H : AH) (hw : WF H) (hn : H.next = 0) (avs : List AV) (ha : ArgsAt H.blk [.int .i64, .int .i64, .int .i64, .int .i64] avs) : CallP tab noExt F.detentlaw20_HandRefuses avs H fun v _ => v = .s (.bool true) := by
  obtain ⟨a, _, rfl, w0, ha⟩ := ha.int'
  obtain ⟨b, _, rfl, w1, ha⟩ := ha.int'
  obtain ⟨c, _, rfl, w2, ha⟩ := ha.int'
  obtain ⟨d, _, rfl, w3, ha⟩ := ha.int'
  obtain rfl := ha.nil'
  have hR : XRel (vals [a, b, c, d]) ⟨.e, 0, [kFact 0 .i64, kFact 1 .i64, kFact 2 .i64, kFact 3 .i64]⟩ H :=
    .start (.cons (kFact_ok w0) (.cons (kFact_ok w1) (.cons (kFact_ok w2) (.cons (kFact_ok w3) .nil)))) hw hn
  have := sx_law HandRefuses_run hR
  simp only [List.map_cons, List.map_nil, unk_ev] at this
  exact this
end Go.AM
