/-
  The law MutexOwns, by the symbolic machine: the law.
-/
import Derived.Test.YtinlhpgfoojneaaMrA
import Derived.Test.YtinlhpgfoojneaaMoA
import Derived.Test.YtinlhpgfoojneaaMoB
import Derived.Test.YtinlhpgfoojneaaMoC
import Derived.Test.YtinlhpgfoojneaaAmV
namespace Go.AM

theorem MutexOwns_abs (H : AH) (hw : WF H) (hn : H.next = 0) (avs : List AV) (ha : ArgsAt H.blk [.int .i64, .int .i64, .int .i64] avs) : CallP tab noExt F.detentlaw15_MutexOwns avs H fun v _ => v = .s (.bool true) := by
  obtain ⟨t, _, rfl, w0, ha⟩ := ha.int'
  obtain ⟨a, _, rfl, w1, ha⟩ := ha.int'
  obtain ⟨b, _, rfl, w2, ha⟩ := ha.int'
  obtain rfl := ha.nil'
  have wt : -9223372036854775808 ≤ t ∧ t ≤ 9223372036854775807 := by simpa [Lit.wf, IntKind.min, IntKind.max, IntKind.signed, IntKind.bits] using w0
  have wa : -9223372036854775808 ≤ a ∧ a ≤ 9223372036854775807 := by simpa [Lit.wf, IntKind.min, IntKind.max, IntKind.signed, IntKind.bits] using w1
  have wb : -9223372036854775808 ≤ b ∧ b ≤ 9223372036854775807 := by simpa [Lit.wf, IntKind.min, IntKind.max, IntKind.signed, IntKind.bits] using w2
  have g : ∀ {l0 h0 l1 h1 l2 h2 : Int}, runX tab 60 F.detentlaw15_MutexOwns [unk .i64 0, unk .i64 1, unk .i64 2] ⟨.e, 0, [bFact 0 l0 h0, bFact 1 l1 h1, bFact 2 l2 h2]⟩ isTrue = true → l0 ≤ t → t ≤ h0 → l1 ≤ a → a ≤ h1 → l2 ≤ b → b ≤ h2 → CallP tab noExt F.detentlaw15_MutexOwns [.s (.int .i64 t), .s (.int .i64 a), .s (.int .i64 b)] H fun v _ => v = .s (.bool true) := by
    intro l0 h0 l1 h1 l2 h2 hr e1 e2 e3 e4 e5 e6
    have hR : XRel (vals [t, a, b]) ⟨.e, 0, [bFact 0 l0 h0, bFact 1 l1 h1, bFact 2 l2 h2]⟩ H := .start (.cons (bFact_ok e1 e2) (.cons (bFact_ok e3 e4) (.cons (bFact_ok e5 e6) .nil))) hw hn
    have := sx_law hr hR
    simp only [List.map_cons, List.map_nil, unk_ev] at this
    exact this
  by_cases t1 : t < 0
  · exact g owns_g1 (by omega) (by omega) (by omega) (by omega) (by omega) (by omega)
  by_cases t2 : 2 < t
  · exact g owns_g2 (by omega) (by omega) (by omega) (by omega) (by omega) (by omega)
  by_cases a1 : a < 1
  · exact g owns_g3 (by omega) (by omega) (by omega) (by omega) (by omega) (by omega)
  by_cases a2 : 16 < a
  · exact g owns_g4 (by omega) (by omega) (by omega) (by omega) (by omega) (by omega)
  by_cases b1 : b < 1
  · exact g owns_g5 (by omega) (by omega) (by omega) (by omega) (by omega) (by omega)
  by_cases b2 : 16 < b
  · exact g owns_g6 (by omega) (by omega) (by omega) (by omega) (by omega) (by omega)
  have et : t = 0 ∨ t = 1 ∨ t = 2 := by omega
  have ea : (1 ≤ a ∧ a ≤ 4) ∨ (5 ≤ a ∧ a ≤ 8) ∨ (9 ≤ a ∧ a ≤ 12) ∨ (13 ≤ a ∧ a ≤ 16) := by omega
  rcases et with et | et | et
  · rcases ea with ea | ea | ea | ea
    · exact g owns_0_1 (by omega) (by omega) (by omega) (by omega) (by omega) (by omega)
    · exact g owns_0_5 (by omega) (by omega) (by omega) (by omega) (by omega) (by omega)
    · exact g owns_0_9 (by omega) (by omega) (by omega) (by omega) (by omega) (by omega)
    · exact g owns_0_13 (by omega) (by omega) (by omega) (by omega) (by omega) (by omega)
  · rcases ea with ea | ea | ea | ea
    · exact g owns_1_1 (by omega) (by omega) (by omega) (by omega) (by omega) (by omega)
    · exact g owns_1_5 (by omega) (by omega) (by omega) (by omega) (by omega) (by omega)
    · exact g owns_1_9 (by omega) (by omega) (by omega) (by omega) (by omega) (by omega)
    · exact g owns_1_13 (by omega) (by omega) (by omega) (by omega) (by omega) (by omega)
  · rcases ea with ea | ea | ea | ea
    · exact g owns_2_1 (by omega) (by omega) (by omega) (by omega) (by omega) (by omega)
    · exact g owns_2_5 (by omega) (by omega) (by omega) (by omega) (by omega) (by omega)
    · exact g owns_2_9 (by omega) (by omega) (by omega) (by omega) (by omega) (by omega)
    · exact g owns_2_13 (by omega) (by omega) (by omega) (by omega) (by omega) (by omega)
end Go.AM
