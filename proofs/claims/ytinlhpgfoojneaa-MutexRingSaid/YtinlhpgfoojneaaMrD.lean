/-
  The law MutexRing, by the symbolic machine: the law.
-/
import Derived.Test.YtinlhpgfoojneaaSxE
import Derived.Test.YtinlhpgfoojneaaTab
import Derived.Test.YtinlhpgfoojneaaMrA
import Derived.Test.YtinlhpgfoojneaaMrB
import Derived.Test.YtinlhpgfoojneaaMrC
import Derived.Test.YtinlhpgfoojneaaAmV
namespace Go.AM

theorem MutexRing_abs (H : AH) (hw : WF H) (hn : H.next = 0) (avs : List AV) (ha : ArgsAt H.blk [.int .i64, .int .i64] avs) : CallP tab noExt F.detentlaw15_MutexRing avs H fun v _ => v = .s (.bool true) := by
  obtain ⟨a, _, rfl, w0, ha⟩ := ha.int'
  obtain ⟨n, _, rfl, w1, ha⟩ := ha.int'
  obtain rfl := ha.nil'
  have wa : -9223372036854775808 ≤ a ∧ a ≤ 9223372036854775807 := by simpa [Lit.wf, IntKind.min, IntKind.max, IntKind.signed, IntKind.bits] using w0
  have wn : -9223372036854775808 ≤ n ∧ n ≤ 9223372036854775807 := by simpa [Lit.wf, IntKind.min, IntKind.max, IntKind.signed, IntKind.bits] using w1
  have g : ∀ {l1 h1 l2 h2 : Int}, runX tab 60 F.detentlaw15_MutexRing [unk .i64 0, unk .i64 1] ⟨.e, 0, [bFact 0 l1 h1, bFact 1 l2 h2]⟩ isTrue = true → l1 ≤ a → a ≤ h1 → l2 ≤ n → n ≤ h2 → CallP tab noExt F.detentlaw15_MutexRing [.s (.int .i64 a), .s (.int .i64 n)] H fun v _ => v = .s (.bool true) := by
    intro l1 h1 l2 h2 hr e1 e2 e3 e4
    have hR : XRel (vals [a, n]) ⟨.e, 0, [bFact 0 l1 h1, bFact 1 l2 h2]⟩ H := .start (.cons (bFact_ok e1 e2) (.cons (bFact_ok e3 e4) .nil)) hw hn
    have := sx_law hr hR
    simp only [List.map_cons, List.map_nil, unk_ev] at this
    exact this
  have k : ∀ {x y : Int}, runX tab 60 F.detentlaw15_MutexRing [.s (.s (.int .i64 x)), .s (.s (.int .i64 y))] ⟨.e, 0, []⟩ isTrue = true → CallP tab noExt F.detentlaw15_MutexRing [.s (.int .i64 x), .s (.int .i64 y)] H fun v _ => v = .s (.bool true) := fun hr => sx_law hr (.start (ρ := fun _ => 0) .nil hw hn)
  by_cases a1 : a < 0
  · exact g ring_g1 (by omega) (by omega) (by omega) (by omega)
  by_cases a2 : 2 < a
  · exact g ring_g2 (by omega) (by omega) (by omega) (by omega)
  by_cases n1 : n < 2
  · exact g ring_g3 (by omega) (by omega) (by omega) (by omega)
  by_cases n2 : 8 < n
  · exact g ring_g4 (by omega) (by omega) (by omega) (by omega)
  have ea : a = 0 ∨ a = 1 ∨ a = 2 := by omega
  have en : n = 2 ∨ n = 3 ∨ n = 4 ∨ n = 5 ∨ n = 6 ∨ n = 7 ∨ n = 8 := by omega
  rcases ea with rfl | rfl | rfl
  · rcases en with rfl | rfl | rfl | rfl | rfl | rfl | rfl
    · exact k ring_0_2
    · exact k ring_0_3
    · exact k ring_0_4
    · exact k ring_0_5
    · exact k ring_0_6
    · exact k ring_0_7
    · exact k ring_0_8
  · rcases en with rfl | rfl | rfl | rfl | rfl | rfl | rfl
    · exact k ring_1_2
    · exact k ring_1_3
    · exact k ring_1_4
    · exact k ring_1_5
    · exact k ring_1_6
    · exact k ring_1_7
    · exact k ring_1_8
  · rcases en with rfl | rfl | rfl | rfl | rfl | rfl | rfl
    · exact k ring_2_2
    · exact k ring_2_3
    · exact k ring_2_4
    · exact k ring_2_5
    · exact k ring_2_6
    · exact k ring_2_7
    · exact k ring_2_8
end Go.AM
