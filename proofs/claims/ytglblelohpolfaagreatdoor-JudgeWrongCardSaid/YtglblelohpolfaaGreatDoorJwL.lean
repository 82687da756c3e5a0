/-
  The law JudgeWrong, by the symbolic machine: the law.
-/
import Derived.Test.YtglblelohpolfaaGreatDoorJwB
namespace Go.AM

theorem md_fact {ρ : Nat → Int} {i m : Nat} {r : Int} (h0 : 0 ≤ ρ i) (h : ρ i % (m : Int) = r) : (Fact.mk [(.md i m, 1)] (some r) (some r)).ok ρ := by
  have h : (ρ i).tmod (m : Int) = r := by rw [Int.tmod_eq_emod_of_nonneg h0]; exact h
  constructor
  · intro y hy
    have hy : r = y := Option.some.inj hy
    subst hy
    simp only [Lin.ev, Atom.ev]; omega
  · intro y hy
    have hy : r = y := Option.some.inj hy
    subst hy
    simp only [Lin.ev, Atom.ev]; omega

theorem JudgeWrong_abs (H : AH) (hw : WF H) (hn : H.next = 1) (h0 : H.blk 0 = some (.cells true tzL)) (avs : List AV) (ha : ArgsAt H.blk [.int .i64, .int .u8] avs) : CallP tab noExt F.detentlaw28_JudgeWrong avs H fun v _ => v = .s (.bool true) := by
  obtain ⟨a, _, rfl, w0, ha0⟩ := ha.int'
  obtain ⟨b, _, rfl, w1, ha1⟩ := ha0.int'
  obtain rfl := ha1.nil'
  have u0 : (-9223372036854775808) ≤ a ∧ a ≤ 9223372036854775807 := by simpa [Lit.wf, IntKind.min, IntKind.max, IntKind.signed, IntKind.bits] using w0
  have u1 : 0 ≤ b ∧ b ≤ 255 := by simpa [Lit.wf, IntKind.min, IntKind.max, IntKind.signed, IntKind.bits] using w1
  have g : ∀ (fs : List Fact), FactsOk (vals [a, b]) fs → runQ F.detentlaw28_JudgeWrong [unk .i64 0, unk .u8 1] (stC fs) = true → CallP tab noExt F.detentlaw28_JudgeWrong [.s (.int .i64 a), .s (.int .u8 b)] H fun v _ => v = .s (.bool true) := by
    intro fs hfs hr
    have hR : XRel (vals [a, b]) (stC fs) H := .startC hfs hw hn h0
    have := runQ_law hr hR
    simp only [List.map_cons, List.map_nil, unk_ev] at this
    exact this
  have hm : b % 9 = 0 ∨ b % 9 = 1 ∨ b % 9 = 2 ∨ b % 9 = 3 ∨ b % 9 = 4 ∨ b % 9 = 5 ∨ b % 9 = 6 ∨ b % 9 = 7 ∨ b % 9 = 8 := by omega
  rcases hm with hm | hm | hm | hm | hm | hm | hm | hm | hm
  · exact g _ (.cons (bFact_ok (i := 0) u0.1 u0.2) (.cons (bFact_ok (i := 1) u1.1 u1.2) (.cons (md_fact (i := 1) (m := 9) u1.1 hm) .nil))) run_0
  · exact g _ (.cons (bFact_ok (i := 0) u0.1 u0.2) (.cons (bFact_ok (i := 1) u1.1 u1.2) (.cons (md_fact (i := 1) (m := 9) u1.1 hm) .nil))) run_1
  · exact g _ (.cons (bFact_ok (i := 0) u0.1 u0.2) (.cons (bFact_ok (i := 1) u1.1 u1.2) (.cons (md_fact (i := 1) (m := 9) u1.1 hm) .nil))) run_2
  · exact g _ (.cons (bFact_ok (i := 0) u0.1 u0.2) (.cons (bFact_ok (i := 1) u1.1 u1.2) (.cons (md_fact (i := 1) (m := 9) u1.1 hm) .nil))) run_3
  · exact g _ (.cons (bFact_ok (i := 0) u0.1 u0.2) (.cons (bFact_ok (i := 1) u1.1 u1.2) (.cons (md_fact (i := 1) (m := 9) u1.1 hm) .nil))) run_4
  · exact g _ (.cons (bFact_ok (i := 0) u0.1 u0.2) (.cons (bFact_ok (i := 1) u1.1 u1.2) (.cons (md_fact (i := 1) (m := 9) u1.1 hm) .nil))) run_5
  · exact g _ (.cons (bFact_ok (i := 0) u0.1 u0.2) (.cons (bFact_ok (i := 1) u1.1 u1.2) (.cons (md_fact (i := 1) (m := 9) u1.1 hm) .nil))) run_6
  · exact g _ (.cons (bFact_ok (i := 0) u0.1 u0.2) (.cons (bFact_ok (i := 1) u1.1 u1.2) (.cons (md_fact (i := 1) (m := 9) u1.1 hm) .nil))) run_7
  · exact g _ (.cons (bFact_ok (i := 0) u0.1 u0.2) (.cons (bFact_ok (i := 1) u1.1 u1.2) (.cons (md_fact (i := 1) (m := 9) u1.1 hm) .nil))) run_8
end Go.AM
