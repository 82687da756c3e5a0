/-
  The law KernelCeils, by the symbolic machine: the law.
-/
import Derived.Test.YtineacililniiaaGreatDoorKcB
import Derived.Test.YtineacililniiaaGreatDoorKcC
import Derived.Test.YtineacililniiaaGreatDoorKcD
import Derived.Test.YtineacililniiaaGreatDoorKcE
namespace Go.AM

theorem md_fact {ρ : Nat → Int} {i m : Nat} {r : Int} (h0 : 0 ≤ ρ i) (h : ρ i % (m : Int) = r) : (Fact.mk [(.md i m, 1)] (some r) (some r)).ok ρ := by
  have h : (ρ i).tmod (m : Int) = r := by rw [Int.tmod_eq_emod_of_nonneg h0]; exact h
  constructor
  · intro y hy
    have hy : r = y := Option.some.inj hy
    subst hy
    simp only [Lin.ev, Atom.ev]; omega
  · intro y hy
    have hy : r = y := Option.some.inj hy
    subst hy
    simp only [Lin.ev, Atom.ev]; omega

theorem KernelCeils_abs (H : AH) (hw : WF H) (hn : H.next = 1) (h0 : H.blk 0 = some (.cells true tzL)) (avs : List AV) (ha : ArgsAt H.blk [.int .u8] avs) : CallP tab noExt F.detentlaw26_KernelCeils avs H fun v _ => v = .s (.bool true) := by
  obtain ⟨a, _, rfl, w0, ha0⟩ := ha.int'
  obtain rfl := ha0.nil'
  have u0 : 0 ≤ a ∧ a ≤ 255 := by simpa [Lit.wf, IntKind.min, IntKind.max, IntKind.signed, IntKind.bits] using w0
  have g : ∀ (fs : List Fact), FactsOk (vals [a]) fs → runQ F.detentlaw26_KernelCeils [unk .u8 0] (stC fs) = true → CallP tab noExt F.detentlaw26_KernelCeils [.s (.int .u8 a)] H fun v _ => v = .s (.bool true) := by
    intro fs hfs hr
    have hR : XRel (vals [a]) (stC fs) H := .startC hfs hw hn h0
    have := runQ_law hr hR
    simp only [List.map_cons, List.map_nil, unk_ev] at this
    exact this
  have hm : a % 16 = 0 ∨ a % 16 = 1 ∨ a % 16 = 2 ∨ a % 16 = 3 ∨ a % 16 = 4 ∨ a % 16 = 5 ∨ a % 16 = 6 ∨ a % 16 = 7 ∨ a % 16 = 8 ∨ a % 16 = 9 ∨ a % 16 = 10 ∨ a % 16 = 11 ∨ a % 16 = 12 ∨ a % 16 = 13 ∨ a % 16 = 14 ∨ a % 16 = 15 := by omega
  rcases hm with hm | hm | hm | hm | hm | hm | hm | hm | hm | hm | hm | hm | hm | hm | hm | hm
  · exact g _ (.cons (bFact_ok (i := 0) u0.1 u0.2) (.cons (md_fact (i := 0) (m := 16) u0.1 hm) .nil)) run_0
  · exact g _ (.cons (bFact_ok (i := 0) u0.1 u0.2) (.cons (md_fact (i := 0) (m := 16) u0.1 hm) .nil)) run_1
  · exact g _ (.cons (bFact_ok (i := 0) u0.1 u0.2) (.cons (md_fact (i := 0) (m := 16) u0.1 hm) .nil)) run_2
  · exact g _ (.cons (bFact_ok (i := 0) u0.1 u0.2) (.cons (md_fact (i := 0) (m := 16) u0.1 hm) .nil)) run_3
  · exact g _ (.cons (bFact_ok (i := 0) u0.1 u0.2) (.cons (md_fact (i := 0) (m := 16) u0.1 hm) .nil)) run_4
  · exact g _ (.cons (bFact_ok (i := 0) u0.1 u0.2) (.cons (md_fact (i := 0) (m := 16) u0.1 hm) .nil)) run_5
  · exact g _ (.cons (bFact_ok (i := 0) u0.1 u0.2) (.cons (md_fact (i := 0) (m := 16) u0.1 hm) .nil)) run_6
  · exact g _ (.cons (bFact_ok (i := 0) u0.1 u0.2) (.cons (md_fact (i := 0) (m := 16) u0.1 hm) .nil)) run_7
  · exact g _ (.cons (bFact_ok (i := 0) u0.1 u0.2) (.cons (md_fact (i := 0) (m := 16) u0.1 hm) .nil)) run_8
  · exact g _ (.cons (bFact_ok (i := 0) u0.1 u0.2) (.cons (md_fact (i := 0) (m := 16) u0.1 hm) .nil)) run_9
  · exact g _ (.cons (bFact_ok (i := 0) u0.1 u0.2) (.cons (md_fact (i := 0) (m := 16) u0.1 hm) .nil)) run_10
  · exact g _ (.cons (bFact_ok (i := 0) u0.1 u0.2) (.cons (md_fact (i := 0) (m := 16) u0.1 hm) .nil)) run_11
  · exact g _ (.cons (bFact_ok (i := 0) u0.1 u0.2) (.cons (md_fact (i := 0) (m := 16) u0.1 hm) .nil)) run_12
  · exact g _ (.cons (bFact_ok (i := 0) u0.1 u0.2) (.cons (md_fact (i := 0) (m := 16) u0.1 hm) .nil)) run_13
  · exact g _ (.cons (bFact_ok (i := 0) u0.1 u0.2) (.cons (md_fact (i := 0) (m := 16) u0.1 hm) .nil)) run_14
  · exact g _ (.cons (bFact_ok (i := 0) u0.1 u0.2) (.cons (md_fact (i := 0) (m := 16) u0.1 hm) .nil)) run_15
end Go.AM
