/-
  The law KernelStates, by the symbolic machine: the law.
-/
import Derived.Test.YtineacililniiaaGreatDoorKtB
import Derived.Test.YtineacililniiaaGreatDoorKtC
import Derived.Test.YtineacililniiaaGreatDoorKtD
import Derived.Test.YtineacililniiaaGreatDoorKtE
import Derived.Test.YtineacililniiaaGreatDoorKtF
import Derived.Test.YtineacililniiaaGreatDoorKtG
import Derived.Test.YtineacililniiaaGreatDoorKtH
namespace Go.AM

theorem md_fact {ρ : Nat → Int} {i m : Nat} {r : Int} (h0 : 0 ≤ ρ i) (h : ρ i % (m : Int) = r) : (Fact.mk [(.md i m, 1)] (some r) (some r)).ok ρ := by
  have h : (ρ i).tmod (m : Int) = r := by rw [Int.tmod_eq_emod_of_nonneg h0]; exact h
  constructor
  · intro y hy
    have hy : r = y := Option.some.inj hy
    subst hy
    simp only [Lin.ev, Atom.ev]; omega
  · intro y hy
    have hy : r = y := Option.some.inj hy
    subst hy
    simp only [Lin.ev, Atom.ev]; omega

theorem KernelStates_abs (H : AH) (hw : WF H) (hn : H.next = 1) (h0 : H.blk 0 = some (.cells true tzL)) (avs : List AV) (ha : ArgsAt H.blk [.int .u8] avs) : CallP tab noExt F.detentlaw26_KernelStates avs H fun v _ => v = .s (.bool true) := by
  obtain ⟨a, _, rfl, w0, ha0⟩ := ha.int'
  obtain rfl := ha0.nil'
  have u0 : 0 ≤ a ∧ a ≤ 255 := by simpa [Lit.wf, IntKind.min, IntKind.max, IntKind.signed, IntKind.bits] using w0
  have g : ∀ (fs : List Fact), FactsOk (vals [a]) fs → runQ F.detentlaw26_KernelStates [unk .u8 0] (stC (bFact 0 0 255 :: fs)) = true → CallP tab noExt F.detentlaw26_KernelStates [.s (.int .u8 a)] H fun v _ => v = .s (.bool true) := by
    intro fs hfs hr
    have hR : XRel (vals [a]) (stC (bFact 0 0 255 :: fs)) H := .startC (.cons (bFact_ok u0.1 u0.2) (hfs)) hw hn h0
    have := runQ_law hr hR
    simp only [List.map_cons, List.map_nil, unk_ev] at this
    exact this
  have hm : a % 7 = 0 ∨ a % 7 = 1 ∨ a % 7 = 2 ∨ a % 7 = 3 ∨ a % 7 = 4 ∨ a % 7 = 5 ∨ a % 7 = 6 := by omega
  rcases hm with hm | hm | hm | hm | hm | hm | hm
  · exact g _ (.cons (md_fact (i := 0) (m := 7) u0.1 hm) .nil) run_0
  · exact g _ (.cons (md_fact (i := 0) (m := 7) u0.1 hm) .nil) run_1
  · exact g _ (.cons (md_fact (i := 0) (m := 7) u0.1 hm) .nil) run_2
  · exact g _ (.cons (md_fact (i := 0) (m := 7) u0.1 hm) .nil) run_3
  · exact g _ (.cons (md_fact (i := 0) (m := 7) u0.1 hm) .nil) run_4
  · exact g _ (.cons (md_fact (i := 0) (m := 7) u0.1 hm) .nil) run_5
  · exact g _ (.cons (md_fact (i := 0) (m := 7) u0.1 hm) .nil) run_6
end Go.AM
