/-
  The law KernelGives, by the symbolic machine: the law.
-/
import Derived.Test.YtineacililniiaaGreatDoorKgB
import Derived.Test.YtineacililniiaaGreatDoorKgC
import Derived.Test.YtineacililniiaaGreatDoorKgD
import Derived.Test.YtineacililniiaaGreatDoorKgE
import Derived.Test.YtineacililniiaaGreatDoorKgF
import Derived.Test.YtineacililniiaaGreatDoorKgG
import Derived.Test.YtineacililniiaaGreatDoorKgH
import Derived.Test.YtineacililniiaaGreatDoorKgI
import Derived.Test.YtineacililniiaaGreatDoorKgJ
import Derived.Test.YtineacililniiaaGreatDoorKgK
namespace Go.AM

theorem md_fact {ρ : Nat → Int} {i m : Nat} {r : Int} (h0 : 0 ≤ ρ i) (h : ρ i % (m : Int) = r) : (Fact.mk [(.md i m, 1)] (some r) (some r)).ok ρ := by
  have h : (ρ i).tmod (m : Int) = r := by rw [Int.tmod_eq_emod_of_nonneg h0]; exact h
  constructor
  · intro y hy
    have hy : r = y := Option.some.inj hy
    subst hy
    simp only [Lin.ev, Atom.ev]; omega
  · intro y hy
    have hy : r = y := Option.some.inj hy
    subst hy
    simp only [Lin.ev, Atom.ev]; omega

theorem KernelGives_abs (H : AH) (hw : WF H) (hn : H.next = 1) (h0 : H.blk 0 = some (.cells true tzL)) (avs : List AV) (ha : ArgsAt H.blk [.int .u8, .int .u8] avs) : CallP tab noExt F.detentlaw26_KernelGives avs H fun v _ => v = .s (.bool true) := by
  obtain ⟨a, _, rfl, w0, ha0⟩ := ha.int'
  obtain ⟨b, _, rfl, w1, ha1⟩ := ha0.int'
  obtain rfl := ha1.nil'
  have u0 : 0 ≤ a ∧ a ≤ 255 := by simpa [Lit.wf, IntKind.min, IntKind.max, IntKind.signed, IntKind.bits] using w0
  have u1 : 0 ≤ b ∧ b ≤ 255 := by simpa [Lit.wf, IntKind.min, IntKind.max, IntKind.signed, IntKind.bits] using w1
  have g : ∀ (fs : List Fact), FactsOk (vals [a, b]) fs → runQ F.detentlaw26_KernelGives [unk .u8 0, unk .u8 1] (stC fs) = true → CallP tab noExt F.detentlaw26_KernelGives [.s (.int .u8 a), .s (.int .u8 b)] H fun v _ => v = .s (.bool true) := by
    intro fs hfs hr
    have hR : XRel (vals [a, b]) (stC fs) H := .startC hfs hw hn h0
    have := runQ_law hr hR
    simp only [List.map_cons, List.map_nil, unk_ev] at this
    exact this
  have hm : a % 3 = 0 ∨ a % 3 = 1 ∨ a % 3 = 2 := by omega
  rcases hm with hm | hm | hm
  · by_cases e0 : b ≤ 31
    · exact g _ (.cons (bFact_ok (i := 0) u0.1 u0.2) (.cons (bFact_ok (i := 1) (lo := 0) (hi := 31) (by show (0 : Int) ≤ b; omega) (by show b ≤ (31 : Int); omega)) (.cons (md_fact (i := 0) (m := 3) u0.1 hm) .nil))) run_0_0
    by_cases e1 : b ≤ 63
    · exact g _ (.cons (bFact_ok (i := 0) u0.1 u0.2) (.cons (bFact_ok (i := 1) (lo := 32) (hi := 63) (by show (32 : Int) ≤ b; omega) (by show b ≤ (63 : Int); omega)) (.cons (md_fact (i := 0) (m := 3) u0.1 hm) .nil))) run_0_1
    by_cases e2 : b ≤ 95
    · exact g _ (.cons (bFact_ok (i := 0) u0.1 u0.2) (.cons (bFact_ok (i := 1) (lo := 64) (hi := 95) (by show (64 : Int) ≤ b; omega) (by show b ≤ (95 : Int); omega)) (.cons (md_fact (i := 0) (m := 3) u0.1 hm) .nil))) run_0_2
    by_cases e3 : b ≤ 127
    · exact g _ (.cons (bFact_ok (i := 0) u0.1 u0.2) (.cons (bFact_ok (i := 1) (lo := 96) (hi := 127) (by show (96 : Int) ≤ b; omega) (by show b ≤ (127 : Int); omega)) (.cons (md_fact (i := 0) (m := 3) u0.1 hm) .nil))) run_0_3
    by_cases e4 : b ≤ 159
    · exact g _ (.cons (bFact_ok (i := 0) u0.1 u0.2) (.cons (bFact_ok (i := 1) (lo := 128) (hi := 159) (by show (128 : Int) ≤ b; omega) (by show b ≤ (159 : Int); omega)) (.cons (md_fact (i := 0) (m := 3) u0.1 hm) .nil))) run_0_4
    by_cases e5 : b ≤ 191
    · exact g _ (.cons (bFact_ok (i := 0) u0.1 u0.2) (.cons (bFact_ok (i := 1) (lo := 160) (hi := 191) (by show (160 : Int) ≤ b; omega) (by show b ≤ (191 : Int); omega)) (.cons (md_fact (i := 0) (m := 3) u0.1 hm) .nil))) run_0_5
    by_cases e6 : b ≤ 223
    · exact g _ (.cons (bFact_ok (i := 0) u0.1 u0.2) (.cons (bFact_ok (i := 1) (lo := 192) (hi := 223) (by show (192 : Int) ≤ b; omega) (by show b ≤ (223 : Int); omega)) (.cons (md_fact (i := 0) (m := 3) u0.1 hm) .nil))) run_0_6
    exact g _ (.cons (bFact_ok (i := 0) u0.1 u0.2) (.cons (bFact_ok (i := 1) (lo := 224) (hi := 255) (by show (224 : Int) ≤ b; omega) (by show b ≤ (255 : Int); omega)) (.cons (md_fact (i := 0) (m := 3) u0.1 hm) .nil))) run_0_7
  · exact g _ (.cons (bFact_ok (i := 0) u0.1 u0.2) (.cons (bFact_ok (i := 1) u1.1 u1.2) (.cons (md_fact (i := 0) (m := 3) u0.1 hm) .nil))) run_1
  · exact g _ (.cons (bFact_ok (i := 0) u0.1 u0.2) (.cons (bFact_ok (i := 1) u1.1 u1.2) (.cons (md_fact (i := 0) (m := 3) u0.1 hm) .nil))) run_2
end Go.AM
