/-
  The law KernelWaits, by the symbolic machine: the law.
-/
import Derived.Test.YtineacililniiaaGreatDoorKwB
import Derived.Test.YtineacililniiaaGreatDoorKwC
import Derived.Test.YtineacililniiaaGreatDoorKwD
import Derived.Test.YtineacililniiaaGreatDoorKwE
import Derived.Test.YtineacililniiaaGreatDoorKwG
namespace Go.AM

theorem ArgsAt.bool' {f : HF} {ts : List Ty} {l : List AV} (h : ArgsAt f (.bool :: ts) l) : ∃ (x : Bool) (vs : List AV), l = .s (.bool x) :: vs ∧ ArgsAt f ts vs := by
  cases h with | cons h1 h2 => obtain rfl := h1; exact ⟨_, _, rfl, h2⟩

theorem lt_fact {ρ : Nat → Int} {k : Int} {tic d : Int} (h0 : ρ 0 = tic) (hw : ρ 1 = d) (h : d < tic * k) : (Fact.mk [(.v 0, k), (.v 1, -1)] (some 1) none).ok ρ := by
  constructor
  · intro y hy
    have hy : (1 : Int) = y := Option.some.inj hy
    subst hy
    simp only [Lin.ev, Atom.ev, h0, hw]
    rw [Int.mul_comm] at h
    omega
  · intro y hy; cases hy
theorem ge_fact {ρ : Nat → Int} {k : Int} {tic d : Int} (h0 : ρ 0 = tic) (hw : ρ 1 = d) (h : tic * k ≤ d) : (Fact.mk [(.v 0, k), (.v 1, -1)] none (some 0)).ok ρ := by
  constructor
  · intro y hy; cases hy
  · intro y hy
    have hy : (0 : Int) = y := Option.some.inj hy
    subst hy
    simp only [Lin.ev, Atom.ev, h0, hw]
    rw [Int.mul_comm] at h
    omega

theorem KernelWaits_abs (H : AH) (hw : WF H) (hn : H.next = 1) (h0 : H.blk 0 = some (.cells true tzL)) (avs : List AV) (ha : ArgsAt H.blk [.int .i64, .int .i64, .bool] avs) : CallP tab noExt F.detentlaw26_KernelWaits avs H fun v _ => v = .s (.bool true) := by
  obtain ⟨a, _, rfl, w0, ha0⟩ := ha.int'
  obtain ⟨b, _, rfl, w1, ha1⟩ := ha0.int'
  obtain ⟨l, _, rfl, ha2⟩ := ha1.bool'
  obtain rfl := ha2.nil'
  have wa : -9223372036854775808 ≤ a ∧ a ≤ 9223372036854775807 := by simpa [Lit.wf, IntKind.min, IntKind.max, IntKind.signed, IntKind.bits] using w0
  have wb : -9223372036854775808 ≤ b ∧ b ≤ 9223372036854775807 := by simpa [Lit.wf, IntKind.min, IntKind.max, IntKind.signed, IntKind.bits] using w1
  have k : ∀ {l0 h0 l1 h1 : Int} (fs : List Fact) {x : Bool}, FactsOk (vals [a, b]) fs → runQ F.detentlaw26_KernelWaits [unk .i64 0, unk .i64 1, .s (.s (.bool x))] (stC (bFact 0 l0 h0 :: bFact 1 l1 h1 :: fs)) = true → l0 ≤ a → a ≤ h0 → l1 ≤ b → b ≤ h1 → CallP tab noExt F.detentlaw26_KernelWaits [.s (.int .i64 a), .s (.int .i64 b), .s (.bool x)] H fun v _ => v = .s (.bool true) := by
    intro l0 h0' l1 h1 fs x hfs hr e1 e2 e3 e4
    have hR : XRel (vals [a, b]) (stC (bFact 0 l0 h0' :: bFact 1 l1 h1 :: fs)) H := .startC (.cons (bFact_ok e1 e2) (.cons (bFact_ok e3 e4) hfs)) hw hn h0
    have := runQ_law hr hR
    simp only [List.map_cons, List.map_nil, unk_ev] at this
    exact this
  by_cases q0 : a < 1
  · match l with
    | false => exact k [] .nil wt_g0_0 (by omega) (by omega) (by omega) (by omega)
    | true => exact k [] .nil wt_g0_1 (by omega) (by omega) (by omega) (by omega)
  by_cases q1 : 100 < a
  · match l with
    | false => exact k [] .nil wt_g1_0 (by omega) (by omega) (by omega) (by omega)
    | true => exact k [] .nil wt_g1_1 (by omega) (by omega) (by omega) (by omega)
  by_cases q2 : b < 1
  · match l with
    | false => exact k [] .nil wt_g2_0 (by omega) (by omega) (by omega) (by omega)
    | true => exact k [] .nil wt_g2_1 (by omega) (by omega) (by omega) (by omega)
  by_cases q3 : 5000 < b
  · match l with
    | false => exact k [] .nil wt_g3_0 (by omega) (by omega) (by omega) (by omega)
    | true => exact k [] .nil wt_g3_1 (by omega) (by omega) (by omega) (by omega)
  match l with
  | false =>
      by_cases e0 : b < a * 14
      · exact k _ (.cons (lt_fact (tic := a) (d := b) rfl rfl e0) .nil) wt_0_0 (by omega) (by omega) (by omega) (by omega)
      by_cases e1 : b < a * 26
      · exact k _ (.cons (lt_fact (tic := a) (d := b) rfl rfl e1) (.cons (ge_fact (tic := a) (d := b) rfl rfl (by omega)) .nil)) wt_0_1 (by omega) (by omega) (by omega) (by omega)
      by_cases e2 : b < a * 38
      · exact k _ (.cons (lt_fact (tic := a) (d := b) rfl rfl e2) (.cons (ge_fact (tic := a) (d := b) rfl rfl (by omega)) .nil)) wt_0_2 (by omega) (by omega) (by omega) (by omega)
      exact k _ (.cons (ge_fact (tic := a) (d := b) rfl rfl (by omega)) .nil) wt_0_3 (by omega) (by omega) (by omega) (by omega)
  | true =>
      by_cases e0 : b < a * 14
      · exact k _ (.cons (lt_fact (tic := a) (d := b) rfl rfl e0) .nil) wt_1_0 (by omega) (by omega) (by omega) (by omega)
      by_cases e1 : b < a * 26
      · exact k _ (.cons (lt_fact (tic := a) (d := b) rfl rfl e1) (.cons (ge_fact (tic := a) (d := b) rfl rfl (by omega)) .nil)) wt_1_1 (by omega) (by omega) (by omega) (by omega)
      by_cases e2 : b < a * 38
      · exact k _ (.cons (lt_fact (tic := a) (d := b) rfl rfl e2) (.cons (ge_fact (tic := a) (d := b) rfl rfl (by omega)) .nil)) wt_1_2 (by omega) (by omega) (by omega) (by omega)
      exact k _ (.cons (ge_fact (tic := a) (d := b) rfl rfl (by omega)) .nil) wt_1_3 (by omega) (by omega) (by omega) (by omega)
end Go.AM
