/-
  The law HandAlarms, by the symbolic machine: the law.
-/
import Derived.Test.YtbihokcagceoaaaHbA
import Derived.Test.YtbihokcagceoaaaHbB
import Derived.Test.YtbihokcagceoaaaHbC
import Derived.Test.YtbihokcagceoaaaKeS
namespace Go.AM

/-- So many times one is more than the other, or no more. -/
theorem lt_fact {ρ : Nat → Int} {k : Int} {w : Nat} {tic d : Int} (h0 : ρ 0 = tic) (hw : ρ w = d) (h : d < tic * k) : (Fact.mk [(.v 0, k), (.v w, -1)] (some 1) none).ok ρ := by
  constructor
  · intro y hy
    have hy : (1 : Int) = y := Option.some.inj hy
    subst hy
    simp only [Lin.ev, Atom.ev, h0, hw]
    rw [Int.mul_comm] at h
    omega
  · intro y hy; cases hy
theorem ge_fact {ρ : Nat → Int} {k : Int} {w : Nat} {tic d : Int} (h0 : ρ 0 = tic) (hw : ρ w = d) (h : tic * k ≤ d) : (Fact.mk [(.v 0, k), (.v w, -1)] none (some 0)).ok ρ := by
  constructor
  · intro y hy; cases hy
  · intro y hy
    have hy : (0 : Int) = y := Option.some.inj hy
    subst hy
    simp only [Lin.ev, Atom.ev, h0, hw]
    rw [Int.mul_comm] at h
    omega

theorem ArgsAt.bool' {f : HF} {ts : List Ty} {l : List AV} (h : ArgsAt f (.bool :: ts) l) : ∃ (x : Bool) (vs : List AV), l = .s (.bool x) :: vs ∧ ArgsAt f ts vs := by
  cases h with | cons h1 h2 => obtain rfl := h1; exact ⟨_, _, rfl, h2⟩

theorem HandAlarms_abs (H : AH) (hw : WF H) (hn : H.next = 0) (avs : List AV) (ha : ArgsAt H.blk [.int .i64, .int .i64, .int .i64, .bool, .bool] avs) : CallP tab noExt F.detentlaw20_HandAlarms avs H fun v _ => v = .s (.bool true) := by
  obtain ⟨a, _, rfl, w0, ha⟩ := ha.int'
  obtain ⟨b, _, rfl, w1, ha⟩ := ha.int'
  obtain ⟨c, _, rfl, w2, ha⟩ := ha.int'
  obtain ⟨g, _, rfl, ha3⟩ := ha.bool'
  obtain ⟨l, _, rfl, ha4⟩ := ha3.bool'
  obtain rfl := ha4.nil'
  have wa : -9223372036854775808 ≤ a ∧ a ≤ 9223372036854775807 := by simpa [Lit.wf, IntKind.min, IntKind.max, IntKind.signed, IntKind.bits] using w0
  have wb : -9223372036854775808 ≤ b ∧ b ≤ 9223372036854775807 := by simpa [Lit.wf, IntKind.min, IntKind.max, IntKind.signed, IntKind.bits] using w1
  have wc : -9223372036854775808 ≤ c ∧ c ≤ 9223372036854775807 := by simpa [Lit.wf, IntKind.min, IntKind.max, IntKind.signed, IntKind.bits] using w2
  have k : ∀ {l0 h0 l1 h1 l2 h2 : Int} (fs : List Fact) {x y : Bool}, FactsOk (vals [a, b, c]) fs → runX tab 60 F.detentlaw20_HandAlarms [unk .i64 0, unk .i64 1, unk .i64 2, .s (.s (.bool x)), .s (.s (.bool y))] ⟨.e, 0, bFact 0 l0 h0 :: bFact 1 l1 h1 :: bFact 2 l2 h2 :: fs, 0⟩ isTrue = true → l0 ≤ a → a ≤ h0 → l1 ≤ b → b ≤ h1 → l2 ≤ c → c ≤ h2 → CallP tab noExt F.detentlaw20_HandAlarms [.s (.int .i64 a), .s (.int .i64 b), .s (.int .i64 c), .s (.bool x), .s (.bool y)] H fun v _ => v = .s (.bool true) := by
    intro l0 h0 l1 h1 l2 h2 fs x y hfs hr e1 e2 e3 e4 e5 e6
    have hR : XRel (vals [a, b, c]) ⟨.e, 0, bFact 0 l0 h0 :: bFact 1 l1 h1 :: bFact 2 l2 h2 :: fs, 0⟩ H := .start (.cons (bFact_ok e1 e2) (.cons (bFact_ok e3 e4) (.cons (bFact_ok e5 e6) hfs))) hw hn
    have := sx_law hr hR
    simp only [List.map_cons, List.map_nil, unk_ev] at this
    exact this
  by_cases q0 : a < 1
  · match g, l with
    | false, false => exact k [] .nil al_g0_00 (by omega) (by omega) (by omega) (by omega) (by omega) (by omega)
    | false, true => exact k [] .nil al_g0_01 (by omega) (by omega) (by omega) (by omega) (by omega) (by omega)
    | true, false => exact k [] .nil al_g0_10 (by omega) (by omega) (by omega) (by omega) (by omega) (by omega)
    | true, true => exact k [] .nil al_g0_11 (by omega) (by omega) (by omega) (by omega) (by omega) (by omega)
  by_cases q1 : 50 < a
  · match g, l with
    | false, false => exact k [] .nil al_g1_00 (by omega) (by omega) (by omega) (by omega) (by omega) (by omega)
    | false, true => exact k [] .nil al_g1_01 (by omega) (by omega) (by omega) (by omega) (by omega) (by omega)
    | true, false => exact k [] .nil al_g1_10 (by omega) (by omega) (by omega) (by omega) (by omega) (by omega)
    | true, true => exact k [] .nil al_g1_11 (by omega) (by omega) (by omega) (by omega) (by omega) (by omega)
  by_cases q2 : b < 0
  · match g, l with
    | false, false => exact k [] .nil al_g2_00 (by omega) (by omega) (by omega) (by omega) (by omega) (by omega)
    | false, true => exact k [] .nil al_g2_01 (by omega) (by omega) (by omega) (by omega) (by omega) (by omega)
    | true, false => exact k [] .nil al_g2_10 (by omega) (by omega) (by omega) (by omega) (by omega) (by omega)
    | true, true => exact k [] .nil al_g2_11 (by omega) (by omega) (by omega) (by omega) (by omega) (by omega)
  by_cases q3 : 1000 < b
  · match g, l with
    | false, false => exact k [] .nil al_g3_00 (by omega) (by omega) (by omega) (by omega) (by omega) (by omega)
    | false, true => exact k [] .nil al_g3_01 (by omega) (by omega) (by omega) (by omega) (by omega) (by omega)
    | true, false => exact k [] .nil al_g3_10 (by omega) (by omega) (by omega) (by omega) (by omega) (by omega)
    | true, true => exact k [] .nil al_g3_11 (by omega) (by omega) (by omega) (by omega) (by omega) (by omega)
  by_cases q4 : c < 0
  · match g, l with
    | false, false => exact k [] .nil al_g4_00 (by omega) (by omega) (by omega) (by omega) (by omega) (by omega)
    | false, true => exact k [] .nil al_g4_01 (by omega) (by omega) (by omega) (by omega) (by omega) (by omega)
    | true, false => exact k [] .nil al_g4_10 (by omega) (by omega) (by omega) (by omega) (by omega) (by omega)
    | true, true => exact k [] .nil al_g4_11 (by omega) (by omega) (by omega) (by omega) (by omega) (by omega)
  by_cases q5 : 1000 < c
  · match g, l with
    | false, false => exact k [] .nil al_g5_00 (by omega) (by omega) (by omega) (by omega) (by omega) (by omega)
    | false, true => exact k [] .nil al_g5_01 (by omega) (by omega) (by omega) (by omega) (by omega) (by omega)
    | true, false => exact k [] .nil al_g5_10 (by omega) (by omega) (by omega) (by omega) (by omega) (by omega)
    | true, true => exact k [] .nil al_g5_11 (by omega) (by omega) (by omega) (by omega) (by omega) (by omega)
  match l, g with
  | true, false => exact k [] .nil al_c0 (by omega) (by omega) (by omega) (by omega) (by omega) (by omega)
  | true, true => exact k [] .nil al_c1 (by omega) (by omega) (by omega) (by omega) (by omega) (by omega)
  | false, false =>
      by_cases h7 : b < a * 7
      · exact k _ (.cons (lt_fact (tic := a) (d := b) rfl rfl h7) .nil) al_0_0 (by omega) (by omega) (by omega) (by omega) (by omega) (by omega)
      by_cases h14 : b < a * 14
      · exact k _ (.cons (lt_fact (tic := a) (d := b) rfl rfl h14) (.cons (ge_fact (tic := a) (d := b) rfl rfl (by omega)) .nil)) al_0_1 (by omega) (by omega) (by omega) (by omega) (by omega) (by omega)
      exact k _ (.cons (ge_fact (tic := a) (d := b) rfl rfl (by omega)) .nil) al_0_2 (by omega) (by omega) (by omega) (by omega) (by omega) (by omega)
  | false, true =>
      by_cases h7 : c < a * 7
      · exact k _ (.cons (lt_fact (tic := a) (d := c) rfl rfl h7) .nil) al_1_0 (by omega) (by omega) (by omega) (by omega) (by omega) (by omega)
      by_cases h14 : c < a * 14
      · exact k _ (.cons (lt_fact (tic := a) (d := c) rfl rfl h14) (.cons (ge_fact (tic := a) (d := c) rfl rfl (by omega)) .nil)) al_1_1 (by omega) (by omega) (by omega) (by omega) (by omega) (by omega)
      exact k _ (.cons (ge_fact (tic := a) (d := c) rfl rfl (by omega)) .nil) al_1_2 (by omega) (by omega) (by omega) (by omega) (by omega) (by omega)
end Go.AM
