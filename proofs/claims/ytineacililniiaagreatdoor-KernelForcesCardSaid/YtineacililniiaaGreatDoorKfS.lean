/-
  The law KernelForces: by the symbolic machine.
-/
import Derived.Test.YtineacililniiaaGreatDoorKeS
namespace Go.AM

theorem ArgsAt.bool' {f : HF} {ts : List Ty} {l : List AV} (h : ArgsAt f (.bool :: ts) l) : ∃ (x : Bool) (vs : List AV), l = .s (.bool x) :: vs ∧ ArgsAt f ts vs := by
  cases h with | cons h1 h2 => obtain rfl := h1; exact ⟨_, _, rfl, h2⟩

set_option maxRecDepth 100000 in
theorem KernelForces_run1 : runX tab 100 F.detentlaw26_KernelForces [unk .i8 0, unk .i8 1, .s (.s (.bool true))] (stC [bFact 0 (-128) 127, bFact 1 (-128) 127]) isTrue = true := by kernel_rfl
set_option maxRecDepth 100000 in
theorem KernelForces_run2 : runX tab 100 F.detentlaw26_KernelForces [unk .i8 0, unk .i8 1, .s (.s (.bool false))] (stC [bFact 0 (-128) 127, bFact 1 (-128) 127]) isTrue = true := by kernel_rfl

theorem KernelForces_abs (H : AH) (hw : WF H) (hn : H.next = 1) (h0 : H.blk 0 = some (.cells true tzL)) (avs : List AV) (ha : ArgsAt H.blk [.int .i8, .int .i8, .bool] avs) : CallP tab noExt F.detentlaw26_KernelForces avs H fun v _ => v = .s (.bool true) := by
  obtain ⟨a, _, rfl, w0, ha⟩ := ha.int'
  obtain ⟨b, _, rfl, w1, ha⟩ := ha.int'
  obtain ⟨c, _, rfl, ha2⟩ := ha.bool'
  obtain rfl := ha2.nil'
  have wa : -128 ≤ a ∧ a ≤ 127 := by simpa [Lit.wf, IntKind.min, IntKind.max, IntKind.signed, IntKind.bits] using w0
  have wb : -128 ≤ b ∧ b ≤ 127 := by simpa [Lit.wf, IntKind.min, IntKind.max, IntKind.signed, IntKind.bits] using w1
  have hR : XRel (vals [a, b]) (stC [bFact 0 (-128) 127, bFact 1 (-128) 127]) H :=
    .startC (.cons (bFact_ok wa.1 wa.2) (.cons (bFact_ok wb.1 wb.2) .nil)) hw hn h0
  cases c with
  | true =>
    have := sx_law KernelForces_run1 hR
    simp only [List.map_cons, List.map_nil, unk_ev] at this
    exact this
  | false =>
    have := sx_law KernelForces_run2 hR
    simp only [List.map_cons, List.map_nil, unk_ev] at this
    exact this
end Go.AM
