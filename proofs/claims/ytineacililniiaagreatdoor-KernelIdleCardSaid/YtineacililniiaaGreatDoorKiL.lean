/-
  The law KernelIdle, by the symbolic machine: the law.
-/
import Derived.Test.YtineacililniiaaGreatDoorKiB
import Derived.Test.YtineacililniiaaGreatDoorKiC
import Derived.Test.YtineacililniiaaGreatDoorKiD
import Derived.Test.YtineacililniiaaGreatDoorKiE
import Derived.Test.YtineacililniiaaGreatDoorKiF
import Derived.Test.YtineacililniiaaGreatDoorKiG
namespace Go.AM

theorem At.int4 {f : HF} {k : IntKind} {xs : (Ty.arr 4 (.int k)).den} {l : List SV} (h : At f (.arr 4 (.int k)) xs l) : ∃ a b c d : Int, l = [.int k a, .int k b, .int k c, .int k d] ∧ (Lit.int k a).wf = true ∧ (Lit.int k b).wf = true ∧ (Lit.int k c).wf = true ∧ (Lit.int k d).wf = true := by
  obtain ⟨h1, ls, rfl, h2⟩ := h
  match xs, h1, ls, h2 with
  | [a, b, c, d], _, [la, lb, lc, ld], ⟨⟨ea, wa⟩, ⟨eb, wb⟩, ⟨ec, wc⟩, ⟨ed, wd⟩, _⟩ => exact ⟨a, b, c, d, by rw [ea, eb, ec, ed]; rfl, wa, wb, wc, wd⟩

theorem KernelIdle_abs (H : AH) (hw : WF H) (hn : H.next = 1) (h0 : H.blk 0 = some (.cells true tzL)) (avs : List AV) (ha : ArgsAt H.blk [.int .i64, .arr 4 (.int .i64)] avs) : CallP tab noExt F.detentlaw26_KernelIdle avs H fun v _ => v = .s (.bool true) := by
  obtain ⟨n, _, rfl, w0, ha1⟩ := ha.int'
  cases ha1 with
  | cons hx ha2 =>
    obtain rfl := ha2.nil'
    obtain ⟨l, rfl, hx⟩ := hx
    obtain ⟨a, b, c, d, rfl, wa, wb, wc, wd⟩ := hx.int4
    have wn : -9223372036854775808 ≤ n ∧ n ≤ 9223372036854775807 := by simpa [Lit.wf, IntKind.min, IntKind.max, IntKind.signed, IntKind.bits] using w0
    have g : ∀ {lo hi : Int}, runQ F.detentlaw26_KernelIdle [unk .i64 0, .agg [.y .i64 ⟨0, [(.v 1, 1)]⟩, .y .i64 ⟨0, [(.v 2, 1)]⟩, .y .i64 ⟨0, [(.v 3, 1)]⟩, .y .i64 ⟨0, [(.v 4, 1)]⟩]] (stC [bFact 0 lo hi, kFact 1 .i64, kFact 2 .i64, kFact 3 .i64, kFact 4 .i64]) = true → lo ≤ n → n ≤ hi → CallP tab noExt F.detentlaw26_KernelIdle [.s (.int .i64 n), .agg [.int .i64 a, .int .i64 b, .int .i64 c, .int .i64 d]] H fun v _ => v = .s (.bool true) := by
      intro lo hi hr e1 e2
      have hR : XRel (vals [n, a, b, c, d]) (stC [bFact 0 lo hi, kFact 1 .i64, kFact 2 .i64, kFact 3 .i64, kFact 4 .i64]) H :=
        .startC (.cons (bFact_ok e1 e2) (.cons (kFact_ok wa) (.cons (kFact_ok wb) (.cons (kFact_ok wc) (.cons (kFact_ok wd) .nil))))) hw hn h0
      have := runQ_law hr hR
      simp only [List.map_cons, List.map_nil, unk_ev, XAV.ev, XV.ev, SI.ev, Lin.ev, Atom.ev, Int.one_mul, Int.add_zero, Int.zero_add] at this
      exact this
    by_cases g0 : n ≤ 0
    · exact g idle_0 (by omega) (by omega)
    by_cases g1 : n ≤ 30
    · exact g idle_1 (by omega) (by omega)
    by_cases g2 : n ≤ 60
    · exact g idle_2 (by omega) (by omega)
    by_cases g3 : n ≤ 62
    · exact g idle_3 (by omega) (by omega)
    by_cases g4 : n ≤ 64
    · exact g idle_4 (by omega) (by omega)
    exact g idle_5 (by omega) (by omega)
end Go.AM
