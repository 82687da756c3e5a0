/-
  The law MutexRing, by the symbolic machine: rings of kind 0.
-/
import Derived.Test.YtinlhpgfoojneaaSxE
import Derived.Test.YtinlhpgfoojneaaTab
namespace Go.AM
/-- A number between two. -/
def bFact (i : Nat) (lo hi : Int) : Fact := ⟨[(.v i, 1)], some lo, some hi⟩
theorem bFact_ok {ρ : Nat → Int} {i : Nat} {lo hi : Int} (h1 : lo ≤ ρ i) (h2 : ρ i ≤ hi) : (bFact i lo hi).ok ρ := by
  constructor
  · intro y hy
    have hy : lo = y := Option.some.inj hy
    subst hy
    simp only [bFact, Lin.ev, Atom.ev]; omega
  · intro y hy
    have hy : hi = y := Option.some.inj hy
    subst hy
    simp only [bFact, Lin.ev, Atom.ev]; omega
set_option maxRecDepth 100000 in
theorem ring_g1 : runX tab 60 F.detentlaw15_MutexRing [unk .i64 0, unk .i64 1] ⟨.e, 0, [bFact 0 (-9223372036854775808) (-1), bFact 1 (-9223372036854775808) 9223372036854775807]⟩ isTrue = true := by kernel_rfl
set_option maxRecDepth 100000 in
theorem ring_g2 : runX tab 60 F.detentlaw15_MutexRing [unk .i64 0, unk .i64 1] ⟨.e, 0, [bFact 0 3 9223372036854775807, bFact 1 (-9223372036854775808) 9223372036854775807]⟩ isTrue = true := by kernel_rfl
set_option maxRecDepth 100000 in
theorem ring_g3 : runX tab 60 F.detentlaw15_MutexRing [unk .i64 0, unk .i64 1] ⟨.e, 0, [bFact 0 0 2, bFact 1 (-9223372036854775808) 1]⟩ isTrue = true := by kernel_rfl
set_option maxRecDepth 100000 in
theorem ring_g4 : runX tab 60 F.detentlaw15_MutexRing [unk .i64 0, unk .i64 1] ⟨.e, 0, [bFact 0 0 2, bFact 1 9 9223372036854775807]⟩ isTrue = true := by kernel_rfl
set_option maxRecDepth 100000 in
theorem ring_0_2 : runX tab 60 F.detentlaw15_MutexRing [.s (.s (.int .i64 0)), .s (.s (.int .i64 2))] ⟨.e, 0, []⟩ isTrue = true := by kernel_rfl
set_option maxRecDepth 100000 in
theorem ring_0_3 : runX tab 60 F.detentlaw15_MutexRing [.s (.s (.int .i64 0)), .s (.s (.int .i64 3))] ⟨.e, 0, []⟩ isTrue = true := by kernel_rfl
set_option maxRecDepth 100000 in
theorem ring_0_4 : runX tab 60 F.detentlaw15_MutexRing [.s (.s (.int .i64 0)), .s (.s (.int .i64 4))] ⟨.e, 0, []⟩ isTrue = true := by kernel_rfl
set_option maxRecDepth 100000 in
theorem ring_0_5 : runX tab 60 F.detentlaw15_MutexRing [.s (.s (.int .i64 0)), .s (.s (.int .i64 5))] ⟨.e, 0, []⟩ isTrue = true := by kernel_rfl
set_option maxRecDepth 100000 in
theorem ring_0_6 : runX tab 60 F.detentlaw15_MutexRing [.s (.s (.int .i64 0)), .s (.s (.int .i64 6))] ⟨.e, 0, []⟩ isTrue = true := by kernel_rfl
set_option maxRecDepth 100000 in
theorem ring_0_7 : runX tab 60 F.detentlaw15_MutexRing [.s (.s (.int .i64 0)), .s (.s (.int .i64 7))] ⟨.e, 0, []⟩ isTrue = true := by kernel_rfl
set_option maxRecDepth 100000 in
theorem ring_0_8 : runX tab 60 F.detentlaw15_MutexRing [.s (.s (.int .i64 0)), .s (.s (.int .i64 8))] ⟨.e, 0, []⟩ isTrue = true := by kernel_rfl
end Go.AM
