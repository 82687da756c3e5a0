/-
  Same: are rows of numbers the same?
-/
import Derived.Test.YtlkpeondecnhnaaDoorSlA
namespace Go.AM
attribute [local simp] AH.ld AH.ldn Nat.add_assoc resA resA1 fillA buildA slSlA boundsA boundA callvP

theorem Same_tri (s t : SV) (xs ys : List Int) (hl : xs.length ≤ 1000000) : Tri tab noExt F.detentlaw3_Same [.s s, .s t] [RdI s xs, RdI t ys] fun v P' => v = bl (decide (xs = ys)) ∧ P' = [RdI s xs, RdI t ys] := by
  refine Tri.intro fun ρ H Rs K hs hk => ?_
  apply detentlaw3_Same_call
  have hs : Sat ρ H (RdI s xs :: RdI t ys :: Rs) := hs
  have l1 := hs.rdLen
  have l2 := hs.swap.rdLen
  by_cases hlen : xs.length = ys.length
  · have hli : (xs.length : Int) = (ys.length : Int) := by omega
    have l2' : lenA (.s t) = some (i64 xs.length) := by rw [l2, hli]
    simp [l1, l2']
    refine loopP_invK (I := fun n T H' => T.length = 26 ∧ sl T 0 = .s s ∧ sl T 1 = .s t ∧ ∃ i : Nat, sl T 5 = i64 i ∧ i ≤ xs.length ∧ n = xs.length - i ∧ xs.take i = ys.take i ∧ Sat ρ H' (RdI s xs :: RdI t ys :: Rs)) ?_ xs.length _ _ ⟨rfl, rfl, rfl, 0, rfl, Nat.zero_le _, rfl, rfl, by (repeat refine Sat.bump ?_ _); exact hs⟩
    intro n T H' ⟨hT, s0, s1, i, s5, hi, hn, htk, hs⟩ K' kn kr ko
    rw [detentlaw3_Same_l0_at hT]
    by_cases hlt : i < xs.length
    · have hlt' : (i : Int) < (xs.length : Int) := by omega
      have hlt2 : i < ys.length := by omega
      have hlt2' : (i : Int) < (ys.length : Int) := by omega
      obtain ⟨x, hx⟩ := get_ex hlt
      obtain ⟨y, hy⟩ := get_ex hlt2
      obtain ⟨b1, c1, ro1, l1, rfl, hb1, hli1, _⟩ := hs.rdGet hx
      obtain ⟨b2, c2, ro2, l2, rfl, hb2, hli2, _⟩ := hs.swap.rdGet hy
      have w1 : IntKind.i64.wrap ((i : Int) + 1) = (i : Int) + 1 := wrap_i64 (by omega) (by omega)
      by_cases hxy : x = y
      · simp [s0, s1, s5, hlt, hlt', hlt2, hlt2', hb1, hli1, hb2, hli2, hxy, w1]
        exact kn (xs.length - (i + 1)) _ _ (by omega) ⟨rfl, rfl, rfl, i + 1, rfl, hlt, rfl, by rw [List.take_add_one, List.take_add_one, htk, hx, hy, hxy], by (repeat refine Sat.bump ?_ _); exact hs⟩
      · have hne : xs ≠ ys := fun e => by rw [e, hy] at hx; exact hxy (Option.some.inj hx).symm
        simp [s0, s1, s5, hlt, hlt', hlt2, hlt2', hb1, hli1, hb2, hli2, hxy]
        refine kr _ _ ?_
        simp
        rw [decide_eq_false hne] at hk
        exact hk _ _ _ ⟨rfl, rfl⟩ (by (repeat refine Sat.bump ?_ _); exact hs)
    · have hie : i = xs.length := by omega
      have heq : xs = ys := by
        rw [hie, List.take_length, hlen, List.take_length] at htk
        exact htk
      subst hie
      have hl' := hs.rdLen
      simp [s0, s1, s5, hl']
      refine ko _ _ _ ?_
      simp
      rw [detentlaw3_Same_s1_at rfl]
      rw [decide_eq_true heq] at hk
      exact ⟨_, rfl, hk _ _ _ ⟨rfl, rfl⟩ (by (repeat refine Sat.bump ?_ _); exact hs)⟩
  · have hli : ¬ (xs.length : Int) = (ys.length : Int) := by omega
    have hne : xs ≠ ys := fun e => hlen (by rw [e])
    rw [decide_eq_false hne] at hk
    simp [l1, l2, hli]
    exact hk _ _ _ ⟨rfl, rfl⟩ (by (repeat refine Sat.bump ?_ _); exact hs)
end Go.AM
