/-
  Those that are ready: taken one by one.
-/
import Derived.Test.YtlkpeondecnhnaaDoorRqL
namespace Go.AM

theorem fillR_row {f : Nat → Nat} (hf : ∀ k, 1 ≤ f k ∧ f k ≤ 16) : ∀ i, i ≤ 16 → ∀ p, (rowAt (fillR f i) p).Pairwise fun x y => x < y
  | 0, _, p => by rw [show fillR f 0 = noRows from rfl, rowAt_none]; exact List.Pairwise.nil
  | i + 1, h, p => by
    obtain ⟨g, hm⟩ := fillR_ok hf i (by omega)
    rw [show fillR f (i + 1) = putR (fillR f i) ((i : Int) + 1) (f i) from rfl, put_at g (hf i).2]
    split
    · rw [List.pairwise_append]
      refine ⟨fillR_row hf i (by omega) _, by simp, fun x hx y hy => ?_⟩
      simp only [List.mem_singleton] at hy
      obtain ⟨k, h1, h2, _⟩ := (hm _ _).1 hx
      omega
    · exact fillR_row hf i (by omega) p

/-- Earlier ones have the better priority, or came first. -/
theorem fillR_order {f : Nat → Nat} (hf : ∀ k, 1 ≤ f k ∧ f k ≤ 16) {i : Nat} (h : i ≤ 16) : (fillR f i).flatten.Pairwise fun x y => f (x.toNat - 1) < f (y.toNat - 1) ∨ (f (x.toNat - 1) = f (y.toNat - 1) ∧ x < y) := by
  obtain ⟨g, hm⟩ := fillR_ok hf i h
  have hat : ∀ p x, x ∈ rowAt (fillR f i) p → f (x.toNat - 1) = p := fun p x hx => by
    obtain ⟨k, _, h2, h3⟩ := (hm _ _).1 hx
    rw [h3]
    congr 1
    omega
  rw [List.pairwise_flatten]
  constructor
  · intro r hr
    obtain ⟨p, hp, rfl⟩ := List.mem_iff_getElem.1 hr
    have e := rowAt_get hp
    rw [List.getElem?_eq_getElem hp] at e
    have e := Option.some.inj e
    have := fillR_row hf i h p
    rw [← e] at this
    refine this.imp_of_mem fun {x y} hx hy hxy => .inr ⟨?_, hxy⟩
    rw [hat p x (e ▸ hx), hat p y (e ▸ hy)]
  · rw [List.pairwise_iff_getElem]
    intro p q hp hq hpq x hx y hy
    have e1 := rowAt_get hp
    have e2 := rowAt_get hq
    rw [List.getElem?_eq_getElem hp] at e1
    rw [List.getElem?_eq_getElem hq] at e2
    have e1 := Option.some.inj e1
    have e2 := Option.some.inj e2
    refine .inl ?_
    rw [hat p x (e1 ▸ hx), hat q y (e2 ▸ hy)]
    exact hpq

theorem GoodQ.nodup {rows : QRows} (g : GoodQ rows) : rows.flatten.Nodup := by
  unfold List.Nodup
  rw [List.pairwise_flatten]
  refine ⟨fun r hr => ?_, ?_⟩
  · obtain ⟨i, hi, rfl⟩ := List.mem_iff_getElem.1 hr
    have := g.nod i
    have e := rowAt_get hi
    rw [List.getElem?_eq_getElem hi] at e
    rw [← Option.some.inj e] at this
    exact this
  · rw [List.pairwise_iff_getElem]
    intro i j hi hj hij x hx y hy e
    subst e
    have e1 := rowAt_get hi
    have e2 := rowAt_get hj
    rw [List.getElem?_eq_getElem hi] at e1
    rw [List.getElem?_eq_getElem hj] at e2
    have := g.one i j x (Option.some.inj e1 ▸ hx) (Option.some.inj e2 ▸ hy)
    omega

theorem del_map {rows : QRows} (g : GoodQ rows) {t : Int} {p : Nat} (hp : p ≤ 16) (ht : t ∈ rowAt rows p) : delR rows t p = rows.map fun r => r.filter fun x => decide (x ≠ t) := by
  unfold delR
  apply List.ext_getElem?
  intro i
  rw [List.getElem?_set, List.getElem?_map]
  by_cases e : p = i
  · subst e
    rw [if_pos rfl, if_pos (by rw [g.len]; omega), rowAt_get (by rw [g.len]; omega)]; rfl
  · rw [if_neg e]
    by_cases hi : i < rows.length
    · rw [rowAt_get hi, Option.map_some, filter_ne fun h => e (g.one _ _ _ ht h)]
    · rw [List.getElem?_eq_none (by omega)]; rfl

/-- The first is taken. -/
theorem rem_head {rows : QRows} (g : GoodQ rows) {t : Int} {l : List Int} (h : rows.flatten = t :: l) : ∃ R, remQ rows t = (true, R) ∧ GoodQ R ∧ R.flatten = l := by
  have hm : t ∈ rows.flatten := by rw [h]; simp
  obtain ⟨r, hr, htr⟩ := List.mem_flatten.1 hm
  obtain ⟨p, hp, rfl⟩ := List.mem_iff_getElem.1 hr
  have e := rowAt_get hp
  rw [List.getElem?_eq_getElem hp] at e
  rw [Option.some.inj e] at htr
  have hpp := g.pos htr
  refine ⟨delR rows t p, ?_, g.del hpp.1 hpp.2 htr, ?_⟩
  · unfold remQ
    rw [priQ_some g htr, if_neg (by omega)]
  · have hn := g.nodup
    rw [h, List.nodup_cons] at hn
    rw [del_map g hpp.2 htr, ← List.filter_flatten, h, List.filter_cons_of_neg (by simp), filter_ne hn.1]
end Go.AM
