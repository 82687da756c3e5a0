/-
  Rows of those that are ready: the plain part.
-/
import Derived.Test.YtlkpeondecnhnaaDoorAmU
namespace Go.AM

abbrev QRows := List (List Int)

def rowAt (rows : QRows) (p : Nat) : List Int := rows.getD p []

theorem rowAt_get {rows : QRows} {p : Nat} (h : p < rows.length) : rows[p]? = some (rowAt rows p) := by
  unfold rowAt
  rw [List.getD_eq_getElem?_getD, List.getElem?_eq_getElem h]; rfl

theorem rowAt_out {rows : QRows} {p : Nat} (h : rows.length ≤ p) : rowAt rows p = [] := by
  unfold rowAt
  rw [List.getD_eq_getElem?_getD, List.getElem?_eq_none h]; rfl

theorem rowAt_set {rows : QRows} {p : Nat} (h : p < rows.length) (r : List Int) (q : Nat) : rowAt (rows.set p r) q = if q = p then r else rowAt rows q := by
  unfold rowAt
  rw [List.getD_eq_getElem?_getD, List.getElem?_set, List.getD_eq_getElem?_getD]
  by_cases e : p = q
  · subst e; simp [h]
  · rw [if_neg e, if_neg fun h => e h.symm]

structure GoodQ (rows : QRows) : Prop where
  len : rows.length = 17
  zero : rowAt rows 0 = []
  nod : ∀ p, (rowAt rows p).Nodup
  one : ∀ p q t, t ∈ rowAt rows p → t ∈ rowAt rows q → p = q
  lim : ∀ p t, t ∈ rowAt rows p → 1 ≤ t ∧ t ≤ 16

def noRows : QRows := List.replicate 17 []

theorem rowAt_none (p : Nat) : rowAt noRows p = [] := by
  unfold rowAt noRows
  rw [List.getD_eq_getElem?_getD, List.getElem?_replicate]
  split <;> rfl

theorem GoodQ.none : GoodQ noRows :=
  ⟨rfl, rowAt_none 0, fun p => by rw [rowAt_none]; exact List.nodup_nil, fun p q t h _ => (by rw [rowAt_none] at h; cases h), fun p t h => by rw [rowAt_none] at h; cases h⟩

theorem GoodQ.pos {rows : QRows} (g : GoodQ rows) {p : Nat} {t : Int} (h : t ∈ rowAt rows p) : 1 ≤ p ∧ p ≤ 16 := by
  constructor
  · rcases p with _ | p
    · rw [g.zero] at h; cases h
    · omega
  · apply Classical.byContradiction
    intro hn
    rw [rowAt_out (by rw [g.len]; omega)] at h; cases h

/-- A task's priority, if it has one; else nought. -/
def PriR (rows : QRows) (t : Int) (p : Nat) : Prop := (p = 0 ∧ ∀ q, t ∉ rowAt rows q) ∨ t ∈ rowAt rows p

theorem PriR.uniq {rows : QRows} (g : GoodQ rows) {t : Int} {p q : Nat} (h : PriR rows t p) (h' : PriR rows t q) : p = q := by
  rcases h with ⟨rfl, h⟩ | h
  · rcases h' with ⟨rfl, _⟩ | h'
    · rfl
    · exact (h _ h').elim
  · rcases h' with ⟨rfl, h'⟩ | h'
    · exact (h' _ h).elim
    · exact g.one _ _ _ h h'

def putR (rows : QRows) (t : Int) (p : Nat) : QRows := rows.set p (rowAt rows p ++ [t])
def delR (rows : QRows) (t : Int) (p : Nat) : QRows := rows.set p ((rowAt rows p).filter fun x => decide (x ≠ t))
def rotR (rows : QRows) (p : Nat) : QRows := rows.set p ((rowAt rows p).drop 1 ++ (rowAt rows p).take 1)

section
variable {rows : QRows} (g : GoodQ rows) {t : Int} {p : Nat}
include g

theorem put_at (hp : p ≤ 16) (q : Nat) : rowAt (putR rows t p) q = if q = p then rowAt rows p ++ [t] else rowAt rows q := rowAt_set (by rw [g.len]; omega) _ _
theorem del_at (hp : p ≤ 16) (q : Nat) : rowAt (delR rows t p) q = if q = p then (rowAt rows p).filter (fun x => decide (x ≠ t)) else rowAt rows q := rowAt_set (by rw [g.len]; omega) _ _
theorem rot_at (hp : p ≤ 16) (q : Nat) : rowAt (rotR rows p) q = if q = p then (rowAt rows p).drop 1 ++ (rowAt rows p).take 1 else rowAt rows q := rowAt_set (by rw [g.len]; omega) _ _

theorem mem_put (hp : p ≤ 16) (q : Nat) (x : Int) : x ∈ rowAt (putR rows t p) q ↔ x ∈ rowAt rows q ∨ (q = p ∧ x = t) := by
  rw [put_at g hp]
  by_cases e : q = p
  · subst e; simp
  · simp [e]

theorem mem_del (hp : p ≤ 16) (ht : t ∈ rowAt rows p) (q : Nat) (x : Int) : x ∈ rowAt (delR rows t p) q ↔ x ∈ rowAt rows q ∧ x ≠ t := by
  rw [del_at g hp]
  by_cases e : q = p
  · subst e; simp
  · simp only [e, if_false]
    exact ⟨fun h => ⟨h, fun hx => e (g.one _ _ _ (hx ▸ h) ht)⟩, fun h => h.1⟩

theorem mem_rot (hp : p ≤ 16) (q : Nat) (x : Int) : x ∈ rowAt (rotR rows p) q ↔ x ∈ rowAt rows q := by
  rw [rot_at g hp]
  by_cases e : q = p
  · subst e
    rw [if_pos rfl, List.mem_append]
    conv => rhs; rw [← List.take_append_drop 1 (rowAt rows q), List.mem_append]
    exact or_comm
  · simp [e]

theorem GoodQ.put (hp1 : 1 ≤ p) (hp : p ≤ 16) (ht : 1 ≤ t ∧ t ≤ 16) (hno : ∀ q, t ∉ rowAt rows q) : GoodQ (putR rows t p) where
  len := by unfold putR; rw [List.length_set]; exact g.len
  zero := by rw [put_at g hp, if_neg (by omega)]; exact g.zero
  nod := fun q => by
    rw [put_at g hp]
    split
    · rw [List.nodup_append]
      refine ⟨g.nod _, by simp, fun a ha b hb => ?_⟩
      simp only [List.mem_singleton] at hb
      subst hb
      intro e
      exact hno p (e ▸ ha)
    · exact g.nod q
  one := fun q q' x h h' => by
    rw [mem_put g hp] at h h'
    rcases h with h | ⟨rfl, rfl⟩
    · rcases h' with h' | ⟨rfl, rfl⟩
      · exact g.one _ _ _ h h'
      · exact (hno _ h).elim
    · rcases h' with h' | ⟨rfl, _⟩
      · exact (hno _ h').elim
      · rfl
  lim := fun q x h => by
    rw [mem_put g hp] at h
    rcases h with h | ⟨rfl, rfl⟩
    · exact g.lim _ _ h
    · exact ht

theorem GoodQ.del (hp1 : 1 ≤ p) (hp : p ≤ 16) (ht : t ∈ rowAt rows p) : GoodQ (delR rows t p) where
  len := by unfold delR; rw [List.length_set]; exact g.len
  zero := by rw [del_at g hp, if_neg (by omega)]; exact g.zero
  nod := fun q => by
    rw [del_at g hp]
    split
    · exact (g.nod _).filter _
    · exact g.nod q
  one := fun q q' x h h' => by
    rw [mem_del g hp ht] at h h'
    exact g.one _ _ _ h.1 h'.1
  lim := fun q x h => by
    rw [mem_del g hp ht] at h
    exact g.lim _ _ h.1

theorem GoodQ.rot (hp1 : 1 ≤ p) (hp : p ≤ 16) : GoodQ (rotR rows p) where
  len := by unfold rotR; rw [List.length_set]; exact g.len
  zero := by rw [rot_at g hp, if_neg (by omega)]; exact g.zero
  nod := fun q => by
    rw [rot_at g hp]
    split
    · have := g.nod p
      rw [← List.take_append_drop 1 (rowAt rows p)] at this
      exact (List.perm_append_comm.nodup_iff).1 this
    · exact g.nod q
  one := fun q q' x h h' => by
    rw [mem_rot g hp] at h h'
    exact g.one _ _ _ h h'
  lim := fun q x h => by
    rw [mem_rot g hp] at h
    exact g.lim _ _ h

theorem PriR.put (hp : p ≤ 16) {x : Int} {q : Nat} (hno : ∀ q, t ∉ rowAt rows q) (h : PriR rows x q) : PriR (putR rows t p) x (if x = t then p else q) := by
  by_cases e : x = t
  · subst e
    rw [if_pos rfl]
    exact .inr ((mem_put g hp _ _).2 (.inr ⟨rfl, rfl⟩))
  · rw [if_neg e]
    rcases h with ⟨rfl, h⟩ | h
    · exact .inl ⟨rfl, fun r hr => by
        rw [mem_put g hp] at hr
        exact hr.elim (h r) fun h => e h.2⟩
    · exact .inr ((mem_put g hp _ _).2 (.inl h))

theorem PriR.del (hp : p ≤ 16) (ht : t ∈ rowAt rows p) {x : Int} {q : Nat} (h : PriR rows x q) : PriR (delR rows t p) x (if x = t then 0 else q) := by
  by_cases e : x = t
  · subst e
    rw [if_pos rfl]
    exact .inl ⟨rfl, fun r hr => ((mem_del g hp ht _ _).1 hr).2 rfl⟩
  · rw [if_neg e]
    rcases h with ⟨rfl, h⟩ | h
    · exact .inl ⟨rfl, fun r hr => h r ((mem_del g hp ht _ _).1 hr).1⟩
    · exact .inr ((mem_del g hp ht _ _).2 ⟨h, e⟩)

theorem PriR.rot (hp : p ≤ 16) {x : Int} {q : Nat} (h : PriR rows x q) : PriR (rotR rows p) x q := by
  rcases h with ⟨rfl, h⟩ | h
  · exact .inl ⟨rfl, fun r hr => h r ((mem_rot g hp _ _).1 hr)⟩
  · exact .inr ((mem_rot g hp _ _).2 h)

end

theorem PriR.ex {rows : QRows} (t : Int) : ∃ p, PriR rows t p := by
  by_cases h : ∃ p, t ∈ rowAt rows p
  · exact h.elim fun p hp => ⟨p, .inr hp⟩
  · exact ⟨0, .inl ⟨rfl, fun q hq => h ⟨q, hq⟩⟩⟩
/-- A list without doubles, of numbers below a limit, is short. -/
theorem nodup_short : ∀ (n : Nat) (l : List Int), l.Nodup → (∀ x ∈ l, 1 ≤ x ∧ x ≤ (n : Int)) → l.length ≤ n
  | 0, l, _, h => by
    cases l with
    | nil => exact Nat.le_refl _
    | cons x l => have := h x (by simp); omega
  | n + 1, l, hd, h => by
    have h1 := nodup_short n (l.erase ((n : Int) + 1)) (hd.erase _) fun x hx => by
      have hm := (hd.mem_erase_iff).1 hx
      have := h x hm.2
      have := hm.1
      omega
    have h2 : l.length ≤ (l.erase ((n : Int) + 1)).length + 1 := by
      rw [List.length_erase]; split <;> omega
    omega

theorem GoodQ.short {rows : QRows} (g : GoodQ rows) (p : Nat) : (rowAt rows p).length ≤ 16 := nodup_short 16 _ (g.nod p) fun x hx => g.lim p x hx

theorem GoodQ.flat {rows : QRows} (g : GoodQ rows) : rows.flatten.length ≤ 16 := by
  refine nodup_short 16 _ ?_ fun x hx => ?_
  · unfold List.Nodup
    rw [List.pairwise_flatten]
    refine ⟨fun r hr => ?_, ?_⟩
    · obtain ⟨i, hi, rfl⟩ := List.mem_iff_getElem.1 hr
      have := g.nod i
      have e := rowAt_get hi
      rw [List.getElem?_eq_getElem hi] at e
      rw [← Option.some.inj e] at this
      exact this
    · rw [List.pairwise_iff_getElem]
      intro i j hi hj hij x hx y hy e
      subst e
      have e1 := rowAt_get hi
      have e2 := rowAt_get hj
      rw [List.getElem?_eq_getElem hi] at e1
      rw [List.getElem?_eq_getElem hj] at e2
      have := g.one i j x (Option.some.inj e1 ▸ hx) (Option.some.inj e2 ▸ hy)
      omega
  · obtain ⟨r, hr, hx⟩ := List.mem_flatten.1 hx
    obtain ⟨i, hi, rfl⟩ := List.mem_iff_getElem.1 hr
    have e1 := rowAt_get hi
    rw [List.getElem?_eq_getElem hi] at e1
    exact g.lim i x (Option.some.inj e1 ▸ hx)
end Go.AM
