/-
  Those that are ready: filled one by one.
-/
import Derived.Test.YtlkpeondecnhnaaDoorRqH
import Derived.Test.YtlkpeondecnhnaaDoorSmA
namespace Go.AM
attribute [local simp] AH.ld AH.ldn Nat.add_assoc resA resA1 fillA buildA slSlA boundsA boundA callvP

/-- The first so many tasks, each with its priority. -/
def fillR (f : Nat → Nat) : Nat → QRows
  | 0 => noRows
  | i + 1 => putR (fillR f i) ((i : Int) + 1) (f i)

theorem fillR_ok {f : Nat → Nat} (hf : ∀ k, 1 ≤ f k ∧ f k ≤ 16) : ∀ i, i ≤ 16 → GoodQ (fillR f i) ∧ ∀ p t, t ∈ rowAt (fillR f i) p ↔ ∃ k : Nat, k < i ∧ t = (k : Int) + 1 ∧ p = f k
  | 0, _ => ⟨GoodQ.none, fun p t => ⟨fun h => (by rw [show fillR f 0 = noRows from rfl, rowAt_none] at h; cases h), fun ⟨k, h, _⟩ => (by omega)⟩⟩
  | i + 1, h => by
    obtain ⟨g, hm⟩ := fillR_ok hf i (by omega)
    have hno : ∀ q, ((i : Int) + 1) ∉ rowAt (fillR f i) q := fun q hq => by
      obtain ⟨k, h1, h2, _⟩ := (hm q _).1 hq
      omega
    refine ⟨g.put (hf i).1 (hf i).2 (by omega) hno, fun p t => ?_⟩
    rw [show fillR f (i + 1) = putR (fillR f i) ((i : Int) + 1) (f i) from rfl, mem_put g (hf i).2, hm]
    constructor
    · rintro (⟨k, h1, h2, h3⟩ | ⟨rfl, rfl⟩)
      · exact ⟨k, by omega, h2, h3⟩
      · exact ⟨i, by omega, rfl, rfl⟩
    · rintro ⟨k, h1, h2, h3⟩
      by_cases e : k = i
      · subst e
        exact .inr ⟨h3, h2⟩
      · exact .inl ⟨k, by omega, h2, h3⟩

theorem fillR_add {f : Nat → Nat} (hf : ∀ k, 1 ≤ f k ∧ f k ≤ 16) {i : Nat} (h : i < 16) : addQ (fillR f i) ((i : Int) + 1) (f i : Int) = (0, fillR f (i + 1)) := by
  obtain ⟨g, hm⟩ := fillR_ok hf i (by omega)
  have hno : ∀ q, ((i : Int) + 1) ∉ rowAt (fillR f i) q := fun q hq => by
    obtain ⟨k, h1, h2, _⟩ := (hm q _).1 hq
    omega
  have := hf i
  unfold addQ
  rw [if_pos (by omega), if_pos (priQ_none g hno), Int.toNat_natCast]
  rfl

theorem fillR_len {f : Nat → Nat} (hf : ∀ k, 1 ≤ f k ∧ f k ≤ 16) : ∀ i, i ≤ 16 → (fillR f i).flatten.length = i
  | 0, _ => rfl
  | i + 1, h => by
    rw [show fillR f (i + 1) = putR (fillR f i) ((i : Int) + 1) (f i) from rfl, put_len (fillR_ok hf i (by omega)).1 (hf i).2, fillR_len hf i (by omega)]

theorem fillR_pri {f : Nat → Nat} (hf : ∀ k, 1 ≤ f k ∧ f k ≤ 16) {i k : Nat} (h : i ≤ 16) (hk : k < i) : priQ (fillR f i) ((k : Int) + 1) = f k := by
  obtain ⟨g, hm⟩ := fillR_ok hf i h
  exact priQ_some g ((hm _ _).2 ⟨k, hk, rfl, rfl⟩)

/-- A priority out of a byte. -/
def priF (xs : List Int) (m : Int) (k : Nat) : Nat := (1 + (xs.getD k 0) % m).toNat

theorem priF_ok {xs : List Int} {m : Int} (hm : 1 ≤ m ∧ m ≤ 16) (k : Nat) : 1 ≤ priF xs m k ∧ priF xs m k ≤ 16 := by
  unfold priF
  have h1 := Int.emod_nonneg (xs.getD k 0) (show m ≠ 0 by omega)
  have h2 := Int.emod_lt_of_pos (xs.getD k 0) (show 0 < m by omega)
  omega
end Go.AM
