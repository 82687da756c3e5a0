/-
  What is to come, put in one by one: a row of times; who is due of them.
-/
import Derived.Test.YtkhffcbnhleeoaaPlB
namespace Go.AM

/-- So many entries, by their times. -/
def entsOf (f : Nat → Int) (n : Nat) : List Ent := (List.range n).map fun i => ⟨f i, (i : Int) + 1, i⟩

theorem entsOf_succ (f : Nat → Int) (n : Nat) : entsOf f (n + 1) = entsOf f n ++ [⟨f n, (n : Int) + 1, n⟩] := by simp [entsOf, List.range_succ]

theorem entsOf_len (f : Nat → Int) (n : Nat) : (entsOf f n).length = n := by simp [entsOf]

theorem entsOf_mem {f : Nat → Int} {n : Nat} {e : Ent} : e ∈ entsOf f n ↔ ∃ i, i < n ∧ e = ⟨f i, (i : Int) + 1, i⟩ := by
  simp only [entsOf, List.mem_map, List.mem_range]
  exact ⟨fun ⟨i, h1, h2⟩ => ⟨i, h1, h2.symm⟩, fun ⟨i, h1, h2⟩ => ⟨i, h1, h2.symm⟩⟩

theorem ins_perm {f : Nat → Int} {n : Nat} {L : List Ent} (h : L.Perm (entsOf f n)) : (insE ⟨f n, (n : Int) + 1, n⟩ L).Perm (entsOf f (n + 1)) := by
  rw [entsOf_succ]
  exact (insE_perm _ _).trans ((h.cons _).trans (List.perm_append_singleton _ _).symm)

theorem srt_tail {e : Ent} {L : List Ent} (h : Srt (e :: L)) : Srt L := (List.pairwise_cons.1 h).2

theorem due_filter {L : List Ent} (h : Srt L) (now : Int) : dueL L now = L.filter (fun e => decide (e.at_ ≤ now)) ∧ toL L now = L.filter (fun e => decide (now < e.at_)) := by
  induction L with
  | nil => exact ⟨rfl, rfl⟩
  | cons e L ih =>
    obtain ⟨h1, h2⟩ := ih (srt_tail h)
    by_cases he : e.at_ ≤ now
    · have he' : ¬ now < e.at_ := by omega
      constructor
      · simp [dueL, he] at h1 ⊢; exact h1
      · simp [toL, he, he'] at h2 ⊢; exact h2
    · have he' : now < e.at_ := by omega
      have hall : ∀ x ∈ L, now < x.at_ := fun x hx => by
        have := (List.pairwise_cons.1 h).1 x hx
        rw [ahead_iff] at this
        omega
      constructor
      · simp only [dueL, List.takeWhile_cons, he, decide_false, List.filter_cons]
        simp
        intro x hx; exact hall x hx
      · simp only [toL, List.dropWhile_cons, he, decide_false, List.filter_cons, he', decide_true]
        simp
        exact (List.filter_eq_self.2 fun x hx => by simpa using hall x hx).symm

theorem due_to (L : List Ent) (now : Int) : dueL L now ++ toL L now = L := List.takeWhile_append_dropWhile

theorem srt_get {L : List Ent} (h : Srt L) {i j : Nat} (hij : i < j) (hj : j < L.length) : aheadB (L[i]'(by omega)) L[j] = true := List.pairwise_iff_getElem.1 h i j _ hj hij

/-- How many of them. -/
theorem count_filter {f : Nat → Int} {n : Nat} {L : List Ent} (h : L.Perm (entsOf f n)) (p : Int → Bool) : (L.filter fun e => p e.at_).length = ((List.range n).filter fun i => p (f i)).length := by
  rw [(h.filter _).length_eq]
  unfold entsOf
  rw [List.filter_map, List.length_map]
  rfl

end Go.AM
