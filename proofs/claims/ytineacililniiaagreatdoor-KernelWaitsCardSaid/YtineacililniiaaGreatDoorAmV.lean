/-
  Elements of slices that are arguments.
-/
import Derived.Test.YtineacililniiaaGreatDoorAmR
import Derived.Test.YtineacililniiaaGreatDoorAmU
namespace Go.AM

theorem R2_flat_get {α : Type} {R : α → List SV → Prop} {k : Nat} (hk : ∀ x l, R x l → l.length = k) : ∀ {xs : List α} {ls : List (List SV)} (j : List SV), R2 R xs ls → ∀ {i : Nat}, i < xs.length → ∃ x li, xs[i]? = some x ∧ R x li ∧ ((ls.flatten ++ j).drop (i * k)).take k = li ∧ i * k + k ≤ (ls.flatten ++ j).length
  | [], _, _, _, i, hi => by simp at hi
  | x :: xs, l :: ls, j, h, 0, _ => by
    have hl := hk _ _ h.1
    refine ⟨x, l, rfl, h.1, ?_, ?_⟩
    · rw [Nat.zero_mul, List.drop_zero, List.flatten_cons, List.append_assoc, ← hl, List.take_left]
    · simp [List.flatten_cons, hl]
  | x :: xs, l :: ls, j, h, i + 1, hi => by
    have hl := hk _ _ h.1
    obtain ⟨y, li, h1, h2, h3, h4⟩ := R2_flat_get hk j h.2 (i := i) (by simpa using hi)
    refine ⟨y, li, by simpa using h1, h2, ?_, ?_⟩
    · rw [← h3, Nat.add_mul, Nat.one_mul, Nat.add_comm (i * k) k, ← List.drop_drop, List.flatten_cons, List.append_assoc]
      congr 1
      conv => lhs; rw [← hl, List.drop_left]
      rw [hl]
    · simp only [List.flatten_cons, List.length_append, hl] at h4 ⊢
      rw [Nat.add_mul]; omega
  | _ :: _, [], _, h, _, _ => h.elim

section
variable {ρ : HF} {a : Ty} {xs : List a.den} {s : SV}

theorem At.slLen (h : At ρ (.slice a) xs [s]) : lenA (.s s) = some (i64 xs.length) := by
  obtain ⟨s', h1, h2⟩ := h
  cases h1
  rcases h2 with ⟨o, rfl, rfl⟩ | ⟨b, c, j, ls, rfl, _⟩ <;> rfl

theorem At.slGet (h : At ρ (.slice a) xs [s]) {i : Nat} (hi : i < xs.length) : ∃ b c l x li, s = .slice (some (b, 0)) xs.length c a.size ∧ ρ b = some (.cells true l) ∧ xs[i]? = some x ∧ At ρ a x li ∧ (l.drop (i * a.size)).take a.size = li ∧ i * a.size + a.size ≤ l.length := by
  obtain ⟨s', h1, h2⟩ := h
  cases h1
  rcases h2 with ⟨o, rfl, rfl⟩ | ⟨b, c, j, ls, rfl, hb, h3, h4, h5⟩
  · simp at hi
  · obtain ⟨x, li, k1, k2, k3, k4⟩ := R2_flat_get (fun _ _ h => At.len h) j h5 hi
    exact ⟨b, c, _, x, li, rfl, hb, k1, k2, k3, k4⟩
end

theorem ArgsAt.slice {f : HF} {a : Ty} {ts : List Ty} {l : List AV} (h : ArgsAt f (.slice a :: ts) l) : ∃ (xs : List a.den) (s : SV) (vs : List AV), l = .s s :: vs ∧ At f (.slice a) xs [s] ∧ ArgsAt f ts vs := by
  cases h with | cons h1 h2 => obtain ⟨s, rfl, h⟩ := h1; exact ⟨_, s, _, rfl, h, h2⟩

theorem ArgsAt.nil' {f : HF} {l : List AV} (h : ArgsAt f [] l) : l = [] := by cases h; rfl

theorem ArgsAt.int' {f : HF} {k : IntKind} {ts : List Ty} {l : List AV} (h : ArgsAt f (.int k :: ts) l) : ∃ (x : Int) (vs : List AV), l = .s (.int k x) :: vs ∧ (Lit.int k x).wf = true ∧ ArgsAt f ts vs := by
  cases h with | cons h1 h2 => obtain ⟨rfl, h⟩ := h1; exact ⟨_, _, rfl, h, h2⟩

end Go.AM
