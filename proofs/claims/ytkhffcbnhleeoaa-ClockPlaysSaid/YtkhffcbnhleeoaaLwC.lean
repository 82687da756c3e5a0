/-
  What laws begin with: the arguments, the known case; what an argument tells.
-/
import Derived.Test.YtkhffcbnhleeoaaHpE
import Derived.Test.YtkhffcbnhleeoaaAmT
import Derived.Test.YtkhffcbnhleeoaaLwB
namespace Go.AM
attribute [local simp] AH.ld AH.ldn AH.stn AH.new Nat.add_assoc resA resA1 fillA buildA slSlA boundsA boundA callvP

/-- A call at the law's own heap. -/
theorem CallP.start {ρ : HF} {f : Nat} {args : List AV} {H : AH} (hw : WF H) (hr : RoOf ρ H) {K K' : AV → AH → Prop} (h : CallP tab noExt f args H K) (hk : ∀ v H', Sat ρ H' [] → K v H' → K' v H') : CallP tab noExt f args H K' :=
  (h.mono_wf tab_wf noExt_wf noExt_next hw (K' := fun v H' => WF H' ∧ K v H') fun _ _ a _ c => ⟨a, c⟩).mono_ro noExt_ro hr fun v H' hro ⟨a, c⟩ => hk v H' (.nil a hro) c

/-- A closed run, whatever lies below. -/
theorem CallP_evalAt {f : Nat} {args : List AV} {v : AV} (n m : Nat) (h : ∀ g : HF, (run tab noExt n f args ⟨fun b => if b < m then g b else none, m⟩).map (fun x => x.1) = some v) {H : AH} (hw : WF H) (hn : H.next = m) : CallP tab noExt f args H fun v' _ => v' = v := by
  have e : H = ⟨fun b => if b < m then H.blk b else none, m⟩ := by
    obtain ⟨g, k⟩ := H
    simp only at hn
    subst hn
    congr 1
    funext b
    split
    · rfl
    · rename_i hb; exact hw b (by simp at hb; exact hb)
  rw [e]
  exact CallP_eval n (h _)

theorem known7_at2 {H : AH} (hw : WF H) (hn : H.next = 5) : CallP tab noExt F.detentlaw7_known [] H fun v _ => v = bl true :=
  CallP_evalAt 50 5 (fun g => by kernel_rfl) hw hn
theorem known8_at2 {H : AH} (hw : WF H) (hn : H.next = 5) : CallP tab noExt F.detentlaw8_known [] H fun v _ => v = bl true :=
  CallP_evalAt 50 5 (fun g => by kernel_rfl) hw hn

theorem ArgsAt.cons_inv {f : HF} {t : Ty} {ts : List Ty} {l : List AV} (h : ArgsAt f (t :: ts) l) : ∃ x v vs, l = v :: vs ∧ AvAt f t x v ∧ ArgsAt f ts vs := by
  cases h with | cons h1 h2 => exact ⟨_, _, _, rfl, h1, h2⟩
theorem ArgsAt.nil_inv {f : HF} {l : List AV} (h : ArgsAt f [] l) : l = [] := by cases h; rfl

/-- A slice of numbers. -/
abbrev RoI (ρ : HF) (k : IntKind) (s : SV) (xs : List Int) : Prop := At ρ (.slice (.int k)) xs [s]

theorem ArgsAt.int {f : HF} {k : IntKind} {ts : List Ty} {l : List AV} (h : ArgsAt f (.int k :: ts) l) : ∃ (x : Int) (vs : List AV), l = .s (.int k x) :: vs ∧ (Lit.int k x).wf = true ∧ ArgsAt f ts vs := by
  cases h with | cons h1 h2 => exact ⟨_, _, by rw [h1.1], h1.2, h2⟩
theorem ArgsAt.bool {f : HF} {ts : List Ty} {l : List AV} (h : ArgsAt f (.bool :: ts) l) : ∃ (x : Bool) (vs : List AV), l = .s (.bool x) :: vs ∧ ArgsAt f ts vs := by
  cases h with | cons h1 h2 => exact ⟨_, _, by rw [show _ = _ from h1], h2⟩
theorem ArgsAt.ints {f : HF} {k : IntKind} {ts : List Ty} {l : List AV} (h : ArgsAt f (.slice (.int k) :: ts) l) : ∃ (xs : List Int) (s : SV) (vs : List AV), l = .s s :: vs ∧ RoI f k s xs ∧ ArgsAt f ts vs := by
  cases h with | cons h1 h2 => obtain ⟨s, rfl, h⟩ := h1; exact ⟨_, s, _, rfl, h, h2⟩

section
variable {ρ : HF} {k : IntKind} {s : SV} {xs : List Int}

theorem RoI.len (h : RoI ρ k s xs) : lenA (.s s) = some (i64 xs.length) := by
  obtain ⟨s', h1, h2⟩ := h
  cases h1
  rcases h2 with ⟨o, rfl, rfl⟩ | ⟨b, c, j, ls, rfl, _⟩ <;> rfl

theorem flat1 {f : HF} : ∀ {xs : List Int} {ls : List (List SV)}, R2 (At f (.int k)) xs ls → ls.flatten = xs.map fun n => SV.int k n
  | [], [], _ => rfl
  | _ :: _, _ :: _, h => by
    have h1 := h.1.1
    subst h1
    simp [flat1 h.2]

theorem RoI.get (h : RoI ρ k s xs) {H : AH} (hr : RoOf ρ H) {i : Nat} (hi : i < xs.length) : ∃ b c l, s = .slice (some (b, 0)) xs.length c 1 ∧ H.blk b = some (.cells true l) ∧ l[i]? = some (.int k (xs.getD i 0)) ∧ (Lit.int k (xs.getD i 0)).wf = true := by
  rw [List.getD_eq_getElem?_getD, List.getElem?_eq_getElem hi]
  simp only [Option.getD_some]
  obtain ⟨s', h1, h2⟩ := h
  cases h1
  rcases h2 with ⟨o, rfl, rfl⟩ | ⟨b, c, j, ls, rfl, hb, h3, h4, h5⟩
  · simp at hi
  · refine ⟨b, c, _, rfl, hr b _ hb, ?_, ?_⟩
    · rw [flat1 h5, List.getElem?_append_left (by simpa using hi)]
      simp [hi]
    · obtain ⟨l, _, hx⟩ := h5.get i xs[i] (List.getElem?_eq_getElem hi)
      exact hx.2
end

theorem RoI.gets {ρ : HF} {k : IntKind} {s : SV} {xs : List Int} (h : RoI ρ k s xs) {i : Nat} (hi : i < xs.length) : ∃ b c l, s = .slice (some (b, 0)) xs.length c 1 ∧ ρ b = some (.cells true l) ∧ l[i]? = some (.int k (xs.getD i 0)) ∧ (Lit.int k (xs.getD i 0)).wf = true :=
  h.get (H := ⟨ρ, 0⟩) (fun _ _ h => h) hi

theorem dueL_one_yes {e : Ent} {now : Int} (h : e.at_ ≤ now) : dueL [e] now = [e] ∧ toL [e] now = [] := by simp [dueL, toL, h]
theorem dueL_one_no {e : Ent} {now : Int} (h : ¬ e.at_ ≤ now) : dueL [e] now = [] ∧ toL [e] now = [e] := by simp [dueL, toL, h]

end Go.AM
