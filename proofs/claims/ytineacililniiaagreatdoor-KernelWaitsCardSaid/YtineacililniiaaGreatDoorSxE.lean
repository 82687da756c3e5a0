/-
  THE SYMBOLIC MACHINE: a law whose arguments are numbers and truths.
-/
import Derived.Test.YtineacililniiaaGreatDoorSxD
import Derived.Test.YtineacililniiaaGreatDoorAmT
namespace Go.AM

noncomputable def isTrue : XK := fun v _ => match v with | .s (.s (.bool b)) => b | _ => false

/-- An unknown of a kind. -/
def kFact (i : Nat) (k : IntKind) : Fact := ⟨[(.v i, 1)], some k.min, some k.max⟩

theorem kFact_ok {ρ : Nat → Int} {i : Nat} {k : IntKind} (h : (Lit.int k (ρ i)).wf = true) : (kFact i k).ok ρ := by
  have h : k.min ≤ ρ i ∧ ρ i ≤ k.max := by simpa [Lit.wf] using h
  constructor
  · intro y hy
    have hy : k.min = y := Option.some.inj hy
    subst hy
    simp only [kFact, Lin.ev, Atom.ev]; omega
  · intro y hy
    have hy : k.max = y := Option.some.inj hy
    subst hy
    simp only [kFact, Lin.ev, Atom.ev]; omega

theorem FactsOk.nil {ρ : Nat → Int} : FactsOk ρ [] := fun _ h => by cases h
theorem FactsOk.cons {ρ : Nat → Int} {f : Fact} {l : List Fact} (h : f.ok ρ) (h' : FactsOk ρ l) : FactsOk ρ (f :: l) := fun g hg => by
  rcases List.mem_cons.1 hg with rfl | hg
  · exact h
  · exact h' g hg

/-- No block yet. -/
theorem XRel.start {ρ : Nat → Int} {facts : List Fact} (hf : FactsOk ρ facts) {H : AH} (hw : WF H) (hn : H.next = 0) : XRel ρ ⟨.e, 0, facts, 0, 0⟩ H :=
  ⟨fun b x h => (by cases h), fun b _ _ => hw b (by omega), hn, hf⟩

theorem sx_law {tab : Nat → Option RFunc} {f n : Nat} {xs : List XAV} {st : XS} (h : runX tab n f xs st isTrue = true) {ρ : Nat → Int} {H : AH} (hR : XRel ρ st H) : CallP tab noExt f (xs.map (XAV.ev ρ)) H fun v _ => v = .s (.bool true) := by
  refine runX_ok (ρ := ρ) n f xs st H isTrue _ h hR fun xv st' H' h1 _ => ?_
  unfold isTrue at h1
  split at h1
  · subst h1; rfl
  · cases h1

/-- A number that is not known. -/
abbrev unk (k : IntKind) (i : Nat) : XAV := .s (.y k ⟨0, [(.v i, 1)]⟩)

theorem unk_ev (ρ : Nat → Int) (k : IntKind) (i : Nat) : (unk k i).ev ρ = .s (.int k (ρ i)) := by
  simp [XAV.ev, XV.ev, SI.ev, Lin.ev, Atom.ev]

def vals (l : List Int) : Nat → Int := fun i => l.getD i 0
end Go.AM
