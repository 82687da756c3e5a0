/-
  THE SYMBOLIC MACHINE: numbers as sums of unknowns, facts about these; a heap and slots as trees; every way that a run may take.
-/
import Derived.Test.YtineacililniiaaGreatDoorAmO
namespace Go.AM

/- ---- trees by number ---- -/
inductive Tr (α : Type) where
  | e
  | n (v : Option α) (l r : Tr α)

theorem beq_ff {a b : Nat} (h : a ≠ b) : Nat.beq a b = false := by
  cases e : Nat.beq a b with
  | false => rfl
  | true => exact (h (Nat.eq_of_beq_eq_true e)).elim

theorem beq_tt {a b : Nat} (h : a = b) : Nat.beq a b = true := by rw [Nat.beq_eq]; exact h

noncomputable def Tr.get {α : Type} (t : Tr α) : Nat → Option α :=
  Tr.rec (motive := fun _ => Nat → Option α) (fun _ => none) (fun v _ _ gl gr k => cond (Nat.beq k 0) v (cond (Nat.beq (Nat.mod k 2) 1) (gl (Nat.div k 2)) (gr (Nat.sub (Nat.div k 2) 1)))) t

theorem Tr.get_e {α : Type} (k : Nat) : (Tr.e : Tr α).get k = none := rfl
theorem Tr.get_n {α : Type} (v : Option α) (l r : Tr α) (k : Nat) : (Tr.n v l r).get k = if k = 0 then v else if k % 2 = 1 then l.get (k / 2) else r.get (k / 2 - 1) := by
  show cond (Nat.beq k 0) v (cond (Nat.beq (Nat.mod k 2) 1) (l.get (k / 2)) (r.get (k / 2 - 1))) = _
  by_cases h : k = 0
  · subst h; rfl
  · rw [if_neg h, beq_ff h, cond_false]
    by_cases h1 : k % 2 = 1
    · rw [if_pos h1]
      have : Nat.beq (Nat.mod k 2) 1 = true := beq_tt h1
      rw [this]; rfl
    · rw [if_neg h1]
      have : Nat.beq (Nat.mod k 2) 1 = false := beq_ff h1
      rw [this]; rfl

noncomputable def Tr.one {α : Type} (f : Nat) (x : α) : Nat → Option (Tr α) :=
  Nat.rec (motive := fun _ => Nat → Option (Tr α)) (fun _ => none) (fun _ ih k => cond (Nat.beq k 0) (some (.n (some x) .e .e)) (cond (Nat.beq (Nat.mod k 2) 1)
    (Option.rec none (fun l => some (.n none l .e)) (ih (Nat.div k 2))) (Option.rec none (fun r => some (.n none .e r)) (ih (Nat.sub (Nat.div k 2) 1))))) f

/-- One more, or another one. -/
noncomputable def Tr.set {α : Type} (t : Tr α) (x : α) : Nat → Option (Tr α) :=
  Tr.rec (motive := fun _ => Nat → Option (Tr α)) (fun k => Tr.one 100 x k) (fun v l r sl sr k => cond (Nat.beq k 0) (some (.n (some x) l r)) (cond (Nat.beq (Nat.mod k 2) 1)
    (Option.rec none (fun l => some (.n v l r)) (sl (Nat.div k 2))) (Option.rec none (fun r => some (.n v l r)) (sr (Nat.sub (Nat.div k 2) 1))))) t

theorem Tr.get_one {α : Type} {x : α} : ∀ (f k : Nat) (t : Tr α), Tr.one f x k = some t → ∀ j, t.get j = if j = k then some x else none
  | 0, _, _, h, _ => by cases h
  | f + 1, k, t, h, j => by
    have h : cond (Nat.beq k 0) (some (Tr.n (some x) .e .e)) (cond (Nat.beq (Nat.mod k 2) 1) (Option.rec none (fun l => some (.n none l .e)) (Tr.one f x (k / 2))) (Option.rec none (fun r => some (.n none .e r)) (Tr.one f x (k / 2 - 1)))) = some t := h
    by_cases hk : k = 0
    · subst hk
      cases h
      rw [Tr.get_n]
      by_cases hj : j = 0
      · rw [if_pos hj, if_pos hj]
      · rw [if_neg hj, if_neg hj]; split <;> rfl
    · rw [beq_ff hk, cond_false] at h
      by_cases h1 : k % 2 = 1
      · have e : Nat.beq (Nat.mod k 2) 1 = true := beq_tt h1
        rw [e, cond_true] at h
        cases hl : Tr.one f x (k / 2) with
        | none => rw [hl] at h; cases h
        | some l =>
          rw [hl] at h
          cases h
          have ih := Tr.get_one f _ _ hl
          rw [Tr.get_n]
          by_cases hj : j = 0
          · rw [if_pos hj, if_neg (by omega)]
          · rw [if_neg hj]
            by_cases h2 : j % 2 = 1
            · rw [if_pos h2, ih]
              by_cases e : j = k
              · subst e; simp
              · rw [if_neg (by omega), if_neg e]
            · rw [if_neg h2, if_neg (by intro e; subst e; exact h2 h1)]; rfl
      · have e : Nat.beq (Nat.mod k 2) 1 = false := beq_ff h1
        rw [e, cond_false] at h
        cases hl : Tr.one f x (k / 2 - 1) with
        | none => rw [hl] at h; cases h
        | some l =>
          rw [hl] at h
          cases h
          have ih := Tr.get_one f _ _ hl
          rw [Tr.get_n]
          by_cases hj : j = 0
          · rw [if_pos hj, if_neg (by omega)]
          · rw [if_neg hj]
            by_cases h2 : j % 2 = 1
            · rw [if_pos h2, if_neg (by intro e; subst e; exact h1 h2)]; rfl
            · rw [if_neg h2, ih]
              by_cases e : j = k
              · subst e; simp
              · rw [if_neg (by omega), if_neg e]

theorem Tr.get_set {α : Type} {x : α} : ∀ (t : Tr α) (k : Nat) (t' : Tr α), t.set x k = some t' → ∀ j, t'.get j = if j = k then some x else t.get j
  | .e, k, t', h, j => Tr.get_one 100 k t' h j
  | .n v l r, k, t', h, j => by
    have h : cond (Nat.beq k 0) (some (Tr.n (some x) l r)) (cond (Nat.beq (Nat.mod k 2) 1) (Option.rec none (fun l => some (.n v l r)) (l.set x (k / 2))) (Option.rec none (fun r => some (.n v l r)) (r.set x (k / 2 - 1)))) = some t' := h
    by_cases hk : k = 0
    · subst hk
      cases h
      rw [Tr.get_n, Tr.get_n]
      by_cases hj : j = 0
      · rw [if_pos hj, if_pos hj]
      · rw [if_neg hj, if_neg hj, if_neg hj]
    · rw [beq_ff hk, cond_false] at h
      by_cases h1 : k % 2 = 1
      · have e : Nat.beq (Nat.mod k 2) 1 = true := beq_tt h1
        rw [e, cond_true] at h
        cases hl : l.set x (k / 2) with
        | none => rw [hl] at h; cases h
        | some l' =>
          rw [hl] at h
          cases h
          have ih := Tr.get_set l _ _ hl
          rw [Tr.get_n, Tr.get_n]
          by_cases hj : j = 0
          · rw [if_pos hj, if_neg (by omega), if_pos hj]
          · rw [if_neg hj, if_neg hj]
            by_cases h2 : j % 2 = 1
            · rw [if_pos h2, if_pos h2, ih]
              by_cases e : j = k
              · subst e; simp
              · rw [if_neg (by omega), if_neg e]
            · rw [if_neg h2, if_neg h2, if_neg (by intro e; subst e; exact h2 h1)]
      · have e : Nat.beq (Nat.mod k 2) 1 = false := beq_ff h1
        rw [e, cond_false] at h
        cases hl : r.set x (k / 2 - 1) with
        | none => rw [hl] at h; cases h
        | some l' =>
          rw [hl] at h
          cases h
          have ih := Tr.get_set r _ _ hl
          rw [Tr.get_n, Tr.get_n]
          by_cases hj : j = 0
          · rw [if_pos hj, if_neg (by omega), if_pos hj]
          · rw [if_neg hj, if_neg hj]
            by_cases h2 : j % 2 = 1
            · rw [if_pos h2, if_pos h2, if_neg (by intro e; subst e; exact h1 h2)]
            · rw [if_neg h2, if_neg h2, ih]
              by_cases e : j = k
              · subst e; simp
              · rw [if_neg (by omega), if_neg e]

/- ---- sums of unknowns ---- -/
inductive Atom where
  | v (i : Nat)
  | md (i m : Nat)

def Atom.ev (ρ : Nat → Int) : Atom → Int
  | .v i => ρ i
  | .md i m => (ρ i).tmod m

def Atom.eqb : Atom → Atom → Bool
  | .v i, .v j => Nat.beq i j
  | .md i m, .md j n => Nat.beq i j && Nat.beq m n
  | _, _ => false

def Atom.ltb : Atom → Atom → Bool
  | .v i, .v j => Nat.blt i j
  | .v _, .md _ _ => true
  | .md _ _, .v _ => false
  | .md i m, .md j n => Nat.blt i j || (Nat.beq i j && Nat.blt m n)

theorem Atom.eqb_eq : ∀ {a b : Atom}, a.eqb b = true → a = b
  | .v i, .v j, h => by rw [Nat.eq_of_beq_eq_true h]
  | .md i m, .md j n, h => by
    simp only [Atom.eqb, Bool.and_eq_true] at h
    rw [Nat.eq_of_beq_eq_true h.1, Nat.eq_of_beq_eq_true h.2]
  | .v _, .md _ _, h => by cases h
  | .md _ _, .v _, h => by cases h

def Int.eqb : Int → Int → Bool
  | .ofNat a, .ofNat b => Nat.beq a b
  | .negSucc a, .negSucc b => Nat.beq a b
  | _, _ => false

theorem Int.eqb_eq : ∀ {a b : Int}, Int.eqb a b = true → a = b
  | .ofNat a, .ofNat b, h => by rw [Nat.eq_of_beq_eq_true h]
  | .negSucc a, .negSucc b, h => by rw [Nat.eq_of_beq_eq_true h]
  | .ofNat _, .negSucc _, h => by cases h
  | .negSucc _, .ofNat _, h => by cases h

def Int.leb : Int → Int → Bool
  | .ofNat a, .ofNat b => Nat.ble a b
  | .negSucc a, .negSucc b => Nat.ble b a
  | .ofNat _, .negSucc _ => false
  | .negSucc _, .ofNat _ => true

theorem Int.leb_iff : ∀ {a b : Int}, Int.leb a b = true ↔ a ≤ b
  | .ofNat a, .ofNat b => by simp only [Int.leb, Nat.ble_eq, Int.ofNat_eq_natCast]; omega
  | .negSucc a, .negSucc b => by simp only [Int.leb, Nat.ble_eq]; omega
  | .ofNat a, .negSucc b => by
    simp only [Int.leb, Int.ofNat_eq_natCast]
    constructor
    · intro h; cases h
    · intro h; exfalso; omega
  | .negSucc a, .ofNat b => ⟨fun _ => (by have := Int.negSucc_lt_zero a; simp only [Int.ofNat_eq_natCast]; omega), fun _ => rfl⟩

theorem Int.leb_false {a b : Int} : Int.leb a b = false ↔ b < a := by
  rw [← Bool.not_eq_true, Int.leb_iff]; omega

abbrev Lin := List (Atom × Int)

def Lin.ev (ρ : Nat → Int) : Lin → Int
  | [] => 0
  | (a, c) :: l => c * a.ev ρ + Lin.ev ρ l

def addTerm (a : Atom) (c : Int) : Lin → Lin
  | [] => [(a, c)]
  | (b, d) :: l => match a.eqb b with
    | true => match Int.eqb (c + d) 0 with
      | true => l
      | false => (b, c + d) :: l
    | false => match a.ltb b with
      | true => (a, c) :: (b, d) :: l
      | false => (b, d) :: addTerm a c l

theorem addTerm_ev (ρ : Nat → Int) (a : Atom) (c : Int) : ∀ l, Lin.ev ρ (addTerm a c l) = c * a.ev ρ + Lin.ev ρ l
  | [] => rfl
  | (b, d) :: l => by
    simp only [addTerm]
    split
    · rename_i h
      have := Atom.eqb_eq h
      subst this
      split
      · rename_i h2
        have h2 := Int.eqb_eq h2
        have : c * a.ev ρ + d * a.ev ρ = 0 := by rw [← Int.add_mul, h2, Int.zero_mul]
        simp only [Lin.ev]; omega
      · simp only [Lin.ev, Int.add_mul]; omega
    · split
      · rfl
      · simp only [Lin.ev, addTerm_ev ρ a c l]; omega

def addLin : Lin → Lin → Lin
  | [], m => m
  | (a, c) :: l, m => addTerm a c (addLin l m)

theorem addLin_ev (ρ : Nat → Int) : ∀ l m, Lin.ev ρ (addLin l m) = Lin.ev ρ l + Lin.ev ρ m
  | [], m => by simp [addLin, Lin.ev]
  | (a, c) :: l, m => by simp only [addLin, addTerm_ev, addLin_ev ρ l m, Lin.ev]; omega

def mulLin (k : Int) : Lin → Lin
  | [] => []
  | (a, c) :: l => (a, k * c) :: mulLin k l

theorem mulLin_ev (ρ : Nat → Int) (k : Int) : ∀ l, Lin.ev ρ (mulLin k l) = k * Lin.ev ρ l
  | [] => by simp [mulLin, Lin.ev]
  | (a, c) :: l => by simp only [mulLin, Lin.ev, mulLin_ev ρ k l, Int.mul_add, Int.mul_assoc]

def linEqb : Lin → Lin → Bool
  | [], [] => true
  | (a, c) :: l, (b, d) :: m => a.eqb b && Int.eqb c d && linEqb l m
  | _, _ => false

theorem linEqb_eq : ∀ {l m : Lin}, linEqb l m = true → l = m
  | [], [], _ => rfl
  | (a, c) :: l, (b, d) :: m, h => by
    simp only [linEqb, Bool.and_eq_true] at h
    rw [Atom.eqb_eq h.1.1, Int.eqb_eq h.1.2, linEqb_eq h.2]
  | [], _ :: _, h => by cases h
  | _ :: _, [], h => by cases h

structure SI where
  c : Int
  l : Lin

def SI.ev (ρ : Nat → Int) (n : SI) : Int := n.c + n.l.ev ρ
def SI.add (a b : SI) : SI := ⟨a.c + b.c, addLin a.l b.l⟩
def SI.sub (a b : SI) : SI := ⟨a.c - b.c, addLin a.l (mulLin (-1) b.l)⟩
def SI.scale (k : Int) (a : SI) : SI := match Int.eqb k 0 with | true => ⟨0, []⟩ | false => ⟨k * a.c, mulLin k a.l⟩
def SI.eqb (a b : SI) : Bool := Int.eqb a.c b.c && linEqb a.l b.l

section
variable (ρ : Nat → Int)
theorem SI.add_ev (a b : SI) : (a.add b).ev ρ = a.ev ρ + b.ev ρ := by simp only [SI.ev, SI.add, addLin_ev]; omega
theorem SI.sub_ev (a b : SI) : (a.sub b).ev ρ = a.ev ρ - b.ev ρ := by simp only [SI.ev, SI.sub, addLin_ev, mulLin_ev]; omega
theorem SI.scale_ev (k : Int) (a : SI) : (a.scale k).ev ρ = k * a.ev ρ := by
  unfold SI.scale
  split
  · rename_i h; rw [Int.eqb_eq h]; simp [SI.ev, Lin.ev]
  · simp only [SI.ev, mulLin_ev, Int.mul_add]
theorem SI.eqb_eq {a b : SI} (h : a.eqb b = true) : a = b := by
  simp only [SI.eqb, Bool.and_eq_true] at h
  cases a; cases b
  simp only at h
  rw [Int.eqb_eq h.1, linEqb_eq h.2]
end

/- ---- facts ---- -/
structure Fact where
  l : Lin
  lo : Option Int
  hi : Option Int

def Fact.ok (ρ : Nat → Int) (f : Fact) : Prop := (∀ x, f.lo = some x → x ≤ f.l.ev ρ) ∧ (∀ x, f.hi = some x → f.l.ev ρ ≤ x)
def FactsOk (ρ : Nat → Int) (fs : List Fact) : Prop := ∀ f ∈ fs, f.ok ρ

abbrev Rng := Option Int × Option Int
def Rng.ok (r : Rng) (x : Int) : Prop := (∀ y, r.1 = some y → y ≤ x) ∧ (∀ y, r.2 = some y → x ≤ y)

def oneFact (l : Lin) : List Fact → Rng
  | [] => (none, none)
  | f :: fs => match linEqb f.l l with
    | true => (f.lo, f.hi)
    | false => oneFact l fs

theorem oneFact_ok {ρ : Nat → Int} {l : Lin} : ∀ {fs : List Fact}, FactsOk ρ fs → (oneFact l fs).ok (l.ev ρ)
  | [], _ => ⟨fun _ h => (by cases h), fun _ h => (by cases h)⟩
  | f :: fs, h => by
    simp only [oneFact]
    split
    · rename_i hl
      have := linEqb_eq hl
      subst this
      exact h f (by simp)
    · exact oneFact_ok fun g hg => h g (by simp [hg])

def flip (l : Lin) : Bool :=
  match l with
  | (_, .negSucc _) :: _ => true
  | _ => false

def negO (o : Option Int) : Option Int := match o with | some x => some (-x) | none => none

/-- What the facts say of a sum, looked up, its sign set right. -/
def linFact (l : Lin) (fs : List Fact) : Rng :=
  match flip l with
  | true => match oneFact (mulLin (-1) l) fs with | (a, b) => (negO b, negO a)
  | false => oneFact l fs

theorem linFact_ok {ρ : Nat → Int} {l : Lin} {fs : List Fact} (h : FactsOk ρ fs) : (linFact l fs).ok (l.ev ρ) := by
  unfold linFact
  split
  · have := oneFact_ok (l := mulLin (-1) l) h
    rw [mulLin_ev] at this
    generalize oneFact (mulLin (-1) l) fs = r at *
    obtain ⟨a, b⟩ := r
    obtain ⟨h1, h2⟩ := this
    constructor
    · intro y hy
      cases b with
      | none => cases hy
      | some x =>
        simp only [negO, Option.some.injEq] at hy
        have := h2 x rfl
        omega
    · intro y hy
      cases a with
      | none => cases hy
      | some x =>
        simp only [negO, Option.some.injEq] at hy
        have := h1 x rfl
        omega
  · exact oneFact_ok h

def maxO (a b : Option Int) : Option Int := match a, b with | some x, some y => some (match Int.leb x y with | true => y | false => x) | some x, none => some x | none, o => o
def minO (a b : Option Int) : Option Int := match a, b with | some x, some y => some (match Int.leb x y with | true => x | false => y) | some x, none => some x | none, o => o
def meet (r s : Rng) : Rng := (maxO r.1 s.1, minO r.2 s.2)

theorem meet_ok {r s : Rng} {x : Int} (h : r.ok x) (h' : s.ok x) : (meet r s).ok x := by
  obtain ⟨a, b⟩ := r
  obtain ⟨c, d⟩ := s
  constructor
  · intro y hy
    cases a with
    | none => exact h'.1 y hy
    | some a => cases c with
      | none => exact h.1 y hy
      | some c =>
        have h1 := h.1 a rfl
        have h2 := h'.1 c rfl
        simp only [meet, maxO, Option.some.injEq] at hy
        split at hy <;> omega
  · intro y hy
    cases b with
    | none => exact h'.2 y hy
    | some b => cases d with
      | none => exact h.2 y hy
      | some d =>
        have h1 := h.2 b rfl
        have h2 := h'.2 d rfl
        simp only [meet, minO, Option.some.injEq] at hy
        split at hy <;> omega

def addO2 (a b : Option Int) : Option Int := match a, b with | some x, some y => some (x + y) | _, _ => none
def mulO (k : Int) (a : Option Int) : Option Int := match a with | some x => some (k * x) | none => none

/-- A sum's range out of its unknowns'. -/
def sumRng (fs : List Fact) : Lin → Rng
  | [] => (some 0, some 0)
  | (a, c) :: l => match oneFact [(a, 1)] fs, sumRng fs l with
    | (lo, hi), (slo, shi) => match Int.leb 0 c with
      | true => (addO2 (mulO c lo) slo, addO2 (mulO c hi) shi)
      | false => (addO2 (mulO c hi) slo, addO2 (mulO c lo) shi)

theorem sumRng_ok {ρ : Nat → Int} {fs : List Fact} (h : FactsOk ρ fs) : ∀ l : Lin, (sumRng fs l).ok (l.ev ρ)
  | [] => ⟨fun y hy => (by cases hy; exact Int.le_refl _), fun y hy => (by cases hy; exact Int.le_refl _)⟩
  | (a, c) :: l => by
    have h1 := oneFact_ok (l := [(a, 1)]) h
    have h2 := sumRng_ok h l
    simp only [sumRng, Lin.ev, Int.one_mul, Int.add_zero] at *
    generalize oneFact [(a, 1)] fs = r at *
    generalize sumRng fs l = s at *
    obtain ⟨lo, hi⟩ := r
    obtain ⟨slo, shi⟩ := s
    simp only
    split
    · rename_i hc
      rw [Int.leb_iff] at hc
      constructor
      · intro y hy
        cases lo with
        | none => cases hy
        | some x => cases slo with
          | none => cases hy
          | some z =>
            simp only [addO2, mulO, Option.some.injEq] at hy
            have := Int.mul_le_mul_of_nonneg_left (h1.1 x rfl) hc
            have := h2.1 z rfl
            omega
      · intro y hy
        cases hi with
        | none => cases hy
        | some x => cases shi with
          | none => cases hy
          | some z =>
            simp only [addO2, mulO, Option.some.injEq] at hy
            have := Int.mul_le_mul_of_nonneg_left (h1.2 x rfl) hc
            have := h2.2 z rfl
            omega
    · rename_i hc
      rw [Int.leb_false] at hc
      constructor
      · intro y hy
        cases hi with
        | none => cases hy
        | some x => cases slo with
          | none => cases hy
          | some z =>
            simp only [addO2, mulO, Option.some.injEq] at hy
            have := Int.mul_le_mul_of_nonpos_left (Int.le_of_lt hc) (h1.2 x rfl)
            have := h2.1 z rfl
            omega
      · intro y hy
        cases lo with
        | none => cases hy
        | some x => cases shi with
          | none => cases hy
          | some z =>
            simp only [addO2, mulO, Option.some.injEq] at hy
            have := Int.mul_le_mul_of_nonpos_left (Int.le_of_lt hc) (h1.1 x rfl)
            have := h2.2 z rfl
            omega

def shiftO (k : Int) (a : Option Int) : Option Int := match a with | some x => some (k + x) | none => none

def rng (fs : List Fact) (n : SI) : Rng := match meet (linFact n.l fs) (sumRng fs n.l) with | (a, b) => (shiftO n.c a, shiftO n.c b)

theorem rng_ok {ρ : Nat → Int} {fs : List Fact} (h : FactsOk ρ fs) (n : SI) : (rng fs n).ok (n.ev ρ) := by
  have := meet_ok (linFact_ok (l := n.l) h) (sumRng_ok h n.l)
  unfold rng
  generalize meet (linFact n.l fs) (sumRng fs n.l) = r at *
  obtain ⟨a, b⟩ := r
  constructor
  · intro y hy
    cases a with
    | none => cases hy
    | some x => simp only [shiftO, Option.some.injEq] at hy; have := this.1 x rfl; simp only [SI.ev]; omega
  · intro y hy
    cases b with
    | none => cases hy
    | some x => simp only [shiftO, Option.some.injEq] at hy; have := this.2 x rfl; simp only [SI.ev]; omega

def addR (r s : Rng) : Rng := (addO2 r.1 s.1, addO2 r.2 s.2)

theorem addR_ok {r s : Rng} {x y : Int} (h : r.ok x) (h' : s.ok y) : (addR r s).ok (x + y) := by
  obtain ⟨a, b⟩ := r
  obtain ⟨c, d⟩ := s
  constructor
  · intro z hz
    cases a with
    | none => cases hz
    | some a => cases c with
      | none => cases hz
      | some c =>
        simp only [addR, addO2, Option.some.injEq] at hz
        have := h.1 a rfl
        have := h'.1 c rfl
        omega
  · intro z hz
    cases b with
    | none => cases hz
    | some b => cases d with
      | none => cases hz
      | some d =>
        simp only [addR, addO2, Option.some.injEq] at hz
        have := h.2 b rfl
        have := h'.2 d rfl
        omega

/-- What follows out of one fact and the unknowns' ranges. -/
def viaFacts (all : List Fact) (l : Lin) : List Fact → Rng
  | [] => (none, none)
  | f :: fs => meet (addR (f.lo, f.hi) (sumRng all (addLin l (mulLin (-1) f.l)))) (viaFacts all l fs)

theorem viaFacts_ok {ρ : Nat → Int} {all : List Fact} (h : FactsOk ρ all) (l : Lin) : ∀ {fs : List Fact}, FactsOk ρ fs → (viaFacts all l fs).ok (l.ev ρ)
  | [], _ => ⟨fun _ h => (by cases h), fun _ h => (by cases h)⟩
  | f :: fs, hf => by
    refine meet_ok ?_ (viaFacts_ok h l fun g hg => hf g (by simp [hg]))
    have h1 := sumRng_ok h (addLin l (mulLin (-1) f.l))
    rw [addLin_ev, mulLin_ev] at h1
    have h2 : Rng.ok (f.lo, f.hi) (f.l.ev ρ) := hf f (by simp)
    have := addR_ok h2 h1
    rw [show f.l.ev ρ + (l.ev ρ + -1 * f.l.ev ρ) = l.ev ρ by omega] at this
    exact this

def rngV (fs : List Fact) (n : SI) : Rng :=
  match flip n.l with
  | true => match viaFacts fs (mulLin (-1) n.l) fs with | (a, b) => (shiftO n.c (negO b), shiftO n.c (negO a))
  | false => match viaFacts fs n.l fs with | (a, b) => (shiftO n.c a, shiftO n.c b)

theorem rngV_ok {ρ : Nat → Int} {fs : List Fact} (h : FactsOk ρ fs) (n : SI) : (rngV fs n).ok (n.ev ρ) := by
  unfold rngV
  split
  · have := viaFacts_ok h (mulLin (-1) n.l) h
    rw [mulLin_ev] at this
    generalize viaFacts fs (mulLin (-1) n.l) fs = r at *
    obtain ⟨a, b⟩ := r
    constructor
    · intro y hy
      cases b with
      | none => cases hy
      | some x => simp only [negO, shiftO, Option.some.injEq] at hy; have := this.2 x rfl; simp only [SI.ev]; omega
    · intro y hy
      cases a with
      | none => cases hy
      | some x => simp only [negO, shiftO, Option.some.injEq] at hy; have := this.1 x rfl; simp only [SI.ev]; omega
  · have := viaFacts_ok h n.l h
    generalize viaFacts fs n.l fs = r at *
    obtain ⟨a, b⟩ := r
    constructor
    · intro y hy
      cases a with
      | none => cases hy
      | some x => simp only [shiftO, Option.some.injEq] at hy; have := this.1 x rfl; simp only [SI.ev]; omega
    · intro y hy
      cases b with
      | none => cases hy
      | some x => simp only [shiftO, Option.some.injEq] at hy; have := this.2 x rfl; simp only [SI.ev]; omega

inductive Sg where
  | neg
  | ge
  | unk
  | bad

/-- Below nought: yes, no, not known; or it cannot be at all. -/
def signOf (r : Rng) : Sg :=
  match r with
  | (some x, some y) => match Int.leb x y with
    | false => .bad
    | true => match Int.leb 0 x with
      | true => .ge
      | false => match Int.leb y (-1) with
        | true => .neg
        | false => .unk
  | (some x, none) => match Int.leb 0 x with
    | true => .ge
    | false => .unk
  | (none, some y) => match Int.leb y (-1) with
    | true => .neg
    | false => .unk
  | (none, none) => .unk

theorem signOf_ok {r : Rng} {x : Int} (h : r.ok x) : (signOf r = .neg → x < 0) ∧ (signOf r = .ge → 0 ≤ x) ∧ signOf r ≠ .bad := by
  obtain ⟨lo, hi⟩ := r
  cases lo with
  | none => cases hi with
    | none => exact ⟨fun h => (by cases h), fun h => (by cases h), fun h => (by cases h)⟩
    | some y =>
      have h2 := h.2 y rfl
      simp only [signOf]
      split
      · rename_i e; rw [Int.leb_iff] at e
        exact ⟨fun _ => (by omega), fun h => (by cases h), fun h => (by cases h)⟩
      · exact ⟨fun h => (by cases h), fun h => (by cases h), fun h => (by cases h)⟩
  | some z => cases hi with
    | none =>
      have h1 := h.1 z rfl
      simp only [signOf]
      split
      · rename_i e; rw [Int.leb_iff] at e
        exact ⟨fun h => (by cases h), fun _ => (by omega), fun h => (by cases h)⟩
      · exact ⟨fun h => (by cases h), fun h => (by cases h), fun h => (by cases h)⟩
    | some y =>
      have h1 := h.1 z rfl
      have h2 := h.2 y rfl
      simp only [signOf]
      split
      · rename_i e; rw [Int.leb_false] at e; omega
      · split
        · rename_i e; rw [Int.leb_iff] at e
          exact ⟨fun h => (by cases h), fun _ => (by omega), fun h => (by cases h)⟩
        · split
          · rename_i e; rw [Int.leb_iff] at e
            exact ⟨fun _ => (by omega), fun h => (by cases h), fun h => (by cases h)⟩
          · exact ⟨fun h => (by cases h), fun h => (by cases h), fun h => (by cases h)⟩

/-- One more fact of a sum. -/
def addFact (fs : List Fact) (l : Lin) (lo hi : Option Int) : List Fact :=
  match flip l with
  | true => match meet (negO hi, negO lo) (oneFact (mulLin (-1) l) fs) with | (a, b) => ⟨mulLin (-1) l, a, b⟩ :: fs
  | false => match meet (lo, hi) (oneFact l fs) with | (a, b) => ⟨l, a, b⟩ :: fs

theorem addFact_ok {ρ : Nat → Int} {fs : List Fact} (h : FactsOk ρ fs) {l : Lin} {lo hi : Option Int} (hr : Rng.ok (lo, hi) (l.ev ρ)) : FactsOk ρ (addFact fs l lo hi) := by
  unfold addFact
  split
  · have h1 : Rng.ok (negO hi, negO lo) ((mulLin (-1) l).ev ρ) := by
      rw [mulLin_ev]
      constructor
      · intro y hy
        cases hi with
        | none => cases hy
        | some x => simp only [negO, Option.some.injEq] at hy; have := hr.2 x rfl; omega
      · intro y hy
        cases lo with
        | none => cases hy
        | some x => simp only [negO, Option.some.injEq] at hy; have := hr.1 x rfl; omega
    have h2 := meet_ok h1 (oneFact_ok (l := mulLin (-1) l) h)
    generalize meet (negO hi, negO lo) (oneFact (mulLin (-1) l) fs) = r at *
    intro f hf
    rcases List.mem_cons.1 hf with rfl | hf
    · exact h2
    · exact h f hf
  · have h2 := meet_ok hr (oneFact_ok (l := l) h)
    generalize meet (lo, hi) (oneFact l fs) = r at *
    intro f hf
    rcases List.mem_cons.1 hf with rfl | hf
    · exact h2
    · exact h f hf

def kindTop : IntKind → Nat
  | .i8 => 127
  | .i16 => 32767
  | .i32 => 2147483647
  | .i64 => 9223372036854775807
  | .u8 => 255
  | .u16 => 65535
  | .u32 => 4294967295
  | .u64 => 18446744073709551615

theorem wrap_in {k : IntKind} {x : Int} (h1 : k.min ≤ x) (h2 : x ≤ k.max) : k.wrap x = x := by
  cases k <;> simp [IntKind.wrap, IntKind.min, IntKind.max, IntKind.bits, IntKind.signed] at * <;> (try split) <;> omega

/-- The same, fast where nothing is to be done. -/
def wrapF (k : IntKind) (n : Int) : Int :=
  match n with
  | .ofNat a => match Nat.ble a (kindTop k) with | true => .ofNat a | false => k.wrap n
  | .negSucc a => match k.signed && Nat.ble a (kindTop k) with | true => .negSucc a | false => k.wrap n

theorem wrapF_eq (k : IntKind) (n : Int) : wrapF k n = k.wrap n := by
  unfold wrapF
  split
  · rename_i a
    split
    · rename_i h
      rw [Nat.ble_eq] at h
      refine (wrap_in ?_ ?_).symm <;> cases k <;> simp only [kindTop, Int.ofNat_eq_natCast] at * <;> simp only [IntKind.min, IntKind.max, IntKind.signed, IntKind.bits] <;> simp <;> omega
    · rfl
  · rename_i a
    split
    · rename_i h
      rw [Bool.and_eq_true, Nat.ble_eq] at h
      obtain ⟨h1, h⟩ := h
      refine (wrap_in ?_ ?_).symm <;> cases k <;> simp only [kindTop, IntKind.signed, Bool.false_eq_true] at * <;> simp only [IntKind.min, IntKind.max, IntKind.signed, IntKind.bits] <;> simp <;> omega
    · rfl
end Go.AM
