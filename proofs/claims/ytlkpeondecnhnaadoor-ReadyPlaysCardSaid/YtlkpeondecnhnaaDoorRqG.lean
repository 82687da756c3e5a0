/-
  Those that are ready: what each call gives, computed.
-/
import Derived.Test.YtlkpeondecnhnaaDoorRqF
namespace Go.AM
attribute [local simp] AH.ld AH.ldn Nat.add_assoc resA resA1 fillA buildA slSlA boundsA boundA callvP

def priQ (rows : QRows) (t : Int) : Nat := ((List.range 17).find? fun p => (rowAt rows p).contains t).getD 0

theorem priQ_is {rows : QRows} (g : GoodQ rows) (t : Int) : PriR rows t (priQ rows t) := by
  unfold priQ
  cases h : (List.range 17).find? fun p => (rowAt rows p).contains t with
  | none =>
    refine .inl ⟨rfl, fun q hq => ?_⟩
    rw [List.find?_range_eq_none] at h
    have := g.pos hq
    have h2 := h q (by omega)
    simp only [Bool.not_eq_true', List.contains_eq_mem, decide_eq_false_iff_not] at h2
    exact h2 hq
  | some p =>
    rw [List.find?_range_eq_some] at h
    refine .inr ?_
    have := h.1
    simpa using this

def addQ (rows : QRows) (t p : Int) : Int × QRows := if 1 ≤ t ∧ t ≤ 16 ∧ 1 ≤ p ∧ p ≤ 16 then if priQ rows t = 0 then (0, putR rows t p.toNat) else (-41, rows) else (-17, rows)
def remQ (rows : QRows) (t : Int) : Bool × QRows := if priQ rows t = 0 then (false, rows) else (true, delR rows t (priQ rows t))
def chgQ (rows : QRows) (t p : Int) : Bool × QRows := if (1 ≤ p ∧ p ≤ 16) ∧ priQ rows t ≠ 0 then (true, putR (delR rows t (priQ rows t)) t p.toNat) else (false, rows)
def rotQ (rows : QRows) (p : Int) : Int × QRows := if 1 ≤ p ∧ p ≤ 16 then (0, rotR rows p.toNat) else (-17, rows)
def rowQ (rows : QRows) (p : Int) : List Int := if 1 ≤ p ∧ p ≤ 16 then rowAt rows p.toNat else []

theorem priQ_none {rows : QRows} (g : GoodQ rows) {t : Int} (h : ∀ q, t ∉ rowAt rows q) : priQ rows t = 0 := (priQ_is g t).uniq g (.inl ⟨rfl, h⟩)
theorem priQ_some {rows : QRows} (g : GoodQ rows) {t : Int} {q : Nat} (h : t ∈ rowAt rows q) : priQ rows t = q := (priQ_is g t).uniq g (.inr h)

section
variable (b : Nat) (rows : QRows)

theorem AddQ (t p : Int) : Tri tab noExt F.ready_Queue_Add [ptr b, i64 t, i64 p] [QA b rows] fun v P' => v = i64 (addQ rows t p).1 ∧ P' = [QA b (addQ rows t p).2] := by
  refine Tri.intro fun ρ H Rs K hs hk => ?_
  obtain ⟨_, _, _, g, _, _⟩ := Sat.qOpen hs
  refine (Add_tri b rows t p).use hs ?_
  unfold addQ at hk
  rintro v H' P' (⟨h1, rfl, rfl⟩ | ⟨h1, ⟨q, h2⟩, rfl, rfl⟩ | ⟨h1, h2, rfl, rfl⟩) hs'
  · rw [if_neg h1] at hk
    exact hk _ _ _ ⟨rfl, rfl⟩ hs'
  · have := g.pos h2
    rw [if_pos h1, if_neg (by rw [priQ_some g h2]; omega)] at hk
    exact hk _ _ _ ⟨rfl, rfl⟩ hs'
  · rw [if_pos h1, if_pos (priQ_none g h2)] at hk
    exact hk _ _ _ ⟨rfl, rfl⟩ hs'

theorem RemQ (t : Int) : Tri tab noExt F.ready_Queue_Remove [ptr b, i64 t] [QA b rows] fun v P' => v = bl (remQ rows t).1 ∧ P' = [QA b (remQ rows t).2] := by
  refine Tri.intro fun ρ H Rs K hs hk => ?_
  obtain ⟨_, _, _, g, _, _⟩ := Sat.qOpen hs
  refine (RemoveQ_tri b rows t).use hs ?_
  unfold remQ at hk
  rintro v H' P' (⟨h1, rfl, rfl⟩ | ⟨q, h2, rfl, rfl⟩) hs'
  · rw [if_pos (priQ_none g h1)] at hk
    exact hk _ _ _ ⟨rfl, rfl⟩ hs'
  · have := g.pos h2
    rw [priQ_some g h2, if_neg (by omega)] at hk
    exact hk _ _ _ ⟨rfl, rfl⟩ hs'

theorem ChgQ (t p : Int) : Tri tab noExt F.ready_Queue_Change [ptr b, i64 t, i64 p] [QA b rows] fun v P' => v = bl (chgQ rows t p).1 ∧ P' = [QA b (chgQ rows t p).2] := by
  refine Tri.intro fun ρ H Rs K hs hk => ?_
  obtain ⟨_, _, _, g, _, _⟩ := Sat.qOpen hs
  refine (ChangeQ_tri b rows t p).use hs ?_
  unfold chgQ at hk
  rintro v H' P' (⟨h1, rfl, rfl⟩ | ⟨h1, q, h2, rfl, rfl⟩) hs'
  · rw [if_neg fun h => h1.elim (fun h1 => h1 h.1) fun h1 => h.2 (priQ_none g h1)] at hk
    exact hk _ _ _ ⟨rfl, rfl⟩ hs'
  · have := g.pos h2
    rw [priQ_some g h2, if_pos ⟨h1, by omega⟩] at hk
    exact hk _ _ _ ⟨rfl, rfl⟩ hs'

theorem RotQ (p : Int) : Tri tab noExt F.ready_Queue_Rotate [ptr b, i64 p] [QA b rows] fun v P' => v = i64 (rotQ rows p).1 ∧ P' = [QA b (rotQ rows p).2] := by
  refine Tri.intro fun ρ H Rs K hs hk => ?_
  refine (RotateQ_tri b rows p).use hs ?_
  unfold rotQ at hk
  rintro v H' P' (⟨h1, rfl, rfl⟩ | ⟨h1, rfl, rfl⟩) hs'
  · rw [if_neg h1] at hk
    exact hk _ _ _ ⟨rfl, rfl⟩ hs'
  · rw [if_pos h1] at hk
    exact hk _ _ _ ⟨rfl, rfl⟩ hs'

theorem PriQ (t : Int) : Tri tab noExt F.ready_Queue_Pri [ptr b, i64 t] [QA b rows] fun v P' => v = .tup [.s (.int .i64 (priQ rows t : Int)), .s (.bool (decide (priQ rows t ≠ 0)))] ∧ P' = [QA b rows] := by
  refine Tri.intro fun ρ H Rs K hs hk => ?_
  obtain ⟨_, _, _, g, _, _⟩ := Sat.qOpen hs
  refine (Pri_tri b rows t).use hs ?_
  rintro v H' P' ⟨p, h1, h2, rfl, rfl⟩ hs'
  have e : priQ rows t = p := by
    by_cases ht : 1 ≤ t ∧ t ≤ 16
    · exact (priQ_is g t).uniq g (h1 ht)
    · rw [h2 ht]
      exact priQ_none g fun q hq => ht (g.lim q t hq)
  rw [e] at hk
  exact hk _ _ _ ⟨rfl, rfl⟩ hs'
end

def kR1 : QRows := (addQ noRows 1 5).2
def kR2 : QRows := (addQ kR1 2 3).2
def kR3 : QRows := (addQ kR2 3 3).2
def kR4 : QRows := (rotQ kR3 3).2

theorem known9_tri : Tri tab noExt F.detentlaw9_known [] [TzA] fun v P' => v = bl true ∧ P' = [TzA] := by
  refine Tri.intro fun ρ H Rs K hs hk => ?_
  apply detentlaw9_known_call
  refine NewQ_tri.use ((hs.bump 1).bump 2) ?_
  rintro v H1 P' ⟨b, rfl, rfl⟩ hs1
  simp
  refine (AddQ b noRows 1 5).use (R := TzA :: Rs) ((Sat.bump hs1 2).bump 2) ?_
  rintro v H2 P' ⟨rfl, rfl⟩ hs2
  refine (AddQ b kR1 2 3).use (R := TzA :: Rs) (Sat.bump hs2 2) ?_
  rintro v H3 P' ⟨rfl, rfl⟩ hs3
  refine (AddQ b kR2 3 3).use (R := TzA :: Rs) (Sat.bump hs3 3) ?_
  rintro v H4 P' ⟨rfl, rfl⟩ hs4
  refine (AddQ b kR3 3 3).use (R := TzA :: Rs) (Sat.bump hs4 3) ?_
  rintro v H5 P' ⟨rfl, rfl⟩ hs5
  rw [show (addQ kR3 3 3).2 = kR3 by decide +kernel] at hs5
  refine (FirstQ_tri b kR3).use (R := TzA :: Rs) (Sat.bump hs5 7) ?_
  rintro v H6 P' ⟨rfl, rfl⟩ hs6
  rw [show kR3.flatten.head? = some 2 by decide +kernel]
  simp [firstV]
  refine (RotQ b kR3 3).use (R := TzA :: Rs) (Sat.bump hs6 3) ?_
  rintro v H7 P' ⟨rfl, rfl⟩ hs7
  refine (FirstQ_tri b kR4).use (R := TzA :: Rs) (Sat.bump hs7 7) ?_
  rintro v H8 P' ⟨rfl, rfl⟩ hs8
  rw [show kR4.flatten.head? = some 3 by decide +kernel]
  simp [firstV]
  refine (PriQ b kR4 1).use (R := TzA :: Rs) (Sat.bump hs8 7) ?_
  rintro v H9 P' ⟨rfl, rfl⟩ hs9
  rw [show priQ kR4 1 = 5 by decide +kernel, show (addQ kR2 3 3).1 = 0 by decide +kernel, show (rotQ kR3 3).1 = 0 by decide +kernel, show (addQ kR3 3 3).1 = -41 by decide +kernel]
  have w0 : IntKind.i64.wrap 0 = 0 := by decide
  simp [w0]
  refine (RowQ_tri b kR4 3).use (R := TzA :: Rs) (Sat.bump hs9 42) ?_
  rintro v H10 P' ⟨s, rfl, rfl⟩ hs10
  have l1 := Sat.rowLen hs10
  rw [if_pos (by omega), show (rowAt kR4 (3 : Int).toNat).length = 2 by decide +kernel] at l1
  simp [l1]
  refine (AllQ_tri b kR4).use (R := TzA :: Rs) (Sat.drop hs10) ?_
  rintro v H11 P' ⟨s2, rfl, rfl⟩ hs11
  have l2 := Sat.rowLen hs11
  rw [show kR4.flatten.length = 3 by decide +kernel] at l2
  simp [l2]
  exact hk _ _ _ ⟨rfl, rfl⟩ (Sat.drop (Sat.drop hs11))
end Go.AM
