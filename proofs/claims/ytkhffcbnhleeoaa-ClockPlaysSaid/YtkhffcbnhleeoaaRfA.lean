/-
  The document's timers: what their methods give, raw.
-/
import Derived.Test.YtkhffcbnhleeoaaWp
import Derived.Test.YtkhffcbnhleeoaaAmU
import Derived.Test.YtkhffcbnhleeoaaPlB
namespace Go.AM
attribute [local simp] AH.ld AH.ldn AH.stn AH.new Nat.add_assoc resA resA1 fillA buildA slSlA boundsA boundA callvP

def encR (e : Ent) : List SV := [.int .i64 e.handle, .int .u64 e.at_, .int .i64 e.arg]
theorem encR_len (e : Ent) : (encR e).length = 3 := rfl

theorem andThen_of' {α : Type} {o : Option α} {a : α} {K : α → Prop} (h : o = some a) (hk : K a) : andThen o K := ⟨a, h, hk⟩

/-- The document's timers: their entries as they lie. -/
def RfR (m : Nat) (r : List Ent) (last : Int) : Asr := .ex fun s => .all [Cel m [s, .int .i64 last], Row encR 3 s r]

section
variable {ρ : HF} {H : AH} {Rs : List Asr} {m : Nat} {r : List Ent} {last : Int}
theorem Sat.rfOpen (h : Sat ρ H (RfR m r last :: Rs)) : ∃ s, Sat ρ H (Cel m [s, .int .i64 last] :: Row encR 3 s r :: Rs) := by
  obtain ⟨s, h⟩ := h.ex
  exact ⟨s, h.all⟩
theorem Sat.rfClose {s : SV} (h : Sat ρ H (Cel m [s, .int .i64 last] :: Row encR 3 s r :: Rs)) : Sat ρ H (RfR m r last :: Rs) :=
  Sat.mkEx s (Sat.mkAll h)
end

def oidx' : Option Nat → Int
  | none => -1
  | some i => i

theorem get_ex {α : Type} {r : List α} {i : Nat} (h : i < r.length) : ∃ e, r[i]? = some e := ⟨_, List.getElem?_eq_getElem h⟩

theorem fidx_of {r : List Ent} {h : Int} {i : Nat} {e : Ent} (he : r[i]? = some e) (hh : e.handle = h) (hno : ∀ k x, k < i → r[k]? = some x → x.handle ≠ h) : fidx r h = some i := by
  obtain ⟨hlt, rfl⟩ := List.getElem?_eq_some_iff.1 he
  unfold fidx
  rw [List.findIdx?_eq_some_iff_getElem]
  exact ⟨hlt, by simpa using hh, fun k hk => by simpa using hno k _ hk (List.getElem?_eq_getElem (by omega))⟩

theorem fidx_no {r : List Ent} {h : Int} (hno : ∀ k x, k < r.length → r[k]? = some x → x.handle ≠ h) : fidx r h = none := by
  rw [fidx_none]
  intro e he
  obtain ⟨k, hk, rfl⟩ := List.getElem_of_mem he
  exact hno k _ hk (List.getElem?_eq_getElem hk)

theorem RfFind_tri (m : Nat) (r : List Ent) (last h : Int) (hl : r.length ≤ 256) : Tri tab noExt F.detentref7_Timers_Find [ptr m, i64 h] [RfR m r last] fun v P' => v = i64 (oidx' (fidx r h)) ∧ P' = [RfR m r last] := by
  intro ρ H Rs hs
  apply detentref7_Timers_Find_call
  obtain ⟨s, hs⟩ := Sat.rfOpen hs
  refine loopP_invK (I := fun n T H => T.length = 26 ∧ sl T 0 = ptr m ∧ sl T 1 = i64 h ∧ ∃ i : Nat, sl T 5 = i64 i ∧ i ≤ r.length ∧ n = r.length - i ∧ (∀ (k : Nat) (x : Ent), k < i → r[k]? = some x → x.handle ≠ h) ∧ Sat ρ H (Cel m [s, .int .i64 last] :: Row encR 3 s r :: Rs)) ?_ r.length _ _ ⟨rfl, rfl, rfl, 0, rfl, Nat.zero_le _, rfl, by omega, (hs.bump _).bump _⟩
  intro n T H ⟨hT, s0, s1, i, s5, hi, hn, hno, hs⟩ K kn kr ko
  rw [detentref7_Timers_Find_l0_at hT]
  have hb := hs.cel
  have hlen := hs.swap.rowLen
  by_cases hlt : i < r.length
  · have hlt' : (i : Int) < (r.length : Int) := by omega
    obtain ⟨b, c, j, rfl, hb2, _, _⟩ := hs.swap.rowBlk (by omega)
    obtain ⟨e, he⟩ := get_ex hlt
    have hc := flat_cell encR_len (j := j) he 0 (by omega)
    simp [encR] at hc
    have w1 : IntKind.i64.wrap ((i : Int) + 1) = (i : Int) + 1 := wrap_i64 (by omega) (by omega)
    by_cases hh : e.handle = h
    · simp [s0, s1, s5, hb, hb2, hlt, hlt', hc, hh]
      refine kr _ _ ?_
      simp [fidx_of he hh hno, oidx']
      exact Sat.rfClose (by (repeat refine Sat.bump ?_ _); exact hs)
    · simp [s0, s1, s5, hb, hb2, hlt, hlt', hc, w1, hh]
      refine kn (r.length - (i + 1)) _ _ (by omega) ⟨rfl, rfl, rfl, i + 1, rfl, hlt, rfl, fun k x hk hx => ?_, by (repeat refine Sat.bump ?_ _); exact hs⟩
      by_cases hki : k = i
      · subst hki
        rw [he] at hx; cases hx; exact hh
      · exact hno k x (by omega) hx
  · have hlt' : ¬ (i : Int) < (r.length : Int) := by omega
    have hie : i = r.length := by omega
    subst hie
    simp [s0, s1, s5, hb, hlen]
    refine ko _ _ _ ?_
    simp only [blockK_out, if_true, seqK_norm]
    rw [detentref7_Timers_Find_s1_at rfl]
    simp [fidx_no hno, oidx']
    exact Sat.rfClose (by (repeat refine Sat.bump ?_ _); exact hs)

/-- The least of a row: the first of the least times. -/
def IsLeast (r : List Ent) (k : Nat) (e : Ent) : Prop := r[k]? = some e ∧ (∀ (i : Nat) (x : Ent), r[i]? = some x → e.at_ ≤ x.at_) ∧ ∀ (i : Nat) (x : Ent), i < k → r[i]? = some x → e.at_ < x.at_

theorem RfLeast_tri (m : Nat) (r : List Ent) (last : Int) (hl : r.length ≤ 256) : Tri tab noExt F.detentref7_Timers_least [ptr m] [RfR m r last] fun v P' => P' = [RfR m r last] ∧ ((r = [] ∧ v = i64 (-1)) ∨ ∃ k e, v = i64 (k : Nat) ∧ IsLeast r k e) := by
  intro ρ H Rs hs
  apply detentref7_Timers_least_call
  obtain ⟨s, hs⟩ := Sat.rfOpen hs
  refine loopP_invK (I := fun n T H => T.length = 37 ∧ sl T 0 = ptr m ∧ ∃ i : Nat, sl T 4 = i64 i ∧ i ≤ r.length ∧ n = r.length - i ∧ ((i = 0 ∧ sl T 3 = i64 (-1)) ∨ ∃ k e, sl T 3 = i64 (k : Nat) ∧ k < i ∧ r[k]? = some e ∧ (∀ (j : Nat) (x : Ent), j < i → r[j]? = some x → e.at_ ≤ x.at_) ∧ ∀ (j : Nat) (x : Ent), j < k → r[j]? = some x → e.at_ < x.at_) ∧ Sat ρ H (Cel m [s, .int .i64 last] :: Row encR 3 s r :: Rs)) ?_ r.length _ _ ⟨rfl, rfl, 0, rfl, Nat.zero_le _, rfl, .inl ⟨rfl, rfl⟩, ((hs.bump _).bump _).bump _⟩
  intro n T H ⟨hT, s0, i, s4, hi, hn, hk, hs⟩ K kn kr ko
  rw [detentref7_Timers_least_l0_at hT]
  have hb := hs.cel
  have hlen := hs.swap.rowLen
  by_cases hlt : i < r.length
  · have hlt' : (i : Int) < (r.length : Int) := by omega
    obtain ⟨b, c, j, rfl, hb2, _, _⟩ := hs.swap.rowBlk (by omega)
    obtain ⟨e, he⟩ := get_ex hlt
    have hc := flat_cell encR_len (j := j) he 1 (by omega)
    simp [encR] at hc
    have w1 : IntKind.i64.wrap ((i : Int) + 1) = (i : Int) + 1 := wrap_i64 (by omega) (by omega)
    have hm1 : r.length - (i + 1) < n := by omega
    rcases hk with ⟨rfl, s3⟩ | ⟨k, ek, s3, hki, hek, q1, q2⟩
    · simp at hc w1
      have hne : ¬ r = [] := fun h => by rw [h] at hlt; simp at hlt
      simp [s0, s3, s4, hb, hne, hlt, w1]
      refine kn (r.length - (0 + 1)) _ _ hm1 ⟨rfl, rfl, 1, rfl, hlt, rfl, .inr ⟨0, e, rfl, by omega, he, fun j x hj hx => ?_, by omega⟩, by (repeat refine Sat.bump ?_ _); exact hs⟩
      rw [show j = 0 by omega, he] at hx; cases hx; exact Int.le_refl _
    · have hkl : k < r.length := by omega
      have hkl' : (k : Int) < (r.length : Int) := by omega
      have hck := flat_cell encR_len (j := j) hek 1 (by omega)
      simp [encR] at hck
      have n0 : ¬ (k : Int) < 0 := by omega
      by_cases hlt2 : e.at_ < ek.at_
      · simp [s0, s3, s4, hb, hb2, hlt, hlt', hkl, hkl', hc, hck, n0, w1, hlt2]
        refine kn (r.length - (i + 1)) _ _ hm1 ⟨rfl, rfl, i + 1, rfl, hlt, rfl, .inr ⟨i, e, rfl, by omega, he, fun j x hj hx => ?_, fun j x hj hx => ?_⟩, by (repeat refine Sat.bump ?_ _); exact hs⟩
        · by_cases hji : j = i
          · subst hji; rw [he] at hx; cases hx; exact Int.le_refl _
          · have := q1 j x (by omega) hx; omega
        · have := q1 j x hj hx; omega
      · simp [s0, s3, s4, hb, hb2, hlt, hlt', hkl, hkl', hc, hck, n0, w1, hlt2]
        refine kn (r.length - (i + 1)) _ _ hm1 ⟨rfl, rfl, i + 1, rfl, hlt, rfl, .inr ⟨k, ek, rfl, by omega, hek, fun j x hj hx => ?_, q2⟩, by (repeat refine Sat.bump ?_ _); exact hs⟩
        by_cases hji : j = i
        · subst hji; rw [he] at hx; cases hx; omega
        · exact q1 j x (by omega) hx
  · have fin : ∀ (T : List AV) (H : AH) (v : AV), T.length = 37 → sl T 3 = v → Sat ρ H (Cel m [s, .int .i64 last] :: Row encR 3 s r :: Rs) → ((r = [] ∧ v = i64 (-1)) ∨ ∃ k e, v = i64 (k : Nat) ∧ IsLeast r k e) → wpC tab noExt R.detentref7_Timers_least_s1 T H (retK [.tmp 2] fun v H' => ∃ P', (P' = [RfR m r last] ∧ ((r = [] ∧ v = i64 (-1)) ∨ ∃ k e, v = i64 (k : Nat) ∧ IsLeast r k e)) ∧ Sat ρ H' (P' ++ Rs)) := by
      intro T H v hT t3 hs hv
      rw [detentref7_Timers_least_s1_at hT]
      refine ⟨_, rfl, ?_⟩
      exact ⟨_, ⟨rfl, by subst t3; exact hv⟩, Sat.rfClose (hs.bump _)⟩
    have hie : i = r.length := by omega
    subst hie
    have inr : ∀ j x, r[j]? = some x → j < r.length := fun j x h => (List.getElem?_eq_some_iff.1 h).1
    rcases hk with ⟨h0, s3⟩ | ⟨k, e, s3, hki, hek, q1, q2⟩
    · simp [s0, s4, hb, hlen]
      refine ko _ _ _ ?_
      exact fin _ _ _ rfl s3 (hs.bump _) (.inl ⟨List.length_eq_zero_iff.1 h0, rfl⟩)
    · simp [s0, s4, hb, hlen]
      refine ko _ _ _ ?_
      exact fin _ _ _ rfl s3 (hs.bump _) (.inr ⟨k, e, rfl, hek, fun i x hx => q1 i x (inr i x hx) hx, q2⟩)

theorem RfInsert_tri (m : Nat) (r : List Ent) (last a x : Int) (hl : r.length < 256) (hlast : 0 ≤ last ∧ last < 4611686018427387904) :
    Tri tab noExt F.detentref7_Timers_Insert [ptr m, u64 a, i64 x] [RfR m r last] fun v P' => v = .tup [.s (.int .i64 (last + 1)), .s (.int .i64 0)] ∧ P' = [RfR m (r ++ [⟨a, last + 1, x⟩]) (last + 1)] := by
  intro ρ H Rs hs
  apply detentref7_Timers_Insert_call
  obtain ⟨s, hs⟩ := Sat.rfOpen hs
  have hb := hs.cel
  have hlen := hs.swap.rowLen
  have hl' : ¬ (256 : Int) ≤ (r.length : Int) := by omega
  have w1 : IntKind.i64.wrap (last + 1) = last + 1 := wrap_i64 (by omega) (by omega)
  simp [hb, hlen, hl', w1, -AH.new]
  have hs1 := Sat.set (((hs.bump 2).bump 6).bump 8) [s, .int .i64 (last + 1)]
  have hs2 := hs1.frees 19 [1, 6, 14, 15] (by decide) (by decide)
  simp only [List.map_cons, List.map_nil, List.cons_append, List.nil_append, set_next, bump_next, Nat.add_assoc, Nat.reduceAdd] at hs2
  generalize ((((H.bump 2).bump 6).bump 8).set m (Blk.cells false [s, SV.int IntKind.i64 (last + 1)])).bump 19 = H1 at *
  refine Sat.copy encR_len hs2 (r2 := r) (fun H' h => ?_) ?_ (by omega) ?_
  · exact (h.front 4 (by simp)).rowSrc encR_len
  · exact (hs2.front 5 (by simp)).rowSl
  intro s' H2 _ hs3
  have hb3 := (hs3.front 3 (by simp)).cel
  have hs4 : Sat ρ H2 (Fre (H.next + 30) :: Row encR 3 s' r :: Fre (H.next + 31) :: Cel m [s, .int .i64 (last + 1)] :: Row encR 3 s r :: Rs) := hs3.swap
  simp [hb3, -AH.new]
  refine ⟨_, new_of H2 hs4.fre, ?_⟩
  have hs5 := Sat.mk hs4 (encR ⟨a, last + 1, x⟩)
  have hs6 : Sat ρ _ (Row encR 3 s' r :: Fre (H.next + 31) :: Cel (H.next + 30) (encR ⟨a, last + 1, x⟩) :: Cel m [s, .int .i64 (last + 1)] :: Row encR 3 s r :: Rs) := (hs5.swap.front 2 (by simp)).swap
  obtain ⟨s2, H3, e3, hs7, _⟩ := hs6.append1 encR_len (bytes := 24) (c := 1) (e := ⟨a, last + 1, x⟩) (o := 0) rfl (by simp [encR]) (by omega)
  refine andThen_of' e3 ?_
  have hs8 : Sat ρ H3 (Cel m [s, .int .i64 (last + 1)] :: Row encR 3 s2 (r ++ [⟨a, last + 1, x⟩]) :: Cel (H.next + 30) _ :: Row encR 3 s r :: Rs) := hs7.front 2 (by simp)
  have hb8 := hs8.cel
  simp [hb8]
  refine Sat.rfClose (s := s2) ?_
  have hs9 := Sat.set hs8 [s2, .int .i64 (last + 1)]
  have hs10 : Sat ρ _ (Row encR 3 s r :: Cel m [s2, .int .i64 (last + 1)] :: Row encR 3 s2 (r ++ [⟨a, last + 1, x⟩]) :: Cel (H.next + 30) _ :: Rs) := hs9.front 3 (by simp)
  exact ((hs10.drop.front 2 (by simp)).drop).bump 6

theorem RfInsert_no_tri (m : Nat) (r : List Ent) (last a x : Int) (hl : 256 ≤ r.length) :
    Tri tab noExt F.detentref7_Timers_Insert [ptr m, u64 a, i64 x] [RfR m r last] fun v P' => v = .tup [.s (.int .i64 0), .s (.int .i64 (-33))] ∧ P' = [RfR m r last] := by
  intro ρ H Rs hs
  apply detentref7_Timers_Insert_call
  obtain ⟨s, hs⟩ := Sat.rfOpen hs
  have hb := hs.cel
  have hlen := hs.swap.rowLen
  have hl' : (256 : Int) ≤ (r.length : Int) := by omega
  simp [hb, hlen, hl']
  exact Sat.rfClose (by (repeat refine Sat.bump ?_ _); exact hs)

theorem RfCancel_tri (m : Nat) (r : List Ent) (last h : Int) (hl : r.length ≤ 256) : Tri tab noExt F.detentref7_Timers_Cancel [ptr m, i64 h] [RfR m r last] fun v P' => v = bl (fidx r h).isSome ∧ P' = [RfR m (match fidx r h with | none => r | some i => r.eraseIdx i) last] := by
  intro ρ H Rs hs
  apply detentref7_Timers_Cancel_call
  refine (RfFind_tri m r last h hl).use ((hs.bump _).bump _) ?_
  rintro v H1 P' ⟨rfl, rfl⟩ hs
  cases hf : fidx r h with
  | none =>
    simp [oidx']
    exact (by (repeat refine Sat.bump ?_ _); exact hs)
  | some i =>
    obtain ⟨hi, _⟩ := fidx_some hf
    have n0 : ¬ (i : Int) < 0 := by omega
    obtain ⟨s, hs⟩ := Sat.rfOpen hs
    obtain ⟨b, c, j, rfl, hb2, _, hrc⟩ := hs.swap.rowBlk (by omega)
    have hb := hs.cel
    simp [oidx', n0, hb, -AH.new]
    have hs2 := (hs.bump 2).frees 9 [0, 7] (by decide) (by decide)
    simp only [List.map_cons, List.map_nil, List.cons_append, List.nil_append, set_next, bump_next, Nat.add_assoc, Nat.reduceAdd] at hs2
    refine ⟨_, new_of _ hs2.fre, ?_⟩
    have hs3 := Sat.mk hs2 []
    generalize ((H1.bump 2).bump 9).set (H1.next + 2) (Blk.cells false []) = H5 at *
    have hb3 := (hs3.front 2 (by simp)).cel
    have hic : i ≤ c := by omega
    simp [hb3, hic]
    have hs4 : Sat ρ _ (Row encR 3 (.slice (some (H1.next + 2, 0)) 0 0 3) [] :: Fre (H1.next + 9) :: Cel m [.slice (some (b, 0)) r.length c 3, .int .i64 last] :: Row encR 3 (.slice (some (b, 0)) r.length c 3) r :: Rs) := Sat.mkRow (r := []) (j := []) (c := 0) hs3 (by simp) (by simp)
    have hx1 := (hs4.front 3 (by simp)).partSrc encR_len (o := 0) (l := 0) (n := i) (c' := c) rfl (by omega)
    have ht : (r.take i).length = i := by rw [List.length_take]; omega
    obtain ⟨s1, H2, e2, hs5, _⟩ := hs4.append encR_len (n := 0) (bytes := 24) (x := .s (.slice (some (b, 0)) i c 3)) (r2 := r.take i) (by rw [ht]; simpa using hx1) (by rw [ht]; rfl) (by rw [ht]; simp; omega)
    refine andThen_of' e2 ?_
    have hb5 := (hs5.front 1 (by simp)).cel
    have w1 : IntKind.i64.wrap ((i : Int) + 1) = (i : Int) + 1 := wrap_i64 (by omega) (by omega)
    have g1 : (0 : Int) ≤ (i : Int) + 1 := by omega
    have g2 : (i : Int) + 1 ≤ (r.length : Int) := by omega
    have g3 : ((i : Int) + 1).toNat = i + 1 := by omega
    simp [hb5, w1, g1, g2, g3]
    have hs6 := hs5.frees 13 [9] (by decide) (by decide)
    have hs6 : Sat ρ (H2.bump 13) (Row encR 3 s1 ([] ++ r.take i) :: Fre (H2.next + 9) :: Cel m [.slice (some (b, 0)) r.length c 3, .int .i64 last] :: Row encR 3 (.slice (some (b, 0)) r.length c 3) r :: Rs) := hs6.swap
    have hx2 := (hs6.front 3 (by simp)).partSrc encR_len (o := (i + 1) * 3) (l := i + 1) (n := r.length - (i + 1)) (c' := c - (i + 1)) rfl (by omega)
    have hd : (r.drop (i + 1)).length = r.length - (i + 1) := by rw [List.length_drop]
    have hd2 : (r.drop (i + 1)).take (r.length - (i + 1)) = r.drop (i + 1) := List.take_of_length_le (by omega)
    rw [hd2] at hx2
    obtain ⟨s2, H3, e3, hs7, _⟩ := hs6.append encR_len (n := 0) (bytes := 24) (x := .s (.slice (some (b, (i + 1) * 3)) (r.length - (i + 1)) (c - (i + 1)) 3)) (r2 := r.drop (i + 1)) (by rw [hd]; exact hx2) (by rw [hd]; rfl) (by rw [hd]; simp; omega)
    refine andThen_of' e3 ?_
    have hs8 : Sat ρ H3 (Cel m [.slice (some (b, 0)) r.length c 3, .int .i64 last] :: Row encR 3 s2 ([] ++ r.take i ++ r.drop (i + 1)) :: Row encR 3 (.slice (some (b, 0)) r.length c 3) r :: Rs) := hs7.swap
    have hb8 := hs8.cel
    simp [hb8]
    refine Sat.rfClose (s := s2) ?_
    have hs9 := Sat.set hs8 [s2, .int .i64 last]
    have hs10 : Sat ρ _ (Cel m [s2, .int .i64 last] :: Row encR 3 s2 ([] ++ r.take i ++ r.drop (i + 1)) :: Rs) := ((hs9.front 2 (by simp)).drop)
    rw [List.eraseIdx_eq_take_drop_succ]
    simpa using hs10.bump 1

end Go.AM
