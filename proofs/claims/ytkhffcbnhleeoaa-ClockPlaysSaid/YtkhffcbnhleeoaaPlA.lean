/-
  A heap of entries, in plain lists: no program in sight.
-/
namespace Go.AM

structure Ent where
  at_ : Int
  handle : Int
  arg : Int
  deriving DecidableEq, Inhabited

def aheadB (a b : Ent) : Bool := decide (a.at_ < b.at_) || (decide (a.at_ = b.at_) && decide (a.handle < b.handle))

def swapE (r : List Ent) (i k : Nat) : List Ent := (r.set i (r.getD k default)).set k (r.getD i default)

theorem swapE_len (r : List Ent) (i k : Nat) : (swapE r i k).length = r.length := by simp [swapE]

/-- An entry goes up. -/
def upF (r : List Ent) (i : Nat) : List Ent :=
  if h : 0 < i ∧ aheadB (r.getD i default) (r.getD ((i - 1) / 2) default) = true then upF (swapE r i ((i - 1) / 2)) ((i - 1) / 2) else r
termination_by i
decreasing_by omega

theorem upF_len (r : List Ent) (i : Nat) : (upF r i).length = r.length := by
  induction i using Nat.strongRecOn generalizing r with
  | _ i ih =>
    rw [upF]
    split
    · rw [ih _ (by omega), swapE_len]
    · rfl

theorem getD_get {r : List Ent} {i : Nat} (h : i < r.length) : r.getD i default = r[i] := by simp [List.getD_eq_getElem?_getD, h]

/-- The lesser kid's place. -/
def kid (r : List Ent) (i : Nat) : Nat := if 2 * i + 2 < r.length ∧ aheadB (r.getD (2 * i + 2) default) (r.getD (2 * i + 1) default) = true then 2 * i + 2 else 2 * i + 1

theorem kid_gt (r : List Ent) (i : Nat) : i < kid r i := by unfold kid; split <;> omega

/-- An entry goes down. -/
def downF (r : List Ent) (i : Nat) : List Ent :=
  if _h : kid r i < r.length ∧ aheadB (r.getD (kid r i) default) (r.getD i default) = true then downF (swapE r i (kid r i)) (kid r i) else r
termination_by r.length - i
decreasing_by rw [swapE_len]; have := kid_gt r i; omega

theorem downF_len (r : List Ent) (i : Nat) : (downF r i).length = r.length := by
  generalize hm : r.length - i = m
  induction m using Nat.strongRecOn generalizing r i with
  | _ m ih =>
    rw [downF]
    split
    · have := kid_gt r i
      rw [ih ((swapE r i (kid r i)).length - kid r i) (by rw [swapE_len]; omega) _ _ rfl, swapE_len]
    · rfl


/- ---- the order ---- -/

theorem ahead_iff {a b : Ent} : aheadB a b = true ↔ a.at_ < b.at_ ∨ a.at_ = b.at_ ∧ a.handle < b.handle := by simp [aheadB]

/-- Not behind. -/
def leE (a b : Ent) : Prop := aheadB b a = false

theorem le_iff {a b : Ent} : leE a b ↔ ¬ (b.at_ < a.at_ ∨ b.at_ = a.at_ ∧ b.handle < a.handle) := by
  rw [← ahead_iff]; simp [leE]
theorem lt_le {a b : Ent} (h : aheadB a b = true) : leE a b := by rw [ahead_iff] at h; rw [le_iff]; omega
theorem le_rfl' (a : Ent) : leE a a := by rw [le_iff]; omega
theorem le_trans' {a b c : Ent} (h : leE a b) (h' : leE b c) : leE a c := by rw [le_iff] at *; omega
theorem not_lt_le {a b : Ent} (h : ¬ aheadB a b = true) : leE b a := by simpa [leE] using h

abbrev gE (r : List Ent) (k : Nat) : Ent := r.getD k default

theorem getD_set' (r : List Ent) (i : Nat) (x : Ent) (m : Nat) (hi : i < r.length) : (r.set i x).getD m default = if m = i then x else r.getD m default := by
  simp only [List.getD_eq_getElem?_getD, List.getElem?_set]
  by_cases h : i = m
  · subst h; simp [hi]
  · rw [if_neg h, if_neg (fun h' => h h'.symm)]

theorem swapE_getD (r : List Ent) (i k m : Nat) (hi : i < r.length) (hk : k < r.length) : gE (swapE r i k) m = if m = k then gE r i else if m = i then gE r k else gE r m := by
  unfold gE swapE
  rw [getD_set' _ _ _ _ (by simpa using hk)]
  split
  · rfl
  · rw [getD_set' _ _ _ _ hi]

theorem swapE_perm (r : List Ent) (i k : Nat) (hi : i < r.length) (hk : k < r.length) : (swapE r i k).Perm r := by
  rw [List.perm_iff_count]
  intro a
  unfold swapE
  rw [List.count_set (by simpa using hk), List.count_set hi]
  have e1 : r.getD i default = r[i] := getD_get hi
  have e2 : r.getD k default = r[k] := getD_get hk
  have c1 : (if r[i] == a then 1 else 0) ≤ r.count a := by
    split
    · rename_i h; rw [beq_iff_eq] at h; subst h; exact List.count_pos_iff.2 (List.getElem_mem hi)
    · omega
  have e3 : (r.set i (r.getD k default))[k]'(by simpa using hk) = r[k] := by
    rw [List.getElem_set]; split
    · exact e2
    · rfl
  rw [e3, e1, e2]
  have : r.count a - (if r[i] == a then 1 else 0) + (if r[k] == a then 1 else 0) - (if r[k] == a then 1 else 0) + (if r[i] == a then 1 else 0) = r.count a := by omega
  simpa using this

theorem upF_perm (r : List Ent) (i : Nat) (hi : i < r.length ∨ i = 0) : (upF r i).Perm r := by
  induction i using Nat.strongRecOn generalizing r with
  | _ i ih =>
    rw [upF]
    split
    · rename_i h
      refine (ih _ (by omega) _ (.inl (by rw [swapE_len]; omega))).trans (swapE_perm _ _ _ (by omega) (by omega))
    · exact List.Perm.refl _

theorem downF_perm (r : List Ent) (i : Nat) (hi : i < r.length) : (downF r i).Perm r := by
  generalize hm : r.length - i = m
  induction m using Nat.strongRecOn generalizing r i with
  | _ m ih =>
    rw [downF]
    split
    · rename_i h
      have := kid_gt r i
      refine (ih ((swapE r i (kid r i)).length - kid r i) (by rw [swapE_len]; omega) _ _ (by rw [swapE_len]; exact h.1) rfl).trans (swapE_perm _ _ _ hi h.1)
    · exact List.Perm.refl _

/-- No entry is ahead of the one above it. -/
def Hp (r : List Ent) : Prop := ∀ k, 0 < k → k < r.length → leE (gE r ((k - 1) / 2)) (gE r k)

theorem upF_hp (r : List Ent) (i : Nat) (hi : i < r.length) (hA : ∀ k, 0 < k → k < r.length → k ≠ i → leE (gE r ((k - 1) / 2)) (gE r k))
    (hB : ∀ k, 0 < k → k < r.length → (k - 1) / 2 = i → 0 < i → leE (gE r ((i - 1) / 2)) (gE r k)) : Hp (upF r i) := by
  induction i using Nat.strongRecOn generalizing r with
  | _ i ih =>
    rw [upF]
    split
    · rename_i h
      obtain ⟨h0, hlt⟩ := h
      generalize hp : (i - 1) / 2 = p at *
      have hpi : p < i := by omega
      have hpl : p < r.length := by omega
      refine ih _ hpi _ (by rw [swapE_len]; exact hpl) ?_ ?_
      · intro k hk0 hkl hkp
        rw [swapE_len] at hkl
        rw [swapE_getD r i p _ hi hpl, swapE_getD r i p _ hi hpl, if_neg hkp]
        by_cases hki : k = i
        · subst hki
          rw [hp, if_pos rfl, if_pos rfl]
          exact lt_le hlt
        · rw [if_neg hki]
          by_cases hq1 : (k - 1) / 2 = p
          · rw [if_pos hq1]
            have := hA k hk0 hkl hki
            rw [hq1] at this
            exact le_trans' (lt_le hlt) this
          · rw [if_neg hq1]
            by_cases hq2 : (k - 1) / 2 = i
            · rw [if_pos hq2]; exact hB k hk0 hkl hq2 h0
            · rw [if_neg hq2]; exact hA k hk0 hkl hki
      · intro k hk0 hkl hkp hp0
        rw [swapE_len] at hkl
        rw [swapE_getD r i p _ hi hpl, swapE_getD r i p _ hi hpl]
        rw [if_neg (by omega), if_neg (by omega), if_neg (by omega)]
        have a1 := hA p hp0 hpl (by omega)
        by_cases hki : k = i
        · rw [if_pos hki]; exact a1
        · rw [if_neg hki]
          have := hA k hk0 hkl hki
          rw [hkp] at this
          exact le_trans' a1 this
    · rename_i h
      intro k hk0 hkl
      by_cases hki : k = i
      · subst hki
        exact not_lt_le fun hc => h ⟨hk0, hc⟩
      · exact hA k hk0 hkl hki

theorem kid_cases (r : List Ent) (i : Nat) : kid r i = 2 * i + 1 ∨ kid r i = 2 * i + 2 := by unfold kid; split <;> simp

theorem kid_le (r : List Ent) (i k : Nat) (hk0 : 0 < k) (hk : k < r.length) (hp : (k - 1) / 2 = i) : kid r i < r.length ∧ leE (gE r (kid r i)) (gE r k) := by
  have : k = 2 * i + 1 ∨ k = 2 * i + 2 := by omega
  unfold kid
  split
  · rename_i h
    refine ⟨h.1, ?_⟩
    rcases this with rfl | rfl
    · exact lt_le h.2
    · exact le_rfl' _
  · rename_i h
    refine ⟨by omega, ?_⟩
    rcases this with rfl | rfl
    · exact le_rfl' _
    · exact not_lt_le fun hc => h ⟨hk, hc⟩

theorem downF_hp (r : List Ent) (i : Nat) (hi : i < r.length) (hA : ∀ k, 0 < k → k < r.length → (k - 1) / 2 ≠ i → leE (gE r ((k - 1) / 2)) (gE r k))
    (hB : ∀ k, 0 < k → k < r.length → (k - 1) / 2 = i → 0 < i → leE (gE r ((i - 1) / 2)) (gE r k)) : Hp (downF r i) := by
  generalize hm : r.length - i = m
  induction m using Nat.strongRecOn generalizing r i with
  | _ m ih =>
    rw [downF]
    split
    · rename_i h
      obtain ⟨hcl, hlt⟩ := h
      have hcc := kid_cases r i
      have hmin := kid_le r i
      generalize hc : kid r i = c at *
      have hci : (c - 1) / 2 = i := by omega
      refine ih ((swapE r i c).length - c) (by rw [swapE_len]; omega) _ _ (by rw [swapE_len]; exact hcl) ?_ ?_ rfl
      · intro k hk0 hkl hkp
        rw [swapE_len] at hkl
        rw [swapE_getD r i c _ hi hcl, swapE_getD r i c _ hi hcl, if_neg hkp]
        by_cases hkc : k = c
        · subst hkc
          rw [if_pos hci, if_pos rfl]
          exact lt_le hlt
        · rw [if_neg hkc]
          by_cases hki : k = i
          · subst hki
            rw [if_neg (by omega), if_pos rfl]
            exact hB c (by omega) hcl hci hk0
          · rw [if_neg hki]
            by_cases hq : (k - 1) / 2 = i
            · rw [if_pos hq]; exact (hmin k hk0 hkl hq).2
            · rw [if_neg hq]; exact hA k hk0 hkl hq
      · intro k hk0 hkl hkp hc0
        rw [swapE_len] at hkl
        rw [swapE_getD r i c _ hi hcl, swapE_getD r i c _ hi hcl]
        rw [hci, if_neg (by omega), if_pos rfl, if_neg (by omega), if_neg (by omega)]
        have := hA k hk0 hkl (by omega)
        rwa [hkp] at this
    · rename_i h
      intro k hk0 hkl
      by_cases hq : (k - 1) / 2 = i
      · obtain ⟨h1, h2⟩ := kid_le r i k hk0 hkl hq
        rw [hq]
        exact le_trans' (not_lt_le fun hc => h ⟨h1, hc⟩) h2
      · exact hA k hk0 hkl hq

/-- An entry is put at the end. -/
theorem snoc_hp (r : List Ent) (e : Ent) (h : Hp r) : Hp (upF (r ++ [e]) r.length) := by
  have g1 : ∀ k, k < r.length → gE (r ++ [e]) k = gE r k := fun k hk => by simp [gE, List.getD_eq_getElem?_getD, List.getElem?_append_left hk]
  refine upF_hp _ _ (by simp) ?_ ?_
  · intro k h0 hk hne
    simp at hk
    rw [g1 _ (by omega), g1 _ (by omega)]
    exact h k h0 (by omega)
  · intro k h0 hk hp hl
    simp at hk; omega

/-- The entry at a place is taken out: what is left in the row. -/
def remF (r : List Ent) (i : Nat) : List Ent :=
  let n := r.length - 1
  let q := (r.set i (r.getD n default)).take n
  if i < n then downF (upF q i) i else q

theorem remF_len (r : List Ent) (i : Nat) : (remF r i).length = r.length - 1 := by
  unfold remF
  simp only
  split
  · rw [downF_len, upF_len]; simp
  · simp

theorem rem_perm0 (r : List Ent) (i : Nat) (hi : i < r.length) : r.Perm (gE r i :: (r.set i (r.getD (r.length - 1) default)).take (r.length - 1)) := by
  have hn : r.length - 1 < r.length := by omega
  have h1 : (swapE r i (r.length - 1)).Perm r := swapE_perm r i (r.length - 1) hi hn
  have h2 : swapE r i (r.length - 1) = (r.set i (r.getD (r.length - 1) default)).take (r.length - 1) ++ [gE r i] := by
    unfold swapE
    generalize hq : r.set i (r.getD (r.length - 1) default) = q
    have hl : q.length = r.length := by rw [← hq]; simp
    rw [List.set_eq_take_append_cons_drop, if_pos (by omega), List.drop_eq_nil_of_le (by omega)]
  rw [h2] at h1
  exact h1.symm.trans (List.perm_append_singleton _ _)

theorem remF_perm (r : List Ent) (i : Nat) (hi : i < r.length) : r.Perm (gE r i :: remF r i) := by
  refine (rem_perm0 r i hi).trans (List.Perm.cons _ ?_)
  unfold remF
  simp only
  split
  · rename_i h
    have hq : i < ((r.set i (r.getD (r.length - 1) default)).take (r.length - 1)).length := by simp; omega
    refine ((downF_perm _ _ (by rw [upF_len]; exact hq)).trans (upF_perm _ _ (.inl hq))).symm
  · exact List.Perm.refl _

theorem hp_no (r : List Ent) (h : Hp r) (i : Nat) : downF r i = r := by
  rw [downF, dif_neg]
  rintro ⟨h1, h2⟩
  have hc := kid_cases r i
  have := h (kid r i) (by omega) h1
  rw [show (kid r i - 1) / 2 = i by omega] at this
  unfold leE gE at this
  rw [h2] at this; cases this

theorem remF_hp (r : List Ent) (i : Nat) (hi : i < r.length) (h : Hp r) : Hp (remF r i) := by
  unfold remF
  simp only
  generalize hx : r.getD (r.length - 1) default = x
  generalize hn : r.length - 1 = n at *
  generalize hq : (r.set i x).take n = q
  have hl : q.length = n := by rw [← hq]; simp; omega
  have g1 : ∀ k, k < n → gE q k = if k = i then x else gE r k := fun k hk => by
    rw [← hq]
    have := getD_set' r i x k hi
    unfold gE
    rw [← this]
    simp only [List.getD_eq_getElem?_getD, List.getElem?_take, if_pos hk]
  have hup : ∀ k, 0 < k → k < r.length → leE (gE r ((k - 1) / 2)) (gE r k) := h
  have hA0 : ∀ k, 0 < k → k < q.length → k ≠ i → (k - 1) / 2 ≠ i → leE (gE q ((k - 1) / 2)) (gE q k) := fun k h0 hk hki hp => by
    rw [g1 _ (by omega), g1 _ (by omega), if_neg hki, if_neg hp]
    exact h k h0 (by omega)
  split
  · rename_i hin
    have hB0 : ∀ k, 0 < k → k < q.length → (k - 1) / 2 = i → 0 < i → leE (gE q ((i - 1) / 2)) (gE q k) := fun k h0 hk hp hi0 => by
      rw [g1 _ (by omega), g1 _ (by omega), if_neg (by omega), if_neg (by omega)]
      have a1 := h i hi0 hi
      have a2 := h k h0 (by omega)
      rw [hp] at a2
      exact le_trans' a1 a2
    by_cases hgo : 0 < i ∧ aheadB (gE q i) (gE q ((i - 1) / 2)) = true
    · have hhp : Hp (upF q i) := by
        refine upF_hp q i (by omega) ?_ hB0
        intro k h0 hk hki
        by_cases hp : (k - 1) / 2 = i
        · have b1 := hB0 k h0 hk hp hgo.1
          rw [hp]
          exact le_trans' (lt_le hgo.2) b1
        · exact hA0 k h0 hk hki hp
      rw [hp_no _ hhp]
      exact hhp
    · have : upF q i = q := by rw [upF, dif_neg hgo]
      rw [this]
      refine downF_hp q i (by omega) ?_ hB0
      intro k h0 hk hp
      by_cases hki : k = i
      · subst hki
        exact not_lt_le fun hc => hgo ⟨h0, hc⟩
      · exact hA0 k h0 hk hki hp
  · intro k h0 hk
    exact hA0 k h0 hk (by omega) (by omega)

/-- The first of a heap is behind none. -/
theorem hp_head (r : List Ent) (h : Hp r) (k : Nat) (hk : k < r.length) : leE (gE r 0) (gE r k) := by
  induction k using Nat.strongRecOn with
  | _ k ih =>
    by_cases h0 : 0 < k
    · exact le_trans' (ih ((k - 1) / 2) (by omega) (by omega)) (h k h0 hk)
    · rw [show k = 0 by omega]; exact le_rfl' _

end Go.AM
