/-
  Rows of those that are ready: what lies there; put, Add, Pri, Row, First.
-/
import Derived.Test.YtlkpeondecnhnaaDoorRqP
import Derived.Test.YtlkpeondecnhnaaDoorSlA
namespace Go.AM
attribute [local simp] AH.ld AH.ldn Nat.add_assoc resA resA1 fillA buildA slSlA boundsA boundA callvP

def rowsL (rs : List SV) (rows : QRows) : List Asr := List.zipWith (Row encI 1) rs rows

theorem rowsL_len (rs : List SV) (rows : QRows) (h : rs.length = rows.length) : (rowsL rs rows).length = rows.length := by
  unfold rowsL; rw [List.length_zipWith]; omega

theorem rowsL_set (rs : List SV) (rows : QRows) (i : Nat) (s : SV) (r : List Int) : (rowsL rs rows).set i (Row encI 1 s r) = rowsL (rs.set i s) (rows.set i r) := by
  unfold rowsL
  apply List.ext_getElem?
  intro j
  simp only [List.getElem?_set, List.getElem?_zipWith, List.length_zipWith]
  by_cases e : i = j
  · subst e
    by_cases h1 : i < rs.length
    · by_cases h2 : i < rows.length
      · simp [h1, h2, Nat.lt_min]
      · have : ¬ i < min rs.length rows.length := by omega
        simp [h1, h2, this]
    · have : ¬ i < min rs.length rows.length := by omega
      simp [h1, this]
  · simp [e]

theorem cons_erase_perm {l : List Asr} {i : Nat} (hi : i < l.length) : (l[i] :: l.eraseIdx i).Perm l := by
  have h1 : l = l.take i ++ l[i] :: l.drop (i + 1) := by simp
  have h2 : l.eraseIdx i = l.take i ++ l.drop (i + 1) := List.eraseIdx_eq_take_drop_succ l i
  rw [h2]
  conv => rhs; rw [h1]
  exact List.perm_middle.symm

section
variable {ρ : HF} {H : AH} {R : List Asr} {rs : List SV} {rows : QRows}

theorem Sat.rowOut {i : Nat} {s : SV} {r : List Int} (h : Sat ρ H (rowsL rs rows ++ R)) (hi : rs[i]? = some s) (hj : rows[i]? = some r) : Sat ρ H (Row encI 1 s r :: ((rowsL rs rows).eraseIdx i ++ R)) := by
  obtain ⟨h1, rfl⟩ := List.getElem?_eq_some_iff.1 hi
  obtain ⟨h2, rfl⟩ := List.getElem?_eq_some_iff.1 hj
  have h3 : i < (rowsL rs rows).length := by unfold rowsL; rw [List.length_zipWith]; omega
  have e : (rowsL rs rows)[i] = Row encI 1 rs[i] rows[i] := List.getElem_zipWith ..
  rw [← e]
  exact h.perm ((cons_erase_perm h3).symm.append_right R)

theorem Sat.rowIn {i : Nat} {s : SV} {r : List Int} (h : Sat ρ H (Row encI 1 s r :: ((rowsL rs rows).eraseIdx i ++ R))) (h1 : i < rs.length) (h2 : i < rows.length) : Sat ρ H (rowsL (rs.set i s) (rows.set i r) ++ R) := by
  rw [← rowsL_set]
  have h3 : i < ((rowsL rs rows).set i (Row encI 1 s r)).length := by unfold rowsL; rw [List.length_set, List.length_zipWith]; omega
  have e := cons_erase_perm h3
  rw [List.getElem_set_self, List.eraseIdx_set_eq] at e
  exact h.perm (e.append_right R)

theorem Sat.mpCell {b : Nat} {on : Nat → Bool} {post : List SV} (h : Sat ρ H (MpA b on post :: R)) : ∃ l, H.blk b = some (.cells false l) ∧ (∀ i, l[4 + i]? = post[i]?) ∧ l.length = 4 + post.length := by
  obtain ⟨h0, ws, hm, hs⟩ := Sat.mpOpen h
  have hw : (wordsC ws).length = 4 := by simp [wordsC, hm.1]
  refine ⟨_, hs.cel, fun i => ?_, by rw [List.length_append, hw]⟩
  rw [List.getElem?_append_right (by omega), hw, Nat.add_sub_cancel_left]

theorem Sat.mpStore {b : Nat} {on : Nat → Bool} {post : List SV} (h : Sat ρ H (MpA b on post :: R)) (i : Nat) (hi : i < post.length) (x : SV) : ∃ H', H.stn b (4 + i) [x] = some H' ∧ Sat ρ H' (MpA b on (post.set i x) :: R) ∧ H'.next = H.next := by
  obtain ⟨h0, ws, hm, hs⟩ := Sat.mpOpen h
  have hw : (wordsC ws).length = 4 := by simp [wordsC, hm.1]
  have hsp : splice (wordsC ws ++ post) (4 + i) [x] = wordsC ws ++ post.set i x := by
    unfold splice
    rw [List.set_eq_take_append_cons_drop, if_pos hi, List.length_singleton]
    rw [List.take_append, hw, Nat.add_sub_cancel_left, List.take_of_length_le (by omega : (wordsC ws).length ≤ 4 + i)]
    rw [List.drop_append, hw, show 4 + i + 1 - 4 = i + 1 by omega, List.drop_of_length_le (by omega : (wordsC ws).length ≤ 4 + i + 1)]
    simp
  refine ⟨_, stn_of H hs.cel (by rw [List.length_append, hw, List.length_singleton]; omega), ?_, rfl⟩
  have h1 := Sat.set hs (splice (wordsC ws ++ post) (4 + i) [x])
  rw [hsp] at h1 ⊢
  exact Sat.mpClose h1 h0 hm
end

def prC (pr : List Int) : List SV := pr.map (SV.int .i64)

structure Fits (rows : QRows) (rs : List SV) (pr : List Int) (on : Nat → Bool) : Prop where
  rsl : rs.length = 17
  prl : pr.length = 17
  pri : ∀ t : Nat, 1 ≤ t → t ≤ 16 → ∃ p : Nat, pr[t]? = some (p : Int) ∧ PriR rows t p
  ons : ∀ p, 1 ≤ p → p ≤ 256 → (on p = true ↔ rowAt rows p ≠ [])

/-- A queue lies there. -/
def QA (b : Nat) (rows : QRows) : Asr := Asr.ex fun (x : List SV × List Int × (Nat → Bool)) => Asr.all (Asr.pure (GoodQ rows ∧ Fits rows x.1 x.2.1 x.2.2) :: MpA b x.2.2 (x.1 ++ prC x.2.1) :: rowsL x.1 rows)

section
variable {ρ : HF} {H : AH} {R : List Asr} {b : Nat} {rows : QRows}

theorem Sat.qOpen (h : Sat ρ H (QA b rows :: R)) : ∃ rs pr on, GoodQ rows ∧ Fits rows rs pr on ∧ Sat ρ H (MpA b on (rs ++ prC pr) :: (rowsL rs rows ++ R)) := by
  obtain ⟨⟨rs, pr, on⟩, h1⟩ := Sat.ex h
  obtain ⟨⟨g, hf⟩, h2⟩ := Sat.pure (Sat.all h1)
  exact ⟨rs, pr, on, g, hf, h2⟩

theorem Sat.qClose {rs : List SV} {pr : List Int} {on : Nat → Bool} (h : Sat ρ H (MpA b on (rs ++ prC pr) :: (rowsL rs rows ++ R))) (g : GoodQ rows) (hf : Fits rows rs pr on) : Sat ρ H (QA b rows :: R) :=
  Sat.mkEx (rs, pr, on) (Sat.mkAll (Sat.mkPure ⟨g, hf⟩ h))
end

theorem task_tri (t : Int) : Tri tab noExt F.ready_task [i64 t] [] fun v P' => v = bl (decide (1 ≤ t ∧ t ≤ 16)) ∧ P' = [] := by
  refine Tri.intro fun ρ H Rs K hs hk => ?_
  apply ready_task_call
  by_cases h1 : 1 ≤ t
  · by_cases h2 : t ≤ 16
    · simp [h1, h2]
      exact hk _ _ _ ⟨by rw [decide_eq_true ⟨h1, h2⟩], rfl⟩ (by (repeat refine Sat.bump ?_ _); exact hs)
    · simp [h1, h2]
      exact hk _ _ _ ⟨by rw [decide_eq_false fun h => h2 h.2], rfl⟩ (by (repeat refine Sat.bump ?_ _); exact hs)
  · simp [h1]
    exact hk _ _ _ ⟨by rw [decide_eq_false fun h => h1 h.1], rfl⟩ (by (repeat refine Sat.bump ?_ _); exact hs)

theorem may_tri (t : Int) : Tri tab noExt F.ready_may [i64 t] [] fun v P' => v = bl (decide (1 ≤ t ∧ t ≤ 16)) ∧ P' = [] := by
  refine Tri.intro fun ρ H Rs K hs hk => ?_
  apply ready_may_call
  by_cases h1 : 1 ≤ t
  · by_cases h2 : t ≤ 16
    · simp [h1, h2]
      exact hk _ _ _ ⟨by rw [decide_eq_true ⟨h1, h2⟩], rfl⟩ (by (repeat refine Sat.bump ?_ _); exact hs)
    · simp [h1, h2]
      exact hk _ _ _ ⟨by rw [decide_eq_false fun h => h2 h.2], rfl⟩ (by (repeat refine Sat.bump ?_ _); exact hs)
  · simp [h1]
    exact hk _ _ _ ⟨by rw [decide_eq_false fun h => h1 h.1], rfl⟩ (by (repeat refine Sat.bump ?_ _); exact hs)
end Go.AM
