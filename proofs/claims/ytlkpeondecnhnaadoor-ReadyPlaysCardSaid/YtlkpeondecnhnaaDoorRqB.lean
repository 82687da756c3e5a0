/-
  Those that are ready: put.
-/
import Derived.Test.YtlkpeondecnhnaaDoorRqA
namespace Go.AM
attribute [local simp] AH.ld AH.ldn Nat.add_assoc resA resA1 fillA buildA slSlA boundsA boundA callvP

section
variable {ρ : HF} {H : AH} {R : List Asr} {rs : List SV} {rows : QRows} {A : Asr}

theorem Sat.qOut {i : Nat} {s : SV} {r : List Int} (h : Sat ρ H (A :: (rowsL rs rows ++ R))) (hi : rs[i]? = some s) (hj : rows[i]? = some r) : Sat ρ H (Row encI 1 s r :: A :: ((rowsL rs rows).eraseIdx i ++ R)) := by
  have h1 : Sat ρ H (rowsL rs rows ++ (A :: R)) := h.perm List.perm_middle.symm
  have h2 := h1.rowOut hi hj
  exact h2.perm (List.Perm.cons _ List.perm_middle)

theorem Sat.qIn {i : Nat} {s : SV} {r : List Int} (h : Sat ρ H (Row encI 1 s r :: A :: ((rowsL rs rows).eraseIdx i ++ R))) (h1 : i < rs.length) (h2 : i < rows.length) : Sat ρ H (A :: (rowsL (rs.set i s) (rows.set i r) ++ R)) := by
  have h3 : Sat ρ H (Row encI 1 s r :: ((rowsL rs rows).eraseIdx i ++ (A :: R))) := h.perm (List.Perm.cons _ List.perm_middle.symm)
  exact (h3.rowIn h1 h2).perm List.perm_middle
end

theorem post_set1 {rs l : List SV} {i : Nat} (h : i < rs.length) (x : SV) : (rs ++ l).set i x = rs.set i x ++ l := List.set_append_left _ _ h
theorem post_set2 {rs : List SV} (pr : List Int) (h : rs.length = 17) (t : Nat) (x : Int) : (rs ++ prC pr).set (17 + t) (.int .i64 x) = rs ++ prC (pr.set t x) := by
  rw [List.set_append_right _ _ (by omega), h, Nat.add_sub_cancel_left]
  unfold prC
  rw [List.map_set]
theorem post_get1 {rs l : List SV} {i : Nat} (h : i < rs.length) : (rs ++ l)[i]? = rs[i]? := List.getElem?_append_left h
theorem post_get2 {rs : List SV} {pr : List Int} (h : rs.length = 17) (t : Nat) : (rs ++ prC pr)[17 + t]? = (pr[t]?).map (SV.int .i64) := by
  rw [List.getElem?_append_right (by omega), h, Nat.add_sub_cancel_left]
  unfold prC
  rw [List.getElem?_map]
theorem post_len {rs : List SV} {pr : List Int} (h : rs.length = 17) (h2 : pr.length = 17) : (rs ++ prC pr).length = 34 := by
  unfold prC; rw [List.length_append, List.length_map]; omega

theorem put_tri (b : Nat) (rows : QRows) (t p : Nat) (ht : 1 ≤ t ∧ t ≤ 16) (hp : 1 ≤ p ∧ p ≤ 16) (hno : ∀ q, (t : Int) ∉ rowAt rows q) : Tri tab noExt F.ready_Queue_put [ptr b, i64 t, i64 p] [QA b rows] fun v P' => v = unit ∧ P' = [QA b (putR rows t p)] := by
  refine Tri.intro fun ρ H Rs K hs hk => ?_
  apply ready_Queue_put_call
  obtain ⟨rs, pr, on, g, hf, hs⟩ := Sat.qOpen hs
  have hrs := hf.rsl
  have hpr := hf.prl
  obtain ⟨l, hb, hl, hll⟩ := hs.mpCell
  obtain ⟨s, hrp⟩ : ∃ s, rs[p]? = some s := ⟨_, List.getElem?_eq_getElem (by omega)⟩
  have hlp : l[4 + p]? = some s := by rw [hl, post_get1 (by omega), hrp]
  have hq := rowAt_get (rows := rows) (p := p) (by rw [g.len]; omega)
  have hsh := g.short p
  have p1 : (p : Int) < 17 := by omega
  have t1 : (t : Int) < 17 := by omega
  have hs1 := (hs.qOut hrp hq).frees 15 [9, 10] (by decide) (by decide)
  simp only [List.map_cons, List.map_nil, List.cons_append, List.nil_append] at hs1
  simp [hb, hlp, p1, t1]
  refine ⟨_, new_of _ hs1.fre, ?_⟩
  have hs2 := Sat.mk hs1 (encI (t : Int))
  simp only [encI] at hs2
  have hs3 : Sat ρ _ (Row encI 1 s (rowAt rows p) :: Fre (H.next + 10) :: Cel (H.next + 9) [.int .i64 (t : Int)] :: MpA b on (rs ++ prC pr) :: ((rowsL rs rows).eraseIdx p ++ Rs)) := hs2.re [2, 1, 0] (by simp; omega) (by decide)
  obtain ⟨s', H2, e2, hs4, _⟩ := hs3.append1 encI_len (bytes := 8) (c := 1) (e := (t : Int)) (o := 0) rfl (by simp) (by omega)
  refine andThen_of' e2 ?_
  have hs5 : Sat ρ H2 (MpA b on (rs ++ prC pr) :: Row encI 1 s' (rowAt rows p ++ [(t : Int)]) :: ((rowsL rs rows).eraseIdx p ++ Rs)) := hs4.sel [2, 0] 3 (by simp; omega) (by decide)
  obtain ⟨H3, e3, hs6, _⟩ := hs5.mpStore p (by rw [post_len hrs hpr]; omega) s'
  rw [post_set1 (by omega)] at hs6
  have hs7 := (hs6.swap.qIn (by omega) (by rw [g.len]; omega)).bump 7
  obtain ⟨H4, e4, hs8, _⟩ := hs7.mpStore (17 + t) (by rw [post_len (by rw [List.length_set]; exact hrs) hpr]; omega) (.int .i64 p)
  rw [post_set2 _ (by rw [List.length_set]; exact hrs)] at hs8
  have e4' : (H3.bump 7).stn b (21 + t) [.int .i64 p] = some H4 := by rw [← e4]; congr 1; omega
  refine andThen_of' (show storeA 1 (.s (.ptr (some (b, 4 + p)))) (.s s') H2 = some H3 from e3) ?_
  refine andThen_of' e4' ?_
  have hs9 := (hs8.frees 6 [4] (by decide) (by decide))
  simp only [List.map_cons, List.map_nil, List.cons_append, List.nil_append] at hs9
  refine ⟨_, new_of _ hs9.fre, ?_⟩
  have hs10 := (hs9.mk [.int .i64 (p : Int)]).litRow [(p : Int)] rfl 1 rfl
  refine (MapSet_tri _ _ _ _ _ (by simp)).use hs10.swap ?_
  rintro v H5 P' ⟨rfl, rfl⟩ hs11
  refine hk _ _ _ ⟨rfl, rfl⟩ ?_
  have hs12 : Sat ρ H5 (MpA b (onSet on [(p : Int)]) (rs.set p s' ++ prC (pr.set t (p : Int))) :: (rowsL (rs.set p s') (putR rows t p) ++ Rs)) := hs11.sel [0] 2 (by simp; omega) (by decide)
  refine Sat.qClose hs12 (g.put hp.1 hp.2 (by omega) hno) ⟨by rw [List.length_set]; exact hrs, by rw [List.length_set]; exact hpr, fun u hu1 hu2 => ?_, fun q q1 q2 => ?_⟩
  · obtain ⟨w, hw1, hw2⟩ := hf.pri u hu1 hu2
    refine ⟨if u = t then p else w, ?_, ?_⟩
    · rw [List.getElem?_set]
      by_cases e : t = u
      · subst e
        rw [if_pos rfl, if_pos (by omega), if_pos rfl]
      · rw [if_neg e, if_neg fun h => e h.symm]; exact hw1
    · have := PriR.put g hp.2 hno hw2
      by_cases e : u = t
      · subst e; simpa using this
      · rw [if_neg (by omega)] at this
        rw [if_neg e]; exact this
  · rw [put_at g hp.2]
    have := hf.ons q q1 q2
    unfold onSet
    by_cases e : q = p
    · subst e; simp
    · rw [if_neg e, ← this]
      have : ¬ (q : Int) = (p : Int) := by omega
      simp [this]

theorem Add_tri (b : Nat) (rows : QRows) (t p : Int) : Tri tab noExt F.ready_Queue_Add [ptr b, i64 t, i64 p] [QA b rows] fun v P' =>
    (¬ (1 ≤ t ∧ t ≤ 16 ∧ 1 ≤ p ∧ p ≤ 16) ∧ v = i64 (-17) ∧ P' = [QA b rows]) ∨
    ((1 ≤ t ∧ t ≤ 16 ∧ 1 ≤ p ∧ p ≤ 16) ∧ (∃ q, t ∈ rowAt rows q) ∧ v = i64 (-41) ∧ P' = [QA b rows]) ∨
    ((1 ≤ t ∧ t ≤ 16 ∧ 1 ≤ p ∧ p ≤ 16) ∧ (∀ q, t ∉ rowAt rows q) ∧ v = i64 0 ∧ P' = [QA b (putR rows t p.toNat)]) := by
  refine Tri.intro fun ρ H Rs K hs hk => ?_
  apply ready_Queue_Add_call
  refine (task_tri t).use (R := QA b rows :: Rs) ((hs.bump 1).bump 9) ?_
  rintro v H1 P' ⟨rfl, rfl⟩ hs1
  by_cases ht : 1 ≤ t ∧ t ≤ 16
  · rw [decide_eq_true ht]
    simp
    refine (may_tri p).use (R := QA b rows :: Rs) hs1 ?_
    rintro v H2 P' ⟨rfl, rfl⟩ hs2
    have hs2 : Sat ρ H2 (QA b rows :: Rs) := hs2
    by_cases hp : 1 ≤ p ∧ p ≤ 16
    · rw [decide_eq_true hp]
      have hall : 1 ≤ t ∧ t ≤ 16 ∧ 1 ≤ p ∧ p ≤ 16 := ⟨ht.1, ht.2, hp.1, hp.2⟩
      obtain ⟨u, rfl⟩ : ∃ u : Nat, t = (u : Int) := ⟨t.toNat, by omega⟩
      obtain ⟨w, rfl⟩ : ∃ w : Nat, p = (w : Int) := ⟨p.toNat, by omega⟩
      obtain ⟨rs, pr, on, g, hf, hs3⟩ := Sat.qOpen hs2
      obtain ⟨l, hb, hl, hll⟩ := hs3.mpCell
      obtain ⟨q, hq1, hq2⟩ := hf.pri u (by omega) (by omega)
      have hlu : l[21 + u]? = some (.int .i64 (q : Int)) := by
        rw [show 21 + u = 4 + (17 + u) by omega, hl, post_get2 hf.rsl, hq1]; rfl
      have t1 : (u : Int) < 17 := by omega
      by_cases hq : q = 0
      · subst hq
        have hno : ∀ q, (u : Int) ∉ rowAt rows q := by
          rcases hq2 with ⟨_, h⟩ | h
          · exact h
          · have := g.pos h; omega
        simp [hb, hlu, t1]
        refine (put_tri b rows u w (by omega) (by omega) hno).use ((hs2.bump 8).bump 4) ?_
        rintro v H4 P' ⟨rfl, rfl⟩ hs4
        exact hk _ _ _ (.inr (.inr ⟨hall, hno, rfl, by rw [Int.toNat_natCast]⟩)) (hs4.bump 1)
      · have hex : ∃ q, (u : Int) ∈ rowAt rows q := by
          rcases hq2 with ⟨h, _⟩ | h
          · exact (hq h).elim
          · exact ⟨q, h⟩
        have hq0 : 0 < q := by omega
        have hq3 : (0 : Int) < (q : Int) := by omega
        simp [hb, hlu, t1, hq0]
        exact hk _ _ _ (.inr (.inl ⟨hall, hex, rfl, rfl⟩)) (by (repeat refine Sat.bump ?_ _); exact hs2)
    · rw [decide_eq_false hp]
      have hall : ¬ (1 ≤ t ∧ t ≤ 16 ∧ 1 ≤ p ∧ p ≤ 16) := fun h => hp h.2.2
      simp
      exact hk _ _ _ (.inl ⟨hall, rfl, rfl⟩) (hs2.bump 1)
  · rw [decide_eq_false ht]
    have hall : ¬ (1 ≤ t ∧ t ≤ 16 ∧ 1 ≤ p ∧ p ≤ 16) := fun h => ht ⟨h.1, h.2.1⟩
    simp
    exact hk _ _ _ (.inl ⟨hall, rfl, rfl⟩) (Sat.bump (show Sat ρ H1 (QA b rows :: Rs) from hs1) 1)

theorem Pri_tri (b : Nat) (rows : QRows) (t : Int) : Tri tab noExt F.ready_Queue_Pri [ptr b, i64 t] [QA b rows] fun v P' => ∃ p : Nat, (1 ≤ t ∧ t ≤ 16 → PriR rows t p) ∧ (¬ (1 ≤ t ∧ t ≤ 16) → p = 0) ∧ v = .tup [.s (.int .i64 (p : Int)), .s (.bool (decide (p ≠ 0)))] ∧ P' = [QA b rows] := by
  refine Tri.intro fun ρ H Rs K hs hk => ?_
  apply ready_Queue_Pri_call
  refine (task_tri t).use (R := QA b rows :: Rs) ((hs.bump 2).bump 12) ?_
  rintro v H1 P' ⟨rfl, rfl⟩ hs1
  have hs1 : Sat ρ H1 (QA b rows :: Rs) := hs1
  by_cases ht : 1 ≤ t ∧ t ≤ 16
  · rw [decide_eq_true ht]
    obtain ⟨u, rfl⟩ : ∃ u : Nat, t = (u : Int) := ⟨t.toNat, by omega⟩
    obtain ⟨rs, pr, on, g, hf, hs3⟩ := Sat.qOpen hs1
    obtain ⟨l, hb, hl, hll⟩ := hs3.mpCell
    obtain ⟨q, hq1, hq2⟩ := hf.pri u (by omega) (by omega)
    have hlu : l[21 + u]? = some (.int .i64 (q : Int)) := by
      rw [show 21 + u = 4 + (17 + u) by omega, hl, post_get2 hf.rsl, hq1]; rfl
    have t1 : (u : Int) < 17 := by omega
    by_cases hq : q = 0
    · subst hq
      simp [hb, hlu, t1]
      exact hk _ _ _ ⟨0, fun _ => hq2, fun _ => rfl, rfl, rfl⟩ (hs1.bump 2)
    · have hq0 : ¬ (q : Int) = 0 := by omega
      simp [hb, hlu, t1, hq]
      exact hk _ _ _ ⟨q, fun _ => hq2, fun h => (h ht).elim, by rw [decide_eq_true hq], rfl⟩ (hs1.bump 8)
  · rw [decide_eq_false ht]
    simp
    exact hk _ _ _ ⟨0, fun h => (ht h).elim, fun _ => rfl, rfl, rfl⟩ (hs1.bump 2)
end Go.AM
