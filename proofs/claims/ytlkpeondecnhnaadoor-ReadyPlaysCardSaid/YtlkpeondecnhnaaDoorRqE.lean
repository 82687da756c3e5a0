/-
  Those that are ready: Rotate, Remove, Change.
-/
import Derived.Test.YtlkpeondecnhnaaDoorRqD
namespace Go.AM
attribute [local simp] AH.ld AH.ldn Nat.add_assoc resA resA1 fillA buildA slSlA boundsA boundA callvP

theorem CloneP_tri (b c : Nat) (r : List Int) (hr : r.length ≤ 1000) (h1 : 1 ≤ r.length) : Tri tab noExt F.slices_Clone__int_int [.s (.slice (some (b, 1)) (r.length - 1) (c - 1) 1)] [Row encI 1 (.slice (some (b, 0)) r.length c 1) r] fun v P' => ∃ s', v = .s s' ∧ P' = [Row encI 1 s' (r.drop 1), Row encI 1 (.slice (some (b, 0)) r.length c 1) r] := by
  refine Tri.intro fun ρ H Rs K hs hk => ?_
  apply slices_Clone__int_int_call
  have hs : Sat ρ H (Row encI 1 (.slice (some (b, 0)) r.length c 1) r :: Rs) := hs
  simp
  have hs2 := ((hs.bump 1).bump 2).frees 4 [0, 2] (by decide) (by decide)
  simp only [List.map_cons, List.map_nil, List.cons_append, List.nil_append, bump_next, Nat.add_assoc, Nat.reduceAdd] at hs2
  have hl : (r.drop 1).length = r.length - 1 := List.length_drop
  refine Sat.copy encI_len hs2 (r2 := r.drop 1) (fun H' h => ?_) (by rw [hl]; rfl) (by omega) ?_
  · have h2 := (h.front 1 (by simp)).partSrc (o := 1) (l := 1) (n := r.length - 1) (c' := c - 1) encI_len rfl (by omega)
    rw [List.take_of_length_le (by rw [hl]; exact Nat.le_refl _)] at h2
    rw [hl]; exact h2
  · intro s' H' _ hs3
    exact hk _ _ _ ⟨s', rfl, rfl⟩ hs3

theorem RotateQ_tri (b : Nat) (rows : QRows) (p : Int) : Tri tab noExt F.ready_Queue_Rotate [ptr b, i64 p] [QA b rows] fun v P' =>
    (¬ (1 ≤ p ∧ p ≤ 16) ∧ v = i64 (-17) ∧ P' = [QA b rows]) ∨ ((1 ≤ p ∧ p ≤ 16) ∧ v = i64 0 ∧ P' = [QA b (rotR rows p.toNat)]) := by
  refine Tri.intro fun ρ H Rs K hs hk => ?_
  apply ready_Queue_Rotate_call
  refine (may_tri p).use (R := QA b rows :: Rs) ((hs.bump 1).bump 3) ?_
  rintro v H1 P' ⟨rfl, rfl⟩ hs1
  have hs1 : Sat ρ H1 (QA b rows :: Rs) := hs1
  by_cases hp : 1 ≤ p ∧ p ≤ 16
  · rw [decide_eq_true hp]
    obtain ⟨q, rfl⟩ : ∃ q : Nat, p = (q : Int) := ⟨p.toNat, by omega⟩
    rw [Int.toNat_natCast] at hk
    obtain ⟨rs, pr, on, g, hf, hs3⟩ := Sat.qOpen hs1
    have hrs := hf.rsl
    have hpr := hf.prl
    obtain ⟨l, hb, hl, hll⟩ := hs3.mpCell
    obtain ⟨s, hrp⟩ : ∃ s, rs[q]? = some s := ⟨_, List.getElem?_eq_getElem (by omega)⟩
    have hlp : l[4 + q]? = some s := by rw [hl, post_get1 (by omega), hrp]
    have hq := rowAt_get (rows := rows) (p := q) (by rw [g.len]; omega)
    have hsh := g.short q
    have p1 : (q : Int) < 17 := by omega
    have hs4 := hs3.qOut hrp hq
    have hlen := Sat.rowLen hs4
    obtain ⟨r, hr⟩ : ∃ r, r = rowAt rows q := ⟨_, rfl⟩
    have hrot : rotR rows q = rows.set q (r.drop 1 ++ r.take 1) := by unfold rotR; rw [hr]
    rw [← hr] at hs4 hq hlen hsh
    by_cases hn : 1 < r.length
    · have hn' : (1 : Int) < (r.length : Int) := by omega
      obtain ⟨x, hx⟩ := get_ex (r := r) (i := 0) (by omega)
      obtain ⟨b2, c2, ro2, l2, rfl, hb2, hli2, _⟩ := RowI.get hs4 hx
      have hcap : r.length ≤ c2 := by
        rcases hs4.rowInv with ⟨e, he, _⟩ | ⟨b', c', j, he, _, _, h⟩
        · cases he
        · cases he; exact h
      have n0 : 0 < r.length := by omega
      have n1 : (1 : Int) ≤ (r.length : Int) := by omega
      have n2 : 1 ≤ r.length := by omega
      simp [hb, hlp, p1, hn, hn', hb2, hli2, n0, n1, n2]
      have hs5 := ((hs4.bump 7).bump 3).frees 14 [8, 9] (by decide) (by decide)
      simp only [List.map_cons, List.map_nil, List.cons_append, List.nil_append, bump_next, Nat.add_assoc, Nat.reduceAdd] at hs5
      have hs6 := hs5.re [2, 0, 1] (by simp; omega) (by decide)
      refine (CloneP_tri b2 c2 r (by omega) (by omega)).use hs6 ?_
      rintro v H2 P' ⟨s', rfl, rfl⟩ hs7
      have hs8 : Sat ρ H2 (Row encI 1 s' (r.drop 1) :: Row encI 1 (.slice (some (b2, 0)) r.length c2 1) r :: Fre (H1.next + 18) :: Fre (H1.next + 19) :: MpA b on (rs ++ prC pr) :: ((rowsL rs rows).eraseIdx q ++ Rs)) := hs7
      obtain ⟨b3, c3, ro3, l3, e3, hb3, hli3, _⟩ := RowI.get hs8.swap hx
      cases e3
      refine ⟨by rw [hb3]; exact hli3, ?_⟩
      have hs9 : Sat ρ H2 (Fre (H1.next + 18) :: Row encI 1 s' (r.drop 1) :: Row encI 1 (.slice (some (b2, 0)) r.length c2 1) r :: Fre (H1.next + 19) :: MpA b on (rs ++ prC pr) :: ((rowsL rs rows).eraseIdx q ++ Rs)) := hs8.re [2, 0, 1] (by simp; omega) (by decide)
      refine ⟨_, new_of _ hs9.fre, ?_⟩
      have hs10 := hs9.mk (encI x)
      simp only [encI] at hs10
      have hs11 : Sat ρ _ (Row encI 1 s' (r.drop 1) :: Fre (H1.next + 19) :: Cel (H1.next + 18) [.int .i64 x] :: Row encI 1 (.slice (some (b2, 0)) r.length c2 1) r :: MpA b on (rs ++ prC pr) :: ((rowsL rs rows).eraseIdx q ++ Rs)) := hs10.re [1, 3, 0, 2] (by simp; omega) (by decide)
      obtain ⟨s2, H3, e2, hs12, _⟩ := hs11.append1 encI_len (bytes := 8) (c := 1) (e := x) (o := 0) rfl (by simp) (by rw [List.length_drop]; omega)
      refine andThen_of' e2 ?_
      have ht1 : r.take 1 = [x] := by
        cases r with
        | nil => simp at hx
        | cons y r => simp at hx; subst hx; rfl
      rw [← ht1] at hs12
      have hs13 : Sat ρ H3 (MpA b on (rs ++ prC pr) :: Row encI 1 s2 (r.drop 1 ++ r.take 1) :: ((rowsL rs rows).eraseIdx q ++ Rs)) := hs12.sel [3, 0] 4 (by simp; omega) (by decide)
      obtain ⟨H4, e4, hs14, _⟩ := hs13.mpStore q (by rw [post_len hrs hpr]; omega) s2
      rw [post_set1 (by omega)] at hs14
      have hs15 := (hs14.swap.qIn (by omega) (by rw [g.len]; omega)).bump 1
      rw [← hrot] at hs15
      refine andThen_of' (show storeA 1 (.s (.ptr (some (b, 4 + q)))) (.s s2) H3 = some H4 from e4) ?_
      refine hk _ _ _ (.inr ⟨hp, rfl, rfl⟩) ?_
      refine Sat.qClose hs15 (g.rot (by omega) (by omega)) ⟨by rw [List.length_set]; exact hrs, hpr, fun u h1 h2 => ?_, fun v h1 h2 => ?_⟩
      · obtain ⟨w, hw1, hw2⟩ := hf.pri u h1 h2
        exact ⟨w, hw1, PriR.rot g (by omega) hw2⟩
      · rw [hf.ons v h1 h2, rot_at g (by omega)]
        by_cases e : v = q
        · subst e
          rw [if_pos rfl, ← hr]
          have e1 : r ≠ [] := by intro e; rw [e] at hn; simp at hn
          have e2 : r.drop 1 ++ r.take 1 ≠ [] := by rw [ht1]; simp
          exact ⟨fun _ => e2, fun _ => e1⟩
        · rw [if_neg e]
    · have hn' : ¬ (1 : Int) < (r.length : Int) := by omega
      have hsame : rotR rows q = rows := by
        rw [hrot]
        have : r.drop 1 ++ r.take 1 = r := by
          match r, hn with
          | [], _ => rfl
          | [x], _ => rfl
          | x :: y :: r, hn => simp at hn
        rw [this]
        exact set_same hq
      rw [hsame] at hk
      simp [hb, hlp, p1, hlen, hn']
      exact hk _ _ _ (.inr ⟨hp, rfl, rfl⟩) (by (repeat refine Sat.bump ?_ _); exact hs1)
  · rw [decide_eq_false hp]
    simp
    exact hk _ _ _ (.inl ⟨hp, rfl, rfl⟩) (hs1.bump 1)

theorem filter_ne {r : List Int} {t : Int} (h : t ∉ r) : r.filter (fun x => decide (x ≠ t)) = r := by
  rw [List.filter_eq_self]
  intro x hx
  exact decide_eq_true fun e => h (e ▸ hx)

theorem del_filter {r : List Int} {t : Int} {i : Nat} (h : r[i]? = some t) (hd : r.Nodup) : r.take i ++ r.drop (i + 1) = r.filter fun x => decide (x ≠ t) := by
  obtain ⟨hi, ht⟩ := List.getElem?_eq_some_iff.1 h
  have e : r = r.take i ++ t :: r.drop (i + 1) := by rw [← ht]; simp
  have hd' := hd
  rw [e, List.nodup_append] at hd'
  obtain ⟨_, h2, h3⟩ := hd'
  rw [List.nodup_cons] at h2
  conv => rhs; rw [e]
  rw [List.filter_append, List.filter_cons_of_neg (by simp), filter_ne h2.1, filter_ne fun hm => h3 _ hm _ (by simp) rfl]

theorem first_at {r : List Int} {t : Int} (h : t ∈ r) : ∃ i : Nat, r[i]? = some t ∧ ∀ j, j < i → r[j]? ≠ some t := by
  induction r with
  | nil => cases h
  | cons x r ih =>
    by_cases e : x = t
    · exact ⟨0, by simp [e], fun j hj => by omega⟩
    · obtain ⟨i, h1, h2⟩ := ih (by
        rcases List.mem_cons.1 h with h | h
        · exact (e h.symm).elim
        · exact h)
      refine ⟨i + 1, by simpa using h1, fun j hj => ?_⟩
      cases j with
      | zero => simpa using e
      | succ j => simpa using h2 j (by omega)

theorem RemoveQ_tri (b : Nat) (rows : QRows) (t : Int) : Tri tab noExt F.ready_Queue_Remove [ptr b, i64 t] [QA b rows] fun v P' =>
    ((∀ q, t ∉ rowAt rows q) ∧ v = bl false ∧ P' = [QA b rows]) ∨ (∃ q, t ∈ rowAt rows q ∧ v = bl true ∧ P' = [QA b (delR rows t q)]) := by
  refine Tri.intro fun ρ H Rs K hs hk => ?_
  apply ready_Queue_Remove_call
  refine (task_tri t).use (R := QA b rows :: Rs) ((hs.bump 1).bump 12) ?_
  rintro v H1 P' ⟨rfl, rfl⟩ hs1
  have hs1 : Sat ρ H1 (QA b rows :: Rs) := hs1
  obtain ⟨rs, pr, on, g, hf, hs3⟩ := Sat.qOpen hs1
  have hrs := hf.rsl
  have hpr := hf.prl
  by_cases ht : 1 ≤ t ∧ t ≤ 16
  · rw [decide_eq_true ht]
    obtain ⟨u, rfl⟩ : ∃ u : Nat, t = (u : Int) := ⟨t.toNat, by omega⟩
    obtain ⟨l, hb, hl, hll⟩ := hs3.mpCell
    obtain ⟨q, hq1, hq2⟩ := hf.pri u (by omega) (by omega)
    have hlu : l[21 + u]? = some (.int .i64 (q : Int)) := by
      rw [show 21 + u = 4 + (17 + u) by omega, hl, post_get2 hf.rsl, hq1]; rfl
    have t1 : (u : Int) < 17 := by omega
    by_cases hq : q = 0
    · subst hq
      have hno : ∀ q, (u : Int) ∉ rowAt rows q := by
        rcases hq2 with ⟨_, h⟩ | h
        · exact h
        · have := g.pos h; omega
      simp [hb, hlu, t1]
      exact hk _ _ _ (.inl ⟨hno, rfl, rfl⟩) (hs1.bump 1)
    · have hmem : (u : Int) ∈ rowAt rows q := by
        rcases hq2 with ⟨h, _⟩ | h
        · exact (hq h).elim
        · exact h
      have hqp := g.pos hmem
      obtain ⟨s, hrp⟩ : ∃ s, rs[q]? = some s := ⟨_, List.getElem?_eq_getElem (by omega)⟩
      have hlp : l[4 + q]? = some s := by rw [hl, post_get1 (by omega), hrp]
      have hqr := rowAt_get (rows := rows) (p := q) (by rw [g.len]; omega)
      have hsh := g.short q
      have p1 : (q : Int) < 17 := by omega
      obtain ⟨i, hi1, hi2⟩ := first_at hmem
      have hil := (List.getElem?_eq_some_iff.1 hi1).1
      have w1 : IntKind.i64.wrap ((i : Int) + 1) = (i : Int) + 1 := wrap_i64 (by omega) (by omega)
      have hs4 := hs3.qOut hrp hqr
      simp [hb, hlu, hlp, t1, p1, hq]
      refine (IndexI_tri s (rowAt rows q) u i (by omega) hi1 hi2).use ((hs4.bump 7).bump 9) ?_
      rintro v H2 P' ⟨rfl, rfl⟩ hs5
      have hs5 : Sat ρ H2 (Row encI 1 s (rowAt rows q) :: MpA b on (rs ++ prC pr) :: ((rowsL rs rows).eraseIdx q ++ Rs)) := hs5
      obtain ⟨l2, hb2, hl2, hll2⟩ := hs5.swap.mpCell
      have hlp2 : l2[4 + q]? = some s := by rw [hl2, post_get1 (by omega), hrp]
      simp [hb2, hlp2, p1, w1]
      refine (DeleteI_tri s (rowAt rows q) i (by omega) hil).use (hs5.bump 16) ?_
      rintro v H3 P' ⟨s', rfl, rfl⟩ hs6
      rw [del_filter hi1 (g.nod q)] at hs6
      obtain ⟨F, hF⟩ : ∃ F, F = (rowAt rows q).filter fun x => decide (x ≠ (u : Int)) := ⟨_, rfl⟩
      have hdel : delR rows (u : Int) q = rows.set q F := by unfold delR; rw [hF]
      rw [← hF] at hs6
      have hs7 : Sat ρ H3 (Row encI 1 s' F :: MpA b on (rs ++ prC pr) :: ((rowsL rs rows).eraseIdx q ++ Rs)) := hs6
      obtain ⟨H4, e4, hs8, _⟩ := hs7.swap.mpStore q (by rw [post_len hrs hpr]; omega) s'
      rw [post_set1 (by omega)] at hs8
      have hs9 := (hs8.swap.qIn (by omega) (by rw [g.len]; omega)).bump 6
      rw [← hdel] at hs9
      have hrs' : (rs.set q s').length = 17 := by rw [List.length_set]; exact hrs
      obtain ⟨H5, e5, hs10, _⟩ := hs9.mpStore (17 + u) (by rw [post_len hrs' hpr]; omega) (.int .i64 0)
      rw [post_set2 _ hrs'] at hs10
      have e5' : (H4.bump 6).stn b (21 + u) [.int .i64 0] = some H5 := by rw [← e5]; congr 1; omega
      refine andThen_of' (show storeA 1 (.s (.ptr (some (b, 4 + q)))) (.s s') H3 = some H4 from e4) ?_
      refine andThen_of' e5' ?_
      obtain ⟨l3, hb3, hl3, hll3⟩ := hs10.mpCell
      have hrp' : (rs.set q s')[q]? = some s' := by rw [List.getElem?_set, if_pos rfl, if_pos (by omega)]
      have hlp3 : l3[4 + q]? = some s' := by rw [hl3, post_get1 (by omega), hrp']
      have hqr' : (delR rows (u : Int) q)[q]? = some F := by rw [hdel, List.getElem?_set, if_pos rfl, if_pos (by rw [g.len]; omega)]
      have hFlen := Sat.rowLen (hs10.qOut hrp' hqr')
      have hat : rowAt (delR rows (u : Int) q) q = F := by rw [del_at g (by omega), if_pos rfl, hF]
      have hpri : ∀ w : Nat, 1 ≤ w → w ≤ 16 → ∃ p : Nat, (pr.set u 0)[w]? = some (p : Int) ∧ PriR (delR rows (u : Int) q) w p := fun w h1 h2 => by
        obtain ⟨x, hw1, hw2⟩ := hf.pri w h1 h2
        have := PriR.del g (by omega) hmem hw2
        by_cases e : u = w
        · subst e
          rw [if_pos rfl] at this
          exact ⟨0, by rw [List.getElem?_set, if_pos rfl, if_pos (by omega)]; rfl, this⟩
        · rw [if_neg (by omega)] at this
          exact ⟨x, by rw [List.getElem?_set, if_neg e]; exact hw1, this⟩
      have hg' := g.del hqp.1 hqp.2 hmem
      by_cases hF0 : F.length = 0
      · have hFe : F = [] := List.length_eq_zero_iff.1 hF0
        have hs11 := ((hs10.bump 8).frees 6 [4] (by decide) (by decide))
        simp only [List.map_cons, List.map_nil, List.cons_append, List.nil_append, bump_next, Nat.add_assoc, Nat.reduceAdd] at hs11
        simp [hb3, hlp3, hFlen, hF0]
        refine ⟨_, new_of _ hs11.fre, ?_⟩
        have hs12 := (hs11.mk [.int .i64 (q : Int)]).litRow [(q : Int)] rfl 1 rfl
        refine (MapClear_tri _ _ _ _ _ (by simp)).use hs12.swap ?_
        rintro v H6 P' ⟨rfl, rfl⟩ hs13
        have hs14 : Sat ρ H6 (MpA b (onClear on [(q : Int)]) (rs.set q s' ++ prC (pr.set u 0)) :: (rowsL (rs.set q s') (delR rows (u : Int) q) ++ Rs)) := hs13.sel [0] 2 (by simp; omega) (by decide)
        refine hk _ _ _ (.inr ⟨q, hmem, rfl, rfl⟩) (Sat.qClose (hs14.bump 1) hg' ⟨hrs', by rw [List.length_set]; exact hpr, hpri, fun v h1 h2 => ?_⟩)
        unfold onClear
        by_cases e : v = q
        · subst e
          rw [hat, hFe]; simp
        · rw [del_at g (by omega), if_neg e, ← hf.ons v h1 h2]
          have : ¬ (v : Int) = (q : Int) := by omega
          simp [this]
      · simp [hb3, hlp3, hFlen, hF0]
        refine hk _ _ _ (.inr ⟨q, hmem, rfl, rfl⟩) (Sat.qClose ((hs10.bump 8).bump 1) hg' ⟨hrs', by rw [List.length_set]; exact hpr, hpri, fun v h1 h2 => ?_⟩)
        by_cases e : v = q
        · subst e
          rw [hat, hf.ons v h1 h2]
          have h1 : F ≠ [] := fun e => hF0 (by rw [e]; rfl)
          exact ⟨fun _ => h1, fun _ e => by rw [e] at hmem; cases hmem⟩
        · rw [del_at g (by omega), if_neg e, ← hf.ons v h1 h2]
  · rw [decide_eq_false ht]
    have hno : ∀ q, t ∉ rowAt rows q := fun q hm => ht (g.lim q t hm)
    simp
    exact hk _ _ _ (.inl ⟨hno, rfl, rfl⟩) (hs1.bump 1)
end Go.AM
