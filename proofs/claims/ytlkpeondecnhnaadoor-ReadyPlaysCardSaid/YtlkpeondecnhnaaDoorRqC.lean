/-
  Those that are ready: New, Row, First, Rotate, All.
-/
import Derived.Test.YtlkpeondecnhnaaDoorRqB
namespace Go.AM
attribute [local simp] AH.ld AH.ldn Nat.add_assoc resA resA1 fillA buildA slSlA boundsA boundA callvP

theorem set_same {α : Type} {l : List α} {i : Nat} {x : α} (h : l[i]? = some x) : l.set i x = l := by
  apply List.ext_getElem?
  intro j
  rw [List.getElem?_set]
  by_cases e : i = j
  · subst e
    rw [if_pos rfl, if_pos (List.getElem?_eq_some_iff.1 h).1, h]
  · rw [if_neg e]

theorem Sat.qBack {ρ : HF} {H : AH} {R : List Asr} {rs : List SV} {rows : QRows} {A : Asr} {i : Nat} {s : SV} {r : List Int} (h : Sat ρ H (Row encI 1 s r :: A :: ((rowsL rs rows).eraseIdx i ++ R))) (hi : rs[i]? = some s) (hj : rows[i]? = some r) : Sat ρ H (A :: (rowsL rs rows ++ R)) := by
  have := h.qIn (List.getElem?_eq_some_iff.1 hi).1 (List.getElem?_eq_some_iff.1 hj).1
  rwa [set_same hi, set_same hj] at this

theorem rowsL_none (n : Nat) {ρ : HF} {H : AH} {R : List Asr} (h : Sat ρ H R) : Sat ρ H (rowsL (List.replicate n (.slice none 0 0 1)) (List.replicate n []) ++ R) := by
  induction n with
  | zero => exact h
  | succ n ih =>
    rw [List.replicate_succ, List.replicate_succ]
    exact Sat.mkNil ih 1

theorem NewQ_tri : Tri tab noExt F.ready_New [] [TzA] fun v P' => ∃ b, v = ptr b ∧ P' = [QA b noRows, TzA] := by
  refine Tri.intro fun ρ H Rs K hs hk => ?_
  apply ready_New_call
  have h0 := Sat.tz hs
  have hs1 := (hs.bump 1).frees 3 [1] (by decide) (by decide)
  simp only [List.map_cons, List.map_nil, List.cons_append, List.nil_append, bump_next, Nat.add_assoc, Nat.reduceAdd, Nat.add_zero] at hs1
  simp
  refine ⟨_, new_of _ hs1.fre, ?_⟩
  refine hk _ _ _ ⟨_, rfl, rfl⟩ ?_
  have hs2 := hs1.mk (wordsC [0, 0, 0, 0] ++ (List.replicate 17 (.slice none 0 0 1) ++ prC (List.replicate 17 0)))
  have hs3 := Sat.mpClose hs2 h0 IsMap.zero
  have hs4 := (rowsL_none 17 hs3).perm List.perm_middle
  refine Sat.qClose hs4 GoodQ.none ⟨by simp, by simp, fun t h1 h2 => ⟨0, ?_, .inl ⟨rfl, fun q h => ?_⟩⟩, fun p h1 h2 => ?_⟩
  · rw [List.getElem?_replicate, if_pos (by omega)]; rfl
  · rw [rowAt_none] at h; cases h
  · rw [rowAt_none]; simp

theorem RowQ_tri (b : Nat) (rows : QRows) (p : Int) : Tri tab noExt F.ready_Queue_Row [ptr b, i64 p] [QA b rows] fun v P' => ∃ s, v = .s s ∧ P' = [Row encI 1 s (if 1 ≤ p ∧ p ≤ 16 then rowAt rows p.toNat else []), QA b rows] := by
  refine Tri.intro fun ρ H Rs K hs hk => ?_
  apply ready_Queue_Row_call
  refine (may_tri p).use (R := QA b rows :: Rs) ((hs.bump 1).bump 3) ?_
  rintro v H1 P' ⟨rfl, rfl⟩ hs1
  have hs1 : Sat ρ H1 (QA b rows :: Rs) := hs1
  by_cases hp : 1 ≤ p ∧ p ≤ 16
  · rw [decide_eq_true hp]
    rw [if_pos hp] at hk
    obtain ⟨q, rfl⟩ : ∃ q : Nat, p = (q : Int) := ⟨p.toNat, by omega⟩
    rw [Int.toNat_natCast] at hk
    obtain ⟨rs, pr, on, g, hf, hs3⟩ := Sat.qOpen hs1
    have hrs := hf.rsl
    obtain ⟨l, hb, hl, hll⟩ := hs3.mpCell
    obtain ⟨s, hrp⟩ : ∃ s, rs[q]? = some s := ⟨_, List.getElem?_eq_getElem (by omega)⟩
    have hlp : l[4 + q]? = some s := by rw [hl, post_get1 (by omega), hrp]
    have hq := rowAt_get (rows := rows) (p := q) (by rw [g.len]; omega)
    have hsh := g.short q
    have p1 : (q : Int) < 17 := by omega
    simp [hb, hlp, p1]
    have hs4 := hs3.qOut hrp hq
    refine (CloneI_tri s (rowAt rows q) (by omega)).use (hs4.bump 9) ?_
    rintro v H2 P' ⟨s', rfl, rfl⟩ hs5
    refine (Clip_tri s' (rowAt rows q) (by omega)).use (R := Row encI 1 s (rowAt rows q) :: _) hs5 ?_
    rintro v H3 P' ⟨s2, rfl, rfl⟩ hs6
    refine hk _ _ _ ⟨_, rfl, rfl⟩ ?_
    have hs7 : Sat ρ H3 (Row encI 1 s (rowAt rows q) :: MpA b on (rs ++ prC pr) :: ((rowsL rs rows).eraseIdx q ++ (Row encI 1 s2 (rowAt rows q) :: Rs))) := by
      have h1 : Sat ρ H3 (Row encI 1 s2 (rowAt rows q) :: (Row encI 1 s (rowAt rows q) :: MpA b on (rs ++ prC pr) :: (rowsL rs rows).eraseIdx q) ++ Rs) := hs6
      exact h1.perm List.perm_middle.symm
    have hs8 := Sat.qClose (hs7.qBack hrp hq) g hf
    exact hs8.swap
  · rw [decide_eq_false hp]
    rw [if_neg hp] at hk
    simp
    exact hk _ _ _ ⟨_, rfl, rfl⟩ (Sat.mkNil (hs1.bump 1) 1)
end Go.AM
