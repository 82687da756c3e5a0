/-
  Those that are ready: First, All, Rotate.
-/
import Derived.Test.YtlkpeondecnhnaaDoorRqC
namespace Go.AM
attribute [local simp] AH.ld AH.ldn Nat.add_assoc resA resA1 fillA buildA slSlA boundsA boundA callvP

theorem take_flat (rows : QRows) (q : Nat) : (rows.take (q + 1)).flatten = (rows.take q).flatten ++ rowAt rows q := by
  rw [List.take_add_one, List.flatten_append]
  congr 1
  unfold rowAt
  rw [List.getD_eq_getElem?_getD]
  cases rows[q]? <;> simp

theorem all_flat {rows : QRows} (g : GoodQ rows) {on : Nat → Bool} (ho : ∀ p, 1 ≤ p → p ≤ 256 → (on p = true ↔ rowAt rows p ≠ [])) : ∀ q, q ≤ 256 → (rowUpto on q).flatMap (fun x => rowAt rows x.toNat) = (rows.take (q + 1)).flatten
  | 0, _ => by rw [take_flat, List.take_zero, g.zero]; rfl
  | q + 1, h => by
    rw [rowUpto_succ, List.flatMap_append, all_flat g ho q (by omega), take_flat rows (q + 1)]
    congr 1
    have := ho (q + 1) (by omega) h
    by_cases e : on (q + 1) = true
    · rw [if_pos e]
      simp only [List.flatMap_cons, List.flatMap_nil, List.append_nil]
      rw [show ((q : Int) + 1).toNat = q + 1 by omega]
    · rw [if_neg e]
      have h2 : rowAt rows (q + 1) = [] := Classical.byContradiction fun hn => e (this.2 hn)
      rw [h2]; rfl

theorem all_flat' {rows : QRows} (g : GoodQ rows) {on : Nat → Bool} (ho : ∀ p, 1 ≤ p → p ≤ 256 → (on p = true ↔ rowAt rows p ≠ [])) : (rowUpto on 256).flatMap (fun x => rowAt rows x.toNat) = rows.flatten := by
  rw [all_flat g ho 256 (Nat.le_refl _), List.take_of_length_le (by rw [g.len]; omega)]

theorem low_empty {rows : QRows} : ∀ q, (∀ p, p < q → rowAt rows p = []) → (rows.take q).flatten = []
  | 0, _ => rfl
  | q + 1, h => by rw [take_flat, low_empty q fun p hp => h p (by omega), h q (by omega)]; rfl

def firstV : Option Int → AV
  | some x => .tup [.s (.int .i64 x), .s (.bool true)]
  | none => .tup [.s (.int .i64 0), .s (.bool false)]

theorem FirstQ_tri (b : Nat) (rows : QRows) : Tri tab noExt F.ready_Queue_First [ptr b] [QA b rows] fun v P' => v = firstV rows.flatten.head? ∧ P' = [QA b rows] := by
  refine Tri.intro fun ρ H Rs K hs hk => ?_
  apply ready_Queue_First_call
  have hs : Sat ρ H (QA b rows :: Rs) := hs
  obtain ⟨rs, pr, on, g, hf, hs3⟩ := Sat.qOpen hs
  simp
  refine (MapFirst_tri b on _).use (((hs3.bump 2).bump 9)) ?_
  rintro v H1 P' ⟨rfl, rfl⟩ hs4
  cases hnx : nextOn on 0 with
  | none =>
    have hall : rows.flatten = [] := by
      have h := nextOn_none_inv hnx
      have := low_empty (rows := rows) 17 fun p hp => by
        rcases p with _ | p
        · exact g.zero
        · apply Classical.byContradiction
          intro hn
          have := (hf.ons (p + 1) (by omega) (by omega)).2 hn
          rw [h p (by omega) (by omega)] at this; cases this
      rwa [List.take_of_length_le (by rw [g.len]; omega)] at this
    rw [hall] at hk
    simp [afterV]
    exact hk _ _ _ ⟨rfl, rfl⟩ (Sat.qClose ((Sat.bump hs4 2).bump 2) g hf)
  | some j =>
    obtain ⟨j1, j2, j3, j4⟩ := nextOn_some_inv hnx
    have hne := (hf.ons (j + 1) (by omega) (by omega)).1 j3
    have hj16 : j + 1 ≤ 16 := by
      apply Classical.byContradiction
      intro hn
      exact hne (rowAt_out (by rw [g.len]; omega))
    have hlow := low_empty (rows := rows) (j + 1) fun p hp => by
      rcases p with _ | p
      · exact g.zero
      · apply Classical.byContradiction
        intro hn
        have := (hf.ons (p + 1) (by omega) (by omega)).2 hn
        rw [j4 p (by omega) (by omega)] at this; cases this
    have hrs := hf.rsl
    obtain ⟨l, hb, hl, hll⟩ := Sat.mpCell hs4
    obtain ⟨s, hrp⟩ : ∃ s, rs[j + 1]? = some s := ⟨_, List.getElem?_eq_getElem (by omega)⟩
    have hlp : l[4 + (j + 1)]? = some s := by rw [hl, post_get1 (by omega), hrp]
    have hq := rowAt_get (rows := rows) (p := j + 1) (by rw [g.len]; omega)
    have hs5 := Sat.qOut hs4 hrp hq
    obtain ⟨x, r, hxr⟩ : ∃ x r, rowAt rows (j + 1) = x :: r := by
      cases h : rowAt rows (j + 1) with
      | nil => exact (hne h).elim
      | cons x r => exact ⟨x, r, rfl⟩
    have hhead : rows.flatten.head? = some x := by
      have h1 := take_flat rows (j + 1)
      rw [hlow, List.nil_append, hxr] at h1
      have h2 : rows.flatten = (rows.take (j + 1 + 1)).flatten ++ (rows.drop (j + 1 + 1)).flatten := by rw [← List.flatten_append, List.take_append_drop]
      rw [h2, h1]; rfl
    obtain ⟨b2, c2, ro2, l2, rfl, hb2, hli2, _⟩ := RowI.get hs5 (i := 0) (x := x) (by rw [hxr]; rfl)
    rw [hhead] at hk
    have p1 : (j : Int) + 1 < 17 := by omega
    have p2 : (0 : Int) ≤ (j : Int) + 1 := by omega
    have p3 : ((j : Int) + 1).toNat = j + 1 := by omega
    have hlen : 0 < (rowAt rows (j + 1)).length := by rw [hxr]; simp
    simp [afterV, p1, p2, p3, hb, hb2, hli2, hlp, hlen]
    exact hk _ _ _ ⟨rfl, rfl⟩ (Sat.qClose ((Sat.bump hs4 2).bump 10) g hf)

theorem row_mem {on : Nat → Bool} {q i : Nat} {x : Int} (h : (rowUpto on q)[i]? = some x) : ∃ j : Nat, x = (j : Int) + 1 ∧ j < q ∧ on (j + 1) = true := by
  have := List.mem_of_getElem? h
  unfold rowUpto at this
  simp only [List.mem_map, List.mem_filter, List.mem_range] at this
  obtain ⟨j, ⟨h1, h2⟩, rfl⟩ := this
  exact ⟨j, rfl, h1, h2⟩

theorem AllQ_tri (b : Nat) (rows : QRows) : Tri tab noExt F.ready_Queue_All [ptr b] [QA b rows] fun v P' => ∃ s, v = .s s ∧ P' = [Row encI 1 s rows.flatten, QA b rows] := by
  refine Tri.intro fun ρ H Rs K hs hk => ?_
  apply ready_Queue_All_call
  have hs : Sat ρ H (QA b rows :: Rs) := hs
  obtain ⟨rs, pr, on, g, hf, hs3⟩ := Sat.qOpen hs
  have hrs := hf.rsl
  simp
  refine (MapRow_tri b on _).use (((hs3.bump 1).bump 1).bump 6) ?_
  rintro v H1 P' ⟨sx, rfl, rfl⟩ hs4
  have hlen := Sat.rowLen hs4
  have hall := all_flat' g hf.ons
  have hxl := rowUpto_le on 256
  have hmem : ∀ (i : Nat) x, (rowUpto on 256)[i]? = some x → ∃ j : Nat, x = ((j + 1 : Nat) : Int) ∧ j + 1 ≤ 16 := fun i x hx => by
    obtain ⟨j, rfl, h1, h2⟩ := row_mem hx
    refine ⟨j, by omega, ?_⟩
    apply Classical.byContradiction
    intro hn
    exact (hf.ons (j + 1) (by omega) (by omega)).1 h2 (rowAt_out (by rw [g.len]; omega))
  generalize rowUpto on 256 = xs at *
  have hfl := g.flat
  simp [hlen]
  have hs5 : Sat ρ H1 (MpA b on (rs ++ prC pr) :: (rowsL rs rows ++ (Row encI 1 sx xs :: Rs))) := by
    have h1 : Sat ρ H1 (Row encI 1 sx xs :: (MpA b on (rs ++ prC pr) :: rowsL rs rows) ++ Rs) := hs4
    exact h1.perm List.perm_middle.symm
  have tail : ∀ (T : List AV) (H' : AH) (s : SV), T.length = 26 → sl T 3 = .s s → Sat ρ H' (Row encI 1 s rows.flatten :: MpA b on (rs ++ prC pr) :: (rowsL rs rows ++ (Row encI 1 sx xs :: Rs))) → wpC tab noExt R.ready_Queue_All_s1 T H' (retK [.tmp 2] K) := by
    intro T H' s hT s3 hs
    rw [ready_Queue_All_s1_at hT]
    simp [s3]
    refine (Clip_tri s rows.flatten (by omega)).use (hs.bump 3) ?_
    rintro v H2 P' ⟨s2, rfl, rfl⟩ hs6
    try simp
    refine hk _ _ _ ⟨s2, rfl, rfl⟩ ?_
    have h1 : Sat ρ H2 (Row encI 1 s2 rows.flatten :: MpA b on (rs ++ prC pr) :: (rowsL rs rows ++ (Row encI 1 sx xs :: Rs))) := hs6
    have h2 : Sat ρ H2 ((Row encI 1 s2 rows.flatten :: MpA b on (rs ++ prC pr) :: rowsL rs rows) ++ (Row encI 1 sx xs :: Rs)) := h1
    have h3 : Sat ρ H2 (MpA b on (rs ++ prC pr) :: (rowsL rs rows ++ (Row encI 1 s2 rows.flatten :: Rs))) := by
      have h4 := (h2.perm List.perm_middle).drop
      have h5 : Sat ρ H2 (Row encI 1 s2 rows.flatten :: (MpA b on (rs ++ prC pr) :: rowsL rs rows) ++ Rs) := h4
      exact h5.perm List.perm_middle.symm
    exact (Sat.qClose h3 g hf).swap
  refine loopP_invK (I := fun n T H' => T.length = 26 ∧ sl T 0 = ptr b ∧ sl T 9 = .s sx ∧ sl T 10 = i64 xs.length ∧ ∃ (i : Nat) (s : SV), sl T 11 = i64 i ∧ sl T 3 = .s s ∧ i ≤ xs.length ∧ n = xs.length - i ∧ Sat ρ H' (Row encI 1 s ((xs.take i).flatMap fun x => rowAt rows x.toNat) :: MpA b on (rs ++ prC pr) :: (rowsL rs rows ++ (Row encI 1 sx xs :: Rs)))) ?_ xs.length _ _ ⟨rfl, rfl, rfl, rfl, 0, _, rfl, rfl, Nat.zero_le _, rfl, Sat.mkNil hs5 1⟩
  intro n T H' ⟨hT, s0, s9, s10, i, s, s11, s3, hi, hn, hs⟩ K' kn kr ko
  rw [ready_Queue_All_l0_at hT]
  by_cases hlt : i < xs.length
  · have hlt' : (i : Int) < (xs.length : Int) := by omega
    obtain ⟨x, hx⟩ := get_ex hlt
    obtain ⟨j, rfl, hj⟩ := hmem i x hx
    have hsx : Sat ρ H' (Row encI 1 sx xs :: (Row encI 1 s ((xs.take i).flatMap fun x => rowAt rows x.toNat) :: MpA b on (rs ++ prC pr) :: rowsL rs rows) ++ Rs) := by
      have h1 : Sat ρ H' ((Row encI 1 s ((xs.take i).flatMap fun x => rowAt rows x.toNat) :: MpA b on (rs ++ prC pr) :: rowsL rs rows) ++ (Row encI 1 sx xs :: Rs)) := hs
      exact h1.perm List.perm_middle
    obtain ⟨b2, c2, ro2, l2, rfl, hb2, hli2, _⟩ := RowI.get hsx hx
    obtain ⟨l, hb, hl, hll⟩ := Sat.mpCell hs.swap
    obtain ⟨sp, hrp⟩ : ∃ s, rs[j + 1]? = some s := ⟨_, List.getElem?_eq_getElem (by omega)⟩
    have hlp : l[4 + (j + 1)]? = some sp := by rw [hl, post_get1 (by omega), hrp]
    have hq := rowAt_get (rows := rows) (p := j + 1) (by rw [g.len]; omega)
    have w1 : IntKind.i64.wrap ((i : Int) + 1) = (i : Int) + 1 := wrap_i64 (by omega) (by omega)
    have p1 : ((j + 1 : Nat) : Int) < 17 := by omega
    have p0 : (0 : Int) ≤ ((j + 1 : Nat) : Int) := by omega
    have htk : (xs.take (i + 1)).flatMap (fun x => rowAt rows x.toNat) = (xs.take i).flatMap (fun x => rowAt rows x.toNat) ++ rowAt rows (j + 1) := by
      rw [List.take_add_one, hx, List.flatMap_append]
      congr 1
      simp only [Option.toList_some, List.flatMap_cons, List.flatMap_nil, List.append_nil, Int.toNat_natCast]
    have hle : ((xs.take i).flatMap (fun x => rowAt rows x.toNat)).length + (rowAt rows (j + 1)).length ≤ 16 := by
      have h1 : xs.flatMap (fun x => rowAt rows x.toNat) = (xs.take (i + 1)).flatMap (fun x => rowAt rows x.toNat) ++ (xs.drop (i + 1)).flatMap (fun x => rowAt rows x.toNat) := by rw [← List.flatMap_append, List.take_append_drop]
      rw [hall, htk] at h1
      have := congrArg List.length h1
      simp only [List.length_append] at this
      omega
    generalize (xs.take i).flatMap (fun x => rowAt rows x.toNat) = acc at *
    generalize hjj : j + 1 = jp at *
    simp [s0, s3, s9, s10, s11, hlt, hlt', hb, hb2, hli2, hlp, p1, w1]
    have hs6 := hs.swap.perm (List.Perm.cons _ (List.perm_middle (a := Row encI 1 s acc) (l₁ := rowsL rs rows)).symm)
    have hs7 : Sat ρ H' (Row encI 1 sp (rowAt rows jp) :: MpA b on (rs ++ prC pr) :: ((rowsL rs rows).eraseIdx jp ++ (Row encI 1 s acc :: Row encI 1 (.slice (some (b2, 0)) xs.length c2 1) xs :: Rs))) := Sat.qOut hs6 hrp hq
    have hs8 : Sat ρ H' (Row encI 1 s acc :: (Row encI 1 sp (rowAt rows jp) :: MpA b on (rs ++ prC pr) :: (rowsL rs rows).eraseIdx jp) ++ (Row encI 1 (.slice (some (b2, 0)) xs.length c2 1) xs :: Rs)) := by
      have h1 : Sat ρ H' ((Row encI 1 sp (rowAt rows jp) :: MpA b on (rs ++ prC pr) :: (rowsL rs rows).eraseIdx jp) ++ (Row encI 1 s acc :: Row encI 1 (.slice (some (b2, 0)) xs.length c2 1) xs :: Rs)) := hs7
      exact h1.perm List.perm_middle
    have hs9 := ((hs8.bump 1).bump 3).frees 9 [7] (by decide) (by decide)
    simp only [List.map_cons, List.map_nil, List.cons_append, List.nil_append, bump_next, Nat.add_assoc, Nat.reduceAdd] at hs9
    have hs10 := hs9.swap
    obtain ⟨s', H2, e2, hs11, _⟩ := Sat.append encI_len (n := 0) (bytes := 8) (x := .s sp) (r2 := rowAt rows jp) hs10 ((hs10.front 2 (by simp only [List.length_cons]; omega)).rowSrc encI_len) ((hs10.front 2 (by simp only [List.length_cons]; omega)).rowSl) (by omega)
    refine andThen_of' e2 ?_
    rw [← htk] at hs11
    refine kn (xs.length - (i + 1)) _ _ (by omega) ⟨rfl, rfl, rfl, rfl, i + 1, s', rfl, rfl, hlt, rfl, Sat.bump ?_ _⟩
    have hs12 : Sat ρ H2 (Row encI 1 sp (rowAt rows jp) :: MpA b on (rs ++ prC pr) :: ((rowsL rs rows).eraseIdx jp ++ (Row encI 1 s' ((xs.take (i + 1)).flatMap fun x => rowAt rows x.toNat) :: Row encI 1 (.slice (some (b2, 0)) xs.length c2 1) xs :: Rs))) := by
      have h1 : Sat ρ H2 (Row encI 1 s' ((xs.take (i + 1)).flatMap fun x => rowAt rows x.toNat) :: (Row encI 1 sp (rowAt rows jp) :: MpA b on (rs ++ prC pr) :: (rowsL rs rows).eraseIdx jp) ++ (Row encI 1 (.slice (some (b2, 0)) xs.length c2 1) xs :: Rs)) := hs11
      exact h1.perm List.perm_middle.symm
    have hs13 := hs12.qBack hrp hq
    have h1 : Sat ρ H2 ((MpA b on (rs ++ prC pr) :: rowsL rs rows) ++ (Row encI 1 s' ((xs.take (i + 1)).flatMap fun x => rowAt rows x.toNat) :: Row encI 1 (.slice (some (b2, 0)) xs.length c2 1) xs :: Rs)) := hs13
    exact h1.perm List.perm_middle
  · have hie : i = xs.length := by omega
    subst hie
    simp [s0, s3, s10, s11]
    refine ko _ _ _ ?_
    rw [List.take_length, hall] at hs
    simp
    exact tail _ _ s rfl rfl (hs.bump 1)
end Go.AM
