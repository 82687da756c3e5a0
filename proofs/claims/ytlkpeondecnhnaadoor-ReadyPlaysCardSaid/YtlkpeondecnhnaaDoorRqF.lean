/-
  Those that are ready: Change, Twin.
-/
import Derived.Test.YtlkpeondecnhnaaDoorRqE
namespace Go.AM
attribute [local simp] AH.ld AH.ldn Nat.add_assoc resA resA1 fillA buildA slSlA boundsA boundA callvP

theorem ChangeQ_tri (b : Nat) (rows : QRows) (t p : Int) : Tri tab noExt F.ready_Queue_Change [ptr b, i64 t, i64 p] [QA b rows] fun v P' =>
    ((¬ (1 ≤ p ∧ p ≤ 16) ∨ ∀ q, t ∉ rowAt rows q) ∧ v = bl false ∧ P' = [QA b rows]) ∨
    ((1 ≤ p ∧ p ≤ 16) ∧ ∃ q, t ∈ rowAt rows q ∧ v = bl true ∧ P' = [QA b (putR (delR rows t q) t p.toNat)]) := by
  refine Tri.intro fun ρ H Rs K hs hk => ?_
  apply ready_Queue_Change_call
  refine (may_tri p).use (R := QA b rows :: Rs) ((hs.bump 1).bump 9) ?_
  rintro v H1 P' ⟨rfl, rfl⟩ hs1
  have hs1 : Sat ρ H1 (QA b rows :: Rs) := hs1
  by_cases hp : 1 ≤ p ∧ p ≤ 16
  · rw [decide_eq_true hp]
    simp
    obtain ⟨rs, pr, on, g, hf, _⟩ := Sat.qOpen hs1
    refine (RemoveQ_tri b rows t).use hs1 ?_
    rintro v H2 P' (⟨hno, rfl, rfl⟩ | ⟨q, hm, rfl, rfl⟩) hs2
    · simp
      exact hk _ _ _ (.inl ⟨.inr hno, rfl, rfl⟩) (Sat.bump hs2 1)
    · simp
      have ht := g.lim q t hm
      have hq := g.pos hm
      obtain ⟨u, rfl⟩ : ∃ u : Nat, t = (u : Int) := ⟨t.toNat, by omega⟩
      obtain ⟨w, rfl⟩ : ∃ w : Nat, p = (w : Int) := ⟨p.toNat, by omega⟩
      refine (put_tri b (delR rows u q) u w (by omega) (by omega) fun q' h => ((mem_del g hq.2 hm _ _).1 h).2 rfl).use (Sat.bump hs2 4) ?_
      rintro v H3 P' ⟨rfl, rfl⟩ hs3
      exact hk _ _ _ (.inr ⟨hp, q, hm, rfl, by rw [Int.toNat_natCast]⟩) (Sat.bump hs3 1)
  · rw [decide_eq_false hp]
    simp
    exact hk _ _ _ (.inl ⟨.inl hp, rfl, rfl⟩) (Sat.bump hs1 1)

theorem rowsL_snoc (rs : List SV) (rows : QRows) (s : SV) (r : List Int) (h : rs.length = rows.length) : rowsL (rs ++ [s]) (rows ++ [r]) = rowsL rs rows ++ [Row encI 1 s r] := by
  unfold rowsL
  rw [List.zipWith_append h]; rfl

theorem Sat.mkStoreK {ρ : HF} {H : AH} {R : List Asr} {b : Nat} {Z l : List SV} {K : AH → Prop} (h : Sat ρ H (Fre b :: R)) (hZ : Z.length = l.length) (hk : ∀ H', Sat ρ H' (Cel b l :: R) → K H') : andThen ((H.set b (.cells false Z)).stn b 0 l) K := by
  have h1 := h.mk Z
  refine andThen_of' (stn_of _ h1.cel (by omega)) (hk _ ?_)
  have e : splice Z 0 l = l := by
    unfold splice
    rw [List.take_zero, List.nil_append, List.drop_of_length_le (by omega), List.append_nil]
  rw [e]
  exact h1.set l

theorem TwinQ_tri (b : Nat) (rows : QRows) : Tri tab noExt F.ready_Queue_Twin [ptr b] [QA b rows] fun v P' => ∃ b', v = ptr b' ∧ P' = [QA b' rows, QA b rows] := by
  refine Tri.intro fun ρ H Rs K hs hk => ?_
  apply ready_Queue_Twin_call
  have hs : Sat ρ H (QA b rows :: Rs) := hs
  obtain ⟨rs, pr, on, g, hf, hs3⟩ := Sat.qOpen hs
  have hrs := hf.rsl
  have hpr := hf.prl
  obtain ⟨h0, ws, hm, hs4⟩ := Sat.mpOpen hs3
  have hc := hs4.cel
  have hwl : (wordsC ws).length = 4 := by simp [wordsC, hm.1]
  have hpl := post_len hrs hpr
  have hal : (wordsC ws ++ (rs ++ prC pr)).length = 38 := by rw [List.length_append, hwl, hpl]
  obtain ⟨all, hall⟩ : ∃ all, all = wordsC ws ++ (rs ++ prC pr) := ⟨_, rfl⟩
  have hd17 : (all.drop 4).take 17 = rs := by
    rw [hall, ← hwl, List.drop_left, ← hrs, List.take_left]
  rw [← hall] at hc hal hs4
  have ht38 : all.take 38 = all := List.take_of_length_le (by omega)
  have hs5 := (hs4.bump 1).frees 5 [3] (by decide) (by decide)
  simp only [List.map_cons, List.map_nil, List.cons_append, List.nil_append, bump_next, Nat.add_assoc, Nat.reduceAdd] at hs5
  simp [hc, ht38, hal]
  refine ⟨_, new_of _ hs5.fre, ?_⟩
  show andThen _ _
  refine Sat.mkStoreK hs5 (by rw [hal]; rfl) fun H4 hs6 => ?_
  have hs6 : Sat ρ H4 (Cel (H.next + 4) all :: Cel b all :: (rowsL rs rows ++ Rs)) := hs6
  have hb4 := hs6.swap.cel
  simp [hb4, hd17, hal]
  generalize H.next + 4 = b2 at *
  have hs7 : Sat ρ H4 (MpA b2 on (rs ++ prC pr) :: MpA b on (rs ++ prC pr) :: (rowsL rs rows ++ Rs)) := by
    rw [hall] at hs6
    exact (Sat.mpClose (Sat.mpClose hs6 h0 hm).swap h0 hm).swap
  have tail : ∀ (T : List AV) (H' : AH), T.length = 23 → sl T 3 = ptr b2 → ∀ rs2 : List SV, rs2.length = 17 → Sat ρ H' (MpA b2 on (rs2 ++ prC pr) :: (rowsL rs2 rows ++ (MpA b on (rs ++ prC pr) :: (rowsL rs rows ++ Rs)))) → wpC tab noExt R.ready_Queue_Twin_s1 T H' (retK [.tmp 2] K) := by
    intro T H' hT s3 rs2 hl2 hs
    rw [ready_Queue_Twin_s1_at hT]
    simp [s3]
    refine hk _ _ _ ⟨b2, rfl, rfl⟩ (Sat.bump ?_ 1)
    have h1 := Sat.qClose hs g ⟨hl2, hpr, hf.pri, hf.ons⟩
    have h2 : Sat ρ H' (MpA b on (rs ++ prC pr) :: (rowsL rs rows ++ (QA b2 rows :: Rs))) := by
      have h3 : Sat ρ H' (QA b2 rows :: (MpA b on (rs ++ prC pr) :: rowsL rs rows) ++ Rs) := h1
      exact h3.perm List.perm_middle.symm
    exact (Sat.qClose h2 g hf).swap
  refine loopP_invK (I := fun n T H' => T.length = 23 ∧ sl T 3 = ptr b2 ∧ sl T 12 = .agg rs ∧ ∃ (i : Nat) (rs2 : List SV), sl T 13 = i64 i ∧ i ≤ 17 ∧ n = 17 - i ∧ rs2.length = i ∧ Sat ρ H' (MpA b2 on ((rs2 ++ rs.drop i) ++ prC pr) :: (rowsL rs2 (rows.take i) ++ (MpA b on (rs ++ prC pr) :: (rowsL rs rows ++ Rs))))) ?_ 17 _ _ ⟨rfl, rfl, rfl, 0, [], rfl, by omega, rfl, rfl, by rw [List.drop_zero]; exact hs7.bump 5⟩
  intro n T H' ⟨hT, s3, s12, i, rs2, s13, hi, hn, hl2, hs⟩ K' kn kr ko
  rw [ready_Queue_Twin_l0_at hT]
  by_cases hlt : i < 17
  · have hlt' : (i : Int) < 17 := by omega
    obtain ⟨s, hrp⟩ : ∃ s, rs[i]? = some s := ⟨_, List.getElem?_eq_getElem (by omega)⟩
    have hq := rowAt_get (rows := rows) (p := i) (by rw [g.len]; omega)
    have hsh := g.short i
    have w1 : IntKind.i64.wrap ((i : Int) + 1) = (i : Int) + 1 := wrap_i64 (by omega) (by omega)
    have hix : indexA 17 1 none (.agg rs) (i64 i) = some (.s s) := by
      simp only [indexA]
      rw [if_pos ⟨by omega, hlt'⟩, Int.toNat_natCast, Nat.mul_one, partA_none, hrp]; rfl
    have hsa : Sat ρ H' (MpA b on (rs ++ prC pr) :: (rowsL rs rows ++ ((MpA b2 on ((rs2 ++ rs.drop i) ++ prC pr) :: rowsL rs2 (rows.take i)) ++ Rs))) := by
      have h1 : Sat ρ H' ((MpA b2 on ((rs2 ++ rs.drop i) ++ prC pr) :: rowsL rs2 (rows.take i)) ++ ((MpA b on (rs ++ prC pr) :: rowsL rs rows) ++ Rs)) := hs
      refine (h1.perm ?_ : Sat ρ H' ((MpA b on (rs ++ prC pr) :: rowsL rs rows) ++ ((MpA b2 on ((rs2 ++ rs.drop i) ++ prC pr) :: rowsL rs2 (rows.take i)) ++ Rs)))
      rw [← List.append_assoc, ← List.append_assoc]
      exact List.perm_append_comm.append_right Rs
    have hsb := hsa.qOut hrp hq
    simp [s3, s12, s13, hlt, hlt', hix]
    refine (CloneI_tri s (rowAt rows i) (by omega)).use (((hsb.bump 1).bump 4).bump 6) ?_
    rintro v H5 P' ⟨s', rfl, rfl⟩ hs8
    have hs9 : Sat ρ H5 (Row encI 1 s (rowAt rows i) :: MpA b on (rs ++ prC pr) :: ((rowsL rs rows).eraseIdx i ++ (Row encI 1 s' (rowAt rows i) :: ((MpA b2 on ((rs2 ++ rs.drop i) ++ prC pr) :: rowsL rs2 (rows.take i)) ++ Rs)))) := by
      have h1 : Sat ρ H5 (Row encI 1 s' (rowAt rows i) :: (Row encI 1 s (rowAt rows i) :: MpA b on (rs ++ prC pr) :: (rowsL rs rows).eraseIdx i) ++ ((MpA b2 on ((rs2 ++ rs.drop i) ++ prC pr) :: rowsL rs2 (rows.take i)) ++ Rs)) := hs8
      exact h1.perm List.perm_middle.symm
    have hs10 := hs9.qBack hrp hq
    have hs11 : Sat ρ H5 ((Row encI 1 s' (rowAt rows i) :: MpA b2 on ((rs2 ++ rs.drop i) ++ prC pr) :: rowsL rs2 (rows.take i)) ++ ((MpA b on (rs ++ prC pr) :: rowsL rs rows) ++ Rs)) := by
      have h1 : Sat ρ H5 ((MpA b on (rs ++ prC pr) :: rowsL rs rows) ++ ((Row encI 1 s' (rowAt rows i) :: MpA b2 on ((rs2 ++ rs.drop i) ++ prC pr) :: rowsL rs2 (rows.take i)) ++ Rs)) := hs10
      refine h1.perm ?_
      rw [← List.append_assoc, ← List.append_assoc]
      exact List.perm_append_comm.append_right Rs
    have hs12 : Sat ρ H5 (MpA b2 on ((rs2 ++ rs.drop i) ++ prC pr) :: Row encI 1 s' (rowAt rows i) :: (rowsL rs2 (rows.take i) ++ ((MpA b on (rs ++ prC pr) :: rowsL rs rows) ++ Rs))) := Sat.swap hs11
    have hil : i < (rs2 ++ rs.drop i).length := by rw [List.length_append, List.length_drop]; omega
    obtain ⟨H6, e6, hs13, _⟩ := hs12.mpStore i (by rw [List.length_append]; omega) s'
    rw [post_set1 hil] at hs13
    have hset : (rs2 ++ rs.drop i).set i s' = (rs2 ++ [s']) ++ rs.drop (i + 1) := by
      rw [List.set_append_right _ _ (by omega), hl2, Nat.sub_self, List.append_assoc]
      congr 1
      rw [List.drop_eq_getElem_cons (by omega : i < rs.length)]
      rfl
    rw [hset] at hs13
    have htk : rows.take (i + 1) = rows.take i ++ [rowAt rows i] := by rw [List.take_add_one, hq]; rfl
    have htl : (rows.take i).length = i := by rw [List.length_take, g.len]; omega
    refine andThen_of' (show storeA 1 (.s (.ptr (some (b2, 4 + i)))) (.s s') H5 = some H6 from e6) ?_
    simp [w1]
    refine kn (17 - (i + 1)) _ _ (by omega) ⟨rfl, rfl, rfl, i + 1, rs2 ++ [s'], rfl, hlt, rfl, by simp [hl2], Sat.bump ?_ 2⟩
    rw [htk, rowsL_snoc _ _ _ _ (by rw [htl]; exact hl2)]
    have h9 := hs13.perm (List.Perm.cons _ (List.perm_middle (l₁ := rowsL rs2 (rows.take i))).symm)
    simp only [List.append_assoc, List.cons_append, List.nil_append] at h9 ⊢
    exact h9
  · have hie : i = 17 := by omega
    subst hie
    simp [s3, s12, s13]
    refine ko _ _ _ ?_
    simp
    refine tail _ _ rfl ?_ rs2 hl2 (Sat.bump ?_ 1)
    · first | rfl | exact s3
    rw [List.take_of_length_le (by rw [g.len]; omega), List.drop_of_length_le (by omega), List.append_nil] at hs
    exact hs
end Go.AM
