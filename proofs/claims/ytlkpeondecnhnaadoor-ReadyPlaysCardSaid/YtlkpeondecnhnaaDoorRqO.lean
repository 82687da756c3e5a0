/-
  The document's tasks that are ready: what lies there; its calls.
-/
import Derived.Test.YtlkpeondecnhnaaDoorRqI
namespace Go.AM
attribute [local simp] AH.ld AH.ldn Nat.add_assoc resA resA1 fillA buildA slSlA boundsA boundA callvP

/-- The document's queue lies there. -/
def RfQ (b : Nat) (rows : QRows) : Asr := Asr.ex fun (rs : List SV) => Asr.all (Asr.pure (GoodQ rows ∧ rs.length = 17) :: Cel b rs :: rowsL rs rows)

section
variable {ρ : HF} {H : AH} {R : List Asr} {b : Nat} {rows : QRows}
theorem Sat.fOpen (h : Sat ρ H (RfQ b rows :: R)) : ∃ rs, GoodQ rows ∧ rs.length = 17 ∧ Sat ρ H (Cel b rs :: (rowsL rs rows ++ R)) := by
  obtain ⟨rs, h1⟩ := Sat.ex h
  obtain ⟨⟨g, hl⟩, h2⟩ := Sat.pure (Sat.all h1)
  exact ⟨rs, g, hl, h2⟩

theorem Sat.fClose {rs : List SV} (h : Sat ρ H (Cel b rs :: (rowsL rs rows ++ R))) (g : GoodQ rows) (hl : rs.length = 17) : Sat ρ H (RfQ b rows :: R) :=
  Sat.mkEx rs (Sat.mkAll (Sat.mkPure ⟨g, hl⟩ h))

theorem splice_set {l : List SV} {i : Nat} (hi : i < l.length) (x : SV) : splice l i [x] = l.set i x := by
  unfold splice
  rw [List.set_eq_take_append_cons_drop, if_pos hi]; rfl

theorem Sat.celStore {l : List SV} (h : Sat ρ H (Cel b l :: R)) (i : Nat) (hi : i < l.length) (x : SV) : ∃ H', H.stn b i [x] = some H' ∧ Sat ρ H' (Cel b (l.set i x) :: R) ∧ H'.next = H.next := by
  refine ⟨_, stn_of H h.cel (by rw [List.length_singleton]; omega), ?_, rfl⟩
  rw [splice_set hi]
  exact Sat.set h _
end

theorem good9_tri (t : Int) : Tri tab noExt F.detentref9_good [i64 t] [] fun v P' => v = bl (decide (1 ≤ t ∧ t ≤ 16)) ∧ P' = [] := by
  refine Tri.intro fun ρ H Rs K hs hk => ?_
  apply detentref9_good_call
  by_cases h1 : 1 ≤ t
  · by_cases h2 : t ≤ 16
    · simp [h1, h2]
      exact hk _ _ _ ⟨by rw [decide_eq_true ⟨h1, h2⟩], rfl⟩ (by (repeat refine Sat.bump ?_ _); exact hs)
    · simp [h1, h2]
      exact hk _ _ _ ⟨by rw [decide_eq_false fun h => h2 h.2], rfl⟩ (by (repeat refine Sat.bump ?_ _); exact hs)
  · simp [h1]
    exact hk _ _ _ ⟨by rw [decide_eq_false fun h => h1 h.1], rfl⟩ (by (repeat refine Sat.bump ?_ _); exact hs)

theorem RPri_tri (b : Nat) (rows : QRows) (t : Int) : Tri tab noExt F.detentref9_Queue_Pri [ptr b, i64 t] [RfQ b rows] fun v P' => v = i64 (priQ rows t : Int) ∧ P' = [RfQ b rows] := by
  refine Tri.intro fun ρ H Rs K hs hk => ?_
  apply detentref9_Queue_Pri_call
  have hs : Sat ρ H (RfQ b rows :: Rs) := hs
  obtain ⟨rs, g, hl, hs3⟩ := Sat.fOpen hs
  refine loopP_invK (I := fun n T H' => T.length = 34 ∧ sl T 0 = ptr b ∧ sl T 1 = i64 t ∧ ∃ p : Nat, sl T 5 = i64 p ∧ p ≤ 17 ∧ n = 17 - p ∧ (∀ q, q < p → t ∉ rowAt rows q) ∧ Sat ρ H' (Cel b rs :: (rowsL rs rows ++ Rs))) ?_ 16 _ _ ⟨rfl, rfl, rfl, 1, rfl, by omega, rfl, fun q hq => by rw [show q = 0 by omega, g.zero]; simp, (hs3.bump 1).bump 1⟩
  rintro n T H' ⟨hT, s0, s1, p, s5, hp, hn, hno, hs⟩ K' kn kr ko
  rw [detentref9_Queue_Pri_l2_at hT]
  by_cases hlt : p ≤ 16
  · have hlt' : (p : Int) ≤ 16 := by omega
    have p1 : (p : Int) < 17 := by omega
    obtain ⟨s, hrp⟩ : ∃ s, rs[p]? = some s := ⟨_, List.getElem?_eq_getElem (by omega)⟩
    have hq := rowAt_get (rows := rows) (p := p) (by rw [g.len]; omega)
    have hsh := g.short p
    have w1 : IntKind.i64.wrap ((p : Int) + 1) = (p : Int) + 1 := wrap_i64 (by omega) (by omega)
    have step : ∀ (T : List AV) (H' : AH), T.length = 34 → sl T 0 = ptr b → sl T 1 = i64 t → sl T 5 = i64 p → (∀ j, j < (rowAt rows p).length → (rowAt rows p)[j]? ≠ some t) → Sat ρ H' (Cel b rs :: (rowsL rs rows ++ Rs)) → wpC tab noExt R.detentref9_Queue_Pri_s1 T H' K' := by
      intro T H' hT s0 s1 s5 hnot hs
      rw [detentref9_Queue_Pri_s1_at hT]
      simp [s0, s1, s5, w1]
      refine kn (17 - (p + 1)) _ _ (by omega) ⟨rfl, rfl, rfl, p + 1, rfl, by omega, rfl, fun q hq => ?_, hs.bump 3⟩
      by_cases e : q = p
      · subst e
        intro hm
        obtain ⟨j, hj⟩ := List.mem_iff_getElem?.1 hm
        exact hnot j (List.getElem?_eq_some_iff.1 hj).1 hj
      · exact hno q (by omega)
    simp [s0, s1, s5, hlt, hlt']
    refine loopP_invK (I := fun n T H' => T.length = 34 ∧ sl T 0 = ptr b ∧ sl T 1 = i64 t ∧ sl T 5 = i64 p ∧ ∃ i : Nat, sl T 6 = i64 i ∧ i ≤ (rowAt rows p).length ∧ n = (rowAt rows p).length - i ∧ (∀ j, j < i → (rowAt rows p)[j]? ≠ some t) ∧ Sat ρ H' (Cel b rs :: (rowsL rs rows ++ Rs))) ?_ (rowAt rows p).length _ _ ⟨rfl, rfl, rfl, rfl, 0, rfl, Nat.zero_le _, rfl, fun j hj => by omega, (hs.bump 2).bump 1⟩
    rintro n2 T2 H2 ⟨hT2, u0, u1, u5, i, u6, hi, hn2, hnot, hs2⟩ K2 kn2 kr2 ko2
    rw [detentref9_Queue_Pri_l0_at hT2]
    have hb := hs2.cel
    have hs4 := hs2.qOut hrp hq
    have l1 := Sat.rowLen hs4
    by_cases hlt2 : i < (rowAt rows p).length
    · have hlt2' : (i : Int) < ((rowAt rows p).length : Int) := by omega
      have w2 : IntKind.i64.wrap ((i : Int) + 1) = (i : Int) + 1 := wrap_i64 (by omega) (by omega)
      obtain ⟨x, hx⟩ := get_ex hlt2
      obtain ⟨b2, c2, ro, l, rfl, hb2, hl2, _⟩ := RowI.get hs4 hx
      by_cases hxt : x = t
      · subst hxt
        simp [u0, u1, u5, u6, hb, hrp, p1, hlt2, hlt2', hb2, hl2]
        refine kr2 _ _ ?_
        simp
        refine kr _ _ ?_
        simp
        refine hk _ _ _ ⟨by rw [priQ_some g (List.mem_of_getElem? hx)], rfl⟩ (Sat.fClose ?_ g hl)
        exact ((hs2.bump 9).bump 11).bump 2
      · simp [u0, u1, u5, u6, hb, hrp, p1, hlt2, hlt2', hb2, hl2, hxt, w2]
        refine kn2 ((rowAt rows p).length - (i + 1)) _ _ (by omega) ⟨rfl, rfl, rfl, rfl, i + 1, rfl, hlt2, rfl, fun j hj => ?_, ((hs2.bump 9).bump 11).bump 3⟩
        by_cases e : j = i
        · subst e; rw [hx]; exact fun h => hxt (Option.some.inj h)
        · exact hnot j (by omega)
    · have hie : i = (rowAt rows p).length := by omega
      subst hie
      simp [u0, u5, u6, hb, hrp, p1, l1]
      refine ko2 _ _ _ ?_
      simp
      refine step _ _ rfl rfl ?_ rfl hnot (hs2.bump 9)
      first | rfl | exact u1
  · have hpe : p = 17 := by omega
    subst hpe
    simp [s5]
    refine ko _ _ _ ?_
    simp
    rw [detentref9_Queue_Pri_s3_at rfl]
    simp
    have : priQ rows t = 0 := priQ_none g fun q hq => by
      by_cases e : q < 17
      · exact hno q e hq
      · rw [rowAt_out (by rw [g.len]; omega)] at hq; cases hq
    rw [this] at hk
    exact hk _ _ _ ⟨rfl, rfl⟩ (Sat.fClose ((hs.bump 2).bump 1) g hl)

/-- append(append([]int{}, row...), x) -/
theorem Sat.appendTwo {ρ : HF} {H : AH} {R : List Asr} {b1 b2 b3 b4 : Nat} {x : AV} {r2 : List Int} {t : Int} (h : Sat ρ H (Fre b1 :: Fre b2 :: Fre b3 :: Fre b4 :: R)) (hx : ∀ H', Sat ρ H' (Fre b2 :: Fre b3 :: Fre b4 :: R) → sliceCells 1 x r2.length H' = some (flat encI r2)) (hn : slLen x = some r2.length) (hb : r2.length ≤ 1000) {K : AV × AH → Prop}
    (hK : ∀ s' H', Sat ρ H' (Row encI 1 s' (r2 ++ [t]) :: R) → K (.s s', H')) :
    andThen (H.new b1 (.cells false [])) fun H1 => andThen (appendA 1 8 b2 (.s (.slice (some (b1, 0)) 0 0 1)) x H1) fun r => andThen (r.2.new b3 (.cells false [.int .i64 t])) fun H2 => andThen (appendA 1 8 b4 r.1 (.s (.slice (some (b3, 0)) 1 1 1)) H2) K := by
  refine Sat.copy encI_len h hx hn (by omega) fun s' H' _ hs1 => ?_
  have hs2 : Sat ρ H' (Fre b3 :: Row encI 1 s' r2 :: Fre b4 :: R) := hs1.swap
  refine ⟨_, new_of _ hs2.fre, ?_⟩
  have hs3 := hs2.mk [.int .i64 t]
  have hs4 : Sat ρ _ (Row encI 1 s' r2 :: Fre b4 :: Cel b3 [.int .i64 t] :: R) := Sat.re hs3 [1, 2, 0] (by simp) (by decide)
  obtain ⟨s2, H2, e2, hs5, _⟩ := Sat.append1 (x := b3) (e := t) (o := 0) (l := [.int .i64 t]) (bytes := 8) (c := 1) encI_len hs4 rfl (by simp) (by omega)
  exact ⟨_, e2, hK _ _ (Sat.drop hs5.swap)⟩

theorem Sat.appendTwoW {ρ : HF} {H : AH} {R : List Asr} {b1 b2 b3 b4 : Nat} {x : AV} {r2 : List Int} {t : Int} (h : Sat ρ H (Fre b1 :: Fre b2 :: Fre b3 :: Fre b4 :: R)) (hx : ∀ H', Sat ρ H' (Fre b2 :: Fre b3 :: Fre b4 :: R) → sliceCells 1 x r2.length H' = some (flat encI r2)) (hn : slLen x = some r2.length) (hb : r2.length ≤ 1000) {K : AV × AH → Prop}
    {W : AH → Prop} (hW : ∀ H', Sat ρ H' R → W H')
    (hK : ∀ s' H', Sat ρ H' (Row encI 1 s' (r2 ++ [t]) :: R) → K (.s s', H')) :
    andThen (H.new b1 (.cells false [])) fun H1 => andThen (appendA 1 8 b2 (.s (.slice (some (b1, 0)) 0 0 1)) x H1) fun r => W r.2 ∧ andThen (r.2.new b3 (.cells false [.int .i64 t])) fun H2 => andThen (appendA 1 8 b4 r.1 (.s (.slice (some (b3, 0)) 1 1 1)) H2) K := by
  refine Sat.copy encI_len h hx hn (by omega) fun s' H' _ hs1 => ⟨hW _ (Sat.drop (Sat.drop (Sat.drop hs1))), ?_⟩
  have hs2 : Sat ρ H' (Fre b3 :: Row encI 1 s' r2 :: Fre b4 :: R) := hs1.swap
  refine ⟨_, new_of _ hs2.fre, ?_⟩
  have hs3 := hs2.mk [.int .i64 t]
  have hs4 : Sat ρ _ (Row encI 1 s' r2 :: Fre b4 :: Cel b3 [.int .i64 t] :: R) := Sat.re hs3 [1, 2, 0] (by simp) (by decide)
  obtain ⟨s2, H2, e2, hs5, _⟩ := Sat.append1 (x := b3) (e := t) (o := 0) (l := [.int .i64 t]) (bytes := 8) (c := 1) encI_len hs4 rfl (by simp) (by omega)
  exact ⟨_, e2, hK _ _ (Sat.drop hs5.swap)⟩

theorem RAdd (b : Nat) (rows : QRows) (t p : Int) : Tri tab noExt F.detentref9_Queue_Add [ptr b, i64 t, i64 p] [RfQ b rows] fun v P' => v = i64 (addQ rows t p).1 ∧ P' = [RfQ b (addQ rows t p).2] := by
  refine Tri.intro fun ρ H Rs K hs hk => ?_
  apply detentref9_Queue_Add_call
  have hs : Sat ρ H (RfQ b rows :: Rs) := hs
  unfold addQ at hk
  by_cases t1 : 1 ≤ t
  · by_cases t2 : t ≤ 16
    · have t1' : ¬ t < 1 := by omega
      have t2' : ¬ 16 < t := by omega
      simp [t1', t2']
      refine (good9_tri p).use (R := RfQ b rows :: Rs) ((hs.bump 1).bump 11) ?_
      rintro v H1 P' ⟨rfl, rfl⟩ hs1
      have hs1 : Sat ρ H1 (RfQ b rows :: Rs) := hs1
      by_cases hp : 1 ≤ p ∧ p ≤ 16
      · rw [decide_eq_true hp]
        rw [if_pos ⟨t1, t2, hp⟩] at hk
        simp
        refine (RPri_tri b rows t).use (hs1.bump 4) ?_
        rintro v H2 P' ⟨rfl, rfl⟩ hs2
        have hs2 : Sat ρ H2 (RfQ b rows :: Rs) := hs2
        by_cases h0 : priQ rows t = 0
        · rw [if_pos h0] at hk
          obtain ⟨q, rfl⟩ : ∃ q : Nat, p = (q : Int) := ⟨p.toNat, by omega⟩
          rw [Int.toNat_natCast] at hk
          obtain ⟨u, rfl⟩ : ∃ u : Nat, t = (u : Int) := ⟨t.toNat, by omega⟩
          obtain ⟨rs, g, hl, hs3⟩ := Sat.fOpen hs2
          have p1 : (q : Int) < 17 := by omega
          obtain ⟨s, hrp⟩ : ∃ s, rs[q]? = some s := ⟨_, List.getElem?_eq_getElem (by omega)⟩
          have hq := rowAt_get (rows := rows) (p := q) (by rw [g.len]; omega)
          have hsh := g.short q
          have hb := hs3.cel
          have hs4 := hs3.qOut hrp hq
          have hs5 := hs4.frees 17 [2, 9, 11, 12] (by decide) (by decide)
          simp only [List.map_cons, List.map_nil, List.cons_append, List.nil_append] at hs5
          have hno : ∀ r, (u : Int) ∉ rowAt rows r := by
            rcases priQ_is g (u : Int) with ⟨_, h⟩ | h
            · exact h
            · rw [h0] at h; rw [g.zero] at h; cases h
          simp [h0, hb, hrp, p1]
          refine Sat.appendTwo hs5 (x := .s s) (r2 := rowAt rows q) (fun H' h => (h.front 3 (by simp; omega)).rowSrc encI_len) hs4.rowSl (by omega) fun s' H' hs6 => ?_
          have hs7 : Sat ρ H' (Cel b rs :: Row encI 1 s' (rowAt rows q ++ [(u : Int)]) :: Row encI 1 s (rowAt rows q) :: ((rowsL rs rows).eraseIdx q ++ Rs)) := Sat.re hs6 [2, 0, 1] (by simp; omega) (by decide)
          obtain ⟨H3, e3, hs8, _⟩ := hs7.celStore q (by omega) s'
          simp
          refine andThen_of' (show storeA 1 (.s (.ptr (some (b, q)))) (.s s') H' = some H3 from e3) ?_
          refine hk _ _ _ ⟨rfl, rfl⟩ (Sat.bump ?_ 1)
          have hs9 : Sat ρ H3 (Row encI 1 s' (rowAt rows q ++ [(u : Int)]) :: Cel b (rs.set q s') :: ((rowsL rs rows).eraseIdx q ++ Rs)) := Sat.sel hs8 [1, 0] 3 (by simp; omega) (by decide)
          have hs10 := hs9.qIn (by omega) (by rw [g.len]; omega)
          exact Sat.fClose hs10 (g.put (by omega) (by omega) (by omega) hno) (by rw [List.length_set]; exact hl)
        · rw [if_neg h0] at hk
          have h00 : 0 < priQ rows t := by omega
          simp [h00]
          exact hk _ _ _ ⟨rfl, rfl⟩ (hs2.bump 1)
      · rw [decide_eq_false hp]
        rw [if_neg fun h => hp h.2.2] at hk
        simp
        exact hk _ _ _ ⟨rfl, rfl⟩ (hs1.bump 1)
    · have t1' : ¬ t < 1 := by omega
      have t2' : 16 < t := by omega
      rw [if_neg fun h => t2 h.2.1] at hk
      simp [t1', t2']
      exact hk _ _ _ ⟨rfl, rfl⟩ (by (repeat refine Sat.bump ?_ _); exact hs)
  · have t1' : t < 1 := by omega
    rw [if_neg fun h => t1 h.1] at hk
    simp [t1']
    exact hk _ _ _ ⟨rfl, rfl⟩ (by (repeat refine Sat.bump ?_ _); exact hs)

theorem RRem (b : Nat) (rows : QRows) (t : Int) : Tri tab noExt F.detentref9_Queue_Remove [ptr b, i64 t] [RfQ b rows] fun v P' => v = bl (remQ rows t).1 ∧ P' = [RfQ b (remQ rows t).2] := by
  refine Tri.intro fun ρ H Rs K hs hk => ?_
  apply detentref9_Queue_Remove_call
  have hs : Sat ρ H (RfQ b rows :: Rs) := hs
  unfold remQ at hk
  refine (RPri_tri b rows t).use ((hs.bump 1).bump 4) ?_
  rintro v H1 P' ⟨rfl, rfl⟩ hs1
  have hs1 : Sat ρ H1 (RfQ b rows :: Rs) := hs1
  by_cases h0 : priQ rows t = 0
  · rw [if_pos h0] at hk
    simp [h0]
    exact hk _ _ _ ⟨rfl, rfl⟩ ((hs1.bump 2).bump 1)
  · rw [if_neg h0] at hk
    simp [h0]
    obtain ⟨rs, g, hl, hs3⟩ := Sat.fOpen hs1
    have hm : t ∈ rowAt rows (priQ rows t) := by
      rcases priQ_is g t with ⟨h, _⟩ | h
      · exact (h0 h).elim
      · exact h
    have hpp := g.pos hm
    generalize priQ rows t = q at *
    have p1 : (q : Int) < 17 := by omega
    obtain ⟨s, hrp⟩ : ∃ s, rs[q]? = some s := ⟨_, List.getElem?_eq_getElem (by omega)⟩
    have hq := rowAt_get (rows := rows) (p := q) (by rw [g.len]; omega)
    have hsh := g.short q
    have hdel := g.del hpp.1 hpp.2 hm
    unfold delR at hdel hk
    generalize rowAt rows q = r at *
    have tail : ∀ (T : List AV) (H' : AH) (s' : SV), T.length = 53 → sl T 0 = ptr b → sl T 5 = i64 q → sl T 6 = .s s' → Sat ρ H' (Row encI 1 s' (r.filter fun x => decide (x ≠ t)) :: Cel b rs :: (rowsL rs rows ++ Rs)) → wpC tab noExt R.detentref9_Queue_Remove_s1 T H' (retK [.tmp 4] K) := by
      intro T H' s' hT s0 s5 s6 hs
      rw [detentref9_Queue_Remove_s1_at hT]
      obtain ⟨H3, e3, hs8, _⟩ := (hs.swap.bump 7).celStore q (by omega) s'
      simp [s0, s5, s6, p1]
      refine andThen_of' (show storeA 1 (.s (.ptr (some (b, q)))) (.s s') (H'.bump 7) = some H3 from e3) ?_
      have hs10 : Sat ρ H3 (Cel b (rs.set q s') :: (rowsL rs rows ++ (Row encI 1 s' (r.filter fun x => decide (x ≠ t)) :: Rs))) := hs8.perm (List.Perm.cons _ List.perm_middle.symm)
      have hs11 : Sat ρ H3 (Row encI 1 s' (r.filter fun x => decide (x ≠ t)) :: Cel b (rs.set q s') :: ((rowsL rs rows).eraseIdx q ++ Rs)) := by
        have h1 := hs10.qOut hrp hq
        have h2 : Sat ρ H3 (Cel b (rs.set q s') :: ((rowsL rs rows).eraseIdx q ++ (Row encI 1 s' (r.filter fun x => decide (x ≠ t)) :: Rs))) := h1.drop
        exact (h2.perm (List.Perm.cons _ List.perm_middle)).swap
      refine hk _ _ _ ⟨rfl, rfl⟩ (Sat.bump ?_ 1)
      exact Sat.fClose (hs11.qIn (by omega) (by rw [g.len]; omega)) hdel (by rw [List.length_set]; exact hl)
    refine loopP_invK (I := fun n T H' => T.length = 53 ∧ sl T 0 = ptr b ∧ sl T 1 = i64 t ∧ sl T 5 = i64 q ∧ ∃ (i : Nat) (s' : SV), sl T 7 = i64 i ∧ sl T 6 = .s s' ∧ i ≤ r.length ∧ n = r.length - i ∧ Sat ρ H' (Row encI 1 s' ((r.take i).filter fun x => decide (x ≠ t)) :: Cel b rs :: (rowsL rs rows ++ Rs))) ?_ r.length _ _ ⟨rfl, rfl, rfl, rfl, 0, _, rfl, rfl, Nat.zero_le _, rfl, Sat.mkNil (((hs3.bump 2).bump 1).bump 1) 1⟩
    rintro n T H' ⟨hT, s0, s1, s5, i, s', s7, s6, hi, hn, hs⟩ K' kn kr ko
    rw [detentref9_Queue_Remove_l0_at hT]
    have hs2 : Sat ρ H' (Cel b rs :: (rowsL rs rows ++ (Row encI 1 s' ((r.take i).filter fun x => decide (x ≠ t)) :: Rs))) := hs.swap.perm (List.Perm.cons _ List.perm_middle.symm)
    have hb := hs2.cel
    have hs4 := hs2.qOut hrp hq
    have l1 := Sat.rowLen hs4
    by_cases hlt : i < r.length
    · have hlt' : (i : Int) < (r.length : Int) := by omega
      have w2 : IntKind.i64.wrap ((i : Int) + 1) = (i : Int) + 1 := wrap_i64 (by omega) (by omega)
      obtain ⟨x, hx⟩ := get_ex hlt
      obtain ⟨b2, c2, ro, l, rfl, hb2, hl2, _⟩ := RowI.get hs4 hx
      have htk : r.take (i + 1) = r.take i ++ [x] := by rw [List.take_add_one, hx]; rfl
      by_cases hxt : x = t
      · simp [s0, s1, s5, s7, hb, hrp, p1, hlt, hlt', hb2, hl2, hxt, w2]
        refine kn (r.length - (i + 1)) _ _ (by omega) ⟨rfl, rfl, rfl, rfl, i + 1, s', rfl, s6, hlt, rfl, ?_⟩
        rw [htk, List.filter_append, hxt, List.filter_cons_of_neg (by simp), List.filter_nil, List.append_nil]
        exact ((hs.bump 9).bump 11).bump 3
      · have hbt : (r.take i).length ≤ 16 := by rw [List.length_take]; omega
        have hbt2 := List.length_filter_le (fun x => decide (x ≠ t)) (r.take i)
        have hs5 := (((hs.bump 9).bump 11)).frees 13 [10, 11] (by decide) (by decide)
        simp only [List.map_cons, List.map_nil, List.cons_append, List.nil_append, bump_next] at hs5
        simp [s0, s1, s5, s6, s7, hb, hrp, p1, hlt, hlt', hb2, hl2, hxt, w2]
        simp only [Nat.add_assoc, Nat.reduceAdd] at hs5
        refine ⟨_, new_of _ hs5.fre, ?_⟩
        have hs6 := hs5.mk [.int .i64 x]
        have hs7 := Sat.re hs6 [2, 1, 0] (by simp; omega) (by decide)
        obtain ⟨s2, H2, e2, hs8, _⟩ := Sat.append1 (e := x) (o := 0) (l := [.int .i64 x]) (bytes := 8) (c := 1) encI_len hs7 rfl (by simp) (by omega)
        refine ⟨_, e2, ?_⟩
        refine kn (r.length - (i + 1)) _ _ (by omega) ⟨rfl, rfl, rfl, rfl, i + 1, s2, rfl, rfl, hlt, rfl, Sat.bump ?_ 3⟩
        rw [htk, List.filter_append, List.filter_cons_of_pos (by simp [hxt])]
        exact Sat.drop hs8.swap
    · have hie : i = r.length := by omega
      subst hie
      simp [s0, s5, s7, hb, hrp, p1, l1]
      refine ko _ _ _ ?_
      simp
      rw [List.take_length] at hs
      refine tail _ _ s' rfl rfl ?_ ?_ (hs.bump 9)
      · first | rfl | exact s5
      · first | rfl | exact s6

theorem RChg (b : Nat) (rows : QRows) (t p : Int) : Tri tab noExt F.detentref9_Queue_Change [ptr b, i64 t, i64 p] [RfQ b rows] fun v P' => v = bl (chgQ rows t p).1 ∧ P' = [RfQ b (chgQ rows t p).2] := by
  refine Tri.intro fun ρ H Rs K hs hk => ?_
  apply detentref9_Queue_Change_call
  have hs : Sat ρ H (RfQ b rows :: Rs) := hs
  unfold chgQ at hk
  refine (good9_tri p).use (R := RfQ b rows :: Rs) ((hs.bump 1).bump 9) ?_
  rintro v H1 P' ⟨rfl, rfl⟩ hs1
  have hs1 : Sat ρ H1 (RfQ b rows :: Rs) := hs1
  by_cases hp : 1 ≤ p ∧ p ≤ 16
  · rw [decide_eq_true hp]
    simp
    refine (RRem b rows t).use hs1 ?_
    rintro v H2 P' ⟨rfl, rfl⟩ hs2
    unfold remQ at hs2 ⊢
    by_cases h0 : priQ rows t = 0
    · rw [if_neg fun h => h.2 h0] at hk
      rw [if_pos h0] at hs2 ⊢
      simp
      exact hk _ _ _ ⟨rfl, rfl⟩ (Sat.bump hs2 1)
    · rw [if_pos ⟨hp, h0⟩] at hk
      rw [if_neg h0] at hs2 ⊢
      simp
      obtain ⟨_, g, _, _⟩ := Sat.fOpen hs1
      have hm : t ∈ rowAt rows (priQ rows t) := by
        rcases priQ_is g t with ⟨h, _⟩ | h
        · exact (h0 h).elim
        · exact h
      have hq := g.pos hm
      have ht := g.lim _ t hm
      have g2 := g.del hq.1 hq.2 hm
      have hno : ∀ r, t ∉ rowAt (delR rows t (priQ rows t)) r := fun r hr => ((mem_del g hq.2 hm _ _).1 hr).2 rfl
      refine (RAdd b (delR rows t (priQ rows t)) t p).use (Sat.bump hs2 4) ?_
      rintro v H3 P' ⟨rfl, rfl⟩ hs3
      unfold addQ at hs3
      rw [if_pos ⟨ht.1, ht.2, hp⟩, if_pos (priQ_none g2 hno)] at hs3
      exact hk _ _ _ ⟨rfl, rfl⟩ (Sat.bump hs3 1)
  · rw [decide_eq_false hp]
    rw [if_neg fun h => hp h.1] at hk
    simp
    exact hk _ _ _ ⟨rfl, rfl⟩ (Sat.bump hs1 1)

theorem RRot (b : Nat) (rows : QRows) (p : Int) : Tri tab noExt F.detentref9_Queue_Rotate [ptr b, i64 p] [RfQ b rows] fun v P' => v = i64 (rotQ rows p).1 ∧ P' = [RfQ b (rotQ rows p).2] := by
  refine Tri.intro fun ρ H Rs K hs hk => ?_
  apply detentref9_Queue_Rotate_call
  have hs : Sat ρ H (RfQ b rows :: Rs) := hs
  unfold rotQ at hk
  refine (good9_tri p).use (R := RfQ b rows :: Rs) ((hs.bump 1).bump 3) ?_
  rintro v H1 P' ⟨rfl, rfl⟩ hs1
  have hs1 : Sat ρ H1 (RfQ b rows :: Rs) := hs1
  by_cases hp : 1 ≤ p ∧ p ≤ 16
  · rw [decide_eq_true hp]
    rw [if_pos hp] at hk
    obtain ⟨q, rfl⟩ : ∃ q : Nat, p = (q : Int) := ⟨p.toNat, by omega⟩
    rw [Int.toNat_natCast] at hk
    obtain ⟨rs, g, hl, hs3⟩ := Sat.fOpen hs1
    have p1 : (q : Int) < 17 := by omega
    obtain ⟨s, hrp⟩ : ∃ s, rs[q]? = some s := ⟨_, List.getElem?_eq_getElem (by omega)⟩
    have hq := rowAt_get (rows := rows) (p := q) (by rw [g.len]; omega)
    have hsh := g.short q
    have hgr := g.rot (p := q) (by omega) (by omega)
    have hb := hs3.cel
    have hs4 := hs3.qOut hrp hq
    have l1 := Sat.rowLen hs4
    by_cases h1 : 1 < (rowAt rows q).length
    · have h1' : (1 : Int) < ((rowAt rows q).length : Int) := by omega
      have h0' : (0 : Int) < ((rowAt rows q).length : Int) := by omega
      unfold rotR at hgr hk
      obtain ⟨x, r, hxr⟩ : ∃ x r, rowAt rows q = x :: r := by
        cases h : rowAt rows q with
        | nil => rw [h] at h1; simp at h1
        | cons x r => exact ⟨x, r, rfl⟩
      have hrl : (rowAt rows q).length = r.length + 1 := by rw [hxr]; rfl
      have hdrop : (rowAt rows q).drop 1 = r := by rw [hxr]; rfl
      have htake : (rowAt rows q).take 1 = [x] := by rw [hxr]; rfl
      rw [hdrop, htake] at hgr hk
      obtain ⟨b2, c2, ro, l, rfl, hb2, hl2, _⟩ := RowI.get hs4 (i := 0) (x := x) (by rw [hxr]; rfl)
      have hc : ((rowAt rows q).length : Int) ≤ (c2 : Int) ∧ (rowAt rows q).length ≤ c2 := by
        obtain ⟨_, c3, _, e, _, _, h5⟩ := Sat.rowBlk (s := .slice (some (b2, 0)) (rowAt rows q).length c2 1) hs4 (by omega)
        cases e
        omega
      have h2' : (1 : Int) ≤ ((rowAt rows q).length : Int) := by omega
      have h2 : 1 ≤ (rowAt rows q).length := by omega
      have hs5 := ((hs4.bump 7).bump 3).frees 15 [2, 5, 9, 10] (by decide) (by decide)
      simp only [List.map_cons, List.map_nil, List.cons_append, List.nil_append, bump_next, Nat.add_assoc, Nat.reduceAdd] at hs5
      simp [hb, hrp, p1, h0', h1', h2', h2, hc.1, hc.2, hb2, hl2]
      have hrl' : r.length = (rowAt rows q).length - 1 := by omega
      refine ⟨by omega, ?_⟩
      refine Sat.appendTwoW (W := fun H' => (match H'.blk b2 with | some (Blk.cells _ l) => l[0]? | _ => none) = some (SV.int .i64 x)) hs5 (x := .s (.slice (some (b2, 1)) ((rowAt rows q).length - 1) (c2 - 1) 1)) (r2 := r) (fun H' h => ?_) (by rw [hrl']; rfl) (by omega) (fun H' h => ?_) fun s' H' hs6 => ?_
      · have h2 := (h.front 3 (by simp; omega)).partSrc (o := 1) (l := 1) (n := (rowAt rows q).length - 1) (c' := c2 - 1) encI_len rfl (by omega)
        rw [hdrop, List.take_of_length_le (by omega)] at h2
        rw [hrl']; exact h2
      · obtain ⟨_, _, _, l3, e3, hb3, hl3, _⟩ := RowI.get h (i := 0) (x := x) (by rw [hxr]; rfl)
        cases e3
        show (match H'.blk b2 with | some (Blk.cells _ l) => l[0]? | _ => none) = some (SV.int .i64 x)
        rw [hb3]; exact hl3
      · have hs7 : Sat ρ H' (Cel b rs :: Row encI 1 s' (r ++ [x]) :: Row encI 1 (.slice (some (b2, 0)) (rowAt rows q).length c2 1) (rowAt rows q) :: ((rowsL rs rows).eraseIdx q ++ Rs)) := Sat.re hs6 [2, 0, 1] (by simp; omega) (by decide)
        obtain ⟨H3, e3, hs8, _⟩ := hs7.celStore q (by omega) s'
        simp
        refine andThen_of' (show storeA 1 (.s (.ptr (some (b, q)))) (.s s') H' = some H3 from e3) ?_
        refine hk _ _ _ ⟨rfl, rfl⟩ (Sat.bump ?_ 1)
        have hs9 : Sat ρ H3 (Row encI 1 s' (r ++ [x]) :: Cel b (rs.set q s') :: ((rowsL rs rows).eraseIdx q ++ Rs)) := Sat.sel hs8 [1, 0] 3 (by simp; omega) (by decide)
        exact Sat.fClose (hs9.qIn (by omega) (by rw [g.len]; omega)) hgr (by rw [List.length_set]; exact hl)
    · have h1' : ¬ (1 : Int) < ((rowAt rows q).length : Int) := by omega
      have hsame : rotR rows q = rows := by
        unfold rotR
        have : (rowAt rows q).drop 1 ++ (rowAt rows q).take 1 = rowAt rows q := by
          rw [List.drop_of_length_le (by omega), List.take_of_length_le (by omega)]; rfl
        rw [this]
        exact set_same hq
      rw [hsame] at hk
      simp [hb, hrp, p1, l1, h1']
      exact hk _ _ _ ⟨rfl, rfl⟩ (Sat.fClose (((hs3.bump 7).bump 3).bump 1) g hl)
  · rw [decide_eq_false hp]
    rw [if_neg hp] at hk
    simp
    exact hk _ _ _ ⟨rfl, rfl⟩ (hs1.bump 1)

theorem RAll (b : Nat) (rows : QRows) : Tri tab noExt F.detentref9_Queue_All [ptr b] [RfQ b rows] fun v P' => ∃ s, v = .s s ∧ P' = [Row encI 1 s rows.flatten, RfQ b rows] := by
  refine Tri.intro fun ρ H Rs K hs hk => ?_
  apply detentref9_Queue_All_call
  have hs : Sat ρ H (RfQ b rows :: Rs) := hs
  obtain ⟨rs, g, hl, hs3⟩ := Sat.fOpen hs
  have hfl := g.flat
  refine loopP_invK (I := fun n T H' => T.length = 18 ∧ sl T 0 = ptr b ∧ ∃ (p : Nat) (s : SV), sl T 4 = i64 p ∧ sl T 3 = .s s ∧ p ≤ 17 ∧ n = 17 - p ∧ Sat ρ H' (Row encI 1 s (rows.take p).flatten :: Cel b rs :: (rowsL rs rows ++ Rs))) ?_ 16 _ _ ⟨rfl, rfl, 1, _, rfl, rfl, by omega, rfl, ?_⟩
  · rintro n T H' ⟨hT, s0, p, s, s4, s3, hp, hn, hs⟩ K' kn kr ko
    rw [detentref9_Queue_All_l0_at hT]
    by_cases hlt : p ≤ 16
    · have hlt' : (p : Int) ≤ 16 := by omega
      have p1 : (p : Int) < 17 := by omega
      have w1 : IntKind.i64.wrap ((p : Int) + 1) = (p : Int) + 1 := wrap_i64 (by omega) (by omega)
      obtain ⟨t, hrp⟩ : ∃ s, rs[p]? = some s := ⟨_, List.getElem?_eq_getElem (by omega)⟩
      have hq := rowAt_get (rows := rows) (p := p) (by rw [g.len]; omega)
      have hb := hs.swap.cel
      have htf := take_flat rows p
      have hle : ((rows.take p).flatten).length + (rowAt rows p).length ≤ 16 := by
        have h1 : rows.flatten = (rows.take (p + 1)).flatten ++ (rows.drop (p + 1)).flatten := by rw [← List.flatten_append, List.take_append_drop]
        rw [htf] at h1
        have := congrArg List.length h1
        simp only [List.length_append] at this
        omega
      simp [s0, s3, s4, hlt, hlt', hb, hrp, p1]
      have hs2 : Sat ρ H' (Cel b rs :: (rowsL rs rows ++ (Row encI 1 s (rows.take p).flatten :: Rs))) := hs.swap.perm (List.Perm.cons _ List.perm_middle.symm)
      have hs4 := hs2.qOut hrp hq
      have hs5 : Sat ρ H' (Row encI 1 s (rows.take p).flatten :: Row encI 1 t (rowAt rows p) :: Cel b rs :: ((rowsL rs rows).eraseIdx p ++ Rs)) := by
        have h1 : Sat ρ H' ((Row encI 1 t (rowAt rows p) :: Cel b rs :: (rowsL rs rows).eraseIdx p) ++ (Row encI 1 s (rows.take p).flatten :: Rs)) := hs4
        exact h1.perm List.perm_middle
      have hs6 := (hs5.bump 2).frees 9 [7] (by decide) (by decide)
      simp only [List.map_cons, List.map_nil, List.cons_append, List.nil_append, bump_next, Nat.add_assoc, Nat.reduceAdd] at hs6
      have hs7 := hs6.swap
      obtain ⟨s', H2, e2, hs8, _⟩ := Sat.append encI_len (n := 0) (bytes := 8) (x := .s t) (r2 := rowAt rows p) hs7 ((hs7.front 2 (by simp only [List.length_cons]; omega)).rowSrc encI_len) ((hs7.front 2 (by simp only [List.length_cons]; omega)).rowSl) (by omega)
      refine andThen_of' e2 ?_
      rw [← htf] at hs8
      simp [w1]
      refine kn (17 - (p + 1)) _ _ (by omega) ⟨rfl, rfl, p + 1, s', rfl, rfl, by omega, rfl, Sat.bump ?_ 3⟩
      have hs9 : Sat ρ H2 (Row encI 1 t (rowAt rows p) :: Cel b rs :: ((rowsL rs rows).eraseIdx p ++ (Row encI 1 s' (rows.take (p + 1)).flatten :: Rs))) := by
        have h1 : Sat ρ H2 (Row encI 1 s' (rows.take (p + 1)).flatten :: (Row encI 1 t (rowAt rows p) :: Cel b rs :: (rowsL rs rows).eraseIdx p) ++ Rs) := hs8
        exact h1.perm List.perm_middle.symm
      have hs10 := hs9.qBack hrp hq
      exact (hs10.perm (List.Perm.cons _ List.perm_middle)).swap
    · have hpe : p = 17 := by omega
      subst hpe
      simp [s4]
      refine ko _ _ _ ?_
      simp
      rw [detentref9_Queue_All_s1_at rfl]
      rw [List.take_of_length_le (by rw [g.len]; omega)] at hs
      have hs9 : Sat ρ H' (Cel b rs :: (rowsL rs rows ++ (Row encI 1 s rows.flatten :: Rs))) := hs.swap.perm (List.Perm.cons _ List.perm_middle.symm)
      have hs10 := (Sat.fClose hs9 g hl).swap
      simp
      exact hk _ _ _ ⟨s, s3, rfl⟩ ((hs10.bump 2).bump 2)
  · have e : (rows.take 1).flatten = [] := by
      have := take_flat rows 0
      rw [g.zero] at this
      simpa using this
    rw [e]
    exact Sat.mkNil (((hs3.bump 1).bump 1).bump 1) 1

theorem RFirst (b : Nat) (rows : QRows) : Tri tab noExt F.detentref9_Queue_First [ptr b] [RfQ b rows] fun v P' => v = i64 (rows.flatten.head?.getD 0) ∧ P' = [RfQ b rows] := by
  refine Tri.intro fun ρ H Rs K hs hk => ?_
  apply detentref9_Queue_First_call
  have hs : Sat ρ H (RfQ b rows :: Rs) := hs
  refine (RAll b rows).use ((hs.bump 1).bump 3) ?_
  rintro v H1 P' ⟨s, rfl, rfl⟩ hs1
  have hs1 : Sat ρ H1 (Row encI 1 s rows.flatten :: RfQ b rows :: Rs) := hs1
  have l1 := Sat.rowLen hs1
  cases hf : rows.flatten with
  | nil =>
    rw [hf] at l1 hk
    simp [l1]
    exact hk _ _ _ ⟨rfl, rfl⟩ (hs1.drop.bump 3 |>.bump 1)
  | cons x r =>
    rw [hf] at l1 hk hs1
    obtain ⟨b2, c2, ro, l, rfl, hb2, hl2, _⟩ := RowI.get hs1 (i := 0) (x := x) rfl
    have h1 : ¬ ((x :: r).length : Int) = 0 := by rw [List.length_cons]; omega
    have h2 : (0 : Int) < ((x :: r).length : Int) := by rw [List.length_cons]; omega
    have h3 : (0 : Int) < (r.length : Int) + 1 := by omega
    have h4 : ¬ (r.length : Int) + 1 = 0 := by omega
    simp [h1, h2, h3, h4, hb2, hl2]
    exact hk _ _ _ ⟨rfl, rfl⟩ (hs1.drop.bump 3 |>.bump 4)
end Go.AM
