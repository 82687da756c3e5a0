/-
  Those that are ready: what is refused.
-/
import Derived.Test.YtlkpeondecnhnaaDoorRqG
namespace Go.AM
attribute [local simp] AH.ld AH.ldn Nat.add_assoc resA resA1 fillA buildA slSlA boundsA boundA callvP

theorem flat_set : ∀ (rows : QRows) (p : Nat) (r : List Int), p < rows.length → (rows.set p r).flatten.length + (rowAt rows p).length = rows.flatten.length + r.length
  | [], p, r, h => by simp at h
  | x :: rows, 0, r, _ => by simp [rowAt]; omega
  | x :: rows, p + 1, r, h => by
    have := flat_set rows p r (by simpa using h)
    have e : rowAt (x :: rows) (p + 1) = rowAt rows p := by simp [rowAt]
    rw [e]
    simp only [List.set_cons_succ, List.flatten_cons, List.length_append]
    omega

def fR1 : QRows := (addQ noRows 4 7).2
def fR2 : QRows := (addQ fR1 5 7).2

theorem refuses_all : ∀ q, q < 17 → rowAt (rotR fR2 q) 7 = (if q = 7 then [5, 4] else [4, 5]) ∧ (rotR fR2 q).flatten.length = 2 := by decide +kernel

theorem refuses_rot (pri : Int) : ∃ c rows' x y, rotQ fR2 pri = (c, rows') ∧ rowAt rows' 7 = [x, y] ∧ rows'.flatten.length = 2 ∧ (c = 0 ↔ 1 ≤ pri ∧ pri ≤ 16) ∧ (x = 5 ↔ pri = 7) := by
  unfold rotQ
  by_cases h : 1 ≤ pri ∧ pri ≤ 16
  · obtain ⟨h1, h2⟩ := refuses_all pri.toNat (by omega)
    rw [if_pos h]
    by_cases e : pri = 7
    · rw [if_pos (by omega)] at h1
      exact ⟨_, _, _, _, rfl, h1, h2, by simp [h], by simp [e]⟩
    · rw [if_neg (by omega)] at h1
      exact ⟨_, _, _, _, rfl, h1, h2, by simp [h], by simp [e]⟩
  · rw [if_neg h]
    have h1 : rowAt fR2 7 = [4, 5] := by decide +kernel
    have h2 : fR2.flatten.length = 2 := by decide +kernel
    exact ⟨_, _, _, _, rfl, h1, h2, by simp [h], by simp; omega⟩

set_option maxRecDepth 4000 in
theorem refuses_s0 {ρ : HF} (b : Nat) (pri : Int) (T : List AV) (H : AH) (hT : T.length = 109) (s1 : sl T 1 = i64 pri) (s5 : sl T 5 = ptr b) (L : List Asr) (hs : Sat ρ H (QA b fR2 :: L)) (K : Ex → List AV → AH → Prop) (hk : ∀ T' H', sl T' 4 = bl true → K .ret T' H') :
    wpC tab noExt R.detentlaw9_ReadyRefuses_s0 T H K := by
  rw [detentlaw9_ReadyRefuses_s0_at hT]
  simp only [s1, s5]
  refine (RotQ b fR2 pri).use (Sat.bump hs 4) ?_
  rintro v H1 P' ⟨rfl, rfl⟩ hs1
  obtain ⟨c, rows', x, y, e, h1, h2, h3, h4⟩ := refuses_rot pri
  rw [e] at hs1 ⊢
  have hs1 : Sat ρ H1 (QA b rows' :: L) := hs1
  have last : ∀ (H2 : AH) (s : SV) (z : Bool), Sat ρ H2 (Row encI 1 s [x, y] :: QA b rows' :: L) → ∃ b2 c2 ro l, s = .slice (some (b2, 0)) 2 c2 1 ∧ H2.blk b2 = some (.cells ro l) ∧ l[0]? = some (.int .i64 x) := by
    intro H2 s z hs2
    obtain ⟨b2, c2, ro, l, h5, h6, h7, _⟩ := RowI.get hs2 (i := 0) (x := x) rfl
    exact ⟨b2, c2, ro, l, h5, h6, h7⟩
  by_cases g1 : 1 ≤ pri
  · by_cases g2 : pri ≤ 16
    · have hc : c = 0 := h3.2 ⟨g1, g2⟩
      simp [g1, g2]
      refine (RowQ_tri b rows' 7).use (R := L) ((Sat.bump hs1 7).bump 3) ?_
      rintro v H3 P' ⟨s, rfl, rfl⟩ hs3
      rw [if_pos (by omega), show (7 : Int).toNat = 7 from rfl, h1] at hs3
      have hs3 : Sat ρ H3 (Row encI 1 s [x, y] :: QA b rows' :: L) := hs3
      have l1 := Sat.rowLen hs3
      have l1 : lenA (.s s) = some (i64 2) := l1
      simp [hc, l1]
      refine (AllQ_tri b rows').use (R := Row encI 1 s [x, y] :: L) (hs3.swap.bump 25) ?_
      rintro v H4 P' ⟨s2, rfl, rfl⟩ hs4
      have l2 := Sat.rowLen hs4
      rw [h2] at l2
      have hs5 : Sat ρ H4 (Row encI 1 s [x, y] :: QA b rows' :: L) := (Sat.drop hs4).swap
      obtain ⟨b2, c2, ro, l, rfl, h5, h6⟩ := last H4 s true hs5
      simp [l2, h5, h6]
      by_cases e7 : pri = 7
      · have e5 := h4.2 e7
        simp [e7, e5]
        exact hk _ _ rfl
      · have e5 : ¬ x = 5 := fun e => e7 (h4.1 e)
        simp [e7, e5]
        exact hk _ _ rfl
    · have hc : ¬ c = 0 := fun h => g2 (h3.1 h).2
      simp [g1, g2]
      refine (RowQ_tri b rows' 7).use (R := L) ((Sat.bump hs1 7).bump 3) ?_
      rintro v H3 P' ⟨s, rfl, rfl⟩ hs3
      rw [if_pos (by omega), show (7 : Int).toNat = 7 from rfl, h1] at hs3
      have hs3 : Sat ρ H3 (Row encI 1 s [x, y] :: QA b rows' :: L) := hs3
      have l1 := Sat.rowLen hs3
      have l1 : lenA (.s s) = some (i64 2) := l1
      simp [hc, l1]
      refine (AllQ_tri b rows').use (R := Row encI 1 s [x, y] :: L) (hs3.swap.bump 25) ?_
      rintro v H4 P' ⟨s2, rfl, rfl⟩ hs4
      have l2 := Sat.rowLen hs4
      rw [h2] at l2
      have hs5 : Sat ρ H4 (Row encI 1 s [x, y] :: QA b rows' :: L) := (Sat.drop hs4).swap
      obtain ⟨b2, c2, ro, l, rfl, h5, h6⟩ := last H4 s true hs5
      simp [l2, h5, h6]
      by_cases e7 : pri = 7
      · have e5 := h4.2 e7
        simp [e7, e5]
        exact hk _ _ rfl
      · have e5 : ¬ x = 5 := fun e => e7 (h4.1 e)
        simp [e7, e5]
        exact hk _ _ rfl
  · have hc : ¬ c = 0 := fun h => g1 (h3.1 h).1
    simp [g1]
    refine (RowQ_tri b rows' 7).use (R := L) ((Sat.bump hs1 7).bump 3) ?_
    rintro v H3 P' ⟨s, rfl, rfl⟩ hs3
    rw [if_pos (by omega), show (7 : Int).toNat = 7 from rfl, h1] at hs3
    have hs3 : Sat ρ H3 (Row encI 1 s [x, y] :: QA b rows' :: L) := hs3
    have l1 := Sat.rowLen hs3
    have l1 : lenA (.s s) = some (i64 2) := l1
    simp [hc, l1]
    refine (AllQ_tri b rows').use (R := Row encI 1 s [x, y] :: L) (hs3.swap.bump 25) ?_
    rintro v H4 P' ⟨s2, rfl, rfl⟩ hs4
    have l2 := Sat.rowLen hs4
    rw [h2] at l2
    have hs5 : Sat ρ H4 (Row encI 1 s [x, y] :: QA b rows' :: L) := (Sat.drop hs4).swap
    obtain ⟨b2, c2, ro, l, rfl, h5, h6⟩ := last H4 s true hs5
    simp [l2, h5, h6]
    by_cases e7 : pri = 7
    · have e5 := h4.2 e7
      simp [e7, e5]
      exact hk _ _ rfl
    · have e5 : ¬ x = 5 := fun e => e7 (h4.1 e)
      simp [e7, e5]
      exact hk _ _ rfl

theorem put_len {rows : QRows} (g : GoodQ rows) {t : Int} {p : Nat} (hp : p ≤ 16) : (putR rows t p).flatten.length = rows.flatten.length + 1 := by
  have := flat_set rows p (rowAt rows p ++ [t]) (by rw [g.len]; omega)
  unfold putR
  rw [List.length_append, List.length_singleton] at this
  omega

theorem fR2_pri (t : Int) : priQ fR2 t = if t = 4 ∨ t = 5 then 7 else 0 := by
  by_cases h : 1 ≤ t ∧ t ≤ 16
  · obtain ⟨n, rfl⟩ : ∃ n : Nat, t = (n : Int) := ⟨t.toNat, by omega⟩
    have key : ∀ n : Nat, n < 17 → priQ fR2 (n : Int) = if (n : Int) = 4 ∨ (n : Int) = 5 then 7 else 0 := by decide +kernel
    exact key n (by omega)
  · rw [if_neg (by omega)]
    have e : fR2 = [[], [], [], [], [], [], [], [4, 5], [], [], [], [], [], [], [], [], []] := by decide +kernel
    have g : GoodQ fR2 := by
      have g1 : GoodQ fR1 := by
        have : fR1 = putR noRows 4 7 := by decide +kernel
        rw [this]
        exact GoodQ.none.put (by omega) (by omega) (by omega) fun q h => by rw [rowAt_none] at h; cases h
      have : fR2 = putR fR1 5 7 := by decide +kernel
      rw [this]
      refine g1.put (by omega) (by omega) (by omega) fun q h => ?_
      have := (priQ_some g1 h).symm
      have e0 : priQ fR1 5 = 0 := by decide +kernel
      have := g1.pos h
      omega
    exact priQ_none g fun q hq => h (g.lim q t hq)

theorem fR2_good : GoodQ fR2 := by
  have g1 : GoodQ fR1 := by
    have : fR1 = putR noRows 4 7 := by decide +kernel
    rw [this]
    exact GoodQ.none.put (by omega) (by omega) (by omega) fun q h => by rw [rowAt_none] at h; cases h
  have : fR2 = putR fR1 5 7 := by decide +kernel
  rw [this]
  refine g1.put (by omega) (by omega) (by omega) fun q h => ?_
  have := (priQ_some g1 h).symm
  have e0 : priQ fR1 5 = 0 := by decide +kernel
  have := g1.pos h
  omega

theorem fR2_len : fR2.flatten.length = 2 := by decide +kernel

set_option maxRecDepth 4000 in
theorem ReadyRefuses_abs (H : AH) (hw : WF H) (h0 : H.blk 0 = some (.cells true tzCells)) (avs : List AV) (ha : ArgsAt H.blk [.int .i64, .int .i64] avs) : CallP tab noExt F.detentlaw9_ReadyRefuses avs H fun v _ => v = bl true := by
  obtain ⟨t, _, rfl, _, ha2⟩ := ha.int'
  obtain ⟨p, _, rfl, _, ha2⟩ := ha2.int'
  obtain rfl := ha2.nil'
  apply detentlaw9_ReadyRefuses_call
  refine known9_tri.use (R := []) (((tz_start hw h0).bump 1).bump 2) ?_
  rintro v H1 P' ⟨rfl, rfl⟩ hs1
  simp
  refine NewQ_tri.use (R := []) (Sat.bump hs1 2) ?_
  rintro v H2 P' ⟨b, rfl, rfl⟩ hs2
  refine (AddQ b noRows 4 7).use (R := [TzA]) (Sat.bump hs2 2) ?_
  rintro v H3 P' ⟨rfl, rfl⟩ hs3
  refine (AddQ b fR1 5 7).use (R := [TzA]) (Sat.bump hs3 2) ?_
  rintro v H4 P' ⟨rfl, rfl⟩ hs4
  have hs4 : Sat H.blk H4 [QA b fR2, TzA] := hs4
  refine (AddQ b fR2 t p).use (R := [TzA]) (Sat.bump hs4 5) ?_
  rintro v H5 P' ⟨rfl, rfl⟩ hs5
  have hpq := fR2_pri t
  have bad : ∀ (h : ¬ (1 ≤ t ∧ t ≤ 16 ∧ 1 ≤ p ∧ p ≤ 16)), addQ fR2 t p = (-17, fR2) := fun h => by unfold addQ; rw [if_neg h]
  by_cases t1 : 1 ≤ t
  · by_cases t2 : t ≤ 16
    · by_cases p1 : 1 ≤ p
      · by_cases p2 : p ≤ 16
        · have hall : 1 ≤ t ∧ t ≤ 16 ∧ 1 ≤ p ∧ p ≤ 16 := ⟨t1, t2, p1, p2⟩
          by_cases t45 : t = 4 ∨ t = 5
          · have e : addQ fR2 t p = (-41, fR2) := by
              unfold addQ
              rw [if_pos hall, hpq, if_pos t45, if_neg (by omega)]
            rw [e] at hs5 ⊢
            have hor : ∀ (T : List AV) (H' : AH), T.length = 109 → sl T 1 = i64 p → sl T 5 = ptr b → Sat H.blk H' [QA b fR2, TzA] → wpC tab noExt R.detentlaw9_ReadyRefuses_s0 T H' (retK [.tmp 4] fun v _ => v = bl true) := fun T H' hT s1 s5 hs => by
              refine refuses_s0 b p T H' hT s1 s5 _ hs _ fun T' H' e => ?_
              simp
              exact e
            by_cases t4 : t = 4
            · simp [t1, t2, p1, p2, t4]
              refine hor _ _ rfl rfl rfl (by (repeat refine Sat.bump ?_ _); exact hs5)
            · have t5 : t = 5 := by omega
              simp [t1, t2, p1, p2, t4, t5]
              refine hor _ _ rfl rfl rfl (by (repeat refine Sat.bump ?_ _); exact hs5)
          · have t4 : ¬ t = 4 := fun h => t45 (.inl h)
            have t5 : ¬ t = 5 := fun h => t45 (.inr h)
            have e : addQ fR2 t p = (0, putR fR2 t p.toNat) := by
              unfold addQ
              rw [if_pos hall, hpq, if_neg t45, if_pos rfl]
            rw [e] at hs5 ⊢
            have hno : ∀ q, t ∉ rowAt fR2 q := fun q hq => by
              have h1 := priQ_some fR2_good hq
              rw [hpq, if_neg t45] at h1
              have := fR2_good.pos hq
              omega
            have g' := fR2_good.put (t := t) (p := p.toNat) (by omega) (by omega) ⟨t1, t2⟩ hno
            have hpri : priQ (putR fR2 t p.toNat) t = p.toNat := priQ_some g' ((mem_put fR2_good (by omega) _ _).2 (.inr ⟨rfl, rfl⟩))
            have hlen : (putR fR2 t p.toNat).flatten.length = 3 := by rw [put_len fR2_good (by omega), fR2_len]
            have hp0 : ¬ p.toNat = 0 := by omega
            have hpp : ((p.toNat : Nat) : Int) = p := by omega
            simp [t1, t2, p1, p2, t4, t5]
            refine (PriQ b (putR fR2 t p.toNat) t).use (ρ := H.blk) (R := [TzA]) (by (repeat refine Sat.bump ?_ _); exact hs5) ?_
            rintro v H6 P' ⟨rfl, rfl⟩ hs6
            rw [hpri, hpp, decide_eq_true hp0]
            simp
            refine (AllQ_tri b (putR fR2 t p.toNat)).use (R := [TzA]) (Sat.bump hs6 17) ?_
            rintro v H7 P' ⟨s, rfl, rfl⟩ hs7
            have l2 := Sat.rowLen hs7
            rw [hlen] at l2
            simp [l2]
        · rw [bad fun h => p2 h.2.2.2] at hs5 ⊢
          simp [t1, t2, p1, p2]
          refine refuses_s0 (ρ := H.blk) b p _ _ rfl rfl rfl [TzA] (by (repeat refine Sat.bump ?_ _); exact hs5) _ fun T' H' e => ?_
          simp
          exact e
      · rw [bad fun h => p1 h.2.2.1] at hs5 ⊢
        simp [t1, t2, p1]
        refine refuses_s0 (ρ := H.blk) b p _ _ rfl rfl rfl [TzA] (by (repeat refine Sat.bump ?_ _); exact hs5) _ fun T' H' e => ?_
        simp
        exact e
    · rw [bad fun h => t2 h.2.1] at hs5 ⊢
      simp [t1, t2]
      refine refuses_s0 (ρ := H.blk) b p _ _ rfl rfl rfl [TzA] (by (repeat refine Sat.bump ?_ _); exact hs5) _ fun T' H' e => ?_
      simp
      exact e
  · rw [bad fun h => t1 h.1] at hs5 ⊢
    simp [t1]
    refine refuses_s0 (ρ := H.blk) b p _ _ rfl rfl rfl [TzA] (by (repeat refine Sat.bump ?_ _); exact hs5) _ fun T' H' e => ?_
    simp
    exact e
end Go.AM
