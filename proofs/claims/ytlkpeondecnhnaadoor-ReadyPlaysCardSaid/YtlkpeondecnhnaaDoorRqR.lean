/-
  Those that are ready: any calls: the law.
-/
import Derived.Test.YtlkpeondecnhnaaDoorRqQ
namespace Go.AM
attribute [local simp] AH.ld AH.ldn Nat.add_assoc resA resA1 fillA buildA slSlA boundsA boundA callvP

abbrev ActTy9 : Ty := .pair (.int .i64) (.pair (.int .i64) (.pair (.int .i64) .unit))

theorem act9 {ρ : HF} {xs : List ActTy9.den} {s : SV} (h : At ρ (.slice ActTy9) xs [s]) {i : Nat} (hi : i < xs.length) : ∃ b c l op n a, s = .slice (some (b, 0)) xs.length c 3 ∧ ρ b = some (.cells true l) ∧ (l.drop (i * 3)).take 3 = [.int .i64 op, .int .i64 n, .int .i64 a] ∧ i * 3 + 3 ≤ l.length := by
  obtain ⟨b, c, l, x, li, h1, h2, _, h4, h5, h6⟩ := At.slGet h hi
  obtain ⟨l1, l2, rfl, ⟨rfl, _⟩, l3, l4, rfl, ⟨rfl, _⟩, l5, l6, rfl, ⟨rfl, _⟩, rfl⟩ := h4
  exact ⟨b, c, l, _, _, _, h1, h2, h5, h6⟩

/-- The elder one is emptied. -/
theorem plays_l0 {ρ : HF} (a : Nat) (L : List Asr) (T : List AV) (H : AH) (rows : QRows) (hT : T.length = 99) (s3 : sl T 3 = ptr a) (s8 : sl T 8 = i64 1) (hs : Sat ρ H (QA a rows :: L)) (K : Ex → List AV → AH → Prop)
    (hk : ∀ T' H' rows', T'.length = 99 → sl T' 0 = sl T 0 → sl T' 4 = sl T 4 → sl T' 5 = sl T 5 → sl T' 7 = sl T 7 → Sat ρ H' (QA a rows' :: L) → K (.out 3) T' H') :
    loopP tab noExt R.detentlaw9_ReadyPlays_l0 T H K := by
  refine loopP_invK (I := fun n T' H' => T'.length = 99 ∧ sl T' 0 = sl T 0 ∧ sl T' 3 = ptr a ∧ sl T' 4 = sl T 4 ∧ sl T' 5 = sl T 5 ∧ sl T' 7 = sl T 7 ∧ ∃ (k : Nat) (rows : QRows), sl T' 8 = i64 k ∧ k ≤ 17 ∧ n = 17 - k ∧ Sat ρ H' (QA a rows :: L)) ?_ 16 _ _ ⟨hT, rfl, s3, rfl, rfl, rfl, 1, rows, s8, by omega, rfl, hs⟩
  rintro n T' H' ⟨hT', t0, t3, t4, t5, t7, k, rows, t8, hk2, hn, hs⟩ K' kn kr ko
  rw [detentlaw9_ReadyPlays_l0_at hT']
  by_cases hlt : k ≤ 16
  · have hlt' : (k : Int) ≤ 16 := by omega
    have w1 : IntKind.i64.wrap ((k : Int) + 1) = (k : Int) + 1 := wrap_i64 (by omega) (by omega)
    simp [t3, t8, hlt, hlt']
    refine (RemQ a rows k).use ((hs.bump 2).bump 3) ?_
    rintro v H2 P' ⟨rfl, rfl⟩ hs2
    simp [w1]
    exact kn (17 - (k + 1)) _ _ (by omega) ⟨rfl, t0, rfl, t4, t5, t7, k + 1, _, rfl, by omega, rfl, Sat.bump hs2 3⟩
  · have hlt' : ¬ (k : Int) ≤ 16 := by omega
    simp [t3, t8, hlt, hlt']
    exact ko _ _ _ (hk _ _ rows rfl t0 t4 t5 t7 (hs.bump 2))

theorem plays_s3 {i : Nat} (hi : i < 100) (T : List AV) (H : AH) (hT : T.length = 99) (s5 : sl T 5 = i64 i) (K : Ex → List AV → AH → Prop)
    (hk : ∀ T', T'.length = 99 → sl T' 0 = sl T 0 → sl T' 3 = sl T 3 → sl T' 4 = sl T 4 → sl T' 5 = i64 (i + 1 : Nat) → K .norm T' (H.bump 3)) : wpC tab noExt R.detentlaw9_ReadyPlays_s3 T H K := by
  rw [detentlaw9_ReadyPlays_s3_at hT]
  have w1 : IntKind.i64.wrap ((i : Int) + 1) = (i : Int) + 1 := wrap_i64 (by omega) (by omega)
  simp [s5, w1]
  exact hk _ rfl rfl rfl rfl rfl

theorem plays_s2 {ρ : HF} (a b : Nat) (rows : QRows) (L : List Asr) (T : List AV) (H : AH) (hT : T.length = 99) (s3 : sl T 3 = ptr a) (s4 : sl T 4 = ptr b) (hs : Sat ρ H (QA a rows :: RfQ b rows :: L)) (K : Ex → List AV → AH → Prop)
    (hk : ∀ T' H', T'.length = 99 → sl T' 0 = sl T 0 → sl T' 3 = ptr a → sl T' 4 = ptr b → sl T' 5 = sl T 5 → Sat ρ H' (QA a rows :: RfQ b rows :: L) → K .norm T' H') : wpC tab noExt R.detentlaw9_ReadyPlays_s2 T H K := by
  rw [detentlaw9_ReadyPlays_s2_at hT]
  simp only [s3, s4]
  refine (same9_tri a b rows).use (hs.bump 4) ?_
  rintro v H2 P' ⟨rfl, rfl⟩ hs2
  simp
  exact hk _ _ rfl rfl rfl rfl rfl hs2

theorem plays_s1 (T : List AV) (H : AH) (hT : T.length = 99) (K : Ex → List AV → AH → Prop)
    (hk : ∀ T', T'.length = 99 → sl T' 0 = sl T 0 → sl T' 3 = sl T 7 → sl T' 4 = sl T 4 → sl T' 5 = sl T 5 → K .norm T' (H.bump 2)) : wpC tab noExt R.detentlaw9_ReadyPlays_s1 T H K := by
  rw [detentlaw9_ReadyPlays_s1_at hT]
  exact hk _ rfl rfl rfl rfl rfl

set_option maxRecDepth 4000 in
theorem plays_l4 {ρ : HF} (xs : List ActTy9.den) (s : SV) (hx : At ρ (.slice ActTy9) xs [s]) (hl : xs.length ≤ 100) (a b : Nat) (T : List AV) (H : AH) (hT : T.length = 99) (s0 : sl T 0 = .s s) (s3 : sl T 3 = ptr a) (s4 : sl T 4 = ptr b) (s5 : sl T 5 = i64 0) (L : List Asr) (hs : Sat ρ H (QA a noRows :: RfQ b noRows :: L)) (K : Ex → List AV → AH → Prop)
    (hk : ∀ T' H', T'.length = 99 → K (.out 0) T' H') :
    loopP tab noExt R.detentlaw9_ReadyPlays_l4 T H K := by
  have hlen := At.slLen hx
  refine loopP_invK (I := fun n T' H' => T'.length = 99 ∧ sl T' 0 = .s s ∧ sl T' 4 = ptr b ∧ ∃ (a i : Nat) (rows : QRows) (L : List Asr), sl T' 3 = ptr a ∧ sl T' 5 = i64 i ∧ i ≤ xs.length ∧ n = xs.length - i ∧ Sat ρ H' (QA a rows :: RfQ b rows :: L)) ?_ xs.length _ _ ⟨hT, s0, s4, a, 0, noRows, L, s3, s5, Nat.zero_le _, rfl, hs⟩
  rintro n T' H' ⟨hT', t0, t4, a, i, rows, L, t3, t5, hi, hn, hs⟩ K' kn kr ko
  rw [detentlaw9_ReadyPlays_l4_at hT']
  by_cases hlt : i < xs.length
  · have hlt' : (i : Int) < (xs.length : Int) := by omega
    obtain ⟨bb, cp, l, op, t, p, rfl, hρ, hl1, hl2⟩ := act9 hx hlt
    have hb := hs.roOf _ _ hρ
    have fin : ∀ (T : List AV) (H : AH) (a' : Nat) (rows' : QRows) (L' : List Asr), T.length = 99 → sl T 0 = .s (.slice (some (bb, 0)) xs.length cp 3) → sl T 3 = ptr a' → sl T 4 = ptr b → sl T 5 = i64 i → Sat ρ H (QA a' rows' :: RfQ b rows' :: L') →
        wpC tab noExt R.detentlaw9_ReadyPlays_s2 T H (blockK 1 (seqK (fun T H => wpC tab noExt R.detentlaw9_ReadyPlays_s3 T H K') K')) := by
      intro T H a' rows' L' hT e0 e3 e4 e5 hs
      refine plays_s2 a' b rows' L' T H hT e3 e4 hs _ fun T' H' f f0 f3 f4 f5 hs' => ?_
      simp
      refine plays_s3 (by omega) T' H' f (f5.trans e5) K' fun T2 g g0 g3 g4 g5 => ?_
      exact kn (xs.length - (i + 1)) _ _ (by omega) ⟨g, (g0.trans f0).trans e0, g4.trans f4, a', i + 1, rows', L', g3.trans f3, g5, hlt, rfl, hs'.bump 3⟩
    simp [t0, t5, hlt, hlt', hb, hl1, hl2]
    have hs1 := (hs.bump 4).free 6 4 (by decide)
    rw [bump_next] at hs1
    rw [show H'.next + 8 = H'.next + 4 + 4 by omega]
    refine ⟨_, new_of _ hs1.fre, ?_⟩
    have hs2 := Sat.mk hs1 [.int .i64 0, .int .i64 0, .int .i64 0]
    generalize (((H'.bump 4).bump 6).set (H'.next + 4 + 4) (Blk.cells false [SV.int IntKind.i64 0, SV.int IntKind.i64 0, SV.int IntKind.i64 0])) = H5 at *
    generalize H'.next + 4 + 4 = X at *
    have hb5 := hs2.cel
    have hst : H5.stn X 0 [.int .i64 op, .int .i64 t, .int .i64 p] = some (H5.set X (.cells false [.int .i64 op, .int .i64 t, .int .i64 p])) := stn_of _ hb5 (by simp)
    simp [hst]
    have hs3 := Sat.set hs2 [.int .i64 op, .int .i64 t, .int .i64 p]
    generalize H5.set X (Blk.cells false [SV.int IntKind.i64 op, SV.int IntKind.i64 t, SV.int IntKind.i64 p]) = H6 at *
    have hb6 := hs3.cel
    have hX : ∀ (H7 : AH) (Rs' : List Asr), Sat ρ H7 (Cel X [.int .i64 op, .int .i64 t, .int .i64 p] :: Rs') → H7.blk X = some (.cells false [.int .i64 op, .int .i64 t, .int .i64 p]) := fun H7 Rs' h => h.cel
    have hs4 : Sat ρ H6 (QA a rows :: Cel X [.int .i64 op, .int .i64 t, .int .i64 p] :: RfQ b rows :: L) := hs3.swap
    by_cases o1 : op = 1
    · simp [hb6, o1, t3, t4]
      refine (AddQ a rows t p).use (((hs4.bump 2).bump 2).bump 13) ?_
      rintro v H7 P' ⟨rfl, rfl⟩ hs5
      have hs5 : Sat ρ H7 (Cel X [.int .i64 op, .int .i64 t, .int .i64 p] :: RfQ b rows :: QA a (addQ rows t p).2 :: L) := Sat.re hs5 [1, 2, 0] (by simp) (by decide)
      have hb7 := hs5.cel
      simp [hb7]
      refine (RAdd b rows t p).use hs5.swap ?_
      rintro v H8 P' ⟨rfl, rfl⟩ hs6
      have hs6 : Sat ρ H8 (QA a (addQ rows t p).2 :: RfQ b (addQ rows t p).2 :: Cel X [.int .i64 op, .int .i64 t, .int .i64 p] :: L) := Sat.re hs6 [2, 0, 1] (by simp) (by decide)
      simp
      exact fin _ _ a _ _ rfl rfl rfl rfl rfl hs6
    by_cases o2 : op = 2
    · simp [hb6, o2, t3, t4]
      refine (RemQ a rows t).use ((((hs4.bump 2).bump 2).bump 2).bump 9) ?_
      rintro v H7 P' ⟨rfl, rfl⟩ hs5
      have hs5 : Sat ρ H7 (Cel X [.int .i64 op, .int .i64 t, .int .i64 p] :: RfQ b rows :: QA a (remQ rows t).2 :: L) := Sat.re hs5 [1, 2, 0] (by simp) (by decide)
      have hb7 := hs5.cel
      simp [hb7]
      refine (RRem b rows t).use hs5.swap ?_
      rintro v H8 P' ⟨rfl, rfl⟩ hs6
      have hs6 : Sat ρ H8 (QA a (remQ rows t).2 :: RfQ b (remQ rows t).2 :: Cel X [.int .i64 op, .int .i64 t, .int .i64 p] :: L) := Sat.re hs6 [2, 0, 1] (by simp) (by decide)
      simp
      exact fin _ _ a _ _ rfl rfl rfl rfl rfl hs6
    by_cases o3 : op = 3
    · simp [hb6, o3, t3, t4]
      refine (ChgQ a rows t p).use (((((hs4.bump 2).bump 2).bump 2).bump 2).bump 13) ?_
      rintro v H7 P' ⟨rfl, rfl⟩ hs5
      have hs5 : Sat ρ H7 (Cel X [.int .i64 op, .int .i64 t, .int .i64 p] :: RfQ b rows :: QA a (chgQ rows t p).2 :: L) := Sat.re hs5 [1, 2, 0] (by simp) (by decide)
      have hb7 := hs5.cel
      simp [hb7]
      refine (RChg b rows t p).use hs5.swap ?_
      rintro v H8 P' ⟨rfl, rfl⟩ hs6
      have hs6 : Sat ρ H8 (QA a (chgQ rows t p).2 :: RfQ b (chgQ rows t p).2 :: Cel X [.int .i64 op, .int .i64 t, .int .i64 p] :: L) := Sat.re hs6 [2, 0, 1] (by simp) (by decide)
      simp
      exact fin _ _ a _ _ rfl rfl rfl rfl rfl hs6
    by_cases o4 : op = 4
    · simp [hb6, o4, t3, t4]
      refine (RotQ a rows p).use ((((((hs4.bump 2).bump 2).bump 2).bump 2).bump 2).bump 9) ?_
      rintro v H7 P' ⟨rfl, rfl⟩ hs5
      have hs5 : Sat ρ H7 (Cel X [.int .i64 op, .int .i64 t, .int .i64 p] :: RfQ b rows :: QA a (rotQ rows p).2 :: L) := Sat.re hs5 [1, 2, 0] (by simp) (by decide)
      have hb7 := hs5.cel
      simp [hb7]
      refine (RRot b rows p).use hs5.swap ?_
      rintro v H8 P' ⟨rfl, rfl⟩ hs6
      have hs6 : Sat ρ H8 (QA a (rotQ rows p).2 :: RfQ b (rotQ rows p).2 :: Cel X [.int .i64 op, .int .i64 t, .int .i64 p] :: L) := Sat.re hs6 [2, 0, 1] (by simp) (by decide)
      simp
      exact fin _ _ a _ _ rfl rfl rfl rfl rfl hs6
    by_cases o5 : op = 5
    · simp [hb6, o5, t3, t4]
      refine (TwinQ_tri a rows).use (((((((hs4.bump 2).bump 2).bump 2).bump 2).bump 2).bump 2).bump 3) ?_
      rintro v H7 P' ⟨a', rfl, rfl⟩ hs5
      have hs5 : Sat ρ H7 (QA a rows :: QA a' rows :: Cel X [.int .i64 op, .int .i64 t, .int .i64 p] :: RfQ b rows :: L) := Sat.swap hs5
      simp
      refine plays_l0 a _ _ _ rows ?_ ?_ ?_ ((hs5.bump 2).bump 1) _ ?_
      · rfl
      · rfl
      · rfl
      intro T2 H8 rows' g g0 g4 g5 g7 hs6
      simp
      refine plays_s1 T2 H8 g _ fun T3 f f0 f3 f4 f5 => ?_
      simp
      have hs7 : Sat ρ H8 (QA a' rows :: RfQ b rows :: Cel X [.int .i64 op, .int .i64 t, .int .i64 p] :: QA a rows' :: L) := Sat.re hs6 [1, 3, 2, 0] (by simp) (by decide)
      exact fin T3 _ a' _ _ f (f0.trans g0) (f3.trans g7) (f4.trans g4) (f5.trans g5) (hs7.bump 2)
    · simp [hb6, o1, o2, o3, o4, o5]
      exact fin _ _ a rows (Cel X [.int .i64 op, .int .i64 t, .int .i64 p] :: L) rfl rfl t3 t4 rfl (by (repeat refine Sat.bump ?_ _); exact Sat.re hs4 [0, 2, 1] (by simp) (by decide))
  · have hie : i = xs.length := by omega
    subst hie
    simp [t0, t5, hlen]
    exact ko _ _ _ (hk _ _ rfl)

set_option maxRecDepth 4000 in
theorem ReadyPlays_abs (H : AH) (hw : WF H) (h0 : H.blk 0 = some (.cells true tzCells)) (avs : List AV) (ha : ArgsAt H.blk [.slice ActTy9] avs) : CallP tab noExt F.detentlaw9_ReadyPlays avs H fun v _ => v = bl true := by
  obtain ⟨xs, s, _, rfl, hx, ha2⟩ := ha.slice
  obtain rfl := ha2.nil'
  have hlen := At.slLen hx
  apply detentlaw9_ReadyPlays_call
  refine known9_tri.use (R := []) (((tz_start hw h0).bump 1).bump 2) ?_
  rintro v H1 P' ⟨rfl, rfl⟩ hs1
  by_cases g2 : (100 : Int) < xs.length
  · simp [hlen, g2]
  simp [hlen, g2]
  refine NewQ_tri.use (ρ := H.blk) (R := []) (by (repeat refine Sat.bump ?_ _); exact hs1) ?_
  rintro v H2 P' ⟨a, rfl, rfl⟩ hs2
  have hs2 : Sat H.blk H2 [QA a noRows, TzA] := hs2
  have hs3 := hs2.free 3 1 (by decide)
  refine ⟨_, new_of _ hs3.fre, ?_⟩
  have hs4 := hs3.mk (List.replicate 17 (.slice none 0 0 1))
  have hs5 : Sat H.blk _ [RfQ (H2.next + 1) noRows, QA a noRows, TzA] := Sat.fClose ((rowsL_none 17 hs4).perm List.perm_middle) GoodQ.none (by simp)
  refine plays_l4 (ρ := H.blk) xs s hx (by omega) a (H2.next + 1) _ _ ?_ ?_ ?_ ?_ ?_ [TzA] (hs5.swap.bump 1) _ ?_
  · rfl
  · rfl
  · rfl
  · rfl
  · rfl
  intro T' H' hT'
  simp
  rw [detentlaw9_ReadyPlays_s5_at hT']
  simp
end Go.AM
