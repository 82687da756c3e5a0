/-
  The law ClockPlays, in the abstract machine.
-/
import Derived.Test.YtkhffcbnhleeoaaRfD
import Derived.Test.YtkhffcbnhleeoaaLwC
import Derived.Test.YtkhffcbnhleeoaaAmV
namespace Go.AM
attribute [local simp] AH.ld AH.ldn AH.stn AH.new Nat.add_assoc resA resA1 fillA buildA slSlA boundsA boundA callvP

abbrev tyAct8 : Ty := .pair (.int .i64) (.pair (.int .i64) (.pair (.int .u64) (.pair (.int .i64) .unit)))

theorem act8 {ρ : HF} {xs : List tyAct8.den} {s : SV} (h : At ρ (.slice tyAct8) xs [s]) {i : Nat} (hi : i < xs.length) : ∃ b c l op n a d, s = .slice (some (b, 0)) xs.length c 4 ∧ ρ b = some (.cells true l) ∧ (l.drop (i * 4)).take 4 = [.int .i64 op, .int .i64 n, .int .u64 a, .int .i64 d] ∧ i * 4 + 4 ≤ l.length ∧ (0 ≤ a ∧ a < 18446744073709551616) ∧ (-9223372036854775808 ≤ d ∧ d < 9223372036854775808) := by
  obtain ⟨b, c, l, x, li, h1, h2, _, h4, h5, h6⟩ := At.slGet h hi
  obtain ⟨l1, l2, rfl, ⟨rfl, _⟩, l3, l4, rfl, ⟨rfl, _⟩, l5, l6, rfl, ⟨rfl, ha⟩, l7, l8, rfl, ⟨rfl, hd⟩, rfl⟩ := h4
  have ha := Go.bounds_u64 ha
  exact ⟨b, c, l, _, _, _, _, h1, h2, h5, h6, by omega, lit_i64 hd⟩

theorem Sat.cne {ρ : HF} {H : AH} {Rs : List Asr} {a b : Nat} {l l' : List SV} (h : Sat ρ H (Cel a l :: Cel b l' :: Rs)) : ¬ b = a := by
  obtain ⟨_, S, h1, _⟩ := h
  obtain ⟨S1, S2, rfl, ⟨rfl, _⟩, h2, h3⟩ := h1.cons_inv
  obtain ⟨S3, S4, rfl, ⟨rfl, _⟩, _, _⟩ := h2.cons_inv
  intro he
  exact h3 a (by simp) (by simp [he])

section
variable {ρ : HF}

theorem plays_s0 (c m : Nat) (L : List Ent) (last tic up base : Int) (hl : last < 4611686018427387904) (hb : 0 ≤ base ∧ base < 281474976710656) (hu : 0 ≤ up ∧ up ≤ 1000000) (Rs : List Asr)
    (T : List AV) (H : AH) (hT : T.length = 159) (s5 : sl T 5 = ptr c) (s7 : sl T 7 = ptr m) (hs : Sat ρ H (CkA c L last tic up base :: RkA m L last tic up base :: Rs)) (K : Ex → List AV → AH → Prop)
    (hk : ∀ T' H', T'.length = 159 → sl T' 1 = sl T 1 → sl T' 5 = ptr c → sl T' 7 = ptr m → sl T' 9 = sl T 9 → Sat ρ H' (CkA c L last tic up base :: RkA m L last tic up base :: Rs) → K .norm T' H') :
    wpC tab noExt R.detentlaw8_ClockPlays_s0 T H K := by
  rw [detentlaw8_ClockPlays_s0_at hT]
  simp [s5, s7]
  refine (Now_tri c L last tic up base).use (hs.bump _) ?_
  rintro v H1 P' ⟨rfl, rfl⟩ hs1
  refine (RkNow_tri m L last tic up base hb hu).use hs1.swap ?_
  rintro v H2 P' ⟨rfl, rfl⟩ hs2
  generalize (IntKind.u64.wrap (base + up)).tmod 281474976710656 = nw at *
  obtain ⟨t, hs3⟩ := Sat.rkOpen hs2
  have hb3 := hs3.cel
  simp [hb3]
  refine (Up_tri c L last tic up base).use (hs3.front 2 (by simp)) ?_
  rintro v H3 P' ⟨rfl, rfl⟩ hs4
  have hb4 := (hs4.front 1 (by simp)).cel
  obtain ⟨tc, hs5⟩ := Sat.ckOpen hs4
  have hb5 := hs5.cel
  simp [hb4, hb5, s7]
  have hs6 : Sat ρ H3 (RfT t L last :: Cel c _ :: TmA tc L last :: Cel m _ :: Rs) := hs5.front 3 (by simp)
  have hs7 : Sat ρ H3 (TmA tc L last :: RfT t L last :: Cel c _ :: Cel m _ :: Rs) := hs6.front 2 (by simp)
  refine (Same7_tri tc t L last up hl).use hs7 ?_
  rintro v H4 P' ⟨rfl, rfl⟩ hs8
  simp
  have hs9 : Sat ρ H4 (Cel c _ :: TmA tc L last :: RfT t L last :: Cel m _ :: Rs) := hs8.front 2 (by simp)
  have hs10 : Sat ρ H4 (CkA c L last tic up base :: RfT t L last :: Cel m _ :: Rs) := Sat.ckClose hs9
  have hs11 : Sat ρ H4 (RfT t L last :: CkA c L last tic up base :: Cel m _ :: Rs) := hs10.front 1 (by simp)
  have hs12 : Sat ρ H4 (RkA m L last tic up base :: CkA c L last tic up base :: Rs) := Sat.rkClose (hs11.front 2 (by simp))
  exact hk _ _ rfl rfl rfl rfl rfl hs12.swap

theorem plays_loop (xs : List tyAct8.den) (s : SV) (hx : At ρ (.slice tyAct8) xs [s]) (h80 : xs.length ≤ 80) (c m : Nat) (tic : Int) (ht : 1 ≤ tic ∧ tic ≤ 1000) (T : List AV) (H : AH) (hT : T.length = 159) (s1 : sl T 1 = .s s) (s5 : sl T 5 = ptr c) (s7 : sl T 7 = ptr m) (s9 : sl T 9 = i64 0) (Rs : List Asr) (hs : Sat ρ H (CkA c [] 0 tic 0 0 :: RkA m [] 0 tic 0 0 :: Rs)) :
    loopP tab noExt R.detentlaw8_ClockPlays_l2 T H (blockK 0 (seqK (fun T H => wpC tab noExt R.detentlaw8_ClockPlays_s3 T H (retK [.tmp 4] fun v _ => v = bl true)) (retK [.tmp 4] fun v _ => v = bl true))) := by
  have hlen := At.slLen hx
  refine loopP_invK (I := fun n T H' => T.length = 159 ∧ sl T 1 = .s s ∧ sl T 7 = ptr m ∧ ∃ i : Nat, sl T 9 = i64 i ∧ i ≤ xs.length ∧ n = xs.length - i ∧ ∃ (c : Nat) (L : List Ent) (last up base : Int), sl T 5 = ptr c ∧ L.length ≤ i ∧ last ≤ i ∧ (0 ≤ up ∧ up ≤ i * 1000) ∧ (0 ≤ base ∧ base < 281474976710656) ∧ ∃ Rs, Sat ρ H' (CkA c L last tic up base :: RkA m L last tic up base :: Rs)) ?_ xs.length _ _ ⟨hT, s1, s7, 0, s9, Nat.zero_le _, rfl, c, [], 0, 0, 0, s5, by simp, by simp, by simp, by simp, Rs, hs⟩
  intro n T H ⟨hT, s1, s7, i, s9, hi, hn, c, L, last, up, base, s5, hL, hlast, hu, hba, Rs, hs⟩ K kn kr ko
  rw [detentlaw8_ClockPlays_l2_at hT]
  by_cases hlt : i < xs.length
  · have hlt' : (i : Int) < (xs.length : Int) := by omega
    obtain ⟨bb, cp, l, op, num, a, d, rfl, hρ, hl1, hl2, ha, hd⟩ := act8 hx hlt
    have hb := hs.roOf _ _ hρ
    have w1 : IntKind.i64.wrap ((i : Int) + 1) = (i : Int) + 1 := wrap_i64 (by omega) (by omega)
    have hm1 : xs.length - (i + 1) < n := by omega
    have hu' : 0 ≤ up ∧ up ≤ 1000000 := by omega
    simp [s1, s5, s7, hlt, hlt', s9, hb, hl1, hl2, -AH.new]
    have hs1 := (hs.bump 4).free 6 4 (by decide)
    rw [bump_next] at hs1
    rw [show H.next + 8 = H.next + 4 + 4 by omega]
    refine ⟨_, new_of _ hs1.fre, ?_⟩
    have hs2 := Sat.mk hs1 [.int .i64 0, .int .i64 0, .int .u64 0, .int .i64 0]
    generalize (((H.bump 4).bump 6).set (H.next + 4 + 4) (Blk.cells false [SV.int IntKind.i64 0, SV.int IntKind.i64 0, SV.int IntKind.u64 0, SV.int IntKind.i64 0])) = H5 at *
    have hb5 := hs2.cel
    have e8 : H.next + 8 = H.next + 4 + 4 := by omega
    obtain ⟨tc, hsA⟩ := Sat.ckOpen (hs2.front 1 (by simp))
    have hsA : Sat ρ H5 (RkA m L last tic up base :: Cel c _ :: TmA tc L last :: Cel (H.next + 4 + 4) _ :: Rs) := hsA.front 3 (by simp)
    obtain ⟨tm, hsB⟩ := Sat.rkOpen hsA
    have hsB : Sat ρ H5 (Cel (H.next + 4 + 4) _ :: Cel m _ :: RfT tm L last :: Cel c _ :: TmA tc L last :: Rs) := hsB.front 4 (by simp)
    have hbm := (hsB.front 1 (by simp)).cel
    have hbc := (hsB.front 3 (by simp)).cel
    have nmX := Sat.cne hsB
    have ncX := Sat.cne ((hsB.front 3 (by simp)).swap)
    simp [hb5]
    have hsB := Sat.set hsB [.int .i64 op, .int .i64 num, .int .u64 a, .int .i64 d]
    have hs3 := Sat.set hs2 [.int .i64 op, .int .i64 num, .int .u64 a, .int .i64 d]
    rw [← e8] at hs3 hsB nmX ncX
    generalize H5.set (H.next + 8) (Blk.cells false [SV.int IntKind.i64 op, SV.int IntKind.i64 num, SV.int IntKind.u64 a, SV.int IntKind.i64 d]) = H6 at *
    generalize H.next + 8 = X at *
    have hb6 := hs3.cel
    have hs4 : Sat ρ H6 (CkA c L last tic up base :: Cel X _ :: RkA m L last tic up base :: Rs) := hs3.front 1 (by simp)
    have s1step : ∀ (T8 : List AV) (H8 : AH) (c' : Nat) (L' : List Ent) (last' up' base' : Int) (Rs' : List Asr), L'.length ≤ i + 1 → last' ≤ i + 1 → (0 ≤ up' ∧ up' ≤ (i + 1) * 1000) → (0 ≤ base' ∧ base' < 281474976710656) → Sat ρ H8 (CkA c' L' last' tic up' base' :: RkA m L' last' tic up' base' :: Rs') → T8.length = 159 → sl T8 1 = .s (.slice (some (bb, 0)) xs.length cp 4) → sl T8 5 = ptr c' → sl T8 7 = ptr m → sl T8 9 = i64 i → wpC tab noExt R.detentlaw8_ClockPlays_s1 T8 H8 K := by
      intro T8 H8 c' L' last' up' base' Rs' h1 h2 h3 h4 h5 h6 h7 h8 h9 h10
      rw [detentlaw8_ClockPlays_s1_at h6]
      simp [h7, h8, h9, h10, w1]
      exact kn _ _ _ hm1 ⟨rfl, rfl, rfl, i + 1, rfl, hlt, rfl, c', L', last', up', base', rfl, h1, by push_cast; exact h2, by push_cast; exact h3, h4, Rs', h5.bump _⟩
    have tail : ∀ (T8 : List AV) (H8 : AH) (c' : Nat) (L' : List Ent) (last' up' base' : Int) (Rs' : List Asr), L'.length ≤ i + 1 → last' ≤ i + 1 → (0 ≤ up' ∧ up' ≤ (i + 1) * 1000) → (0 ≤ base' ∧ base' < 281474976710656) → Sat ρ H8 (CkA c' L' last' tic up' base' :: RkA m L' last' tic up' base' :: Rs') → T8.length = 159 → sl T8 1 = .s (.slice (some (bb, 0)) xs.length cp 4) → sl T8 5 = ptr c' → sl T8 7 = ptr m → sl T8 9 = i64 i →
        wpC tab noExt R.detentlaw8_ClockPlays_s0 T8 H8 (blockK 1 (seqK (fun T H => wpC tab noExt R.detentlaw8_ClockPlays_s1 T H K) K)) := by
      intro T8 H8 c' L' last' up' base' Rs' h1 h2 h3 h4 h5 h6 h7 h8 h9 h10
      refine plays_s0 c' m L' last' tic up' base' (by omega) h4 (by omega) Rs' T8 H8 h6 h8 h9 h5 _ ?_
      intro T' H' k0 k1 k5 k7 k9 hs'
      simp only [blockK_norm, seqK_norm]
      exact s1step T' H' c' L' last' up' base' Rs' h1 h2 h3 h4 hs' k0 (k1.trans h7) k5 k7 (k9.trans h10)
    by_cases o1 : op = 1
    · simp [hb6, o1]
      refine (Set_tri c L last tic up base a).use (((hs4.bump 2).bump 2).bump 4) ?_
      rintro v H7 P' ⟨rfl, rfl⟩ hs5
      have hb7 := (hs5.front 1 (by simp)).cel
      simp [hb7]
      refine (RkSet_tri m L last tic up base hu' a ha).use ((hs5.front 2 (by simp)).bump 4) ?_
      rintro v H8 P' ⟨rfl, rfl⟩ hs6
      have hnb : 0 ≤ (IntKind.u64.wrap (a + IntKind.u64.wrap (0 - up))).tmod 281474976710656 ∧ (IntKind.u64.wrap (a + IntKind.u64.wrap (0 - up))).tmod 281474976710656 < 281474976710656 := by
        rw [wrapU, tmod48 (by omega)]; omega
      generalize (IntKind.u64.wrap (a + IntKind.u64.wrap (0 - up))).tmod 281474976710656 = nb at *
      have hs7 : Sat ρ H8 (CkA c L last tic up nb :: RkA m L last tic up nb :: Cel X _ :: Rs) := hs6.front 1 (by simp)
      exact tail _ _ c L last up nb _ (by omega) (by omega) (by omega) hnb hs7 rfl rfl rfl rfl rfl
    by_cases o2 : op = 2
    · simp [hb6, o2]
      by_cases hdd : d < 0 ∨ 2147483647 < d
      · refine (After_no c L last tic up base d num hdd hd.1 hd.2).use ((((hs4.bump 2).bump 2).bump 2).bump 11) ?_
        rintro v H7 P' ⟨rfl, rfl⟩ hs5
        have hb7 := (hs5.front 1 (by simp)).cel
        simp [hb7]
        refine (RkAfter_no m L last tic up base d num hdd hd.1 hd.2).use ((hs5.front 2 (by simp)).bump 11) ?_
        rintro v H8 P' ⟨rfl, rfl⟩ hs6
        simp
        have hs7 : Sat ρ H8 (CkA c L last tic up base :: RkA m L last tic up base :: Cel X _ :: Rs) := hs6.front 1 (by simp)
        exact tail _ _ c L last up base _ (by omega) (by omega) (by omega) hba (hs7.bump _) rfl rfl rfl rfl rfl
      · refine (After_tri c L last tic up base d num (by omega) (by omega) (by omega) (by omega)).use ((((hs4.bump 2).bump 2).bump 2).bump 11) ?_
        rintro v H7 P' ⟨rfl, rfl⟩ hs5
        have hb7 := (hs5.front 1 (by simp)).cel
        simp [hb7]
        refine (RkAfter_tri m L last tic up base ht d num (by omega) (by omega) (by omega) (by omega)).use ((hs5.front 2 (by simp)).bump 11) ?_
        rintro v H8 P' ⟨rfl, rfl⟩ hs6
        simp
        have hs7 : Sat ρ H8 (CkA c _ (last + 1) tic up base :: RkA m _ (last + 1) tic up base :: Cel X _ :: Rs) := hs6.front 1 (by simp)
        exact tail _ _ c _ (last + 1) up base _ (by rw [insE_len]; omega) (by omega) (by omega) hba (hs7.bump _) rfl rfl rfl rfl rfl
    by_cases o3 : op = 3
    · simp [hb6, o3]
      have w3 : IntKind.u64.wrap (up + tic) = up + tic := wrap_u64 (by omega) (by omega)
      refine (Tick_tri c L last tic up base).use (((((hs4.bump 2).bump 2).bump 2).bump 2).bump 6) ?_
      rintro v H7 P' ⟨sx, rfl, rfl⟩ hs5
      refine (RkTick_tri m L last tic up base ht hu').use (hs5.front 3 (by simp)) ?_
      rintro v H8 P' ⟨sy, rfl, rfl⟩ hs6
      rw [w3] at hs6
      have hs7 : Sat ρ H8 (RowA encI 1 sx ((dueL L (up + tic)).map Ent.arg) :: Row encI 1 sy ((dueL L (up + tic)).map Ent.arg) :: RkA m (toL L (up + tic)) last tic (up + tic) base :: CkA c (toL L (up + tic)) last tic (up + tic) base :: Cel X _ :: Rs) := hs6.front 2 (by simp)
      have hdl : (dueL L (up + tic)).length ≤ L.length := (List.takeWhile_sublist _).length_le
      refine (Same3_tri sx sy _ (by rw [List.length_map]; omega)).use (Sat.rowOfA hs7) ?_
      rintro v H9 P' ⟨rfl, rfl⟩ hs8
      simp
      have hs9 : Sat ρ H9 (CkA c (toL L (up + tic)) last tic (up + tic) base :: RkA m (toL L (up + tic)) last tic (up + tic) base :: Cel X _ :: Rs) := (hs8.drop.drop.front 1 (by simp))
      have htl : (toL L (up + tic)).length ≤ i + 1 := Nat.le_trans (List.dropWhile_sublist _).length_le (by omega)
      exact tail _ _ c _ last (up + tic) base _ htl (by omega) (by omega) hba hs9 rfl rfl rfl rfl rfl
    by_cases o4 : op = 4
    · simp [hb6, o4, hbc, hbm, nmX, ncX]
      have hs8 : Sat ρ H6 (TmA tc L last :: Cel X _ :: Cel m _ :: RfT tm L last :: Cel c _ :: Rs) := hsB.front 4 (by simp)
      refine (Cancel_tri tc L last num).use ((((((hs8.bump 2).bump 2).bump 2).bump 2).bump 2).bump 15) ?_
      rintro v H7 P' ⟨rfl, rfl⟩ hs9
      have hbX := (hs9.front 1 (by simp)).cel
      have hbm := (hs9.front 2 (by simp)).cel
      simp [hbm, hbX]
      refine (RtCancel_tri tm L last num).use (hs9.front 3 (by simp)) ?_
      rintro v H8 P' ⟨rfl, rfl⟩ hs10
      simp
      generalize hLf : (L.filter fun e => decide (e.handle ≠ num)) = L' at *
      have hfl : L'.length ≤ i + 1 := by rw [← hLf]; exact Nat.le_trans (List.length_filter_le _ _) (by omega)
      have h0 : Sat ρ H8 (TmA tc L' last :: RfT tm L' last :: Cel X _ :: Cel m _ :: Cel c _ :: Rs) := hs10.front 1 (by simp)
      have h0 : Sat ρ H8 (Cel c _ :: TmA tc L' last :: RfT tm L' last :: Cel X _ :: Cel m _ :: Rs) := h0.front 4 (by simp)
      have h0 : Sat ρ H8 (TmA tc L' last :: Cel c _ :: RfT tm L' last :: Cel X _ :: Cel m _ :: Rs) := h0.front 1 (by simp)
      have h0 : Sat ρ H8 (RfT tm L' last :: TmA tc L' last :: Cel c _ :: Cel X _ :: Cel m _ :: Rs) := h0.front 2 (by simp)
      have h1 : Sat ρ H8 (Cel m _ :: RfT tm L' last :: TmA tc L' last :: Cel c _ :: Cel X _ :: Rs) := h0.front 4 (by simp)
      have h2 : Sat ρ H8 (RkA m L' last tic up base :: TmA tc L' last :: Cel c _ :: Cel X _ :: Rs) := Sat.rkClose h1
      have h3 : Sat ρ H8 (TmA tc L' last :: RkA m L' last tic up base :: Cel c _ :: Cel X _ :: Rs) := h2.front 1 (by simp)
      have h4 : Sat ρ H8 (CkA c L' last tic up base :: RkA m L' last tic up base :: Cel X _ :: Rs) := Sat.ckClose (h3.front 2 (by simp))
      exact tail _ _ c L' last up base _ hfl (by omega) (by omega) hba h4 rfl rfl rfl rfl rfl
    by_cases o5 : op = 5
    · simp [hb6, o5]
      refine (Apart_tri c L last tic up base).use (((((((hs4.bump 2).bump 2).bump 2).bump 2).bump 2).bump 2).bump 3) ?_
      rintro v H7 P' ⟨c', rfl, rfl⟩ hs5
      simp
      refine (Tick_tri c L last tic up base).use ((hs5.swap.bump _).bump _) ?_
      rintro v H8 P' ⟨sx, rfl, rfl⟩ hs6
      refine (Set_tri c _ last tic _ base 1).use (((hs6.front 1 (by simp))).bump _) ?_
      rintro v H9 P' ⟨rfl, rfl⟩ hs7
      have h1 : Sat ρ H9 (CkA c' L last tic up base :: CkA c _ last tic _ _ :: RowA encI 1 sx _ :: Cel X _ :: RkA m L last tic up base :: Rs) := hs7.front 2 (by simp)
      have h2 : Sat ρ H9 (RkA m L last tic up base :: CkA c' L last tic up base :: CkA c _ last tic _ _ :: RowA encI 1 sx _ :: Cel X _ :: Rs) := h1.front 4 (by simp)
      exact tail _ _ c' L last up base _ (by omega) (by omega) (by omega) hba (h2.swap.bump _) rfl rfl rfl rfl rfl
    · simp [hb6, o1, o2, o3, o4, o5]
      have h1 : Sat ρ H6 (CkA c L last tic up base :: RkA m L last tic up base :: Cel X _ :: Rs) := (hs3.front 2 (by simp)).front 2 (by simp)
      exact tail _ _ c L last up base _ (by omega) (by omega) (by omega) hba (by (repeat refine Sat.bump ?_ _); exact h1) rfl rfl rfl rfl rfl
  · have hie : i = xs.length := by omega
    subst hie
    simp [s1, s9, hlen]
    refine ko _ _ _ ?_
    simp only [blockK_out, if_true, seqK_norm]
    rw [detentlaw8_ClockPlays_s3_at rfl]
    simp
end

theorem ClockPlays_abs (H : AH) (hw : WF H) (hn : H.next = 2) (avs : List AV) (ha : ArgsAt H.blk [.int .i64, .slice tyAct8] avs) :
    CallP tab noExt F.detentlaw8_ClockPlays avs H fun v _ => v = bl true := by
  obtain ⟨tic, _, rfl, _, ha1⟩ := ha.int
  obtain ⟨xs, s, _, rfl, hx, ha2⟩ := ha1.slice
  obtain rfl := ha2.nil_inv
  have hlen := At.slLen hx
  apply detentlaw8_ClockPlays_call
  refine (known8_at2 ((hw.bump _).bump _) (by simp [hn])).start (ρ := H.blk) ((hw.bump _).bump _) (fun _ _ h => h) ?_
  rintro v H1 hs rfl
  by_cases g7 : (80 : Int) < xs.length
  · simp [g7, hlen]
  simp [g7, hlen]
  by_cases ht : tic < 1 ∨ 1000 < tic
  · refine (NewClock_no tic ht).use (R := []) ((hs.bump _).bump _) ?_
    rintro v H2 P' ⟨rfl, rfl⟩ hs1
    simp
    refine (RkNew_no tic ht).use (R := []) (hs1.bump _) ?_
    rintro v H3 P' ⟨rfl, rfl⟩ hs2
    simp
  · refine (NewClock_tri tic (by omega) (by omega)).use (R := []) ((hs.bump _).bump _) ?_
    rintro v H2 P' ⟨c, rfl, rfl⟩ hs1
    simp
    refine (RkNew_tri tic (by omega) (by omega)).use (R := [_]) (hs1.bump _) ?_
    rintro v H3 P' ⟨m, rfl, rfl⟩ hs2
    simp
    exact plays_loop xs s hx (by omega) c m tic (by omega) _ _ rfl rfl rfl rfl rfl [] (by (repeat refine Sat.bump ?_ _); exact hs2.swap)

end Go.AM
