/-
  The law ClockWaits, in the abstract machine.
-/
import Derived.Test.YtkhffcbnhleeoaaLwC
namespace Go.AM
attribute [local simp] AH.ld AH.ldn AH.stn AH.new Nat.add_assoc resA resA1 fillA buildA slSlA boundsA boundA callvP

theorem waits_s2 (tic d n : Int) (h1 : 1 ≤ tic ∧ tic ≤ 1000) (h2 : 0 ≤ d) (h3 : d ≤ (n - 1) * tic) (h4 : (n - 2) * tic < d) (hn : 1 ≤ n ∧ n ≤ 110) (T : List AV) (H : AH) (hT : T.length = 94) (s0 : sl T 0 = i64 tic) (s2 : sl T 2 = i64 d) (s12 : sl T 12 = i64 n) :
    wpC tab noExt R.detentlaw8_ClockWaits_s2 T H (retK [.tmp 8] fun v _ => v = bl true) := by
  rw [detentlaw8_ClockWaits_s2_at hT]
  have w1 : IntKind.i64.wrap (n - 1) = n - 1 := wrap_i64 (by omega) (by omega)
  have w2 : IntKind.i64.wrap (n - 2) = n - 2 := wrap_i64 (by omega) (by omega)
  have b1 : (n - 1) * tic ≤ 109 * 1000 := Int.mul_le_mul (by omega) (by omega) (by omega) (by omega)
  have b2 : -1000 ≤ (n - 2) * tic := by
    have : (-1) * tic ≤ (n - 2) * tic := Int.mul_le_mul_of_nonneg_right (by omega) (by omega)
    omega
  have w3 : IntKind.i64.wrap ((n - 1) * tic) = (n - 1) * tic := wrap_i64 (by omega) (by omega)
  have w4 : IntKind.i64.wrap ((n - 2) * tic) = (n - 2) * tic := wrap_i64 (by omega) (by omega)
  simp [s0, s2, s12, w1, w2, w3, w4, h3, h4]

theorem waits_s3 (tic d up : Int) (s : SV) (xs : List Int) (ρ : HF) (hx : RoI ρ .u64 s xs) (h1 : 1 ≤ tic ∧ tic ≤ 1000) (h2 : 0 ≤ d ∧ d ≤ 100 * tic) (hup : 0 ≤ up ∧ up ≤ 50000) (c : Nat) (T : List AV) (H : AH) (hT : T.length = 94) (s0 : sl T 0 = i64 tic) (s2 : sl T 2 = i64 d) (s3 : sl T 3 = .s s) (s9 : sl T 9 = ptr c)
    (hs : Sat ρ H [CkA c [] 0 tic up 0]) :
    wpC tab noExt R.detentlaw8_ClockWaits_s3 T H (retK [.tmp 8] fun v _ => v = bl true) := by
  rw [detentlaw8_ClockWaits_s3_at hT]
  simp [s0, s2, s3, s9]
  refine (After_tri c [] 0 tic up 0 d 9 h2.1 (by omega) (by simp) (by omega)).use (hs.bump 3) ?_
  rintro v H1 P' ⟨rfl, rfl⟩ hs
  have e1 : IntKind.u64.wrap (IntKind.u64.wrap (up + d) + tic) = up + d + tic := by rw [wrap_u64 (x := up + d) (by omega) (by omega), wrap_u64 (by omega) (by omega)]
  rw [e1, show insE ⟨up + d + tic, 0 + 1, 9⟩ [] = [⟨up + d + tic, 1, 9⟩] from rfl] at hs
  have hlen := hx.len
  refine loopP_inv (I := fun m T H => T.length = 94 ∧ sl T 0 = i64 tic ∧ sl T 2 = i64 d ∧ sl T 3 = .s s ∧ sl T 9 = ptr c ∧ ∃ i : Nat, sl T 12 = i64 i ∧ sl T 13 = i64 i ∧ (i : Int) * tic < d + tic ∧ m = 110 - i ∧ ∃ base, Sat ρ H [CkA c [⟨up + d + tic, 1, 9⟩] 1 tic (up + i * tic) base]) ?_ 110 _ _ ⟨rfl, rfl, rfl, rfl, rfl, 0, rfl, rfl, by omega, rfl, 0, by simpa using (hs.bump 1).bump 1⟩
  intro m T H ⟨hT, s0, s2, s3, s9, i, s12, s13, hi, hm, base, hs⟩
  rw [detentlaw8_ClockWaits_l1_at hT]
  have hi1 : (i : Int) < 101 := by
    apply Classical.byContradiction
    intro hc
    have : 101 * tic ≤ (i : Int) * tic := Int.mul_le_mul_of_nonneg_right (by omega) (by omega)
    omega
  have hi2 : (i : Int) < 110 := by omega
  have b0 : 0 ≤ (i : Int) * tic := Int.mul_nonneg (by omega) (by omega)
  have b1 : (i : Int) * tic ≤ 101 * 1000 := Int.mul_le_mul (by omega) (by omega) (by omega) (by omega)
  have w1 : IntKind.i64.wrap ((i : Int) + 1) = (i : Int) + 1 := wrap_i64 (by omega) (by omega)
  have e2 : ((i : Int) + 1) * tic = i * tic + tic := by rw [Int.add_mul]; omega
  have w2 : IntKind.u64.wrap (up + i * tic + tic) = up + (i + 1) * tic := by rw [wrap_u64 (by omega) (by omega)]; omega
  have tail : ∀ (H1 : AH) (base1 : Int) (K : AV → AH → Prop), Sat ρ H1 [CkA c [⟨up + d + tic, 1, 9⟩] 1 tic (up + i * tic) base1] →
      (∀ s' H2, lenA (.s s') = some (i64 1) → d + tic ≤ (i + 1) * tic → Sat ρ H2 [] → K (.s s') H2) →
      (∀ s' H2, lenA (.s s') = some (i64 0) → (i + 1) * tic < d + tic → Sat ρ H2 [CkA c [⟨up + d + tic, 1, 9⟩] 1 tic (up + (i + 1) * tic) base1] → K (.s s') H2) → CallP tab noExt F.clock_Clock_Tick [ptr c] H1 K := by
    intro H1 base1 K hs1 k1 k2
    refine (Tick_tri c _ 1 tic _ base1).use hs1 ?_
    rintro v H2 P' ⟨s', rfl, rfl⟩ hs2
    rw [w2] at hs2
    by_cases hd : up + d + tic ≤ up + (i + 1) * tic
    · obtain ⟨q1, q2⟩ := dueL_one_yes (e := ⟨up + d + tic, 1, 9⟩) hd
      rw [q1, q2] at hs2
      exact k1 s' H2 hs2.row.1 (by omega) hs2.drop.drop
    · obtain ⟨q1, q2⟩ := dueL_one_no (e := ⟨up + d + tic, 1, 9⟩) hd
      rw [q1, q2] at hs2
      exact k2 s' H2 hs2.row.1 (by omega) hs2.drop
  have fin : ∀ T1 H1, T1.length = 94 → sl T1 0 = i64 tic → sl T1 2 = i64 d → sl T1 12 = i64 ((i : Int) + 1) → d + tic ≤ (i + 1) * tic → wpC tab noExt R.detentlaw8_ClockWaits_s2 T1 H1 (retK [.tmp 8] fun v _ => v = bl true) := by
    intro T1 H1 hT1 t0 t2 t12 hd
    refine waits_s2 tic d (i + 1) h1 h2.1 ?_ ?_ (by omega) T1 H1 hT1 t0 t2 t12
    · have : ((i : Int) + 1 - 1) * tic = i * tic := by congr 1; omega
      omega
    · have : ((i : Int) + 1 - 2) * tic = i * tic - tic := by rw [show (i : Int) + 1 - 2 = i - 1 by omega, Int.sub_mul]; omega
      omega
  by_cases hl : i < xs.length
  · obtain ⟨b, cp, l, rfl, hb, hli, hwf⟩ := hx.get hs.roOf hl
    have hl' : (i : Int) < (xs.length : Int) := by omega
    simp [s0, s2, s3, s9, s12, s13, hi2, hl, hl', hb, hli, w1]
    refine (Set_tri c _ 1 tic _ base _).use (((hs.bump 2).bump 4).bump 6) ?_
    rintro v H1 P' ⟨rfl, rfl⟩ hs1
    refine tail _ _ _ ((hs1.bump 3).bump 4) ?_ ?_
    · intro s' H2 hl1 hd hs2
      simp [hl1]
      exact fin _ _ rfl rfl rfl rfl hd
    · intro s' H2 hl1 hd hs2
      simp [hl1]
      exact ⟨110 - (i + 1), by omega, rfl, rfl, rfl, rfl, i + 1, rfl, rfl, by push_cast; exact hd, rfl, _, by push_cast; exact hs2.bump 3⟩
  · have hl' : ¬ (i : Int) < (xs.length : Int) := by omega
    simp [s0, s2, s3, s9, s12, s13, hi2, hlen, hl', hl, w1]
    refine tail _ _ _ ((((hs.bump 2).bump 4).bump 3).bump 4) ?_ ?_
    · intro s' H2 hl1 hd hs2
      simp [hl1]
      exact fin _ _ rfl rfl rfl rfl hd
    · intro s' H2 hl1 hd hs2
      simp [hl1]
      exact ⟨110 - (i + 1), by omega, rfl, rfl, rfl, rfl, i + 1, rfl, rfl, by push_cast; exact hd, rfl, _, by push_cast; exact hs2.bump 3⟩

theorem ClockWaits_abs (H : AH) (hw : WF H) (hn : H.next = 2) (avs : List AV) (ha : ArgsAt H.blk [.int .i64, .int .i64, .int .i64, .slice (.int .u64)] avs) :
    CallP tab noExt F.detentlaw8_ClockWaits avs H fun v _ => v = bl true := by
  obtain ⟨tic, _, rfl, q1, ha1⟩ := ha.int
  obtain ⟨ahead, _, rfl, q2, ha2⟩ := ha1.int
  obtain ⟨d, _, rfl, q3, ha3⟩ := ha2.int
  obtain ⟨xs, s, _, rfl, hx, ha4⟩ := ha3.ints
  obtain rfl := ha4.nil_inv
  have q1 := lit_i64 q1
  have q2 := lit_i64 q2
  have q3 := lit_i64 q3
  have hlen := RoI.len hx
  apply detentlaw8_ClockWaits_call
  refine (known8_at2 ((hw.bump _).bump _) (by simp [hn])).start (ρ := H.blk) ((hw.bump _).bump _) (fun _ _ h => h) ?_
  rintro v H1 hs rfl
  simp
  by_cases g1 : tic < 1
  · simp [g1]
  by_cases g2 : 1000 < tic
  · simp [g1, g2]
  by_cases g3 : ahead < 0
  · simp [g1, g2, g3]
  by_cases g4 : 50 < ahead
  · simp [g1, g2, g3, g4]
  by_cases g5 : d < 0
  · simp [g1, g2, g3, g4, g5]
  have w0 : IntKind.i64.wrap (100 * tic) = 100 * tic := wrap_i64 (by omega) (by omega)
  by_cases g6 : 100 * tic < d
  · simp [g1, g2, g3, g4, g5, g6, w0]
  by_cases g7 : (20 : Int) < xs.length
  · simp [g1, g2, g3, g4, g5, g6, g7, w0, hlen]
  simp [g1, g2, g3, g4, g5, g6, g7, w0, hlen]
  refine (NewClock_tri tic (by omega) (by omega)).use ((hs.bump _).bump _) ?_
  rintro v H2 P' ⟨c, rfl, rfl⟩ hs
  simp
  refine loopP_inv (I := fun m T H => T.length = 94 ∧ sl T 0 = i64 tic ∧ sl T 1 = i64 ahead ∧ sl T 2 = i64 d ∧ sl T 3 = .s s ∧ sl T 9 = ptr c ∧ ∃ i : Int, sl T 11 = i64 i ∧ 0 ≤ i ∧ i ≤ ahead ∧ (m : Int) = ahead - i ∧ Sat _ H [CkA c [] 0 tic (i * tic) 0]) ?_ ahead.toNat _ _ ⟨rfl, rfl, rfl, rfl, rfl, rfl, 0, rfl, by omega, by omega, by omega, by simpa using hs.bump 1⟩
  intro m T H ⟨hT, s0, s1, s2, s3, s9, i, s11, hi0, hi, hm, hs⟩
  rw [detentlaw8_ClockWaits_l0_at hT]
  have b0 : 0 ≤ i * tic := Int.mul_nonneg (by omega) (by omega)
  have b1 : i * tic ≤ 50 * 1000 := Int.mul_le_mul (by omega) (by omega) (by omega) (by omega)
  by_cases hlt : i < ahead
  · simp [s0, s1, s2, s3, s9, s11, hlt]
    refine (Tick_tri c [] 0 tic (i * tic) 0).use ((hs.bump 3).bump 2) ?_
    rintro v H3 P' ⟨s', rfl, rfl⟩ hs
    have w1 : IntKind.i64.wrap (i + 1) = i + 1 := wrap_i64 (by omega) (by omega)
    have e2 : (i + 1) * tic = i * tic + tic := by rw [Int.add_mul]; omega
    have w2 : IntKind.u64.wrap (i * tic + tic) = (i + 1) * tic := by rw [wrap_u64 (by omega) (by omega)]; omega
    rw [w2] at hs
    simp [w1]
    exact ⟨m - 1, by omega, rfl, rfl, rfl, rfl, rfl, i + 1, rfl, by omega, by omega, by omega, hs.drop.bump 3⟩
  · simp [s0, s1, s2, s3, s9, s11, hlt]
    exact waits_s3 tic d (i * tic) s xs _ hx (by omega) (by omega) (by omega) c _ _ rfl rfl rfl rfl rfl (hs.bump 3)

end Go.AM
