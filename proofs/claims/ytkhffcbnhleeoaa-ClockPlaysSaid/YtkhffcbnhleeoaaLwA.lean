/-
  The law ClockRounds, in the abstract machine.
-/
import Derived.Test.YtkhffcbnhleeoaaCkA
namespace Go.AM
attribute [local simp] AH.ld AH.ldn AH.stn AH.new Nat.add_assoc resA resA1 fillA buildA slSlA boundsA boundA callvP

theorem CallP_eval {f : Nat} {args : List AV} {H : AH} {v : AV} (n : Nat) (h : (run tab noExt n f args H).map (fun x => x.1) = some v) : CallP tab noExt f args H fun v' _ => v' = v := by
  cases hr : run tab noExt n f args H with
  | none => rw [hr] at h; cases h
  | some x => rw [hr] at h; exact ⟨n, x.1, x.2, hr, by simpa using h⟩

theorem known8_at0 : CallP tab noExt F.detentlaw8_known [] ((H00.bump 1).bump 2) fun v _ => v = bl true :=
  CallP_eval 50 (by kernel_rfl)

theorem lit_i64 {a : Int} (h : (Lit.int .i64 a).wf = true) : -9223372036854775808 ≤ a ∧ a < 9223372036854775808 := by
  simp [Lit.wf, IntKind.min, IntKind.max, IntKind.bits, IntKind.signed] at h
  omega

theorem lit_u16 {a : Int} (h : (Lit.int .u16 a).wf = true) : 0 ≤ a ∧ a < 65536 := by
  simp [Lit.wf, IntKind.min, IntKind.max, IntKind.bits, IntKind.signed] at h
  omega

theorem WF_H00 : WF H00 := fun _ _ => rfl

theorem toL_nil (x : Int) : toL [] x = [] := rfl

theorem ClockRounds_abs (tic before n : Int) (ht1 : -9223372036854775808 ≤ tic) (ht2 : tic < 9223372036854775808) (hb1 : 0 ≤ before) (hb2 : before < 65536) :
    CallP tab noExt F.detentlaw8_ClockRounds [i64 tic, .s (.int .u16 before), i64 n] H00 fun v _ => v = bl true := by
  apply detentlaw8_ClockRounds_call
  refine known8_at0.mono_wf tab_wf noExt_wf noExt_next ((WF_H00.bump _).bump _) ?_
  rintro v H1 hw1 _ rfl
  simp
  by_cases g1 : tic < 1
  · simp [g1]
  by_cases g2 : 1000 < tic
  · simp [g1, g2]
  by_cases g3 : n < 0
  · simp [g1, g2, g3]
  by_cases g4 : 100 < n
  · simp [g1, g2, g3, g4]
  simp [g1, g2, g3, g4]
  refine (NewClock_spec _ ((hw1.bump _).bump _) tic (by omega) (by omega)).mono_wf tab_wf noExt_wf noExt_next ((hw1.bump _).bump _) ?_
  rintro v H2 hw2 _ ⟨c, S, rfl, hc, _, _⟩
  simp
  refine (Tick_spec _ (hw2.bump _) c [] 0 tic 0 0 S (hc.frame (by (first | (simp; done) | omega | (simp <;> omega))) fun _ _ => rfl)).mono_wf tab_wf noExt_wf noExt_next (hw2.bump _) ?_
  rintro v H3 hw3 _ ⟨s, So, rfl, _, hc, _, _⟩
  have w0 : IntKind.u64.wrap (0 + tic) = tic := by rw [wrap_u64 (by omega) (by omega)]; omega
  rw [w0, toL_nil] at hc
  have w1 : IntKind.u64.wrap before = before := wrap_u64 (by omega) (by omega)
  have w2 : IntKind.u64.wrap (281474976710656 - before) = 281474976710656 - before := wrap_u64 (by omega) (by omega)
  simp [w1, w2]
  refine (Set_spec (H3.bump 5) c [] 0 tic tic 0 S (hc.frame (by (first | (simp; done) | omega | (simp <;> omega))) fun _ _ => rfl) (281474976710656 - before)).mono_wf tab_wf noExt_wf noExt_next (hw3.bump _) ?_
  rintro v H4 hw4 _ ⟨rfl, hc, _⟩
  have w3 : IntKind.u64.wrap (0 - tic) = 18446744073709551616 - tic := by simp [IntKind.wrap, IntKind.bits, IntKind.signed]; omega
  have w4 : IntKind.u64.wrap (281474976710656 - before + (18446744073709551616 - tic)) = 281474976710656 - before - tic := by simp [IntKind.wrap, IntKind.bits, IntKind.signed]; omega
  have w5 : (281474976710656 - before - tic).tmod 281474976710656 = 281474976710656 - before - tic := by rw [Int.tmod_eq_emod_of_nonneg (by omega)]; omega
  rw [w3, w4, w5] at hc
  refine loopP_inv (I := fun m T H => T.length = 67 ∧ sl T 0 = i64 tic ∧ sl T 1 = .s (.int .u16 before) ∧ sl T 2 = i64 n ∧ sl T 7 = ptr c ∧ ∃ i : Int, sl T 9 = i64 i ∧ 0 ≤ i ∧ i ≤ n ∧ (m : Int) = n - i ∧ ∃ up, up = (i + 1) * tic ∧ WF H ∧ Ck H c [] 0 tic up (281474976710656 - before - tic) S) ?_ n.toNat _ _ ?_
  · intro m T H ⟨hT, s0, s1, s2, s7, i, s9, hi0, hin, hm, up, hup, hwf, hc⟩
    have hub : 0 ≤ up ∧ up ≤ 101000 := by
      have h1 : (i + 1) * tic ≤ 101 * 1000 := Int.mul_le_mul (by omega) (by omega) (by omega) (by omega)
      have h2 : 0 ≤ (i + 1) * tic := Int.mul_nonneg (by omega) (by omega)
      omega
    rw [detentlaw8_ClockRounds_l0_at hT]
    by_cases hlt : i < n
    · simp [s0, s1, s2, s7, s9, hlt]
      refine (Tick_spec _ ((hwf.bump _).bump _) c [] 0 tic up _ S (hc.frame (by (first | (simp; done) | omega | (simp <;> omega))) fun _ _ => rfl)).mono_wf tab_wf noExt_wf noExt_next ((hwf.bump _).bump _) ?_
      rintro v H5 hw5 _ ⟨s, So, rfl, _, hc5, _, _⟩
      have w6 : IntKind.u64.wrap (up + tic) = up + tic := wrap_u64 (by omega) (by omega)
      have w7 : IntKind.i64.wrap (i + 1) = i + 1 := wrap_i64 (by omega) (by omega)
      rw [w6, toL_nil] at hc5
      simp [w7]
      refine ⟨m - 1, by omega, rfl, rfl, rfl, rfl, i + 1, rfl, by omega, by omega, by omega, ?_⟩
      have : up + tic = (i + 1 + 1) * tic := by rw [hup, Int.add_mul (i + 1) 1 tic]; omega
      rw [← this]
      exact ⟨hw5.bump _, hc5.frame (by (first | (simp; done) | omega | (simp <;> omega))) fun _ _ => rfl⟩
    · have hie : i = n := by omega
      subst hie
      simp [s0, s1, s2, s7, s9]
      rw [detentlaw8_ClockRounds_s1_at rfl]
      simp [sl]
      refine (Now_spec ((H.bump 3).bump 23) c [] 0 tic up _ S (hc.frame (by (first | (simp; done) | omega | (simp <;> omega))) fun _ _ => rfl)).mono_wf tab_wf noExt_wf noExt_next ((hwf.bump _).bump _) ?_
      rintro v H5 hw5 _ ⟨rfl, hs⟩
      have hc5 := hs.ck (hc.frame (H' := (H.bump 3).bump 23) (by (first | (simp; done) | omega | (simp <;> omega))) fun _ _ => rfl)
      have k1 : i * tic = up - tic := by rw [hup, Int.add_mul]; omega
      have k2 : (i + 1) * tic = up := hup.symm
      have w6 : IntKind.i64.wrap (up - tic) = up - tic := wrap_i64 (by omega) (by omega)
      have hnn : 0 ≤ up - tic := by rw [← k1]; exact Int.mul_nonneg hi0 (by omega)
      have w7 : IntKind.u64.wrap (up - tic) = up - tic := wrap_u64 hnn (by omega)
      have w8 : IntKind.i64.wrap (i + 1) = i + 1 := wrap_i64 (by omega) (by omega)
      have w9 : IntKind.i64.wrap up = up := wrap_i64 (by omega) (by omega)
      have w10 : IntKind.u64.wrap up = up := wrap_u64 (by omega) (by omega)
      have w11 : IntKind.u64.wrap (281474976710656 - before - tic + up) = 281474976710656 - before + (up - tic) := by rw [wrap_u64 (by omega) (by omega)]; omega
      have w12 : IntKind.u64.wrap (281474976710656 - before + (up - tic)) = 281474976710656 - before + (up - tic) := wrap_u64 (by omega) (by omega)
      simp [w1, w2, k1, w6, w7, w11, w12]
      refine (Up_spec _ c [] 0 tic up _ S hc5).mono_wf tab_wf noExt_wf noExt_next hw5 ?_
      rintro v H6 hw6 _ ⟨rfl, _⟩
      simp [w8, k2, w9, w10]
  · exact ⟨rfl, rfl, rfl, rfl, rfl, 0, rfl, by omega, by omega, by omega, tic, by omega, hw4.bump _, hc.frame (by (first | (simp; done) | omega | (simp <;> omega))) fun _ _ => rfl⟩

end Go.AM
