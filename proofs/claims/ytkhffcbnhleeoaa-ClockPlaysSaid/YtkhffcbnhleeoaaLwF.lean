/-
  The law ClockSets, in the abstract machine.
-/
import Derived.Test.YtkhffcbnhleeoaaLwC
import Derived.Test.YtkhffcbnhleeoaaPlC
namespace Go.AM
attribute [local simp] AH.ld AH.ldn AH.stn AH.new Nat.add_assoc resA resA1 fillA buildA slSlA boundsA boundA callvP

section
variable {ρ : HF} {H : AH} {R : List Asr}

theorem Sat.ckOpen {c : Nat} {L : List Ent} {last tic up base : Int} (h : Sat ρ H (CkA c L last tic up base :: R)) : ∃ t, Sat ρ H (Cel c [.ptr (some (t, 0)), .int .u64 tic, .int .u64 up, .int .u64 base] :: TmA t L last :: R) := by
  obtain ⟨hw, S, h1, h2⟩ := h
  obtain ⟨S1, S2, rfl, ⟨n, h0, t, St, k1, k2, rfl, k4⟩, h4, h5⟩ := h1.cons_inv
  refine ⟨t, hw, [c] ++ (St ++ S2), .cons ⟨rfl, k1⟩ (.cons ⟨n, k2⟩ h4 fun b hb => h5 b (by simp [hb])) ?_, by simpa using h2⟩
  intro b hb hs
  simp at hb
  subst hb
  rcases List.mem_append.1 hs with hs | hs
  · exact k4 hs
  · exact h5 b (by simp) hs

theorem Sat.ckClose {c t : Nat} {L : List Ent} {last tic up base : Int} (h : Sat ρ H (Cel c [.ptr (some (t, 0)), .int .u64 tic, .int .u64 up, .int .u64 base] :: TmA t L last :: R)) : Sat ρ H (CkA c L last tic up base :: R) := by
  obtain ⟨hw, S, h1, h2⟩ := h
  obtain ⟨S1, S2, rfl, ⟨rfl, k1⟩, h3, h4⟩ := h1.cons_inv
  obtain ⟨S3, S4, rfl, ⟨n, k2⟩, h5, h6⟩ := h3.cons_inv
  refine ⟨hw, ([c] ++ S3) ++ S4, .cons (A := CkA c L last tic up base) ⟨H.next, h2 c (by simp), t, S3, k1, k2.next fun b hb => h2 b (by simp [hb]), rfl, fun hc => h4 c (by simp) (by simp [hc])⟩ h5 ?_, by simpa using h2⟩
  intro b hb hs
  rcases List.mem_append.1 hb with hb | hb
  · exact h4 b hb (by simp [hs])
  · exact h6 b hb hs

end

theorem set_now (x up : Int) (hx : 0 ≤ x ∧ x < 18446744073709551616) (hup : 0 ≤ up ∧ up ≤ 1000000) :
    0 ≤ (IntKind.u64.wrap (x + IntKind.u64.wrap (0 - up))).tmod 281474976710656 ∧ (IntKind.u64.wrap ((IntKind.u64.wrap (x + IntKind.u64.wrap (0 - up))).tmod 281474976710656 + up)).tmod 281474976710656 = x.tmod 281474976710656 := by
  have e : ∀ y : Int, IntKind.u64.wrap y = y % 18446744073709551616 := fun y => by simp [IntKind.wrap, IntKind.bits, IntKind.signed]
  simp only [e]
  rw [Int.tmod_eq_emod_of_nonneg (a := (x + (0 - up) % 18446744073709551616) % 18446744073709551616) (by omega), Int.tmod_eq_emod_of_nonneg (by omega), Int.tmod_eq_emod_of_nonneg hx.1]
  omega

section
variable {ρ : HF}

theorem sets_l1 (D : List Int) (x y : SV) (hD : D.length ≤ 100) (T : List AV) (H : AH) (hT : T.length = 133) (s13 : sl T 13 = .s x) (s14 : sl T 14 = .s y) (s15 : sl T 15 = i64 0) (Rs : List Asr) (hs : Sat ρ H (RowA encI 1 x D :: RowA encI 1 y D :: Rs)) (K : Ex → List AV → AH → Prop)
    (hk : ∀ T' H', T'.length = 133 → (∀ i, i ≤ 12 → sl T' i = sl T i) → Sat ρ H' Rs → K .norm T' H') :
    loopP tab noExt R.detentlaw8_ClockSets_l1 T H (blockK 4 K) := by
  have hlD := hs.row.1
  refine loopP_inv (I := fun m T1 H => T1.length = 133 ∧ (∀ i, i ≤ 12 → sl T1 i = sl T i) ∧ sl T1 13 = .s x ∧ sl T1 14 = .s y ∧ ∃ i : Nat, sl T1 15 = i64 i ∧ i ≤ D.length ∧ m = D.length - i ∧ Sat ρ H (RowA encI 1 x D :: RowA encI 1 y D :: Rs)) ?_ D.length _ _ ⟨hT, fun _ _ => rfl, s13, s14, 0, s15, Nat.zero_le _, rfl, hs⟩
  intro m T1 H ⟨hT, hk0, s13, s14, i, s15, hi, hm, hs⟩
  rw [detentlaw8_ClockSets_l1_at hT]
  have keep : ∀ (T2 : List AV), (∀ i, i ≤ 12 → sl T2 i = sl T1 i) → ∀ i, i ≤ 12 → sl T2 i = sl T i := fun T2 h i hi => (h i hi).trans (hk0 i hi)
  have c13 : ∀ i, i ≤ 12 → i = 0 ∨ i = 1 ∨ i = 2 ∨ i = 3 ∨ i = 4 ∨ i = 5 ∨ i = 6 ∨ i = 7 ∨ i = 8 ∨ i = 9 ∨ i = 10 ∨ i = 11 ∨ i = 12 := by omega
  by_cases hlt : i < D.length
  · have hlt' : (i : Int) < (D.length : Int) := by omega
    obtain ⟨b, c, l, rfl, hb, hl1⟩ := hs.rowI hlt
    obtain ⟨b', c', l', rfl, hb', hl2⟩ := hs.swap.rowI hlt
    have w1 : IntKind.i64.wrap ((i : Int) + 1) = (i : Int) + 1 := wrap_i64 (by omega) (by omega)
    generalize D.getD i 0 = X at *
    simp [s13, s14, s15, hlt, hlt', hb, hb', hl1, hl2, w1]
    exact ⟨D.length - (i + 1), by omega, keep _ (fun j hj => by rcases c13 j hj with rfl | rfl | rfl | rfl | rfl | rfl | rfl | rfl | rfl | rfl | rfl | rfl | rfl <;> rfl), rfl, rfl, i + 1, rfl, hlt, rfl, ((hs.bump _).bump _).bump _⟩
  · have hlt' : ¬ (i : Int) < (D.length : Int) := by omega
    simp [s13, s14, s15, hlD, hlt']
    exact hk _ _ rfl (keep _ (fun j hj => by rcases c13 j hj with rfl | rfl | rfl | rfl | rfl | rfl | rfl | rfl | rfl | rfl | rfl | rfl | rfl <;> rfl)) (hs.drop.drop.bump _)

/-- Ticks of both. -/
theorem sets_s2 (tic up : Int) (L : List Ent) (hL : L.length ≤ 100) (last base : Int) (a b : Nat) (T : List AV) (H : AH) (hT : T.length = 133) (s7 : sl T 7 = ptr a) (s9 : sl T 9 = ptr b) (hs : Sat ρ H [CkA a L last tic up 0, CkA b L last tic up base]) (K : Ex → List AV → AH → Prop)
    (hk : ∀ T' H', T'.length = 133 → (∀ i, i ≤ 12 → sl T' i = sl T i) → Sat ρ H' [CkA a (toL L (IntKind.u64.wrap (up + tic))) last tic (IntKind.u64.wrap (up + tic)) 0, CkA b (toL L (IntKind.u64.wrap (up + tic))) last tic (IntKind.u64.wrap (up + tic)) base] → K .norm T' H') :
    wpC tab noExt R.detentlaw8_ClockSets_s2 T H K := by
  rw [detentlaw8_ClockSets_s2_at hT]
  simp [s7, s9]
  refine (Tick_tri a L last tic up 0).use (hs.bump _) ?_
  rintro v H1 P' ⟨x, rfl, rfl⟩ hs1
  have hs1 : Sat ρ (H1.bump 3) [CkA b L last tic up base, RowA encI 1 x _, CkA a _ last tic _ 0] := (hs1.bump 3).front 2 (by simp)
  refine (Tick_tri b L last tic up base).use hs1 ?_
  rintro v H2 P' ⟨y, rfl, rfl⟩ hs2
  have hD : ((dueL L (IntKind.u64.wrap (up + tic))).map Ent.arg).length ≤ 100 := by
    rw [List.length_map]
    exact Nat.le_trans (List.takeWhile_sublist _).length_le hL
  generalize (dueL L (IntKind.u64.wrap (up + tic))).map Ent.arg = D at *
  have hs3 : Sat ρ H2 [RowA encI 1 x D, RowA encI 1 y D, CkA a (toL L (IntKind.u64.wrap (up + tic))) last tic (IntKind.u64.wrap (up + tic)) 0, CkA b (toL L (IntKind.u64.wrap (up + tic))) last tic (IntKind.u64.wrap (up + tic)) base] := by
    have h1 : Sat ρ H2 [RowA encI 1 x D, RowA encI 1 y D, CkA b _ last tic _ base, CkA a _ last tic _ 0] := hs2.front 2 (by simp)
    have h2 : Sat ρ H2 [CkA a _ last tic _ 0, RowA encI 1 x D, RowA encI 1 y D, CkA b _ last tic _ base] := h1.front 3 (by simp)
    have h3 : Sat ρ H2 [RowA encI 1 y D, CkA a _ last tic _ 0, RowA encI 1 x D, CkA b _ last tic _ base] := h2.front 2 (by simp)
    exact h3.front 2 (by simp)
  have l1 := hs3.row.1
  have l2 := hs3.swap.row.1
  simp [l1, l2]
  refine sets_l1 D x y hD _ _ rfl rfl rfl rfl _ ((hs3.bump _).bump _) K ?_
  intro T' H' hT' hk' hs'
  refine hk T' H' hT' (fun i hi => ?_) hs'
  rw [hk' i hi]
  have c13 : i = 0 ∨ i = 1 ∨ i = 2 ∨ i = 3 ∨ i = 4 ∨ i = 5 ∨ i = 6 ∨ i = 7 ∨ i = 8 ∨ i = 9 ∨ i = 10 ∨ i = 11 ∨ i = 12 := by omega
  rcases c13 with rfl | rfl | rfl | rfl | rfl | rfl | rfl | rfl | rfl | rfl | rfl | rfl | rfl <;> first | rfl | exact s7.symm | exact s9.symm

theorem sets_s5 (tic up : Int) (last base : Int) (a b : Nat) (T : List AV) (H : AH) (hT : T.length = 133) (s7 : sl T 7 = ptr a) (s9 : sl T 9 = ptr b) (hs : Sat ρ H [CkA a [] last tic up 0, CkA b [] last tic up base]) :
    wpC tab noExt R.detentlaw8_ClockSets_s5 T H (retK [.tmp 6] fun v _ => v = bl true) := by
  rw [detentlaw8_ClockSets_s5_at hT]
  obtain ⟨t, hs0⟩ := hs.ckOpen
  have e0 := hs0.cel
  simp [s7, s9, e0]
  refine (Len_tri t [] last).use (hs0.swap.bump _) ?_
  rintro v H1 P' ⟨rfl, rfl⟩ hs1
  try simp
  have hs2 := Sat.ckClose hs1.swap
  obtain ⟨t', hs3⟩ := hs2.swap.ckOpen
  have e1 := hs3.cel
  simp [e1]
  refine (Len_tri t' [] last).use hs3.swap ?_
  rintro v H2 P' ⟨rfl, rfl⟩ hs4
  try simp
  refine (Up_tri a [] last tic up 0).use (Sat.ckClose hs4.swap).swap ?_
  rintro v H3 P' ⟨rfl, rfl⟩ hs5
  try simp
  refine (Up_tri b [] last tic up base).use hs5.swap ?_
  rintro v H4 P' ⟨rfl, rfl⟩ hs6
  try simp

theorem sets_s6 (xs : List Int) (s2' : SV) (hx : RoI ρ .u64 s2' xs) (tic : Int) (ht : 1 ≤ tic ∧ tic ≤ 100) (L : List Ent) (last : Int) (hL : L.length ≤ 100) (hsr : Srt L) (hat : ∀ e ∈ L, 0 < e.at_ ∧ e.at_ ≤ 255 + tic) (a b : Nat) (T : List AV) (H : AH) (hT : T.length = 133) (s2 : sl T 2 = .s s2') (s7 : sl T 7 = ptr a) (s9 : sl T 9 = ptr b) (hs : Sat ρ H [CkA a L last tic 0 0, CkA b L last tic 0 0]) :
    wpC tab noExt R.detentlaw8_ClockSets_s6 T H (retK [.tmp 6] fun v _ => v = bl true) := by
  rw [detentlaw8_ClockSets_s6_at hT]
  have hlx := hx.len
  refine loopP_inv (I := fun m T H => T.length = 133 ∧ sl T 2 = .s s2' ∧ sl T 7 = ptr a ∧ sl T 9 = ptr b ∧ ∃ i : Nat, sl T 12 = i64 i ∧ i ≤ 300 ∧ m = 300 - i ∧ ∃ L : List Ent, L.length ≤ 100 ∧ Srt L ∧ (∀ e ∈ L, i * tic < e.at_ ∧ e.at_ ≤ 255 + tic) ∧ ∃ base, Sat ρ H [CkA a L last tic (i * tic) 0, CkA b L last tic (i * tic) base]) ?_ 300 _ _ ⟨rfl, s2, s7, s9, 0, rfl, by omega, rfl, L, hL, hsr, by simpa using hat, 0, by simpa using hs.bump 1⟩
  intro m T H ⟨hT, s2, s7, s9, i, s12, hi, hm, L, hL, hsr, hat, base, hs⟩
  rw [detentlaw8_ClockSets_l4_at hT]
  have b0 : 0 ≤ (i : Int) * tic := Int.mul_nonneg (by omega) (by omega)
  have b1 : (i : Int) * tic ≤ 300 * 100 := Int.mul_le_mul (by omega) (by omega) (by omega) (by omega)
  by_cases hlt : i < 300
  · have hlt' : (i : Int) < 300 := by omega
    have w1 : IntKind.i64.wrap ((i : Int) + 1) = (i : Int) + 1 := wrap_i64 (by omega) (by omega)
    have e2 : ((i : Int) + 1) * tic = i * tic + tic := by rw [Int.add_mul]; omega
    have w2 : IntKind.u64.wrap (i * tic + tic) = (i + 1) * tic := by rw [wrap_u64 (by omega) (by omega)]; omega
    have tail : ∀ (T1 : List AV) (H1 : AH) (base1 : Int) (K : Ex → List AV → AH → Prop), T1.length = 133 → sl T1 2 = .s s2' → sl T1 7 = ptr a → sl T1 9 = ptr b → sl T1 12 = i64 i → Sat ρ H1 [CkA a L last tic (i * tic) 0, CkA b L last tic (i * tic) base1] →
        (∀ T' H', (∃ m', m' < m ∧ (T'.length = 133 ∧ sl T' 2 = .s s2' ∧ sl T' 7 = ptr a ∧ sl T' 9 = ptr b ∧ ∃ i : Nat, sl T' 12 = i64 i ∧ i ≤ 300 ∧ m' = 300 - i ∧ ∃ L : List Ent, L.length ≤ 100 ∧ Srt L ∧ (∀ e ∈ L, i * tic < e.at_ ∧ e.at_ ≤ 255 + tic) ∧ ∃ base, Sat ρ H' [CkA a L last tic (i * tic) 0, CkA b L last tic (i * tic) base])) → K .norm T' H') →
        wpC tab noExt R.detentlaw8_ClockSets_s2 T1 H1 (blockK 3 (seqK (fun T H => wpC tab noExt R.detentlaw8_ClockSets_s3 T H K) K)) := by
      intro T1 H1 base1 K hT1 t2 t7 t9 t12 hs1 hk
      refine sets_s2 tic (i * tic) L hL last base1 a b T1 H1 hT1 t7 t9 hs1 _ ?_
      intro T' H' hT' hkeep hs2
      rw [w2] at hs2
      simp only [blockK_norm, seqK_norm]
      rw [detentlaw8_ClockSets_s3_at hT']
      have k2 := (hkeep 2 (by omega)).trans t2
      have k7 := (hkeep 7 (by omega)).trans t7
      have k9 := (hkeep 9 (by omega)).trans t9
      have k12 := (hkeep 12 (by omega)).trans t12
      simp [k2, k7, k9, k12, w1]
      refine hk _ _ ⟨300 - (i + 1), by omega, rfl, rfl, rfl, rfl, i + 1, rfl, hlt, rfl, toL L ((i + 1) * tic), ?_, ?_, ?_, base1, hs2.bump 3⟩
      · rw [(due_filter hsr _).2]; exact Nat.le_trans (List.length_filter_le _ _) hL
      · rw [(due_filter hsr _).2]; exact hsr.sublist List.filter_sublist
      · rw [(due_filter hsr _).2]
        intro e he
        rw [List.mem_filter] at he
        have h1 := hat e he.1
        have h2 := he.2
        simp only [decide_eq_true_eq] at h2
        exact ⟨h2, h1.2⟩
    by_cases hl : i < xs.length
    · have hl' : (i : Int) < (xs.length : Int) := by omega
      obtain ⟨bb, cp, l, rfl, hρ, hl1, hwf⟩ := hx.gets hl
      have hb := hs.roOf _ _ hρ
      have hu := Go.bounds_u64 hwf
      generalize xs.getD i 0 = X at *
      simp [s2, s7, s9, s12, hlt', hl, hl', hb, hl1]
      refine (Set_tri b L last tic (i * tic) base X).use (((hs.bump 2).bump 4).bump 6).swap ?_
      rintro v H1 P' ⟨rfl, rfl⟩ hs1
      obtain ⟨n0, n1⟩ := set_now X (i * tic) ⟨hu.1, by omega⟩ ⟨b0, by omega⟩
      generalize (IntKind.u64.wrap (X + IntKind.u64.wrap (0 - i * tic))).tmod 281474976710656 = nb at *
      have hb1 := hs1.roOf _ _ hρ
      have hX : 0 ≤ (i : Int) := by omega
      simp [hb1, hl1, hl]
      refine (Now_tri b L last tic (i * tic) nb).use (hs1.bump _) ?_
      rintro v H2 P' ⟨rfl, rfl⟩ hs2
      have hb2 := hs2.roOf _ _ hρ
      simp [hb2, hl1, n1]
      exact tail _ _ nb _ rfl rfl rfl rfl rfl hs2.swap fun T' H' h => h
    · have hl' : ¬ (i : Int) < (xs.length : Int) := by omega
      simp [s2, s7, s9, s12, hlt', hl', hlx]
      exact tail _ _ base _ rfl rfl rfl rfl rfl ((hs.bump _).bump _) fun T' H' h => h
  · have hie : i = 300 := by omega
    subst hie
    have hnil : L = [] := by
      cases L with
      | nil => rfl
      | cons e L =>
        have := hat e (by simp)
        rw [show ((300 : Nat) : Int) = 300 from rfl] at this
        omega
    subst hnil
    simp [s2, s7, s9, s12]
    exact sets_s5 tic _ last base a b _ _ rfl rfl rfl (hs.bump 2)

end

theorem ClockSets_abs (H : AH) (hw : WF H) (hn : H.next = 2) (avs : List AV) (ha : ArgsAt H.blk [.int .i64, .slice (.int .u8), .slice (.int .u64)] avs) :
    CallP tab noExt F.detentlaw8_ClockSets avs H fun v _ => v = bl true := by
  obtain ⟨tic, _, rfl, _, ha1⟩ := ha.int
  obtain ⟨ls, s1, _, rfl, hl, ha2⟩ := ha1.ints
  obtain ⟨xs, s2, _, rfl, hx, ha3⟩ := ha2.ints
  obtain rfl := ha3.nil_inv
  have hll := RoI.len hl
  have hxl := RoI.len hx
  apply detentlaw8_ClockSets_call
  refine (known8_at2 ((hw.bump _).bump _) (by simp [hn])).start (ρ := H.blk) ((hw.bump _).bump _) (fun _ _ h => h) ?_
  rintro v H1 hs rfl
  by_cases g1 : tic < 1
  · simp [g1]
  by_cases g2 : 100 < tic
  · simp [g1, g2]
  by_cases g3 : (40 : Int) < ls.length
  · simp [g1, g2, g3, hll]
  by_cases g4 : (40 : Int) < xs.length
  · simp [g1, g2, g3, g4, hll, hxl]
  simp [g1, g2, g3, g4, hll, hxl]
  refine (NewClock_tri tic (by omega) (by omega)).use ((hs.bump _).bump _) ?_
  rintro v H2 P' ⟨a, rfl, rfl⟩ hs
  simp
  refine (NewClock_tri tic (by omega) (by omega)).use (hs.bump _) ?_
  rintro v H3 P' ⟨b, rfl, rfl⟩ hs
  simp
  refine loopP_inv (I := fun m T H' => T.length = 133 ∧ sl T 1 = .s s1 ∧ sl T 2 = .s s2 ∧ sl T 7 = ptr a ∧ sl T 9 = ptr b ∧ ∃ i : Nat, sl T 11 = i64 i ∧ i ≤ ls.length ∧ m = ls.length - i ∧ ∃ L, L.Perm (entsOf (fun i => ls.getD i 0 + tic) i) ∧ Good L i ∧ Sat H.blk H' [CkA a L i tic 0 0, CkA b L i tic 0 0]) ?_ ls.length _ _ ⟨rfl, rfl, rfl, rfl, rfl, 0, rfl, Nat.zero_le _, rfl, [], List.Perm.refl _, Good.nil, hs.swap.bump 1⟩
  intro m T H' ⟨hT, t1, t2, t7, t9, i, t11, hi, hm, L, hp, hg, hs⟩
  rw [detentlaw8_ClockSets_l0_at hT]
  by_cases hlt : i < ls.length
  · have hlt' : (i : Int) < (ls.length : Int) := by omega
    obtain ⟨bb, cp, l, rfl, hρ, hl1, hwf⟩ := hl.gets hlt
    have hb := hs.roOf _ _ hρ
    obtain ⟨r1, r2⟩ := Go.bounds_u8 hwf
    have w1 : IntKind.i64.wrap ((i : Int) + 1) = (i : Int) + 1 := wrap_i64 (by omega) (by omega)
    have hins := ins_perm (f := fun i => ls.getD i 0 + tic) hp
    have hll : L.length < 256 := by rw [hp.length_eq, entsOf_len]; omega
    generalize ls.getD i 0 = X at *
    have w2 : IntKind.i64.wrap X = X := wrap_i64 (by omega) (by omega)
    have e1 : IntKind.u64.wrap (IntKind.u64.wrap (0 + X) + tic) = X + tic := by rw [wrap_u64 (x := 0 + X) (by omega) (by omega), wrap_u64 (by omega) (by omega)]; omega
    simp [t1, t2, t7, t9, t11, hlt, hlt', hb, hl1, w1, w2]
    refine (After_tri a L i tic 0 0 X i r1 (by omega) hll (by omega)).use ((hs.bump _).bump _) ?_
    rintro v H3 P' ⟨rfl, rfl⟩ hs
    rw [e1] at hs
    have hb2 := hs.roOf _ _ hρ
    simp [hb2, hl1, hlt, w2]
    refine (After_tri b L i tic 0 0 X i r1 (by omega) hll (by omega)).use (hs.swap.bump _) ?_
    rintro v H4 P' ⟨rfl, rfl⟩ hs
    rw [e1] at hs
    exact ⟨ls.length - (i + 1), by omega, rfl, rfl, rfl, rfl, i + 1, rfl, hlt, rfl, _, hins, hg.ins _ _ hll, hs.swap.bump 3⟩
  · have hie : i = ls.length := by omega
    subst hie
    simp [t1, t2, t7, t9, t11, hll]
    refine sets_s6 xs s2 hx tic (by omega) L _ (by rw [hp.length_eq, entsOf_len]; omega) hg.srt (fun e he => ?_) a b _ _ rfl rfl rfl rfl (hs.bump _)
    obtain ⟨k, hk, rfl⟩ := entsOf_mem.1 (hp.mem_iff.1 he)
    obtain ⟨_, _, _, _, _, _, hwf⟩ := hl.gets hk
    have := Go.bounds_u8 hwf
    simp only
    omega

end Go.AM
