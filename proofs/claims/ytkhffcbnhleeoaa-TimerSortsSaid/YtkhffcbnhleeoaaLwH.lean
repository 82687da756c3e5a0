/-
  The law TimerSorts, in the abstract machine.
-/
import Derived.Test.YtkhffcbnhleeoaaLwC
import Derived.Test.YtkhffcbnhleeoaaPlC
namespace Go.AM
attribute [local simp] AH.ld AH.ldn AH.stn AH.new Nat.add_assoc resA resA1 fillA buildA slSlA boundsA boundA callvP

section
variable {ρ : HF}

theorem sorts_l1 (xs : List Int) (s0' : SV) (hx : RoI ρ .u16 s0' xs) (at_ : Int) (D : List Int) (s : SV) (hD200 : D.length ≤ 200) (hD : ∀ i, i < D.length → 0 ≤ D.getD i 0 ∧ D.getD i 0 < xs.length ∧ xs.getD (D.getD i 0).toNat 0 = at_)
    (hO : ∀ i, i + 1 < D.length → D.getD i 0 < D.getD (i + 1) 0) (Rs : List Asr)
    (T : List AV) (H : AH) (hT : T.length = 111) (s0 : sl T 0 = .s s0') (s7 : sl T 7 = u64 at_) (s9 : sl T 9 = .s s) (s10 : sl T 10 = i64 0) (hs : Sat ρ H (RowA encI 1 s D :: Rs)) (K : Ex → List AV → AH → Prop)
    (hk : ∀ T' H', T'.length = 111 → sl T' 0 = sl T 0 → sl T' 3 = sl T 3 → sl T' 5 = sl T 5 → sl T' 6 = sl T 6 → sl T' 9 = sl T 9 → Sat ρ H' (RowA encI 1 s D :: Rs) → K .norm T' H') :
    loopP tab noExt R.detentlaw7_TimerSorts_l1 T H (blockK 4 K) := by
  have hlD := hs.row.1
  have hlx := hx.len
  refine loopP_invK (I := fun m T1 H => T1.length = 111 ∧ sl T1 0 = sl T 0 ∧ sl T1 3 = sl T 3 ∧ sl T1 5 = sl T 5 ∧ sl T1 6 = sl T 6 ∧ sl T1 9 = sl T 9 ∧ sl T1 7 = u64 at_ ∧ ∃ i : Nat, sl T1 10 = i64 i ∧ i ≤ D.length ∧ m = D.length - i ∧ Sat ρ H (RowA encI 1 s D :: Rs)) ?_ D.length _ _ ⟨hT, rfl, rfl, rfl, rfl, rfl, s7, 0, s10, Nat.zero_le _, rfl, hs⟩
  intro m T1 H ⟨hT, t0, t3, t5, t6, t9, t7, i, t10, hi, hm, hs⟩ K1 kn _ ko
  rw [detentlaw7_TimerSorts_l1_at hT]
  by_cases hlt : i < D.length
  · have hlt' : (i : Int) < (D.length : Int) := by omega
    obtain ⟨b, c, l, rfl, hb, hl1⟩ := hs.rowI hlt
    obtain ⟨d1, d2, d3⟩ := hD i hlt
    obtain ⟨b2, c2, l2, rfl, hρ2, hx1, hw1⟩ := hx.gets (i := (D.getD i 0).toNat) (by omega)
    have hb2 := hs.roOf _ _ hρ2
    have hbd := Go.bounds_u16 hw1
    have w1 : IntKind.i64.wrap ((i : Int) + 1) = (i : Int) + 1 := wrap_i64 (by omega) (by omega)
    rw [d3] at hx1 hbd
    have w2 : IntKind.u64.wrap at_ = at_ := wrap_u64 (by omega) (by omega)
    generalize hA : D.getD i 0 = A at *
    have n0 : ¬ A < 0 := by omega
    have n1 : ¬ (xs.length : Int) ≤ A := by omega
    have nb : A.toNat < xs.length := by omega
    by_cases h0 : i = 0
    · subst h0
      simp at hb hl1 w1
      simp [s0, t0, t9, s9, t7, t10, hlt, hlt', hb, hl1, n0, n1, nb, d1, d2, hb2, hx1, w2]
      refine kn (D.length - 1) _ _ (by omega) ⟨rfl, s0.symm, t3, t5, t6, s9.symm, rfl, 1, rfl, by omega, rfl, by (repeat refine Sat.bump ?_ _); exact hs⟩
    · obtain ⟨j, rfl⟩ : ∃ j, i = j + 1 := ⟨i - 1, by omega⟩
      have o := hO j hlt
      rw [hA] at o
      obtain ⟨b', c', l', he, hb', hl2⟩ := hs.rowI (i := j) (by omega)
      cases he
      rw [hb] at hb'; cases hb'
      generalize hB : D.getD j 0 = B at *
      have w3 : IntKind.i64.wrap (j : Int) = (j : Int) := wrap_i64 (by omega) (by omega)
      have n2 : ¬ A ≤ B := by omega
      have p1 : (0 : Int) < (j : Int) + 1 := by omega
      have p2 : (0 : Int) ≤ (j : Int) + 1 := by omega
      have p3 : (j : Int) < (D.length : Int) := by omega
      have p4 : j < D.length := by omega
      have p5 : (j : Int) + 1 < (D.length : Int) := by omega
      have p6 : ((j : Int) + 1).toNat = j + 1 := by omega
      have w4 : IntKind.i64.wrap ((j : Int) + 1 + 1) = (j : Int) + 1 + 1 := wrap_i64 (by omega) (by omega)
      simp [s0, t0, t9, s9, t7, t10, hlt, hb, hl1, n0, n1, nb, d1, d2, hb2, hx1, w2, w3, w4, n2, p1, p2, p3, p4, p5, p6, hl2]
      refine kn (D.length - (j + 1 + 1)) _ _ (by omega) ⟨rfl, s0.symm, t3, t5, t6, s9.symm, rfl, j + 1 + 1, rfl, by omega, rfl, by (repeat refine Sat.bump ?_ _); exact hs⟩
  · have hlt' : ¬ (i : Int) < (D.length : Int) := by omega
    simp [t9, s9, t10, hlD, hlt']
    refine ko _ _ _ ?_
    exact hk _ _ rfl t0 t3 t5 t6 (s9.symm) (hs.bump _)

theorem sorts_plain {f : Nat → Int} {n : Nat} {e : Ent} {L : List Ent} (hs : Srt (e :: L)) (hm : ∀ x ∈ e :: L, ∃ i, i < n ∧ x = ⟨f i, (i : Int) + 1, i⟩) (D : List Int) (hD : D = (dueL (e :: L) e.at_).map Ent.arg) :
    (∀ i, i < D.length → 0 ≤ D.getD i 0 ∧ D.getD i 0 < n ∧ f (D.getD i 0).toNat = e.at_) ∧ (∀ i, i + 1 < D.length → D.getD i 0 < D.getD (i + 1) 0) ∧ 0 < D.length ∧ D.length + (toL (e :: L) e.at_).length = L.length + 1 := by
  have hsub : (dueL (e :: L) e.at_).Sublist (e :: L) := List.takeWhile_sublist _
  have hsd := hs.sublist hsub
  have hat : ∀ x ∈ dueL (e :: L) e.at_, x.at_ = e.at_ := fun x hx => by
    have h1 : x.at_ ≤ e.at_ := by
      rw [(due_filter hs _).1, List.mem_filter] at hx
      simpa using hx.2
    rcases List.mem_cons.1 (hsub.subset hx) with rfl | h
    · rfl
    · have := (List.pairwise_cons.1 hs).1 _ h
      rw [ahead_iff] at this; omega
  have hne : 0 < (dueL (e :: L) e.at_).length := by simp [dueL]
  have hlen : (dueL (e :: L) e.at_).length + (toL (e :: L) e.at_).length = L.length + 1 := by
    rw [← List.length_append, due_to]; rfl
  generalize dueL (e :: L) e.at_ = M at *
  subst hD
  have hget : ∀ i (h : i < M.length), (M.map Ent.arg).getD i 0 = M[i].arg := fun i h => by
    rw [List.getD_eq_getElem?_getD, List.getElem?_map, List.getElem?_eq_getElem h]; rfl
  refine ⟨fun i hi => ?_, fun i hi => ?_, by simpa using hne, by simpa using hlen⟩
  · rw [List.length_map] at hi
    rw [hget i hi]
    have h1 := hat M[i] (List.getElem_mem hi)
    obtain ⟨k, hk, he⟩ := hm M[i] (hsub.subset (List.getElem_mem hi))
    rw [he] at h1 ⊢
    simp only [Int.toNat_natCast] at h1 ⊢
    exact ⟨by omega, by omega, h1⟩
  · rw [List.length_map] at hi
    rw [hget i (by omega), hget (i + 1) hi]
    have h1 := hat M[i] (List.getElem_mem (by omega))
    have h2 := hat M[i + 1] (List.getElem_mem hi)
    obtain ⟨k, hk, he⟩ := hm M[i] (hsub.subset (List.getElem_mem (by omega)))
    obtain ⟨m, hm, he'⟩ := hm M[i + 1] (hsub.subset (List.getElem_mem hi))
    have h3 := srt_get hsd (Nat.lt_succ_self i) hi
    rw [ahead_iff, h1, h2] at h3
    rw [he, he'] at h3 ⊢
    simp only at h3 ⊢
    omega

theorem sorts_s5 (n : Nat) (s0' : SV) (hlx : lenA (.s s0') = some (i64 n)) (T : List AV) (H : AH) (hT : T.length = 111) (s0 : sl T 0 = .s s0') (s5 : sl T 5 = i64 n) :
    wpC tab noExt R.detentlaw7_TimerSorts_s5 T H (retK [.tmp 2] fun v _ => v = bl true) := by
  rw [detentlaw7_TimerSorts_s5_at hT]
  simp [s0, s5, hlx]

theorem sorts_s3 (k : Nat) (hk : k ≤ 1000) (T : List AV) (H : AH) (hT : T.length = 111) (s6 : sl T 6 = i64 k) (K : Ex → List AV → AH → Prop)
    (hK : ∀ T' : List AV, T'.length = 111 → sl T' 0 = sl T 0 → sl T' 3 = sl T 3 → sl T' 5 = sl T 5 → sl T' 6 = i64 ((k + 1 : Nat) : Int) → K .norm T' (H.bump 3)) : wpC tab noExt R.detentlaw7_TimerSorts_s3 T H K := by
  rw [detentlaw7_TimerSorts_s3_at hT]
  have w2 : IntKind.i64.wrap ((k : Int) + 1) = ((k + 1 : Nat) : Int) := by rw [wrap_i64 (by omega) (by omega)]; omega
  simp [s6, w2]
  exact hK _ rfl rfl rfl rfl rfl

theorem sorts_s6 (xs : List Int) (s0' : SV) (hx : RoI ρ .u16 s0' xs) (hn : xs.length ≤ 200) (L : List Ent) (hsr : Srt L) (hmem : ∀ x ∈ L, ∃ i, i < xs.length ∧ x = ⟨xs.getD i 0, (i : Int) + 1, i⟩) (hll : L.length = xs.length) (last : Int) (t : Nat)
    (T : List AV) (H : AH) (hT : T.length = 111) (s0 : sl T 0 = .s s0') (s3 : sl T 3 = ptr t) (hs : Sat ρ H [TmA t L last]) :
    wpC tab noExt R.detentlaw7_TimerSorts_s6 T H (retK [.tmp 2] fun v _ => v = bl true) := by
  rw [detentlaw7_TimerSorts_s6_at hT]
  have hlx := hx.len
  refine loopP_invK (I := fun m T H => T.length = 111 ∧ sl T 0 = .s s0' ∧ sl T 3 = ptr t ∧ ∃ k c : Nat, sl T 5 = i64 c ∧ sl T 6 = i64 k ∧ ∃ L : List Ent, Srt L ∧ (∀ x ∈ L, ∃ i, i < xs.length ∧ x = ⟨xs.getD i 0, (i : Int) + 1, i⟩) ∧ c + L.length = xs.length ∧ k + L.length ≤ xs.length ∧ m = L.length ∧ Sat ρ H [TmA t L last]) ?_ L.length _ _ ⟨rfl, s0, s3, 0, 0, rfl, rfl, L, hsr, hmem, by omega, by omega, rfl, (hs.bump 1).bump 1⟩
  intro m T H ⟨hT, s0, s3, k, c, s5, s6, L, hsr, hmem, hc, hk, hm, hs⟩ K kn _ ko
  rw [detentlaw7_TimerSorts_l4_at hT]
  have p1 : (k : Int) ≤ 256 := by omega
  simp [s0, s3, s5, s6, p1]
  refine (Len_tri t L last).use (hs.bump _) ?_
  rintro v H1 P' ⟨rfl, rfl⟩ hs1
  cases L with
  | nil =>
    simp
    refine ko _ _ _ ?_
    simp at hc
    simp only [blockK_out, if_true, seqK_norm]
    exact sorts_s5 _ s0' hlx _ _ rfl rfl (by rw [← hc]; rfl)
  | cons e L =>
    have p2 : (0 : Int) < (L.length : Int) + 1 := by omega
    simp [p2]
    refine (Next_tri t (e :: L) last).use (hs1.bump _) ?_
    rintro v H2 P' ⟨rfl, rfl⟩ hs2
    simp [nextV]
    refine (Due_tri t (e :: L) last e.at_).use (hs2.bump _) ?_
    rintro v H3 P' ⟨s, rfl, rfl⟩ hs3
    obtain ⟨q1, q2, q3, q4⟩ := sorts_plain (f := fun i => xs.getD i 0) hsr hmem _ rfl
    have hsr' : Srt (toL (e :: L) e.at_) := by rw [(due_filter hsr _).2]; exact hsr.sublist List.filter_sublist
    have hmem' : ∀ x ∈ toL (e :: L) e.at_, ∃ i, i < xs.length ∧ x = ⟨xs.getD i 0, (i : Int) + 1, i⟩ := fun x hx => hmem x (by rw [(due_filter hsr _).2] at hx; exact (List.mem_filter.1 hx).1)
    generalize (dueL (e :: L) e.at_).map Ent.arg = D at *
    have hlD := hs3.row.1
    have n1 : ¬ (D.length : Int) = 0 := by omega
    have n2 : ¬ D = [] := fun h => by rw [h] at q3; simp at q3
    simp at hc hk
    simp [hlD, n1, n2]
    refine sorts_l1 xs s0' hx e.at_ D s (by omega) q1 q2 _ _ _ rfl rfl rfl rfl rfl ((hs3.bump _).bump _) _ ?_
    intro T' H' hT' t0 t3 t5 t6 t9 hs4
    simp only [seqK_norm]
    rw [detentlaw7_TimerSorts_s2_at hT']
    have w1 : IntKind.i64.wrap ((c : Int) + D.length) = ((c + D.length : Nat) : Int) := by rw [wrap_i64 (by omega) (by omega)]; omega
    have w2 : IntKind.i64.wrap ((k : Int) + 1) = ((k + 1 : Nat) : Int) := by rw [wrap_i64 (by omega) (by omega)]; omega
    have t9' : sl T' 9 = .s s := t9
    have t5' : sl T' 5 = i64 c := t5
    have t6' : sl T' 6 = i64 k := t6
    simp [t9', t5', t6', hlD, w1]
    refine sorts_s3 k (by omega) _ _ rfl rfl _ ?_
    intro T'' hT'' r0 r3 r5 r6
    refine kn (toL (e :: L) e.at_).length _ _ (by simp at hm; omega) ⟨hT'', r0.trans t0, r3.trans t3, k + 1, c + D.length, r5, r6, toL (e :: L) e.at_, hsr', hmem', by omega, by omega, rfl, by (repeat refine Sat.bump ?_ _); exact hs4.drop⟩
end

theorem TimerSorts_abs (H : AH) (hw : WF H) (hn : H.next = 2) (avs : List AV) (ha : ArgsAt H.blk [.slice (.int .u16)] avs) :
    CallP tab noExt F.detentlaw7_TimerSorts avs H fun v _ => v = bl true := by
  obtain ⟨xs, s, _, rfl, hx, ha4⟩ := ha.ints
  obtain rfl := ha4.nil_inv
  have hlen := RoI.len hx
  apply detentlaw7_TimerSorts_call
  refine (known7_at2 ((hw.bump _).bump _) (by simp [hn])).start (ρ := H.blk) ((hw.bump _).bump _) (fun _ _ h => h) ?_
  rintro v H1 hs rfl
  by_cases g7 : (200 : Int) < xs.length
  · simp [g7, hlen]
  simp [g7, hlen]
  refine New_tri.use ((hs.bump _).bump _) ?_
  rintro v H2 P' ⟨t, rfl, rfl⟩ hs
  try simp
  refine loopP_invK (I := fun m T H' => T.length = 111 ∧ sl T 0 = .s s ∧ sl T 3 = ptr t ∧ ∃ i : Nat, sl T 4 = i64 i ∧ i ≤ xs.length ∧ m = xs.length - i ∧ ∃ L, L.Perm (entsOf (fun i => xs.getD i 0) i) ∧ Good L i ∧ Sat H.blk H' [TmA t L i]) ?_ xs.length _ _ ⟨rfl, rfl, rfl, 0, rfl, Nat.zero_le _, rfl, [], List.Perm.refl _, Good.nil, hs.bump _⟩
  intro m T H' ⟨hT, s0, s3, i, s4, hi, hm, L, hp, hg, hs⟩ K kn _ ko
  rw [detentlaw7_TimerSorts_l0_at hT]
  by_cases hlt : i < xs.length
  · have hlt' : (i : Int) < (xs.length : Int) := by omega
    obtain ⟨bb, cp, l, rfl, hρ, hl1, hwf⟩ := hx.gets hlt
    have hb := hs.roOf _ _ hρ
    have hbd := Go.bounds_u16 hwf
    have w1 : IntKind.i64.wrap ((i : Int) + 1) = (i : Int) + 1 := wrap_i64 (by omega) (by omega)
    have hins := ins_perm (f := fun i => xs.getD i 0) hp
    have hll : L.length < 256 := by rw [hp.length_eq, entsOf_len]; omega
    generalize xs.getD i 0 = X at *
    have w2 : IntKind.u64.wrap X = X := wrap_u64 (by omega) (by omega)
    simp [s0, s3, s4, hlt, hlt', hb, hl1, w1, w2]
    refine (Insert_tri t L i X i hll (by omega)).use ((hs.bump _).bump _) ?_
    rintro v H3 P' ⟨rfl, rfl⟩ hs
    refine kn (xs.length - (i + 1)) _ _ (by omega) ⟨rfl, rfl, rfl, i + 1, rfl, hlt, rfl, _, hins, hg.ins _ _ hll, hs.bump _⟩
  · have hie : i = xs.length := by omega
    subst hie
    simp [s0, s3, s4, hlen]
    refine ko _ _ _ ?_
    exact sorts_s6 xs s hx (by omega) L hg.srt (fun x hx => entsOf_mem.1 (hp.mem_iff.1 hx)) (by rw [hp.length_eq, entsOf_len]) _ t _ _ rfl rfl rfl (hs.bump _)

end Go.AM
