/-
  Timers told apart; the same of both.
-/
import Derived.Test.YtkhffcbnhleeoaaRfB
namespace Go.AM
attribute [local simp] AH.ld AH.ldn AH.stn AH.new Nat.add_assoc resA resA1 fillA buildA slSlA boundsA boundA callvP

section
variable {ρ : HF} {H : AH} {Rs : List Asr}

theorem Sat.rowOfA {α : Type} {enc : α → List SV} {k : Nat} {s : SV} {r : List α} (h : Sat ρ H (RowA enc k s r :: Rs)) : Sat ρ H (Row enc k s r :: Rs) :=
  Sat.imp (A := RowA enc k s r) (B := Row enc k s r) (fun _ _ ⟨_, h⟩ => h.elim .inl fun ⟨b, c, j, h1, h2, _, h4, h5⟩ => .inr ⟨b, c, j, h1, h2, h4, h5⟩) h

theorem Sat.tmOpen {t : Nat} {L : List Ent} {last : Int} (h : Sat ρ H (TmA t L last :: Rs)) : ∃ s r, Sat ρ H (Cel t [s, .int .i64 last] :: Row encE 3 s r :: Rs) ∧ r.Perm L ∧ Hp r ∧ Good L last := by
  obtain ⟨hw, S, h1, h2⟩ := h
  obtain ⟨S1, S2, rfl, ⟨n, r, ⟨h0, s, Sr, k1, k2, rfl, k4⟩, k5⟩, h4, h5⟩ := h1.cons_inv
  refine ⟨s, r, ⟨hw, [t] ++ (Sr ++ S2), .cons (A := Cel t _) ⟨rfl, k1⟩ (.cons (A := Row encE 3 s r) ?_ h4 fun b hb => h5 b (by simp [hb])) ?_, by simpa using h2⟩, k5⟩
  · rcases k2 with h | ⟨b, c, j, h1, h2, _, h4, h5⟩
    · exact .inl h
    · exact .inr ⟨b, c, j, h1, h2, h4, h5⟩
  · intro b hb hs
    simp at hb
    subst hb
    rcases List.mem_append.1 hs with hs | hs
    · exact k4 hs
    · exact h5 b (by simp) hs

theorem Sat.tmClose {t : Nat} {L : List Ent} {last : Int} {s : SV} {r : List Ent} (h : Sat ρ H (Cel t [s, .int .i64 last] :: Row encE 3 s r :: Rs)) (hp : r.Perm L ∧ Hp r ∧ Good L last) : Sat ρ H (TmA t L last :: Rs) := by
  obtain ⟨hw, S, h1, h2⟩ := h
  obtain ⟨S1, S2, rfl, ⟨rfl, k1⟩, h3, h4⟩ := h1.cons_inv
  obtain ⟨S3, S4, rfl, k2, h5, h6⟩ := h3.cons_inv
  refine ⟨hw, ([t] ++ S3) ++ S4, .cons (A := TmA t L last) ⟨H.next, r, ⟨h2 t (by simp), s, S3, k1, ?_, rfl, fun hc => h4 t (by simp) (by simp [hc])⟩, hp⟩ h5 ?_, by simpa using h2⟩
  · rcases k2 with h | ⟨b, c, j, h1, h3, h4, h5⟩
    · exact .inl h
    · exact .inr ⟨b, c, j, h1, h3, h2 b (by simp [h3]), h4, h5⟩
  · intro b hb hs
    rcases List.mem_append.1 hb with hb | hb
    · exact h4 b hb (by simp [hs])
    · exact h6 b hb hs
end

theorem Clone_tri (s : SV) (r : List Ent) (hr : r.length ≤ 256) : Tri tab noExt F.slices_Clone_heap_row_heap_entry [.s s] [Row encE 3 s r] fun v P' => ∃ s', v = .s s' ∧ P' = [Row encE 3 s' r, Row encE 3 s r] := by
  intro ρ H Rs hs
  apply slices_Clone_heap_row_heap_entry_call
  have hs : Sat ρ H (Row encE 3 s r :: Rs) := hs
  rcases hs.rowInv with ⟨e, rfl, rfl, h1⟩ | ⟨b, c, j, rfl, h1, h2, h3⟩
  · simp
    exact Sat.mkNil ((hs.bump _).bump _ |>.bump _) 1
  · simp [-AH.new]
    have hs2 := ((hs.bump 1).bump 2).frees 4 [0, 2] (by decide) (by decide)
    simp only [List.map_cons, List.map_nil, List.cons_append, List.nil_append, bump_next, Nat.add_assoc, Nat.reduceAdd] at hs2
    refine Sat.copy encE_len hs2 (r2 := r) (fun H' h => ?_) rfl (by omega) ?_
    · exact (h.front 1 (by simp)).rowSrc encE_len
    · intro s' H' _ hs3
      exact ⟨_, ⟨s', rfl, rfl⟩, hs3⟩

theorem Twin_tri (t : Nat) (L : List Ent) (last : Int) : Tri tab noExt F.heap_Timers_Twin [ptr t] [TmA t L last] fun v P' => ∃ t', v = ptr t' ∧ P' = [TmA t' L last, TmA t L last] := by
  intro ρ H Rs hs
  apply heap_Timers_Twin_call
  obtain ⟨s, r, hs, hp⟩ := Sat.tmOpen hs
  have hb := hs.cel
  simp [hb, -AH.new]
  have hs1 := (hs.bump 1).free 12 10 (by decide)
  have hs2 : Sat ρ ((H.bump 1).bump 12) (Row encE 3 s r :: Fre (H.next + 1 + 10) :: Cel t [s, .int .i64 last] :: Rs) := hs1.front 2 (by simp)
  refine (Clone_tri s r (by rw [hp.1.length_eq]; exact hp.2.2.len)).use hs2 ?_
  rintro v H1 P' ⟨s', rfl, rfl⟩ hs3
  have hb3 := (hs3.front 3 (by simp)).cel
  simp [hb3, -AH.new]
  have hs4 : Sat ρ H1 (Fre (H.next + 1 + 10) :: Row encE 3 s' r :: Row encE 3 s r :: Cel t [s, .int .i64 last] :: Rs) := hs3.front 2 (by simp)
  rw [show H.next + 11 = H.next + 1 + 10 by omega]
  refine ⟨_, new_of _ hs4.fre, ?_⟩
  have hs5 := Sat.mk hs4 [s', .int .i64 last]
  show Sat ρ _ _
  have hs6 : Sat ρ _ (TmA (H.next + 1 + 10) L last :: Row encE 3 s r :: Cel t [s, .int .i64 last] :: Rs) := Sat.tmClose hs5 hp
  have hs7 : Sat ρ _ (Cel t [s, .int .i64 last] :: Row encE 3 s r :: TmA (H.next + 1 + 10) L last :: Rs) := (hs6.front 1 (by simp)).front 2 (by simp)
  exact (Sat.tmClose hs7 hp).swap

theorem Same3_tri (x y : SV) (D : List Int) (hD : D.length ≤ 1000000) : Tri tab noExt F.detentlaw3_Same [.s x, .s y] [Row encI 1 x D, Row encI 1 y D] fun v P' => v = bl true ∧ P' = [Row encI 1 x D, Row encI 1 y D] := by
  intro ρ H Rs hs
  have hs : Sat ρ H (Row encI 1 x D :: Row encI 1 y D :: Rs) := hs
  apply detentlaw3_Same_call
  have l1 := hs.rowLen
  have l2 := hs.swap.rowLen
  simp [l1, l2]
  refine loopP_invK (I := fun n T H => T.length = 26 ∧ sl T 0 = .s x ∧ sl T 1 = .s y ∧ ∃ i : Nat, sl T 5 = i64 i ∧ i ≤ D.length ∧ n = D.length - i ∧ Sat ρ H (Row encI 1 x D :: Row encI 1 y D :: Rs)) ?_ D.length _ _ ⟨rfl, rfl, rfl, 0, rfl, Nat.zero_le _, rfl, (by (repeat refine Sat.bump ?_ _); exact hs)⟩
  intro n T H ⟨hT, s0, s1, i, s5, hi, hn, hs⟩ K kn kr ko
  rw [detentlaw3_Same_l0_at hT]
  have l1 := hs.rowLen
  by_cases hlt : i < D.length
  · have hlt' : (i : Int) < (D.length : Int) := by omega
    obtain ⟨b, c, j, rfl, hb, _, _⟩ := hs.rowBlk (by omega)
    obtain ⟨b', c', j', rfl, hb', _, _⟩ := hs.swap.rowBlk (by omega)
    obtain ⟨e, he⟩ := get_ex hlt
    have hc := flat_cell encI_len (j := j) he 0 (by omega)
    have hc' := flat_cell encI_len (j := j') he 0 (by omega)
    simp [encI] at hc hc'
    have w1 : IntKind.i64.wrap ((i : Int) + 1) = (i : Int) + 1 := wrap_i64 (by omega) (by omega)
    simp [s0, s1, s5, hlt, hlt', hb, hb', hc, hc', w1]
    exact kn (D.length - (i + 1)) _ _ (by omega) ⟨rfl, rfl, rfl, i + 1, rfl, hlt, rfl, by (repeat refine Sat.bump ?_ _); exact hs⟩
  · have hie : i = D.length := by omega
    subst hie
    simp [s0, s1, s5, l1]
    refine ko _ _ _ ?_
    simp only [blockK_out, if_true, seqK_norm]
    rw [detentlaw3_Same_s1_at rfl]
    simp
    exact (hs.bump _).bump _

theorem leftV_tup (L : List Ent) (h now : Int) : ∃ a b, leftV L h now = .tup [.s (.int .i64 a), .s (.bool b)] := by
  unfold leftV; split <;> exact ⟨_, _, rfl⟩
theorem nextV_tup (L : List Ent) : ∃ a b, nextV L = .tup [.s (.int .u64 a), .s (.bool b)] := by
  unfold nextV; split <;> exact ⟨_, _, rfl⟩

theorem Same7_tri (t m : Nat) (L : List Ent) (last now : Int) (hl : last < 4611686018427387904) : Tri tab noExt F.detentlaw7_Same [ptr t, ptr m, u64 now] [TmA t L last, RfT m L last] fun v P' => v = bl true ∧ P' = [TmA t L last, RfT m L last] := by
  intro ρ H Rs hs
  have hs : Sat ρ H (TmA t L last :: RfT m L last :: Rs) := hs
  have hg := hs.good
  apply detentlaw7_Same_call
  refine (Next_tri t L last).use ((hs.bump _).bump _) ?_
  rintro v H1 P' ⟨rfl, rfl⟩ hs1
  obtain ⟨na, nb, hN⟩ := nextV_tup L
  simp [hN]
  refine (RtNext_tri m L last).use (hs1.swap.bump _) ?_
  rintro v H2 P' ⟨rfl, rfl⟩ hs2
  obtain ⟨r, hs3, hp, hh, _⟩ := Sat.rtOpen hs2
  obtain ⟨s, hs4⟩ := Sat.rfOpen hs3
  have hb := hs4.cel
  have hrl := hs4.swap.rowLen
  simp [hN, hb, hrl]
  refine (Len_tri t L last).use ((hs4.front 2 (by simp)).bump 18) ?_
  rintro v H3 P' ⟨rfl, rfl⟩ hs5
  have hb5 := (hs5.front 1 (by simp)).cel
  have hlen := hp.length_eq
  simp [hb5, hlen]
  have hs6 : Sat ρ H3 (TmA t L last :: RfT m L last :: Rs) := by
    have h1 : Sat ρ H3 (Cel m [s, .int .i64 last] :: Row encR 3 s r :: TmA t L last :: Rs) := (hs5.front 1 (by simp)).front 2 (by simp) |>.front 1 (by simp)
    exact (Sat.rtClose (Sat.rfClose h1) ⟨hp, hh, hg⟩).swap
  refine loopP_invK (I := fun n T H => T.length = 79 ∧ sl T 0 = ptr t ∧ sl T 1 = ptr m ∧ sl T 2 = u64 now ∧ ∃ i : Nat, sl T 11 = i64 i ∧ i ≤ 200 ∧ n = 200 - i ∧ Sat ρ H (TmA t L last :: RfT m L last :: Rs)) ?_ 200 _ _ ⟨rfl, rfl, rfl, rfl, 0, rfl, by omega, rfl, hs6.bump _⟩
  intro n T H ⟨hT, s0, s1, s2, i, s11, hi, hn, hs⟩ K kn kr ko
  rw [detentlaw7_Same_l0_at hT]
  obtain ⟨r, hs3, hp, hh, _⟩ := Sat.rtOpen hs.swap
  obtain ⟨s, hs4⟩ := Sat.rfOpen hs3
  have hb := hs4.cel
  have hpos := hg.pos
  have w0 : IntKind.i64.wrap (last + 1) = last + 1 := wrap_i64 (by omega) (by omega)
  have w1 : IntKind.i64.wrap ((i : Int) + 1) = (i : Int) + 1 := wrap_i64 (by omega) (by omega)
  have fin : ∀ (T : List AV) (H : AH), T.length = 79 → Sat ρ H (TmA t L last :: RfT m L last :: Rs) → wpC tab noExt R.detentlaw7_Same_s1 T H (retK [.tmp 6] fun v H' => ∃ P', (v = bl true ∧ P' = [TmA t L last, RfT m L last]) ∧ Sat ρ H' (P' ++ Rs)) := by
    intro T H hT hs
    rw [detentlaw7_Same_s1_at hT]
    exact ⟨_, rfl, _, ⟨rfl, rfl⟩, hs.bump _⟩
  by_cases c1 : (i : Int) ≤ last + 1
  · by_cases c2 : (i : Int) < 200
    · simp [s0, s1, s2, s11, hb, w0, c1, c2]
      obtain ⟨a, b, hL⟩ := leftV_tup L i now
      refine (Left_tri t L last i now).use ((hs.bump _).bump _) ?_
      rintro v H1 P' ⟨rfl, rfl⟩ hs1
      simp [hL]
      refine (RtLeft_tri m L last i now).use (hs1.swap.bump _) ?_
      rintro v H2 P' ⟨rfl, rfl⟩ hs2
      simp [hL, w1]
      exact kn (200 - (i + 1)) _ _ (by omega) ⟨rfl, rfl, rfl, rfl, i + 1, rfl, by omega, rfl, by (repeat refine Sat.bump ?_ _); exact hs2.swap⟩
    · simp [s0, s1, s2, s11, hb, w0, c1, c2]
      refine ko _ _ _ ?_
      exact fin _ _ rfl (hs.bump _)
  · simp [s0, s1, s2, s11, hb, w0, c1]
    refine ko _ _ _ ?_
    exact fin _ _ rfl (hs.bump _)

end Go.AM
