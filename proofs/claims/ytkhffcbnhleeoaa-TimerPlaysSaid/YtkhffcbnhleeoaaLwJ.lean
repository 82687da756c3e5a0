/-
  The law TimerPlays, in the abstract machine.
-/
import Derived.Test.YtkhffcbnhleeoaaLwC
import Derived.Test.YtkhffcbnhleeoaaRfC
import Derived.Test.YtkhffcbnhleeoaaAmV
namespace Go.AM
attribute [local simp] AH.ld AH.ldn AH.stn AH.new Nat.add_assoc resA resA1 fillA buildA slSlA boundsA boundA callvP

abbrev tyAct7 : Ty := .pair (.int .i64) (.pair (.int .i64) (.pair (.int .u64) .unit))

theorem act7 {ρ : HF} {xs : List tyAct7.den} {s : SV} (h : At ρ (.slice tyAct7) xs [s]) {i : Nat} (hi : i < xs.length) : ∃ b c l op n a, s = .slice (some (b, 0)) xs.length c 3 ∧ ρ b = some (.cells true l) ∧ (l.drop (i * 3)).take 3 = [.int .i64 op, .int .i64 n, .int .u64 a] ∧ i * 3 + 3 ≤ l.length := by
  obtain ⟨b, c, l, x, li, h1, h2, _, h4, h5, h6⟩ := At.slGet h hi
  obtain ⟨l1, l2, rfl, ⟨rfl, _⟩, l3, l4, rfl, ⟨rfl, _⟩, l5, l6, rfl, ⟨rfl, _⟩, rfl⟩ := h4
  exact ⟨b, c, l, _, _, _, h1, h2, h5, h6⟩

theorem TimerPlays_abs (H : AH) (hw : WF H) (hn : H.next = 2) (avs : List AV) (ha : ArgsAt H.blk [.slice tyAct7, .int .u64] avs) :
    CallP tab noExt F.detentlaw7_TimerPlays avs H fun v _ => v = bl true := by
  obtain ⟨xs, s, _, rfl, hx, ha1⟩ := ha.slice
  obtain ⟨now, _, rfl, _, ha2⟩ := ha1.int
  obtain rfl := ha2.nil_inv
  have hlen := At.slLen hx
  apply detentlaw7_TimerPlays_call
  refine (known7_at2 ((hw.bump _).bump _) (by simp [hn])).start (ρ := H.blk) ((hw.bump _).bump _) (fun _ _ h => h) ?_
  rintro v H1 hs rfl
  by_cases g7 : (100 : Int) < xs.length
  · simp [g7, hlen]
  simp [g7, hlen, -AH.new]
  refine New_tri.use ((hs.bump _).bump _) ?_
  rintro v H2 P' ⟨t, rfl, rfl⟩ hs
  try simp [-AH.new]
  have hs1 := hs.free 3 1 (by decide)
  refine ⟨_, new_of _ hs1.fre, ?_⟩
  have hs2 := Sat.mk hs1 [.slice none 0 0 1, .int .i64 0]
  have hs3 : Sat H.blk _ [TmA t [] 0, RfT (H2.next + 1) [] 0] := (Sat.rtClose (r := []) (L := []) (Sat.rfClose (r := []) (s := .slice none 0 0 1) (Sat.mkNil hs2 1).swap) ⟨List.Perm.refl _, List.Pairwise.nil, Good.nil⟩).swap
  generalize H2.next + 1 = m at *
  refine loopP_invK (I := fun n T H' => T.length = 99 ∧ sl T 0 = .s s ∧ sl T 1 = u64 now ∧ sl T 6 = ptr m ∧ ∃ i : Nat, sl T 7 = i64 i ∧ i ≤ xs.length ∧ n = xs.length - i ∧ ∃ (t : Nat) (L : List Ent) (last : Int), sl T 5 = ptr t ∧ L.length ≤ i ∧ last ≤ i ∧ ∃ Rs, Sat H.blk H' (TmA t L last :: RfT m L last :: Rs)) ?_ xs.length _ _ ⟨rfl, rfl, rfl, rfl, 0, rfl, Nat.zero_le _, rfl, t, [], 0, rfl, by simp, by simp, [], hs3.bump _⟩
  intro n T H' ⟨hT, s0, s1, s6, i, s7, hi, hn, t, L, last, s5, hL, hlast, Rs, hs⟩ K kn kr ko
  rw [detentlaw7_TimerPlays_l0_at hT]
  by_cases hlt : i < xs.length
  · have hlt' : (i : Int) < (xs.length : Int) := by omega
    obtain ⟨bb, cp, l, op, num, a, rfl, hρ, hl1, hl2⟩ := act7 hx hlt
    have hb := hs.roOf _ _ hρ
    have w1 : IntKind.i64.wrap ((i : Int) + 1) = (i : Int) + 1 := wrap_i64 (by omega) (by omega)
    have hm1 : xs.length - (i + 1) < n := by omega
    have hgood := hs.good
    have hpos := hgood.pos
    simp [s0, hlt, hlt', s7, hb, hl1, hl2, -AH.new]
    have hs1 := (hs.bump 4).free 6 4 (by decide)
    rw [bump_next] at hs1
    rw [show H'.next + 8 = H'.next + 4 + 4 by omega]
    refine ⟨_, new_of _ hs1.fre, ?_⟩
    have hs2 := Sat.mk hs1 [.int .i64 0, .int .i64 0, .int .u64 0]
    generalize (((H'.bump 4).bump 6).set (H'.next + 4 + 4) (Blk.cells false [SV.int IntKind.i64 0, SV.int IntKind.i64 0, SV.int IntKind.u64 0])) = H5 at *
    have hb5 := hs2.cel
    simp [hb5]
    have hs3 := Sat.set hs2 [.int .i64 op, .int .i64 num, .int .u64 a]
    generalize H5.set (H'.next + 8) (Blk.cells false [SV.int IntKind.i64 op, SV.int IntKind.i64 num, SV.int IntKind.u64 a]) = H6 at *
    have hX : ∀ (H7 : AH) (Rs' : List Asr), Sat H.blk H7 (Cel (H'.next + 4 + 4) [.int .i64 op, .int .i64 num, .int .u64 a] :: Rs') → H7.blk (H'.next + 8) = some (.cells false [.int .i64 op, .int .i64 num, .int .u64 a]) := fun H7 Rs' h => h.cel
    have e8 : H'.next + 8 = H'.next + 4 + 4 := by omega
    rw [← e8] at hs3 hX
    generalize H'.next + 8 = X at *
    have hb6 := hs3.cel
    have tail : ∀ (t' : Nat) (L' : List Ent) (last' : Int) (H7 : AH) (Rs' : List Asr) (K2 : AV → AH → Prop), L'.length ≤ i + 1 → last' ≤ i + 1 → Sat H.blk H7 (TmA t' L' last' :: RfT m L' last' :: Rs') → (∀ H8, Sat H.blk H8 (TmA t' L' last' :: RfT m L' last' :: Rs') → K2 (bl true) H8) → CallP tab noExt F.detentlaw7_Same [ptr t', ptr m, u64 now] H7 K2 := by
      intro t' L' last' H7 Rs' K2 _ hl' h hk
      refine (Same7_tri t' m L' last' now (by omega)).use h ?_
      rintro v H8 P' ⟨rfl, rfl⟩ hs8
      exact hk H8 hs8
    have fin : ∀ (T8 : List AV) (t' : Nat) (L' : List Ent) (last' : Int) (H8 : AH) (Rs' : List Asr), L'.length ≤ i + 1 → last' ≤ i + 1 → Sat H.blk H8 (TmA t' L' last' :: RfT m L' last' :: Rs') → T8.length = 99 → sl T8 0 = .s (.slice (some (bb, 0)) xs.length cp 3) → sl T8 1 = u64 now → sl T8 6 = ptr m → sl T8 5 = ptr t' → sl T8 7 = i64 ((i : Int) + 1) → K .norm T8 (H8.bump 3) := by
      intro T8 t' L' last' H8 Rs' h1 h2 h3 h4 h5 h6 h7 h8 h9
      exact kn _ _ _ hm1 ⟨h4, h5, h6, h7, i + 1, h9, hlt, rfl, t', L', last', h8, h1, by push_cast; exact h2, Rs', h3.bump _⟩
    by_cases o1 : op = 1
    · simp [hb6, o1, s5, s6]
      have hs4 : Sat H.blk H6 (TmA t L last :: Cel X _ :: RfT m L last :: Rs) := hs3.front 1 (by simp)
      refine (Insert_tri t L last a num (by omega) (by omega)).use (((hs4.bump 2).bump 2).bump 11) ?_
      rintro v H7 P' ⟨rfl, rfl⟩ hs5
      have hb7 := hX H7 _ (hs5.front 1 (by simp))
      simp [hb7, s6]
      refine (RtInsert_tri m L last a num (by omega) (by omega)).use ((hs5.front 2 (by simp)).bump 11) ?_
      rintro v H8 P' ⟨rfl, rfl⟩ hs6
      simp [s1, s5, s6]
      have hs7 : Sat H.blk H8 (TmA t (insE ⟨a, last + 1, num⟩ L) (last + 1) :: RfT m (insE ⟨a, last + 1, num⟩ L) (last + 1) :: Cel X _ :: Rs) := hs6.front 1 (by simp)
      refine tail t _ _ _ _ _ (by rw [insE_len]; omega) (by omega) ((hs7.bump _).bump _) ?_
      intro H9 hs9
      simp [w1]
      exact fin _ t _ _ _ _ (by rw [insE_len]; omega) (by omega) hs9 rfl rfl rfl rfl rfl rfl
    by_cases o2 : op = 2
    · simp [hb6, o2, s5, s6]
      have hs4 : Sat H.blk H6 (TmA t L last :: Cel X _ :: RfT m L last :: Rs) := hs3.front 1 (by simp)
      refine (Cancel_tri t L last num).use ((((hs4.bump 2).bump 2).bump 2).bump 9) ?_
      rintro v H7 P' ⟨rfl, rfl⟩ hs5
      have hb7 := hX H7 _ (hs5.front 1 (by simp))
      simp [hb7, s6]
      refine (RtCancel_tri m L last num).use (hs5.front 2 (by simp)) ?_
      rintro v H8 P' ⟨rfl, rfl⟩ hs6
      simp [s1, s5, s6]
      have hs7 : Sat H.blk H8 (TmA t (L.filter fun e => decide (e.handle ≠ num)) last :: RfT m (L.filter fun e => decide (e.handle ≠ num)) last :: Cel X _ :: Rs) := hs6.front 1 (by simp)
      have hfl : (L.filter fun e => decide (e.handle ≠ num)).length ≤ i + 1 := Nat.le_trans (List.length_filter_le _ _) (by omega)
      refine tail t _ _ _ _ _ hfl (by omega) (hs7.bump _) ?_
      intro H9 hs9
      simp [w1]
      exact fin _ t _ _ _ _ hfl (by omega) hs9 rfl rfl rfl rfl rfl rfl
    by_cases o3 : op = 3
    · simp [hb6, o3, s5, s6]
      have hs4 : Sat H.blk H6 (TmA t L last :: Cel X _ :: RfT m L last :: Rs) := hs3.front 1 (by simp)
      refine (Due_tri t L last a).use (((((hs4.bump 2).bump 2).bump 2).bump 2).bump 10) ?_
      rintro v H7 P' ⟨sx, rfl, rfl⟩ hs5
      have hb7 := hX H7 _ (hs5.front 2 (by simp))
      simp [hb7, s6]
      refine (RtDue_tri m L last a).use (hs5.front 3 (by simp)) ?_
      rintro v H8 P' ⟨sy, rfl, rfl⟩ hs6
      have hs7 : Sat H.blk H8 (RowA encI 1 sx ((dueL L a).map Ent.arg) :: Row encI 1 sy ((dueL L a).map Ent.arg) :: RfT m (toL L a) last :: TmA t (toL L a) last :: Cel X _ :: Rs) := hs6.front 2 (by simp)
      have hdl : (dueL L a).length ≤ L.length := (List.takeWhile_sublist _).length_le
      refine (Same3_tri sx sy _ (by rw [List.length_map]; omega)).use (Sat.rowOfA hs7) ?_
      rintro v H9 P' ⟨rfl, rfl⟩ hs8
      simp [s1, s5, s6]
      have hs9 : Sat H.blk H9 (TmA t (toL L a) last :: RfT m (toL L a) last :: Cel X _ :: Rs) := (hs8.drop.drop.front 1 (by simp))
      have htl : (toL L a).length ≤ i + 1 := Nat.le_trans (List.dropWhile_sublist _).length_le (by omega)
      refine tail t _ _ _ _ _ htl (by omega) (hs9.bump _) ?_
      intro H9 hs9
      simp [w1]
      exact fin _ t _ _ _ _ htl (by omega) hs9 rfl rfl rfl rfl rfl rfl
    by_cases o4 : op = 4
    · simp [hb6, o4, s5, s6]
      have hs4 : Sat H.blk H6 (TmA t L last :: Cel X _ :: RfT m L last :: Rs) := hs3.front 1 (by simp)
      refine (Twin_tri t L last).use ((((((hs4.bump 2).bump 2).bump 2).bump 2).bump 2).bump 3) ?_
      rintro v H7 P' ⟨t', rfl, rfl⟩ hs5
      simp [s5, s6]
      refine (Due_tri t L last 18446744073709551615).use ((hs5.swap.bump _).bump _) ?_
      rintro v H8 P' ⟨sx, rfl, rfl⟩ hs6
      simp [s1, s5, s6]
      have hs7 : Sat H.blk H8 (TmA t' L last :: RowA encI 1 sx _ :: TmA t (toL L 18446744073709551615) last :: Cel X _ :: RfT m L last :: Rs) := hs6.front 2 (by simp)
      have hs8 : Sat H.blk H8 (RfT m L last :: TmA t' L last :: RowA encI 1 sx _ :: TmA t (toL L 18446744073709551615) last :: Cel X _ :: Rs) := hs7.front 4 (by simp)
      refine tail t' _ _ _ _ _ (by omega) (by omega) ((hs8.swap.bump _).bump _) ?_
      intro H9 hs9
      simp [w1]
      exact fin _ t' _ _ _ _ (by omega) (by omega) hs9 rfl rfl rfl rfl rfl rfl
    · simp [hb6, o1, o2, o3, o4, s1, s5, s6]
      have hs4 : Sat H.blk H6 (TmA t L last :: RfT m L last :: Cel X _ :: Rs) := (hs3.front 2 (by simp)).front 2 (by simp)
      refine tail t L last _ (Cel X _ :: Rs) _ (by omega) (by omega) (by (repeat refine Sat.bump ?_ _); exact hs4) ?_
      intro H9 hs9
      simp [w1]
      exact fin _ t _ _ _ _ (by omega) (by omega) hs9 rfl rfl rfl rfl rfl rfl
  · have hie : i = xs.length := by omega
    subst hie
    simp [s0, s7, hlen]
    refine ko _ _ _ ?_
    simp only [blockK_out, if_true, seqK_norm]
    rw [detentlaw7_TimerPlays_s1_at rfl]
    simp

end Go.AM
