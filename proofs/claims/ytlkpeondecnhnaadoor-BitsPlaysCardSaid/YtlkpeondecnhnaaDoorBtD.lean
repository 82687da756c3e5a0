/-
  bits: gone over; set and cleared again.
-/
import Derived.Test.YtlkpeondecnhnaaDoorBtC
namespace Go.AM
attribute [local simp] AH.ld AH.ldn AH.stn AH.new Nat.add_assoc resA resA1 fillA buildA slSlA boundsA boundA callvP

theorem BitsWalks_abs (H : AH) (hw : WF H) (h0 : H.blk 0 = some (.cells true tzCells)) (avs : List AV) (ha : ArgsAt H.blk [.slice (.int .i64)] avs) : CallP tab noExt F.detentlaw5_BitsWalks avs H fun v _ => v = bl true := by
  obtain ⟨xs, s, _, rfl, hx, ha2⟩ := ha.slice
  obtain rfl := ha2.nil'
  have hlen := At.slLen hx
  apply detentlaw5_BitsWalks_call
  refine known5_tri.use (R := []) (((tz_start hw h0).bump 1).bump 2) ?_
  rintro v H0 P' ⟨rfl, rfl⟩ hs0
  by_cases g : (300 : Int) < xs.length
  · simp [hlen, g]
  simp [hlen, g, -AH.new]
  have hs1 := ((Sat.drop hs0).bump 3).frees 1 [0] (by decide) (by decide)
  simp only [List.map_cons, List.map_nil, List.cons_append, List.nil_append, bump_next, Nat.add_assoc, Nat.reduceAdd, Nat.add_zero] at hs1
  refine ⟨_, new_of _ hs1.fre, ?_⟩
  have hs2 := ((hs1.newMap h0).rdRo hx).swap
  refine (MapSet_tri _ _ _ _ _ (by omega)).use (hs2.bump 2) ?_
  rintro v H1 P' ⟨rfl, rfl⟩ hs3
  generalize onSet (fun _ => false) xs = on at *
  generalize H0.next + 3 = b at *
  refine loopP_invK (I := fun n T H' => T.length = 41 ∧ sl T 3 = ptr b ∧ ∃ q : Nat, sl T 5 = i64 q ∧ sl T 4 = i64 (rowUpto on q).length ∧ sl T 6 = i64 (rowUpto on q).length ∧ q ≤ 256 ∧ n = 256 - q ∧ Sat H.blk H' [MpA b on [], RdI s xs]) ?_ 256 _ _ ⟨rfl, rfl, 0, rfl, rfl, rfl, by omega, rfl, by (repeat refine Sat.bump ?_ _); exact hs3⟩
  intro n T H' ⟨hT, s3, q, s5, s4, s6, hq, hn, hs⟩ K kn kr ko
  rw [detentlaw5_BitsWalks_l0_at hT]
  have hle := rowUpto_le on q
  have g2 : (((rowUpto on q).length : Nat) : Int) < 257 := by omega
  simp [s3, s4, s5, s6, g2]
  refine (MapAfter_tri b on [] q).use (R := [RdI s xs]) ((hs.bump 2).bump 7) ?_
  rintro v H2 P' ⟨rfl, rfl⟩ hs4
  rw [Int.toNat_natCast]
  cases hnx : nextOn on q with
  | none =>
    simp [afterV]
    refine (MapLen_tri b on []).use (R := [RdI s xs]) ((hs4.bump 2).bump 4) ?_
    rintro v H3 P' ⟨rfl, rfl⟩ hs5
    rw [rowUpto_none hq hnx]
    simp
    refine kr _ _ ?_
    simp
  | some j =>
    obtain ⟨j1, j2, j3, j4⟩ := nextOn_some_inv hnx
    have g3 : ¬ ((j : Int) + 1 ≤ (q : Int)) := by omega
    have hlj := rowUpto_le on (j + 1)
    have hrow := rowUpto_next hnx
    have hl2 : (rowUpto on (j + 1)).length = (rowUpto on q).length + 1 := by rw [hrow]; simp
    simp [afterV, g3]
    refine (MapHas_tri b on [] _).use (R := [RdI s xs]) ((hs4.bump 2).bump 8) ?_
    rintro v H3 P' ⟨rfl, rfl⟩ hs5
    have hh : hasOn on ((j : Int) + 1) = true := by
      unfold hasOn
      rw [show ((j : Int) + 1).toNat = j + 1 by omega, j3, decide_eq_true (by omega)]; rfl
    have w1 : IntKind.i64.wrap ((((rowUpto on q).length : Nat) : Int) + 1) = (((rowUpto on q).length : Nat) : Int) + 1 := wrap_i64 (by omega) (by omega)
    rw [hh]
    simp [w1]
    exact kn (256 - (j + 1)) _ _ (by omega) ⟨rfl, rfl, j + 1, rfl, by rw [hl2]; rfl, by rw [hl2]; rfl, by omega, rfl, by (repeat refine Sat.bump ?_ _); exact hs5⟩

theorem onClear_set (on : Nat → Bool) (xs : List Int) : onClear (onSet on xs) xs = onClear on xs := by
  funext p
  unfold onClear onSet
  cases on p <;> cases xs.contains (p : Int) <;> rfl

theorem has_clear {on : Nat → Bool} {xs : List Int} {x : Int} {i : Nat} (h : xs[i]? = some x) : hasOn (onClear on xs) x = false := by
  rw [hasOn_clear]
  have : xs.contains x = true := by
    rw [List.contains_iff_mem]
    exact List.mem_of_getElem? h
  rw [this]; simp

theorem BitsBack_abs (H : AH) (hw : WF H) (h0 : H.blk 0 = some (.cells true tzCells)) (avs : List AV) (ha : ArgsAt H.blk [.slice (.int .i64), .slice (.int .i64)] avs) : CallP tab noExt F.detentlaw5_BitsBack avs H fun v _ => v = bl true := by
  obtain ⟨xs, s, _, rfl, hx, ha2⟩ := ha.slice
  obtain ⟨ys, t, _, rfl, hy, ha2⟩ := ha2.slice
  obtain rfl := ha2.nil'
  have hlen := At.slLen hx
  have hlen2 := At.slLen hy
  apply detentlaw5_BitsBack_call
  refine known5_tri.use (R := []) (((tz_start hw h0).bump 1).bump 2) ?_
  rintro v H0 P' ⟨rfl, rfl⟩ hs0
  by_cases g : (100 : Int) < xs.length
  · simp [hlen, g]
  by_cases g2 : (100 : Int) < ys.length
  · simp [hlen, hlen2, g, g2]
  simp [hlen, hlen2, g, g2, -AH.new]
  have hs1 := ((Sat.drop hs0).bump 8).frees 2 [0, 1] (by decide) (by decide)
  simp only [List.map_cons, List.map_nil, List.cons_append, List.nil_append, bump_next, Nat.add_assoc, Nat.reduceAdd, Nat.add_zero] at hs1
  have hs1 : Sat H.blk ((H0.bump 8).bump 2) [Fre (H0.next + 8), Fre (H0.next + 9)] := hs1
  generalize H0.next + 8 = a at *
  generalize H0.next + 9 = b at *
  refine ⟨_, new_of _ hs1.fre, ?_⟩
  have hs2 := (hs1.newMap h0).swap
  refine ⟨_, new_of _ hs2.fre, ?_⟩
  have hs3 := ((hs2.newMap h0).rdRo hy).rdRo hx
  have hs4 : Sat H.blk _ [MpA a (fun _ => false) [], RdI s xs, RdI t ys, MpA b (fun _ => false) []] := hs3.re [3, 0, 1, 2] (by simp) (by decide)
  refine (MapSet_tri _ _ _ _ _ (by omega)).use (hs4.bump 2) ?_
  rintro v H1 P' ⟨rfl, rfl⟩ hs5
  have hs5 : Sat H.blk H1 [MpA a (onSet (fun _ => false) xs) [], RdI t ys, RdI s xs, MpA b (fun _ => false) []] := hs5.re [0, 2, 1] (by simp) (by decide)
  refine (MapSet_tri _ _ _ _ _ (by omega)).use (hs5.bump 2) ?_
  rintro v H2 P' ⟨rfl, rfl⟩ hs6
  refine (MapClear_tri _ _ _ _ _ (by omega)).use (hs6.bump 2) ?_
  rintro v H3 P' ⟨rfl, rfl⟩ hs7
  rw [onClear_set] at hs7
  have hs7 : Sat H.blk H3 [MpA b (fun _ => false) [], RdI s xs, MpA a (onClear (onSet (fun _ => false) xs) ys) [], RdI t ys] := hs7.re [3, 2, 0, 1] (by simp) (by decide)
  refine (MapSet_tri _ _ _ _ _ (by omega)).use (hs7.bump 2) ?_
  rintro v H4 P' ⟨rfl, rfl⟩ hs8
  have hs8 : Sat H.blk H4 [MpA b (onSet (fun _ => false) xs) [], RdI t ys, RdI s xs, MpA a (onClear (onSet (fun _ => false) xs) ys) []] := hs8.re [0, 3, 1, 2] (by simp) (by decide)
  refine (MapClear_tri _ _ _ _ _ (by omega)).use (hs8.bump 2) ?_
  rintro v H5 P' ⟨rfl, rfl⟩ hs9
  obtain ⟨on, hon⟩ : ∃ on, on = onClear (onSet (fun _ => false) xs) ys := ⟨_, rfl⟩
  have hno : ∀ (i : Nat) y, ys[i]? = some y → hasOn on y = false := fun i y hy => by rw [hon]; exact has_clear hy
  rw [← hon] at hs9
  have hs9 : Sat H.blk H5 [MpA a on [], RdI t ys, MpA b on []] := hs9.sel [3, 1, 0] 4 (by simp) (by decide)
  clear hs8 hs7 hs6 hs5 hs4 hs3 hs2 hs1
  refine (MapRow_tri _ _ _).use (hs9.bump 2) ?_
  rintro v H6 P' ⟨p, rfl, rfl⟩ hs10
  have hs10 : Sat H.blk H6 [MpA b on [], Row encI 1 p (rowUpto on 256), MpA a on [], RdI t ys] := hs10.re [3, 0, 1, 2] (by simp) (by decide)
  refine (MapRow_tri _ _ _).use (hs10.bump 2) ?_
  rintro v H7 P' ⟨q, rfl, rfl⟩ hs11
  have hs11 : Sat H.blk H7 [MpA a on [], Row encI 1 q (rowUpto on 256), MpA b on [], Row encI 1 p (rowUpto on 256), RdI t ys] := hs11.re [3, 0, 1, 2] (by simp) (by decide)
  have hle := rowUpto_le on 256
  have l1 := (hs11.front 1 (by simp)).rowLen
  have l2 := (hs11.front 3 (by simp)).rowLen
  simp [l1, l2]
  refine (MapLen_tri _ _ _).use (hs11.bump 10) ?_
  rintro v H8 P' ⟨rfl, rfl⟩ hs12
  have hs12 : Sat H.blk H8 [MpA b on [], MpA a on [], Row encI 1 q (rowUpto on 256), Row encI 1 p (rowUpto on 256), RdI t ys] := hs12.re [2, 0, 1] (by simp) (by decide)
  refine (MapLen_tri _ _ _).use hs12 ?_
  rintro v H9 P' ⟨rfl, rfl⟩ hs13
  simp
  have hs14 : Sat H.blk H9 [RdI p (rowUpto on 256), RdI t ys, MpA a on [], RdI q (rowUpto on 256)] := by
    have h1 : Sat H.blk H9 [Row encI 1 p (rowUpto on 256), RdI t ys, MpA a on [], Row encI 1 q (rowUpto on 256)] := hs13.sel [3, 4, 1, 2] 5 (by simp) (by decide)
    have h2 := (Sat.rdRow h1).front 3 (by simp)
    exact (Sat.rdRow h2).re [1, 2, 3, 0] (by simp) (by decide)
  generalize rowUpto on 256 = r at *
  have hl1 : ∀ H', Sat H.blk H' [RdI p r, RdI t ys, MpA a on [], RdI q r] → lenA (.s p) = some (i64 r.length) := fun H' h => Sat.rdLen h
  have tail : ∀ (T : List AV) (H' : AH), T.length = 69 → sl T 1 = .s t → sl T 5 = ptr a → Sat H.blk H' [RdI p r, RdI t ys, MpA a on [], RdI q r] → wpC tab noExt R.detentlaw5_BitsBack_s3 T H' (retK [.tmp 4] fun v _ => v = bl true) := by
    intro T H' hT s1 s5 hs
    rw [detentlaw5_BitsBack_s3_at hT]
    refine loopP_invK (I := fun n T H' => T.length = 69 ∧ sl T 1 = .s t ∧ sl T 5 = ptr a ∧ ∃ i : Nat, sl T 10 = i64 i ∧ i ≤ ys.length ∧ n = ys.length - i ∧ Sat H.blk H' [MpA a on [], RdI t ys]) ?_ ys.length _ _ ⟨rfl, s1, s5, 0, rfl, Nat.zero_le _, rfl, (show Sat H.blk H' [MpA a on [], RdI t ys] from hs.sel [2, 1] 4 (by simp) (by decide)).bump _⟩
    intro n T H' ⟨hT, s1, s5, i, s10, hi, hn, hs⟩ K kn _ ko
    rw [detentlaw5_BitsBack_l1_at hT]
    by_cases hlt : i < ys.length
    · have hlt' : (i : Int) < (ys.length : Int) := by omega
      obtain ⟨y, hyi⟩ := get_ex hlt
      obtain ⟨bs, c, ro, l, rfl, hb, hli, _⟩ := hs.swap.rdGet hyi
      have w1 : IntKind.i64.wrap ((i : Int) + 1) = (i : Int) + 1 := wrap_i64 (by omega) (by omega)
      simp [s1, s5, s10, hlt, hlt', hb, hli]
      refine (MapHas_tri _ _ _ _).use ((hs.bump 4).bump 5) ?_
      rintro v H1 P' ⟨rfl, rfl⟩ hs1
      rw [hno i y hyi]
      simp [w1]
      exact kn (ys.length - (i + 1)) _ _ (by omega) ⟨rfl, rfl, rfl, i + 1, rfl, hlt, rfl, by (repeat refine Sat.bump ?_ _); exact hs1⟩
    · have hie : i = ys.length := by omega
      subst hie
      simp [s1, s10, hlen2]
      refine ko _ _ _ ?_
      simp
      rw [detentlaw5_BitsBack_s2_at rfl]
      simp
  refine loopP_invK (I := fun n T H' => T.length = 69 ∧ sl T 1 = .s t ∧ sl T 5 = ptr a ∧ sl T 7 = .s p ∧ sl T 8 = .s q ∧ ∃ i : Nat, sl T 9 = i64 i ∧ i ≤ r.length ∧ n = r.length - i ∧ Sat H.blk H' [RdI p r, RdI t ys, MpA a on [], RdI q r]) ?_ r.length _ _ ⟨rfl, rfl, rfl, rfl, rfl, 0, rfl, Nat.zero_le _, rfl, by (repeat refine Sat.bump ?_ _); exact hs14⟩
  intro n T H' ⟨hT, s1, s5, s7, s8, i, s9, hi, hn, hs⟩ K kn _ ko
  rw [detentlaw5_BitsBack_l0_at hT]
  by_cases hlt : i < r.length
  · have hlt' : (i : Int) < (r.length : Int) := by omega
    obtain ⟨y, hyi⟩ := get_ex hlt
    obtain ⟨bs, c, ro, l, rfl, hb, hli, _⟩ := Sat.rdGet hs hyi
    obtain ⟨bs2, c2, ro2, l2, rfl, hb2, hli2, _⟩ := Sat.rdGet (hs.front 3 (by simp)) hyi
    have w1 : IntKind.i64.wrap ((i : Int) + 1) = (i : Int) + 1 := wrap_i64 (by omega) (by omega)
    simp [s1, s5, s7, s8, s9, hlt, hlt', hb, hli, hb2, hli2, w1]
    exact kn (r.length - (i + 1)) _ _ (by omega) ⟨rfl, rfl, rfl, rfl, rfl, i + 1, rfl, hlt, rfl, by (repeat refine Sat.bump ?_ _); exact hs⟩
  · have hie : i = r.length := by omega
    subst hie
    have := hl1 _ hs
    simp [s1, s5, s7, s8, s9, this]
    refine ko _ _ _ ?_
    simp
    exact tail _ _ rfl rfl rfl (hs.bump _)
end Go.AM
