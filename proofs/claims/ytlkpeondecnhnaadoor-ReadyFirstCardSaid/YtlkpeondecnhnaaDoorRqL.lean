/-
  Those that are ready: turned as often as there are tasks.
-/
import Derived.Test.YtlkpeondecnhnaaDoorRqK
namespace Go.AM
attribute [local simp] AH.ld AH.ldn Nat.add_assoc resA resA1 fillA buildA slSlA boundsA boundA callvP

theorem turns_l0 {ρ : HF} (xs : List Int) (s : SV) (hx : At ρ (.slice (.int .u8)) xs [s]) (hl : xs.length ≤ 16) (p : Int) (a : Nat) (L : List Asr) (T : List AV) (H : AH) (hT : T.length = 96) (s0 : sl T 0 = .s s) (s1 : sl T 1 = i64 p) (s5 : sl T 5 = ptr a) (s6 : sl T 6 = i64 0)
    (hs : Sat ρ H (QA a noRows :: L)) (K : Ex → List AV → AH → Prop)
    (hk : ∀ T' H', T'.length = 96 → sl T' 1 = i64 p → sl T' 5 = ptr a → Sat ρ H' (QA a (fillR (priF xs 16) xs.length) :: L) → K (.out 0) T' H') :
    loopP tab noExt R.detentlaw9_ReadyTurns_l0 T H K := by
  have hlen := At.slLen hx
  have hf := priF_ok (xs := xs) (m := 16) (by omega)
  refine loopP_invK (I := fun n T' H' => T'.length = 96 ∧ sl T' 0 = .s s ∧ sl T' 1 = i64 p ∧ sl T' 5 = ptr a ∧ ∃ i : Nat, sl T' 6 = i64 i ∧ i ≤ xs.length ∧ n = xs.length - i ∧ Sat ρ H' (QA a (fillR (priF xs 16) i) :: L)) ?_ xs.length _ _ ⟨hT, s0, s1, s5, 0, s6, Nat.zero_le _, rfl, hs⟩
  rintro n T' H' ⟨hT', t0, t1, t5, i, t6, hi, hn, hs⟩ K' kn kr ko
  rw [detentlaw9_ReadyTurns_l0_at hT']
  by_cases hlt : i < xs.length
  · have hlt' : (i : Int) < (xs.length : Int) := by omega
    obtain ⟨b1, c, cells, x, rfl, hρ, hxi, hci, hx0, hx1⟩ := u8_get hx hlt
    have hb := hs.roOf _ _ hρ
    have hfi : (priF xs 16 i : Int) = 1 + x % 16 := by
      unfold priF
      rw [List.getD_eq_getElem?_getD, hxi]
      have := Int.emod_nonneg x (show (16 : Int) ≠ 0 by omega)
      simp only [Option.getD_some]
      omega
    have e1 : x.tmod 16 = x % 16 := Int.tmod_eq_emod_of_nonneg hx0
    have h4 := Int.emod_lt_of_pos x (show (0 : Int) < 16 by omega)
    have h40 := Int.emod_nonneg x (show (16 : Int) ≠ 0 by omega)
    have w1 : IntKind.i64.wrap ((i : Int) + 1) = (i : Int) + 1 := wrap_i64 (by omega) (by omega)
    have w2 : IntKind.i64.wrap (x % 16) = x % 16 := wrap_i64 (by omega) (by omega)
    have w3 : IntKind.i64.wrap (1 + x % 16) = 1 + x % 16 := wrap_i64 (by omega) (by omega)
    have hadd := fillR_add hf (show i < 16 by omega)
    rw [hfi] at hadd
    generalize x % 16 = y at *
    simp [t0, t5, t6, hlen, hlt, hlt', hb, hci, e1, w1, w2, w3]
    refine (AddQ a (fillR (priF xs 16) i) ((i : Int) + 1) (1 + y)).use ((hs.bump 4).bump 11) ?_
    rintro v H2 P' ⟨rfl, rfl⟩ hs2
    rw [hadd] at hs2
    have hs2 : Sat ρ H2 (QA a (fillR (priF xs 16) (i + 1)) :: L) := hs2
    try simp [w1]
    exact kn (xs.length - (i + 1)) _ _ (by omega) ⟨rfl, rfl, t1, rfl, i + 1, rfl, hlt, rfl, hs2.bump 3⟩
  · have hie : i = xs.length := by omega
    subst hie
    simp [t0, t6, hlen]
    exact ko _ _ _ (hk _ _ rfl t1 t5 (hs.bump 4))

/-- So often turned. -/
def turned (R : QRows) (p i : Nat) : QRows := R.set p ((rowAt R p).drop i ++ (rowAt R p).take i)

theorem turned_at {R : QRows} (g : GoodQ R) {p i : Nat} (hp : p ≤ 16) : rowAt (turned R p i) p = (rowAt R p).drop i ++ (rowAt R p).take i := by
  unfold turned
  rw [rowAt_set (by rw [g.len]; omega), if_pos rfl]

theorem turned_succ {R : QRows} (g : GoodQ R) {p i : Nat} (hp : p ≤ 16) (hi : i < (rowAt R p).length) : rotR (turned R p i) p = turned R p (i + 1) := by
  unfold rotR
  rw [turned_at g hp]
  unfold turned
  rw [List.set_set]
  congr 1
  have e : (rowAt R p).take (i + 1) = (rowAt R p).take i ++ [(rowAt R p)[i]] := by rw [List.take_add_one, List.getElem?_eq_getElem hi]; rfl
  rw [e, List.drop_eq_getElem_cons hi]
  exact List.append_assoc ..

theorem turned_all {R : QRows} (g : GoodQ R) {p : Nat} (hp : p ≤ 16) : turned R p (rowAt R p).length = R := by
  unfold turned
  rw [List.drop_length, List.take_length, List.nil_append]
  exact set_same (rowAt_get (by rw [g.len]; omega))

theorem turned_zero {R : QRows} (g : GoodQ R) {p : Nat} (hp : p ≤ 16) : turned R p 0 = R := by
  unfold turned
  rw [List.drop_zero, List.take_zero, List.append_nil]
  exact set_same (rowAt_get (by rw [g.len]; omega))

theorem turns_s2 {ρ : HF} (Q : QRows) (a : Nat) (was : SV) (L : List Asr) (T : List AV) (H : AH) (hT : T.length = 96) (s5 : sl T 5 = ptr a) (s7 : sl T 7 = .s was) (hs : Sat ρ H (QA a Q :: RdI was Q.flatten :: L)) (K : Ex → List AV → AH → Prop) (hK : ∀ T' H', sl T' 4 = bl true → K .ret T' H') :
    wpC tab noExt R.detentlaw9_ReadyTurns_s2 T H K := by
  rw [detentlaw9_ReadyTurns_s2_at hT]
  simp only [s5, s7]
  refine (AllQ_tri a Q).use (hs.bump 5) ?_
  rintro v H2 P' ⟨t, rfl, rfl⟩ hs2
  obtain ⟨_, _, _, g, _, _⟩ := Sat.qOpen hs
  have hfl := g.flat
  have hs3 : Sat ρ H2 (Row encI 1 t Q.flatten :: RdI was Q.flatten :: L) := Sat.sel hs2 [0, 2] 3 (by simp) (by decide)
  refine (Same_tri t was Q.flatten Q.flatten (by omega)).use (Sat.rdRow hs3) ?_
  rintro v H3 P' ⟨rfl, rfl⟩ _
  rw [decide_eq_true rfl]
  exact hK _ _ rfl

theorem rotR_at {Q : QRows} (h : Q.length = 17) {p : Nat} (hp : p ≤ 16) : rowAt (rotR Q p) p = (rowAt Q p).drop 1 ++ (rowAt Q p).take 1 := by
  unfold rotR
  rw [rowAt_set (by omega), if_pos rfl]

theorem turned_len (Q : QRows) (p i : Nat) : (turned Q p i).length = Q.length := by unfold turned; rw [List.length_set]

set_option maxRecDepth 4000 in
theorem turns_l1 {ρ : HF} (Q : QRows) (g : GoodQ Q) (p : Nat) (hp : 1 ≤ p ∧ p ≤ 16) (a : Nat) (was : SV) (L : List Asr) (T : List AV) (H : AH) (hT : T.length = 96) (s1 : sl T 1 = i64 p) (s5 : sl T 5 = ptr a) (s7 : sl T 7 = .s was) (s8 : sl T 8 = i64 (rowAt Q p).length) (s9 : sl T 9 = i64 0)
    (hs : Sat ρ H (QA a Q :: RdI was Q.flatten :: L)) (K : Ex → List AV → AH → Prop)
    (hk : ∀ T' H', T'.length = 96 → sl T' 5 = ptr a → sl T' 7 = .s was → Sat ρ H' (QA a Q :: RdI was Q.flatten :: L) → K (.out 2) T' H') :
    loopP tab noExt R.detentlaw9_ReadyTurns_l1 T H K := by
  have hsh := g.short p
  refine loopP_invK (I := fun n T' H' => T'.length = 96 ∧ sl T' 1 = i64 p ∧ sl T' 5 = ptr a ∧ sl T' 7 = .s was ∧ sl T' 8 = i64 (rowAt Q p).length ∧ ∃ i : Nat, sl T' 9 = i64 i ∧ i ≤ (rowAt Q p).length ∧ n = (rowAt Q p).length - i ∧ Sat ρ H' (QA a (turned Q p i) :: RdI was Q.flatten :: L)) ?_ (rowAt Q p).length _ _ ⟨hT, s1, s5, s7, s8, 0, s9, Nat.zero_le _, rfl, by rw [turned_zero g hp.2]; exact hs⟩
  rintro n T' H' ⟨hT', t1, t5, t7, t8, i, t9, hi, hn, hs⟩ K' kn kr ko
  rw [detentlaw9_ReadyTurns_l1_at hT']
  by_cases hlt : i < (rowAt Q p).length
  · have hlt' : (i : Int) < ((rowAt Q p).length : Int) := by omega
    have hrot : rotQ (turned Q p i) p = (0, turned Q p (i + 1)) := by
      unfold rotQ
      rw [if_pos (by omega), Int.toNat_natCast, turned_succ g hp.2 hlt]
    have hat := turned_at g (i := i) hp.2
    have hat2 : rowAt (turned Q p (i + 1)) p = (rowAt (turned Q p i) p).drop 1 ++ (rowAt (turned Q p i) p).take 1 := by
      rw [← turned_succ g hp.2 hlt, rotR_at (by rw [turned_len]; exact g.len) hp.2]
    have hxl : (rowAt (turned Q p i) p).length = (rowAt Q p).length := by
      rw [hat, List.length_append, List.length_drop, List.length_take]; omega
    obtain ⟨x, t, hxt⟩ : ∃ x t, rowAt (turned Q p i) p = x :: t := by
      cases h : rowAt (turned Q p i) p with
      | nil => rw [h] at hxl; simp at hxl; omega
      | cons x t => exact ⟨x, t, rfl⟩
    have hnow : rowAt (turned Q p (i + 1)) p = t ++ [x] := by rw [hat2, hxt]; rfl
    have hnt : (rowAt Q p).length = t.length + 1 := by rw [← hxl, hxt]; rfl
    have w1 : IntKind.i64.wrap ((i : Int) + 1) = (i : Int) + 1 := wrap_i64 (by omega) (by omega)
    simp [t1, t5, t8, t9, hlt']
    refine (RowQ_tri a (turned Q p i) p).use ((hs.bump 3).bump 4) ?_
    rintro v H2 P' ⟨f, rfl, rfl⟩ hs2
    rw [if_pos (by omega), Int.toNat_natCast, hxt] at hs2
    have hs2 : Sat ρ H2 (QA a (turned Q p i) :: Row encI 1 f (x :: t) :: RdI was Q.flatten :: L) := Sat.swap hs2
    refine (RotQ a (turned Q p i) p).use (hs2.bump 4) ?_
    rintro v H3 P' ⟨rfl, rfl⟩ hs3
    rw [hrot] at hs3 ⊢
    have hs3 : Sat ρ H3 (QA a (turned Q p (i + 1)) :: Row encI 1 f (x :: t) :: RdI was Q.flatten :: L) := hs3
    simp
    refine (RowQ_tri a (turned Q p (i + 1)) p).use (hs3.bump 4) ?_
    rintro v H4 P' ⟨w, rfl, rfl⟩ hs4
    rw [if_pos (by omega), Int.toNat_natCast, hnow] at hs4
    have hs4 : Sat ρ H4 (Row encI 1 w (t ++ [x]) :: QA a (turned Q p (i + 1)) :: Row encI 1 f (x :: t) :: RdI was Q.flatten :: L) := hs4
    have l1 := Sat.rowLen hs4
    have hl1 : (t ++ [x]).length = t.length + 1 := by simp
    rw [hl1] at l1
    have hs5 : Sat ρ H4 (Row encI 1 f (x :: t) :: Row encI 1 w (t ++ [x]) :: QA a (turned Q p (i + 1)) :: RdI was Q.flatten :: L) := Sat.re hs4 [2, 0, 1] (by simp) (by decide)
    have hs6 : Sat ρ H4 (QA a (turned Q p (i + 1)) :: RdI was Q.flatten :: L) := Sat.drop (Sat.drop hs5)
    have w4 : IntKind.i64.wrap ((t.length : Int) + 1 - 1) = (t.length : Int) := by rw [wrap_i64 (by omega) (by omega)]; omega
    have w6 : IntKind.i64.wrap (t.length : Int) = (t.length : Int) := wrap_i64 (by omega) (by omega)
    have b1 : (t.length : Int) < (t.length : Int) + 1 := by omega
    have b2 : (0 : Int) < (t.length : Int) + 1 := by omega
    have hnt' : ((rowAt Q p).length : Int) = (t.length : Int) + 1 := by omega
    obtain ⟨bw, cw, row, lw, rfl, hbw, hlw, _⟩ := RowI.get hs4 (i := t.length) (x := x) (by simp)
    obtain ⟨bf, cf, rof, lf, rfl, hbf, hlf, _⟩ := RowI.get hs5 (i := 0) (x := x) rfl
    have fin : ∀ H5, Sat ρ H5 (QA a (turned Q p (i + 1)) :: RdI was Q.flatten :: L) → ∀ T2 : List AV, T2.length = 96 → sl T2 1 = i64 p → sl T2 5 = ptr a → sl T2 7 = .s was → sl T2 8 = i64 (rowAt Q p).length → sl T2 9 = i64 ((i : Int) + 1) → K' .norm T2 H5 := fun H5 h T2 u0 u1 u5 u7 u8 u9 => kn ((rowAt Q p).length - (i + 1)) _ _ (by omega) ⟨u0, u1, u5, u7, u8, i + 1, u9, hlt, rfl, h⟩
    cases t with
    | nil =>
      simp at l1 hnt' w4 hlw
      simp [l1, hnt', w4, hbw, hlw, hbf, hlf, w1]
      refine fin _ (Sat.bump (Sat.bump hs6 28) 3) _ ?_ ?_ ?_ ?_ ?_ ?_
      · rfl
      · first | rfl | exact t1
      · first | rfl | exact t5
      · first | rfl | exact t7
      · rw [hnt']; rfl
      · rfl
    | cons y t =>
      obtain ⟨_, _, _, lw', ew, hbw', hlw', _⟩ := RowI.get hs4 (i := 0) (x := y) rfl
      cases ew
      rw [hbw] at hbw'
      cases hbw'
      obtain ⟨_, _, _, lf', ef, hbf', hlf', _⟩ := RowI.get hs5 (i := 1) (x := y) rfl
      cases ef
      rw [hbf] at hbf'
      cases hbf'
      have hl2 : ((y :: t).length : Int) = (t.length : Int) + 1 := by simp
      have c1 : (1 : Int) < (t.length : Int) + 2 := by omega
      have c2 : (0 : Int) < (t.length : Int) + 2 := by omega
      have c3 : (t.length : Int) + 1 < (t.length : Int) + 2 := by omega
      have c4 : (0 : Int) ≤ (t.length : Int) + 1 := by omega
      have c5 : ((t.length : Int) + 1).toNat = t.length + 1 := by omega
      have hnt' : ((rowAt Q p).length : Int) = (t.length : Int) + 2 := by omega
      have w4 : IntKind.i64.wrap ((t.length : Int) + 2 - 1) = (t.length : Int) + 1 := by rw [wrap_i64 (by omega) (by omega)]; omega
      have w6 : IntKind.i64.wrap ((t.length : Int) + 1) = (t.length : Int) + 1 := wrap_i64 (by omega) (by omega)
      simp only [List.length_cons] at hlw
      simp [hnt', w4, w6, hbw, hlw, hlw', hbf, hlf, hlf', w1, c1, c2, c3, c4, c5]
      refine fin _ (Sat.bump (Sat.bump hs6 28) 3) _ ?_ ?_ ?_ ?_ ?_ ?_
      · rfl
      · first | rfl | exact t1
      · first | rfl | exact t5
      · first | rfl | exact t7
      · rw [hnt']; rfl
      · rfl
  · have hie : i = (rowAt Q p).length := by omega
    subst hie
    simp [t8, t9]
    rw [turned_all g hp.2] at hs
    exact ko _ _ _ (hk _ _ rfl t5 t7 (hs.bump 3))

set_option maxRecDepth 4000 in
theorem ReadyTurns_abs (H : AH) (hw : WF H) (h0 : H.blk 0 = some (.cells true tzCells)) (avs : List AV) (ha : ArgsAt H.blk [.slice (.int .u8), .int .i64] avs) : CallP tab noExt F.detentlaw9_ReadyTurns avs H fun v _ => v = bl true := by
  obtain ⟨xs, s, _, rfl, hx, ha2⟩ := ha.slice
  obtain ⟨p, _, rfl, _, ha2⟩ := ha2.int'
  obtain rfl := ha2.nil'
  have hlen := At.slLen hx
  apply detentlaw9_ReadyTurns_call
  refine known9_tri.use (R := []) (((tz_start hw h0).bump 1).bump 2) ?_
  rintro v H1 P' ⟨rfl, rfl⟩ hs1
  by_cases g2 : (16 : Int) < xs.length
  · simp [hlen, g2]
  by_cases g3 : p < 1
  · simp [hlen, g2, g3]
  by_cases g4 : 16 < p
  · simp [hlen, g2, g3, g4]
  simp [hlen, g2, g3, g4]
  obtain ⟨q, rfl⟩ : ∃ q : Nat, p = (q : Int) := ⟨p.toNat, by omega⟩
  refine NewQ_tri.use (ρ := H.blk) (R := []) (by (repeat refine Sat.bump ?_ _); exact hs1) ?_
  rintro v H2 P' ⟨a, rfl, rfl⟩ hs2
  have hs2 : Sat H.blk H2 [QA a noRows, TzA] := hs2
  refine turns_l0 (ρ := H.blk) xs s hx (by omega) q a [TzA] _ _ ?_ ?_ ?_ ?_ ?_ (hs2.bump 1) _ ?_
  · rfl
  · rfl
  · rfl
  · rfl
  · rfl
  intro T' H' hT' u1 u5 hs3
  simp
  rw [detentlaw9_ReadyTurns_s3_at hT']
  obtain ⟨g, _⟩ := fillR_ok (priF_ok (xs := xs) (m := 16) (by omega)) xs.length (by omega)
  generalize fillR (priF xs 16) xs.length = Q at *
  simp only [u5, u1]
  refine (AllQ_tri a Q).use (hs3.bump 3) ?_
  rintro v H3 P' ⟨was, rfl, rfl⟩ hs4
  have hs4 : Sat H.blk H3 [QA a Q, RdI was Q.flatten, TzA] := (Sat.rdRow hs4).swap
  refine (RowQ_tri a Q q).use (hs4.bump 5) ?_
  rintro v H4 P' ⟨t, rfl, rfl⟩ hs5
  rw [if_pos (by omega), Int.toNat_natCast] at hs5
  have l1 := Sat.rowLen hs5
  have hs6 : Sat H.blk H4 [QA a Q, RdI was Q.flatten, TzA] := Sat.drop hs5
  simp [l1]
  refine turns_l1 (ρ := H.blk) Q g q (by omega) a was [TzA] _ _ ?_ ?_ ?_ ?_ ?_ ?_ (hs6.bump 1) _ ?_
  · rfl
  · first | rfl | exact u1
  · first | rfl | exact u5
  · rfl
  · rfl
  · rfl
  intro T2 H5 hT2 w5 w7 hs7
  simp
  refine turns_s2 (ρ := H.blk) Q a was [TzA] _ _ hT2 w5 w7 hs7 _ fun T3 H6 e => ?_
  simp
  exact e
end Go.AM
