/-
  What is fired: which of two comes first; parts of a row changed round.
-/
import Derived.Test.YtbihokcagceoaaaMg1
import Derived.Test.YtbihokcagceoaaaMg3
namespace Go.AM
attribute [local simp] Nat.add_assoc resA callvP
def encF (x : Fir) : List SV := [.bool x.cyc, .int .i64 x.no, .int .u64 x.at_]
theorem encF_len (x : Fir) : (encF x).length = 3 := rfl
abbrev sF (b n c : Nat) : AV := .s (.slice (some (b, 0)) n c 3)
abbrev fO : AV := .s (.fn F.cyc_order [])
def cmpI (a b : Int) : Int := if a < b then -1 else if b < a then 1 else 0
theorem cmpU_tri (a b : Int) : Tri tab noExt F.cmp_Compare_uint64 [u64 a, u64 b] [] fun v P' => v = i64 (cmpI a b) ∧ P' = [] := by
  refine Tri.intro fun ρ H Rs K hs hk => ?_
  apply cmp_Compare_uint64_call
  apply cmp_isNaN_uint64_call
  simp
  apply cmp_isNaN_uint64_call
  simp
  by_cases h : a < b
  · simp [h]
    exact hk _ _ _ ⟨by simp [cmpI, h], rfl⟩ (by (repeat refine Sat.bump ?_ _); exact hs)
  · by_cases h2 : b < a
    · simp [h, h2]
      exact hk _ _ _ ⟨by simp [cmpI, h, h2], rfl⟩ (by (repeat refine Sat.bump ?_ _); exact hs)
    · simp [h, h2]
      exact hk _ _ _ ⟨by simp [cmpI, h, h2], rfl⟩ (by (repeat refine Sat.bump ?_ _); exact hs)
theorem cmpS_tri (a b : Int) : Tri tab noExt F.cmp_Compare_int [i64 a, i64 b] [] fun v P' => v = i64 (cmpI a b) ∧ P' = [] := by
  refine Tri.intro fun ρ H Rs K hs hk => ?_
  apply cmp_Compare_int_call
  apply cmp_isNaN_int_call
  simp
  apply cmp_isNaN_int_call
  simp
  by_cases h : a < b
  · simp [h]
    exact hk _ _ _ ⟨by simp [cmpI, h], rfl⟩ (by (repeat refine Sat.bump ?_ _); exact hs)
  · by_cases h2 : b < a
    · simp [h, h2]
      exact hk _ _ _ ⟨by simp [cmpI, h, h2], rfl⟩ (by (repeat refine Sat.bump ?_ _); exact hs)
    · simp [h, h2]
      exact hk _ _ _ ⟨by simp [cmpI, h, h2], rfl⟩ (by (repeat refine Sat.bump ?_ _); exact hs)
def ordI (a b : Fir) : Int := if cmpI a.at_ b.at_ ≠ 0 then cmpI a.at_ b.at_ else if a.cyc ≠ b.cyc then (if a.cyc then -1 else 1) else cmpI a.no b.no
theorem ordI_neg (a b : Fir) : decide (ordI a b < 0) = ltF a b := by
  obtain ⟨ac, an, aa⟩ := a; obtain ⟨bc, bn, ba⟩ := b
  unfold ordI cmpI ltF
  rcases Int.lt_trichotomy aa ba with h | h | h
  · have h1 : ¬ ba < aa := by omega
    simp [h]
  · subst h
    rcases Int.lt_trichotomy an bn with h | h | h
    · cases ac <;> cases bc <;> simp [h]
    · cases ac <;> cases bc <;> simp [h]
    · have h1 : ¬ an < bn := by omega
      cases ac <;> cases bc <;> simp [h, h1]
  · have h1 : ¬ aa < ba := by omega
    have h2 : ¬ aa = ba := by omega
    simp [h, h1, h2]
theorem order_tri (a b : Fir) : Tri tab noExt F.cyc_order [.agg (encF a), .agg (encF b)] [] fun v P' => v = i64 (ordI a b) ∧ P' = [] := by
  refine Tri.intro fun ρ H Rs K hs hk => ?_
  apply cyc_order_call
  have hs1 := Sat.frees hs 3 [0, 1] (by decide) (by decide)
  simp only [List.map_cons, List.map_nil, List.cons_append, List.nil_append, Nat.add_zero] at hs1
  simp
  refine ⟨_, new_of _ hs1.fre, ?_⟩
  have hs2 := Sat.mk hs1 (encF a)
  have hs3 := Sat.mk hs2.swap (encF b)
  refine ⟨_, new_of _ hs2.swap.fre, ?_⟩
  have b1 := (hs3.swap).cel
  have b2 := hs3.cel
  generalize ((H.bump 3).set H.next (Blk.cells false (encF a))).set (H.next + 1) (Blk.cells false (encF b)) = H4 at *
  simp [AH.ld, b1, b2, encF]
  refine (cmpU_tri a.at_ b.at_).use (R := _) (hs3.bump _) ?_
  rintro v H5 P' ⟨rfl, rfl⟩ hs5
  have b1 := (Sat.swap hs5).cel
  have b2 := Sat.cel hs5
  by_cases h : cmpI a.at_ b.at_ = 0
  · by_cases h2 : a.cyc = b.cyc
    · simp [AH.ld, b1, b2, encF, h, h2]
      refine (cmpS_tri a.no b.no).use (R := _) (((hs5.bump _).bump _).bump _) ?_
      rintro v H6 P' ⟨rfl, rfl⟩ hs6
      exact hk _ _ _ ⟨by simp [ordI, h, h2], rfl⟩ hs6.drop.drop
    · have hs6 : Sat ρ H5 Rs := hs5.drop.drop
      cases hc : a.cyc <;> cases hc2 : b.cyc
      · exact (h2 (by rw [hc, hc2])).elim
      · simp [AH.ld, b1, b2, encF, h, hc, hc2]
        exact hk _ _ _ ⟨by simp [ordI, h, hc, hc2], rfl⟩ (by (repeat refine Sat.bump ?_ _); exact hs6)
      · simp [AH.ld, b1, b2, encF, h, hc, hc2]
        exact hk _ _ _ ⟨by simp [ordI, h, hc, hc2], rfl⟩ (by (repeat refine Sat.bump ?_ _); exact hs6)
      · exact (h2 (by rw [hc, hc2])).elim
  · simp [h]
    exact hk _ _ _ ⟨by simp [ordI, h], rfl⟩ (by (repeat refine Sat.bump ?_ _); exact hs5.drop.drop)
theorem swapRange_tri (b c : Nat) (j : List SV) (f : AV) (p u w v q : List Fir) (huv : u.length = v.length) (n a a2 m : Nat) (hn : n = (p ++ (u ++ (w ++ (v ++ q)))).length) (ha : a = p.length) (ha2 : a2 = a + u.length + w.length) (hm : m = u.length) (hc : n < 4611686018427387904) :
    Tri tab noExt F.slices_swapRangeCmpFunc_cyc_Fired [sF b n c, i64 a, i64 a2, i64 m, f] [Cel b (flat encF (p ++ (u ++ (w ++ (v ++ q)))) ++ j)] fun x P' => x = unit ∧ P' = [Cel b (flat encF (p ++ (v ++ (w ++ (u ++ q)))) ++ j)] := by
  refine Tri.intro fun ρ H Rs K hs hk => ?_
  apply slices_swapRangeCmpFunc_cyc_Fired_call
  simp only [List.length_append] at hn
  refine loopP_invK (I := fun k T H' => T.length = 38 ∧ sl T 0 = sF b n c ∧ sl T 1 = i64 a ∧ sl T 2 = i64 a2 ∧ sl T 3 = i64 m ∧ ∃ i : Nat, sl T 10 = i64 i ∧ i ≤ m ∧ k = m - i ∧ Sat ρ H' (Cel b (flat encF (p ++ ((v.take i ++ u.drop i) ++ (w ++ ((u.take i ++ v.drop i) ++ q)))) ++ j) :: Rs)) ?_ m _ _ ⟨rfl, rfl, rfl, rfl, rfl, 0, rfl, Nat.zero_le _, rfl, by simpa using hs.bump _⟩
  rintro k T H' ⟨hT, s0, s1, s2, s3, i, s10, hi, hk', hs⟩ K' kn kr ko
  rw [slices_swapRangeCmpFunc_cyc_Fired_l0_at hT]
  by_cases hlt : i < m
  · have hlt' : (i : Int) < m := by omega
    have hu : i < u.length := by omega
    have hv : i < v.length := by omega
    have w1 := wrapP a i (by omega)
    have w2 := wrapP a2 i (by omega)
    have w3 := wrapP1 i (by omega)
    have i1 : a + i < n := by omega
    have i2 : a2 + i < n := by omega
    rw [List.drop_eq_getElem_cons hu, List.drop_eq_getElem_cons hv] at hs
    have e : p ++ ((v.take i ++ u[i] :: u.drop (i + 1)) ++ (w ++ ((u.take i ++ v[i] :: v.drop (i + 1)) ++ q))) = (p ++ v.take i) ++ u[i] :: ((u.drop (i + 1) ++ (w ++ u.take i)) ++ v[i] :: (v.drop (i + 1) ++ q)) := by simp only [List.append_assoc, List.cons_append, List.nil_append]
    rw [e] at hs
    obtain ⟨g1, g2, H1, H2, g3, g4, hs2⟩ := ((hs.bump 3).bump 24).sw encF_len (i := a + i) (m := a2 + i) (by simp; omega) (by simp; omega)
    have g1 : H'.ldn b ((a + i) * 3) 3 = some (encF u[i]) := g1
    have g2 : H'.ldn b ((a2 + i) * 3) 3 = some (encF v[i]) := g2
    generalize hp1 : a + i = p1 at *
    generalize hp2 : a2 + i = p2 at *
    simp [s0, s1, s2, s3, s10, hlt', hlt, w1, w2, w3, i1, i2, g1, g2, encF_len]
    refine ⟨_, g3, _, g4, kn (m - (i + 1)) _ _ (by omega) ⟨rfl, rfl, rfl, rfl, rfl, i + 1, rfl, hlt, rfl, ?_⟩⟩
    have e2 : (p ++ v.take i) ++ v[i] :: ((u.drop (i + 1) ++ (w ++ u.take i)) ++ u[i] :: (v.drop (i + 1) ++ q)) = p ++ ((v.take (i + 1) ++ u.drop (i + 1)) ++ (w ++ ((u.take (i + 1) ++ v.drop (i + 1)) ++ q))) := by
      rw [List.take_add_one, List.take_add_one, List.getElem?_eq_getElem hu, List.getElem?_eq_getElem hv]; simp only [Option.toList_some, List.append_assoc, List.cons_append, List.nil_append]
    rw [e2] at hs2
    exact hs2.bump _
  · have hie : i = m := by omega
    subst hie
    simp [s3, s10]
    refine ko _ _ _ ?_
    simp
    refine hk _ _ _ ⟨rfl, rfl⟩ ?_
    have e : p ++ ((v.take i ++ u.drop i) ++ (w ++ ((u.take i ++ v.drop i) ++ q))) = p ++ (v ++ (w ++ (u ++ q))) := by
      rw [hm, List.take_length, List.drop_length, huv, List.take_length, List.drop_length]; simp
    rw [e] at hs
    exact hs.bump _
theorem rot_s1 {ρ : HF} (b c : Nat) (j : List SV) (f : AV) (p X Y q : List Fir) (hXY : X.length = Y.length) (n m : Nat) (hn : n = (p ++ (X ++ (Y ++ q))).length) (hm : m = p.length + X.length) (hc : n < 4611686018427387904) (Rs : List Asr) (T : List AV) (H : AH) (hT : T.length = 58) (s0 : sl T 0 = sF b n c) (s2 : sl T 2 = i64 m) (s4 : sl T 4 = f) (s10 : sl T 10 = i64 Y.length)
    (hs : Sat ρ H (Cel b (flat encF (p ++ (X ++ (Y ++ q))) ++ j) :: Rs)) (K : Ex → List AV → AH → Prop) (hk : ∀ T' H', Sat ρ H' (Cel b (flat encF (p ++ (Y ++ (X ++ q))) ++ j) :: Rs) → K .norm T' H') :
    wpC tab noExt R.slices_rotateCmpFunc_cyc_Fired_s1 T H K := by
  rw [slices_rotateCmpFunc_cyc_Fired_s1_at hT]
  simp only [List.length_append] at hn
  have w3 := wrapM m Y.length (by omega) (by omega)
  simp [s0, s2, s4, s10, w3]
  refine (swapRange_tri b c j f p X [] Y q hXY n (m - Y.length) m Y.length (by simp; omega) (by omega) (by simp; omega) (by omega) hc).use (by simpa using hs.bump _) ?_
  rintro v H2 P' ⟨rfl, rfl⟩ hs2
  exact hk _ _ (by simpa using hs2)
theorem rotate_tri (b c : Nat) (j : List SV) (f : AV) (p x y q : List Fir) (n a m e : Nat) (hn : n = (p ++ (x ++ (y ++ q))).length) (ha : a = p.length) (hm : m = a + x.length) (he : e = m + y.length) (hx : 0 < x.length) (hy : 0 < y.length) (hc : n < 4611686018427387904) :
    Tri tab noExt F.slices_rotateCmpFunc_cyc_Fired [sF b n c, i64 a, i64 m, i64 e, f] [Cel b (flat encF (p ++ (x ++ (y ++ q))) ++ j)] fun v P' => v = unit ∧ P' = [Cel b (flat encF (p ++ (y ++ (x ++ q))) ++ j)] := by
  refine Tri.intro fun ρ H Rs K hs hk => ?_
  apply slices_rotateCmpFunc_cyc_Fired_call
  simp only [List.length_append] at hn
  have w1 := wrapM m a (by omega) (by omega)
  have w2 := wrapM e m (by omega) (by omega)
  have w1' : m - a = x.length := by omega
  have w2' : e - m = y.length := by omega
  simp [w1, w2, w1', w2']
  refine loopP_invK (I := fun k T H' => T.length = 58 ∧ sl T 0 = sF b n c ∧ sl T 2 = i64 m ∧ sl T 4 = f ∧ ∃ X Y U V : List Fir, sl T 10 = i64 X.length ∧ sl T 11 = i64 Y.length ∧ 0 < X.length ∧ 0 < Y.length ∧ a + U.length + X.length = m ∧ k = X.length + Y.length ∧ X.length + Y.length + U.length + V.length = x.length + y.length ∧ U ++ (Y ++ (X ++ V)) = y ++ x ∧ Sat ρ H' (Cel b (flat encF (p ++ (U ++ (X ++ (Y ++ (V ++ q))))) ++ j) :: Rs)) ?_ (x.length + y.length) _ _ ⟨rfl, rfl, rfl, rfl, x, y, [], [], rfl, rfl, hx, hy, by simp; omega, rfl, by simp, by simp, by simpa using (hs.bump 4).bump 4⟩
  rintro k T H' ⟨hT, s0, s2, s4, X, Y, U, V, s10, s11, hX, hY, hU, hk', hlen, hg, hs⟩ K' kn kr ko
  rw [slices_rotateCmpFunc_cyc_Fired_l0_at hT]
  have w3 := wrapM m X.length (by omega) (by omega)
  rcases Nat.lt_trichotomy Y.length X.length with h | h | h
  · have h1 : ¬ (X.length : Int) = Y.length := by omega
    have h2 : (Y.length : Int) < X.length := by omega
    have w4 := wrapM X.length Y.length (by omega) (by omega)
    simp [s0, s2, s4, s10, s11, h1, h2, h, w3, w4, Nat.ne_of_gt h]
    obtain ⟨X1, X2, rfl, hX1⟩ : ∃ X1 X2, X = X1 ++ X2 ∧ X1.length = Y.length := ⟨X.take Y.length, X.drop Y.length, (List.take_append_drop _ _).symm, by simp; omega⟩
    have hX2 : (X1 ++ X2).length = X1.length + X2.length := List.length_append
    have e1 : p ++ (U ++ ((X1 ++ X2) ++ (Y ++ (V ++ q)))) = (p ++ U) ++ (X1 ++ (X2 ++ (Y ++ (V ++ q)))) := by simp only [List.append_assoc]
    rw [e1] at hs
    refine (swapRange_tri b c j f (p ++ U) X1 X2 Y (V ++ q) hX1 n (m - (X1 ++ X2).length) m Y.length (by simp; omega) (by simp; omega) (by simp; omega) (by omega) hc).use (((hs.bump _).bump _).bump _) ?_
    rintro v H2 P' ⟨rfl, rfl⟩ hs2
    have e2 : (p ++ U) ++ (Y ++ (X2 ++ (X1 ++ (V ++ q)))) = p ++ ((U ++ Y) ++ (X2 ++ (X1 ++ (V ++ q)))) := by simp only [List.append_assoc]
    rw [e2] at hs2
    refine kn (X2.length + Y.length) _ _ (by omega) ⟨rfl, rfl, rfl, rfl, X2, X1, U ++ Y, V, ?_, ?_, ?_, ?_, ?_, ?_, ?_, ?_, hs2.bump _⟩
    · rw [hX2]; show i64 _ = i64 _; congr 3; omega
    · show i64 _ = i64 _; rw [hX1]
    · omega
    · omega
    · simp; omega
    · omega
    · simp; omega
    · rw [← hg]
      simp only [List.append_assoc]
  · have h1 : (X.length : Int) = Y.length := by omega
    simp [s10, s11, h1]
    refine ko _ _ _ ?_
    simp
    have e1 : p ++ (U ++ (X ++ (Y ++ (V ++ q)))) = (p ++ U) ++ (X ++ (Y ++ (V ++ q))) := by simp only [List.append_assoc]
    rw [e1] at hs
    refine rot_s1 b c j f (p ++ U) X Y (V ++ q) h.symm n m (by simp; omega) (by simp; omega) hc Rs _ _ ?_ ?_ ?_ ?_ ?_ (hs.bump _) _ ?_
    · first | rfl | exact hT
    · first | rfl | exact s0
    · first | rfl | exact s2
    · first | rfl | exact s4
    · first | rfl | exact s10
    intro T' H2 hs2
    simp
    refine hk _ _ _ ⟨rfl, rfl⟩ ?_
    have e2 : (p ++ U) ++ (Y ++ (X ++ (V ++ q))) = p ++ ((U ++ (Y ++ (X ++ V))) ++ q) := by simp only [List.append_assoc]
    rw [e2, hg, List.append_assoc] at hs2
    exact hs2
  · have h1 : ¬ (X.length : Int) = Y.length := by omega
    have h2 : ¬ (Y.length : Int) < X.length := by omega
    have w4 := wrapM Y.length X.length (by omega) (by omega)
    have w5 := wrapP m Y.length (by omega)
    have w6 := wrapM (m + Y.length) X.length (by omega) (by omega)
    generalize hmy : m + Y.length = my at *
    simp [s0, s2, s4, s10, s11, h1, h2, w3, w4, w5, w6, Nat.ne_of_lt h, Nat.le_of_lt h]
    obtain ⟨Y1, Y2, rfl, hY2⟩ : ∃ Y1 Y2, Y = Y1 ++ Y2 ∧ Y2.length = X.length := ⟨Y.take (Y.length - X.length), Y.drop (Y.length - X.length), (List.take_append_drop _ _).symm, by simp; omega⟩
    have hY1 : (Y1 ++ Y2).length = Y1.length + Y2.length := List.length_append
    have e1 : p ++ (U ++ (X ++ ((Y1 ++ Y2) ++ (V ++ q)))) = (p ++ U) ++ (X ++ (Y1 ++ (Y2 ++ (V ++ q)))) := by simp only [List.append_assoc]
    rw [e1] at hs
    refine (swapRange_tri b c j f (p ++ U) X Y1 Y2 (V ++ q) hY2.symm n (m - X.length) (my - X.length) X.length (by simp; omega) (by simp; omega) (by simp; omega) rfl hc).use (((hs.bump _).bump _).bump _) ?_
    rintro v H2 P' ⟨rfl, rfl⟩ hs2
    have e2 : (p ++ U) ++ (Y2 ++ (Y1 ++ (X ++ (V ++ q)))) = p ++ (U ++ (Y2 ++ (Y1 ++ ((X ++ V) ++ q)))) := by simp only [List.append_assoc]
    rw [e2] at hs2
    refine kn (Y2.length + Y1.length) _ _ (by omega) ⟨rfl, rfl, rfl, rfl, Y2, Y1, U, X ++ V, ?_, ?_, ?_, ?_, ?_, ?_, ?_, ?_, hs2.bump _⟩
    · show i64 _ = i64 _; rw [hY2]
    · rw [hY1]; show i64 _ = i64 _; congr 3; omega
    · omega
    · omega
    · omega
    · omega
    · simp; omega
    · rw [← hg]
      simp only [List.append_assoc]
end Go.AM

/-
  What is fired: sorted by putting in; two sorted parts of which one is a single one.
-/
namespace Go.AM
attribute [local simp] Nat.add_assoc resA callvP
theorem ins_l0 {ρ : HF} (b c n : Nat) (jk : List SV) (p : List Fir) (a : Nat) (ha : a = p.length) (hc : n < 4611686018427387904) (s : List Fir) (e0 : Fir) (q : List Fir) (hn : n = (p ++ (s ++ e0 :: q)).length) (hsr : SrtL ltF s) (Rs : List Asr) (T : List AV) (H : AH) (hT : T.length = 53) (i e : AV) (s0 : sl T 0 = sF b n c) (s1 : sl T 1 = i64 a) (s2 : sl T 2 = e) (s3 : sl T 3 = fO) (s8 : sl T 8 = i) (s9 : sl T 9 = i64 (a + s.length : Nat))
    (hs : Sat ρ H (Cel b (flat encF (p ++ (s ++ e0 :: q)) ++ jk) :: Rs)) (K : Ex → List AV → AH → Prop)
    (hk : ∀ T' H' z, T'.length = 53 → sl T' 0 = sF b n c → sl T' 1 = i64 a → sl T' 2 = e → sl T' 3 = fO → sl T' 8 = i → SrtL ltF z → z.Perm (s ++ [e0]) → Sat ρ H' (Cel b (flat encF (p ++ (z ++ q)) ++ jk) :: Rs) → K (.out 2) T' H') :
    loopP tab noExt R.slices_insertionSortCmpFunc_cyc_Fired_l0 T H K := by
  simp only [List.length_append, List.length_cons] at hn
  refine loopP_invK (I := fun k T H' => T.length = 53 ∧ sl T 0 = sF b n c ∧ sl T 1 = i64 a ∧ sl T 2 = e ∧ sl T 3 = fO ∧ sl T 8 = i ∧ ∃ x y : List Fir, sl T 9 = i64 (a + x.length : Nat) ∧ k = x.length ∧ x ++ y = s ∧ (∀ w, y.head? = some w → ltF w e0 = false) ∧ Sat ρ H' (Cel b (flat encF (p ++ (x ++ e0 :: (y ++ q))) ++ jk) :: Rs)) ?_ s.length _ _ ⟨hT, s0, s1, s2, s3, s8, s, [], s9, rfl, by simp, by simp, by simpa using hs⟩
  rintro k T H' ⟨hT, s0, s1, s2, s3, s8, x, y, s9, hk', hxy, hy, hs⟩ K' kn kr ko
  rw [slices_insertionSortCmpFunc_cyc_Fired_l0_at hT]
  have hl : s.length = x.length + y.length := by rw [← hxy]; simp
  rcases List.eq_nil_or_concat x with rfl | ⟨x', w, rfl⟩
  · simp [s1, s9]
    refine ko _ _ _ (hk _ _ (e0 :: y) rfl s0 rfl s2 s3 s8 ?_ ?_ (hs.bump _))
    · exact srtL_cons ltF_ord (by simpa [← hxy] using hsr) hy
    · rw [← hxy]; simpa using (List.perm_append_singleton e0 y).symm
  · rw [List.concat_eq_append] at *
    simp only [List.length_append, List.length_singleton] at s9 hk' hl
    have h1 : (a : Int) < ((a + (x'.length + 1) : Nat) : Int) := by omega
    have h2 : ¬ ((a + (x'.length + 1) : Nat) : Int) ≤ a := by omega
    have e1 : p ++ ((x' ++ [w]) ++ e0 :: (y ++ q)) = (p ++ x') ++ w :: ([] ++ e0 :: (y ++ q)) := by simp
    rw [e1] at hs
    obtain ⟨g1, g2, _⟩ := hs.ws encF_len (i := a + x'.length) (m := a + (x'.length + 1)) (by simp; omega) (by simp; omega)
    have w1 := wrapM1 (a + (x'.length + 1)) (by omega) (by omega)
    have w2 : a + (x'.length + 1) - 1 = a + x'.length := by omega
    rw [w2] at w1
    have i1 : a + x'.length < n := by omega
    have i2 : a + (x'.length + 1) < n := by omega
    have hxs : a + (x'.length + 1) = (a + x'.length) + 1 := by omega
    have hq : a + x'.length = (p ++ x').length := by simp; omega
    generalize hp1 : a + x'.length = p1 at *
    generalize hp2 : a + (x'.length + 1) = p2 at *
    simp only [s0, s1, s3, s9, andThen_some, binA_gtr]
    simp [h1, h2, w1, i1, i2, g1, g2, encF_len]
    refine (order_tri e0 w).use (R := _) (hs.bump _) ?_
    rintro v H2 P' ⟨rfl, rfl⟩ hs2
    have ho := ordI_neg e0 w
    have hs2 : Sat ρ H2 (Cel b (flat encF ((p ++ x') ++ w :: ([] ++ e0 :: (y ++ q))) ++ jk) :: Rs) := hs2
    cases hlt : ltF e0 w
    · rw [hlt] at ho
      simp [ho]
      rw [List.nil_append] at hs2
      have e2 : (p ++ x') ++ w :: e0 :: (y ++ q) = p ++ ((x' ++ w :: e0 :: y) ++ q) := by simp
      rw [e2] at hs2
      refine ko _ _ _ (hk _ _ (x' ++ w :: e0 :: y) rfl rfl rfl s2 rfl s8 ?_ ?_ hs2)
      · have := srtL_ins (x := e0) ltF_ord (l := x' ++ [w]) (r := y) (by rw [hxy]; exact hsr) (by intro a ha; simp at ha; subst ha; exact hlt) hy
        simpa using this
      · rw [← hxy]
        have : (x' ++ w :: e0 :: y) = (x' ++ [w]) ++ (e0 :: y) := by simp
        rw [this, List.append_assoc (x' ++ [w]) y [e0]]
        exact List.Perm.append_left _ (List.perm_append_singleton e0 y).symm
    · rw [hlt] at ho
      obtain ⟨g1, g2, H3, H4, g3, g4, hs3⟩ := (hs2.bump 18).ws encF_len (i := p1) (m := p2) hq (by simp; omega)
      have g1 : H2.ldn b (p1 * 3) 3 = some (encF w) := g1
      have g2 : H2.ldn b (p2 * 3) 3 = some (encF e0) := g2
      simp [ho, w1, i1, i2, g1, g2, encF_len]
      refine ⟨_, g3, _, g4, kn x'.length _ _ (by omega) ⟨rfl, rfl, rfl, s2, rfl, s8, x', w :: y, by show i64 _ = i64 _; rw [hp1], rfl, by rw [← hxy]; simp, ?_, ?_⟩⟩
      · intro z hz
        simp at hz; subst hz
        exact lt_flip ltF_ord hlt
      · have e2 : (p ++ x') ++ e0 :: ([] ++ w :: (y ++ q)) = p ++ (x' ++ e0 :: (w :: y ++ q)) := by simp
        rw [e2] at hs3
        exact hs3.bump _
theorem insSort_tri (b c n : Nat) (jk : List SV) (p x q : List Fir) (a e : Nat) (ha : a = p.length) (he : e = a + x.length) (hn : n = (p ++ (x ++ q)).length) (hc : n < 4611686018427387904) :
    Tri tab noExt F.slices_insertionSortCmpFunc_cyc_Fired [sF b n c, i64 a, i64 e, fO] [Cel b (flat encF (p ++ (x ++ q)) ++ jk)] fun v P' => v = unit ∧ ∃ z, SrtL ltF z ∧ z.Perm x ∧ P' = [Cel b (flat encF (p ++ (z ++ q)) ++ jk)] := by
  refine Tri.intro fun ρ H Rs K hs hk => ?_
  apply slices_insertionSortCmpFunc_cyc_Fired_call
  simp only [List.length_append] at hn
  have w1 := wrapP1 a (by omega)
  simp [w1]
  refine loopP_invK (I := fun k T H' => T.length = 53 ∧ sl T 0 = sF b n c ∧ sl T 1 = i64 a ∧ sl T 2 = i64 e ∧ sl T 3 = fO ∧ ∃ (i : Nat) (s t : List Fir), sl T 8 = i64 i ∧ (i = a + s.length ∨ (x = [] ∧ i = a + 1)) ∧ k = t.length ∧ SrtL ltF s ∧ (s ++ t).Perm x ∧ Sat ρ H' (Cel b (flat encF (p ++ (s ++ (t ++ q))) ++ jk) :: Rs)) ?_ (x.length - 1) _ _ ⟨rfl, rfl, rfl, rfl, rfl, a + 1, x.take 1, x.drop 1, rfl, ?_, by simp, ?_, by rw [List.take_append_drop], ?_⟩
  · rintro k T H' ⟨hT, s0, s1, s2, s3, i, s, t, s8, hi, hk', hsr, hp, hs⟩ K' kn kr ko
    rw [slices_insertionSortCmpFunc_cyc_Fired_l2_at hT]
    have hl := hp.length_eq
    rw [List.length_append] at hl
    cases t with
    | nil =>
      have h1 : ¬ (i : Int) < e := by simp at hl; rcases hi with h | ⟨h, h'⟩ <;> (try subst h) <;> simp at * <;> omega
      simp only [s2, s8, andThen_some, binA_lss, condP_bool]
      rw [decide_eq_false h1]
      simp only [Bool.false_eq_true, if_false]
      refine ko _ _ _ ?_
      simp
      refine hk _ _ _ ⟨rfl, s, hsr, by simpa using hp, rfl⟩ ?_
      simpa using hs.bump _
    | cons e0 t =>
      have hi : i = a + s.length := by
        rcases hi with h | ⟨h, _⟩
        · exact h
        · subst h; simp at hl
      subst hi
      have h1 : (a + s.length : Nat) < e := by simp at hl; omega
      have h1' : ((a + s.length : Nat) : Int) < e := by omega
      simp only [s0, s1, s2, s3, s8, andThen_some, binA_lss, condP_bool]
      rw [decide_eq_true h1']
      simp only [if_true]
      refine ins_l0 b c n jk p a ha hc s e0 (t ++ q) (by simp at hl ⊢; omega) hsr Rs _ _ (by simp) (i64 (a + s.length : Nat)) (i64 e) rfl rfl rfl rfl rfl rfl ((hs.bump _).bump _) _ ?_
      intro T' H2 z hT' t0 t1 t2 t3 t8 hz hzp hs2
      simp
      rw [slices_insertionSortCmpFunc_cyc_Fired_s1_at hT']
      have w2 := wrapP1 (a + s.length) (by omega)
      simp only [t8, andThen_some, binA_add, w2]
      refine kn t.length _ _ (by rw [hk']; simp) ⟨by simp, t0, t1, t2, t3, a + s.length + 1, z, t, rfl, .inl ?_, rfl, hz, ?_, hs2.bump _⟩
      · have := hzp.length_eq; simp at this; omega
      · refine ((List.Perm.append_right t hzp).trans ?_).trans hp
        simp
  · cases x with
    | nil => exact .inr ⟨rfl, rfl⟩
    | cons y x => left; simp
  · cases x with
    | nil => exact .nil
    | cons y x => simpa using SrtL.one y
  · have : x.take 1 ++ (x.drop 1 ++ q) = x ++ q := by rw [← List.append_assoc, List.take_append_drop]
    rw [this]
    exact hs.bump _
end Go.AM

/-
  What is fired: two sorted parts side by side merged in place.
-/
set_option maxRecDepth 20000
namespace Go.AM
attribute [local simp] Nat.add_assoc resA callvP
theorem shr1 (n : Nat) (h : n < 18446744073709551616) : binA .shr (u64 n) (u64 1) = some (u64 ((n / 2 : Nat) : Int)) := by
  simp [binA, shiftA, IntKind.bits, Int.fdiv_eq_ediv]
theorem wrapU64N (n : Nat) (h : n < 18446744073709551616) : IntKind.u64.wrap (n : Int) = n := wrap_u64 (by omega) (by omega)
theorem at_mid {α : Type} (p x r : List α) (i k : Nat) (hk : k = p.length + i) (hi : i < x.length) : (p ++ (x ++ r))[k]? = x[i]? := by
  subst hk
  rw [List.getElem?_append_right (by omega), Nat.add_sub_cancel_left, List.getElem?_append_left hi]
theorem at_one {α : Type} (p r : List α) (x : α) (k : Nat) (hk : k = p.length) : (p ++ x :: r)[k]? = some x := by subst hk; simp
section
variable {ρ : HF} (b c n : Nat) (jk : List SV) (Rs : List Asr)
theorem sm_l0 (p : List Fir) (e0 : Fir) (y q : List Fir) (a m e : Nat) (ha : a = p.length) (hm : m = a + 1) (he : e = m + y.length) (hn : n = (p ++ ([e0] ++ (y ++ q))).length) (hc : n < 4611686018427387904) (T : List AV) (H : AH) (hT : T.length = 220) (s0 : sl T 0 = sF b n c) (s1 : sl T 1 = i64 a) (s4 : sl T 4 = fO) (s10 : sl T 10 = i64 m) (s11 : sl T 11 = i64 e)
    (hs : Sat ρ H (Cel b (flat encF (p ++ ([e0] ++ (y ++ q))) ++ jk) :: Rs)) (K : Ex → List AV → AH → Prop)
    (hk : ∀ T' H' r, T'.length = 220 → sl T' 0 = sF b n c → sl T' 1 = i64 a → sl T' 10 = i64 (m + r : Nat) → r ≤ y.length → (∀ z, (y.take r).getLast? = some z → ltF z e0 = true) → (∀ z, (y.drop r).head? = some z → ltF z e0 = false) → Sat ρ H' (Cel b (flat encF (p ++ ([e0] ++ (y ++ q))) ++ jk) :: Rs) → K (.out 0) T' H') :
    loopP tab noExt R.slices_symMergeCmpFunc_cyc_Fired_l0 T H K := by
  simp only [List.length_append, List.length_singleton] at hn
  refine loopP_invK (I := fun k T H' => T.length = 220 ∧ sl T 0 = sF b n c ∧ sl T 1 = i64 a ∧ sl T 4 = fO ∧ ∃ I J : Nat, sl T 10 = i64 (m + I : Nat) ∧ sl T 11 = i64 (m + J : Nat) ∧ I ≤ J ∧ J ≤ y.length ∧ k = J - I ∧ (∀ z, (y.take I).getLast? = some z → ltF z e0 = true) ∧ (∀ z, (y.drop J).head? = some z → ltF z e0 = false) ∧ Sat ρ H' (Cel b (flat encF (p ++ ([e0] ++ (y ++ q))) ++ jk) :: Rs)) ?_ y.length _ _ ⟨hT, s0, s1, s4, 0, y.length, s10, by rw [s11, he], Nat.zero_le _, Nat.le_refl _, rfl, by simp, by simp, hs⟩
  rintro k T H' ⟨hT, s0, s1, s4, I, J, s10, s11, hIJ, hJ, hk', h1, h2, hs⟩ K' kn kr ko
  rw [slices_symMergeCmpFunc_cyc_Fired_l0_at hT]
  by_cases hlt : I < J
  · have hlt' : ((m + I : Nat) : Int) < (m + J : Nat) := by omega
    have w1 := wrapP (m + I) (m + J) (by omega)
    have w2 := wrapU64N (m + I + (m + J)) (by omega)
    have w3 := shr1 (m + I + (m + J)) (by omega)
    have w4 := wrapN ((m + I + (m + J)) / 2) (by omega)
    have hh : (m + I + (m + J)) / 2 = m + (I + J) / 2 := by omega
    rw [hh] at w3 w4
    have g1 := rdEl encF_len hs.cel (at_one p (y ++ q) e0 a ha)
    have hM : (I + J) / 2 < y.length := by omega
    obtain ⟨z, hz⟩ : ∃ z, y[(I + J) / 2]? = some z := ⟨_, List.getElem?_eq_getElem hM⟩
    have e1 : (p ++ ([e0] ++ (y ++ q)))[m + (I + J) / 2]? = some z := by
      have : p ++ ([e0] ++ (y ++ q)) = (p ++ [e0]) ++ (y ++ q) := by simp
      rw [this, at_mid (p ++ [e0]) y q ((I + J) / 2) _ (by simp; omega) hM]
      exact hz
    have g2 := rdEl encF_len hs.cel e1
    have i1 : a < n := by omega
    have i2 : m + (I + J) / 2 < n := by omega
    have hq1 : I ≤ (I + J) / 2 := by omega
    have hq2 : (I + J) / 2 < J := by omega
    generalize hM' : (I + J) / 2 = M at *
    have w5 := wrapP1 (m + M) (by omega)
    generalize hS : m + I + (m + J) = S at *
    obtain ⟨h, hMh⟩ : ∃ h, h = m + M := ⟨_, rfl⟩
    rw [← hMh] at w3 w4 g2 i2 w5
    simp only [s0, s1, s4, s10, s11, andThen_some, binA_lss, condP_bool]
    rw [decide_eq_true hlt']
    simp only [if_true, andThen_some, binA_add, w1, convA_int, w2, w3, w4]
    simp [i1, i2, g1, g2]
    refine (order_tri z e0).use (R := _) (((hs.bump 3).bump 7).bump 11) ?_
    rintro v H2 P' ⟨rfl, rfl⟩ hs2
    have ho := ordI_neg z e0
    have hs2 : Sat ρ H2 (Cel b (flat encF (p ++ ([e0] ++ (y ++ q))) ++ jk) :: Rs) := hs2
    cases hl : ltF z e0
    · rw [hl] at ho
      simp [ho]
      refine kn (M - I) _ _ (by omega) ⟨rfl, rfl, rfl, rfl, I, M, rfl, by show i64 _ = i64 _; rw [hMh], hq1, by omega, rfl, h1, ?_, hs2.bump _⟩
      intro w hw
      rw [List.head?_drop, hz] at hw
      cases hw; exact hl
    · rw [hl] at ho
      simp [ho, w5]
      refine kn (J - (M + 1)) _ _ (by omega) ⟨rfl, rfl, rfl, rfl, M + 1, J, by show AV.s (.int .i64 _) = AV.s (.int .i64 _); congr 2; omega, rfl, hq2, hJ, rfl, ?_, h2, hs2.bump _⟩
      intro w hw
      rw [List.take_add_one, hz] at hw
      simp at hw
      cases hw; exact hl
  · have hlt' : ¬ ((m + I : Nat) : Int) < (m + J : Nat) := by omega
    have hIJ' : I = J := by omega
    subst hIJ'
    simp only [s0, s1, s4, s10, s11, andThen_some, binA_lss, condP_bool]
    rw [decide_eq_false hlt']
    simp only [Bool.false_eq_true, if_false]
    exact ko _ _ _ (hk _ _ I rfl rfl rfl rfl hJ h1 h2 (hs.bump _))
theorem sm_l1 (p : List Fir) (e0 : Fir) (y q : List Fir) (a m r : Nat) (ha : a = p.length) (hm : m = a + 1) (hr : r ≤ y.length) (hn : n = (p ++ ([e0] ++ (y ++ q))).length) (hc : n < 4611686018427387904) (T : List AV) (H : AH) (hT : T.length = 220) (s0 : sl T 0 = sF b n c) (s13 : sl T 13 = i64 a) (s10 : sl T 10 = i64 (m + r : Nat))
    (hs : Sat ρ H (Cel b (flat encF (p ++ ([e0] ++ (y ++ q))) ++ jk) :: Rs)) (K : Ex → List AV → AH → Prop)
    (hk : ∀ T' H', T'.length = 220 → Sat ρ H' (Cel b (flat encF (p ++ ((y.take r ++ e0 :: y.drop r) ++ q)) ++ jk) :: Rs) → K (.out 2) T' H') :
    loopP tab noExt R.slices_symMergeCmpFunc_cyc_Fired_l1 T H K := by
  simp only [List.length_append, List.length_singleton] at hn
  refine loopP_invK (I := fun k T H' => T.length = 220 ∧ sl T 0 = sF b n c ∧ sl T 10 = i64 (m + r : Nat) ∧ ∃ d : Nat, sl T 13 = i64 (a + d : Nat) ∧ d ≤ r ∧ k = r - d ∧ Sat ρ H' (Cel b (flat encF (p ++ ((y.take d ++ e0 :: y.drop d) ++ q)) ++ jk) :: Rs)) ?_ r _ _ ⟨hT, s0, s10, 0, s13, Nat.zero_le _, rfl, by simpa using hs⟩
  rintro k T H' ⟨hT, s0, s10, d, s13, hd, hk', hs⟩ K' kn kr ko
  rw [slices_symMergeCmpFunc_cyc_Fired_l1_at hT]
  have w0 := wrapM1 (m + r) (by omega) (by omega)
  have e0' : m + r - 1 = a + r := by omega
  rw [e0'] at w0
  by_cases hlt : d < r
  · have hlt' : ((a + d : Nat) : Int) < (a + r : Nat) := by omega
    have hy : d < y.length := by omega
    rw [List.drop_eq_getElem_cons hy] at hs
    have e1 : p ++ ((y.take d ++ e0 :: y[d] :: y.drop (d + 1)) ++ q) = (p ++ y.take d) ++ e0 :: ([] ++ y[d] :: (y.drop (d + 1) ++ q)) := by simp only [List.append_assoc, List.cons_append, List.nil_append]
    rw [e1] at hs
    obtain ⟨g1, g2, H1, H2, g3, g4, hs2⟩ := ((hs.bump 4).bump 18).sw encF_len (i := a + d) (m := a + d + 1) (by simp; omega) (by simp; omega)
    have g1 : H'.ldn b ((a + d) * 3) 3 = some (encF e0) := g1
    have g2 : H'.ldn b ((a + d + 1) * 3) 3 = some (encF y[d]) := g2
    have w1 := wrapP1 (a + d) (by omega)
    have i1 : a + d < n := by omega
    have i2 : a + d + 1 < n := by omega
    have e2 : (p ++ y.take d) ++ y[d] :: ([] ++ e0 :: (y.drop (d + 1) ++ q)) = p ++ ((y.take (d + 1) ++ e0 :: y.drop (d + 1)) ++ q) := by
      rw [List.take_add_one, List.getElem?_eq_getElem hy]; simp only [Option.toList_some, List.append_assoc, List.cons_append, List.nil_append]
    rw [e2] at hs2
    have hpd : a + (d + 1) = a + d + 1 := by omega
    have hkn := kn (r - (d + 1))
    generalize hp1 : a + d = p1 at *
    generalize hp2 : p1 + 1 = p2 at *
    simp only [s0, s10, s13, andThen_some, binA_sub, w0, binA_lss, condP_bool]
    rw [decide_eq_true hlt']
    simp only [if_true, andThen_some, binA_add, w1]
    simp [i1, i2, g1, g2, encF_len, w1]
    refine ⟨_, g3, _, g4, hkn _ _ (by omega) ⟨rfl, rfl, rfl, d + 1, by show i64 _ = i64 _; rw [hpd], hlt, rfl, hs2.bump _⟩⟩
  · have hlt' : ¬ ((a + d : Nat) : Int) < (a + r : Nat) := by omega
    have hdr : d = r := by omega
    subst hdr
    simp only [s0, s10, s13, andThen_some, binA_sub, w0, binA_lss, condP_bool]
    rw [decide_eq_false hlt']
    simp only [Bool.false_eq_true, if_false]
    exact ko _ _ _ (hk _ _ rfl (hs.bump _))
theorem sm_l4 (p : List Fir) (e0 : Fir) (x q : List Fir) (a m : Nat) (ha : a = p.length) (hm : m = a + x.length) (hn : n = (p ++ (x ++ e0 :: q)).length) (hc : n < 4611686018427387904) (T : List AV) (H : AH) (hT : T.length = 220) (s0 : sl T 0 = sF b n c) (s2 : sl T 2 = i64 m) (s4 : sl T 4 = fO) (s14 : sl T 14 = i64 a) (s15 : sl T 15 = i64 m)
    (hs : Sat ρ H (Cel b (flat encF (p ++ (x ++ e0 :: q)) ++ jk) :: Rs)) (K : Ex → List AV → AH → Prop)
    (hk : ∀ T' H' r, T'.length = 220 → sl T' 0 = sF b n c → sl T' 2 = i64 m → sl T' 14 = i64 (a + r : Nat) → r ≤ x.length → (∀ z, (x.take r).getLast? = some z → ltF e0 z = false) → (∀ z, (x.drop r).head? = some z → ltF e0 z = true) → Sat ρ H' (Cel b (flat encF (p ++ (x ++ e0 :: q)) ++ jk) :: Rs) → K (.out 4) T' H') :
    loopP tab noExt R.slices_symMergeCmpFunc_cyc_Fired_l4 T H K := by
  simp only [List.length_append, List.length_cons] at hn
  refine loopP_invK (I := fun k T H' => T.length = 220 ∧ sl T 0 = sF b n c ∧ sl T 2 = i64 m ∧ sl T 4 = fO ∧ ∃ I J : Nat, sl T 14 = i64 (a + I : Nat) ∧ sl T 15 = i64 (a + J : Nat) ∧ I ≤ J ∧ J ≤ x.length ∧ k = J - I ∧ (∀ z, (x.take I).getLast? = some z → ltF e0 z = false) ∧ (∀ z, (x.drop J).head? = some z → ltF e0 z = true) ∧ Sat ρ H' (Cel b (flat encF (p ++ (x ++ e0 :: q)) ++ jk) :: Rs)) ?_ x.length _ _ ⟨hT, s0, s2, s4, 0, x.length, s14, by rw [s15, hm], Nat.zero_le _, Nat.le_refl _, rfl, by simp, by simp, hs⟩
  rintro k T H' ⟨hT, s0, s2, s4, I, J, s14, s15, hIJ, hJ, hk', h1, h2, hs⟩ K' kn kr ko
  rw [slices_symMergeCmpFunc_cyc_Fired_l4_at hT]
  by_cases hlt : I < J
  · have hlt' : ((a + I : Nat) : Int) < (a + J : Nat) := by omega
    have w1 := wrapP (a + I) (a + J) (by omega)
    have w2 := wrapU64N (a + I + (a + J)) (by omega)
    have w3 := shr1 (a + I + (a + J)) (by omega)
    have w4 := wrapN ((a + I + (a + J)) / 2) (by omega)
    have hh : (a + I + (a + J)) / 2 = a + (I + J) / 2 := by omega
    rw [hh] at w3 w4
    have e0' : (p ++ (x ++ e0 :: q))[m]? = some e0 := by rw [← List.append_assoc]; exact at_one (p ++ x) q e0 m (by simp; omega)
    have g1 := rdEl encF_len hs.cel e0'
    have hM : (I + J) / 2 < x.length := by omega
    obtain ⟨z, hz⟩ : ∃ z, x[(I + J) / 2]? = some z := ⟨_, List.getElem?_eq_getElem hM⟩
    have e1 : (p ++ (x ++ e0 :: q))[a + (I + J) / 2]? = some z := by
      rw [at_mid p x (e0 :: q) ((I + J) / 2) _ (by omega) hM]
      exact hz
    have g2 := rdEl encF_len hs.cel e1
    have i1 : m < n := by omega
    have i2 : a + (I + J) / 2 < n := by omega
    have hq1 : I ≤ (I + J) / 2 := by omega
    have hq2 : (I + J) / 2 < J := by omega
    generalize hM' : (I + J) / 2 = M at *
    have w5 := wrapP1 (a + M) (by omega)
    generalize hS : a + I + (a + J) = S at *
    obtain ⟨h, hMh⟩ : ∃ h, h = a + M := ⟨_, rfl⟩
    rw [← hMh] at w3 w4 g2 i2 w5
    simp only [s0, s2, s4, s14, s15, andThen_some, binA_lss, condP_bool]
    rw [decide_eq_true hlt']
    simp only [if_true, andThen_some, binA_add, w1, convA_int, w2, w3, w4]
    simp [i1, i2, g1, g2]
    refine (order_tri e0 z).use (R := _) (((hs.bump 3).bump 7).bump 12) ?_
    rintro v H2 P' ⟨rfl, rfl⟩ hs2
    have ho := ordI_neg e0 z
    have hs2 : Sat ρ H2 (Cel b (flat encF (p ++ (x ++ e0 :: q)) ++ jk) :: Rs) := hs2
    cases hl : ltF e0 z
    · rw [hl] at ho
      simp [ho, w5]
      refine kn (J - (M + 1)) _ _ (by omega) ⟨rfl, rfl, rfl, rfl, M + 1, J, by show AV.s (.int .i64 _) = AV.s (.int .i64 _); congr 2; omega, rfl, hq2, hJ, rfl, ?_, h2, hs2.bump _⟩
      intro w hw
      rw [List.take_add_one, hz] at hw
      simp at hw
      cases hw; exact hl
    · rw [hl] at ho
      simp [ho]
      refine kn (M - I) _ _ (by omega) ⟨rfl, rfl, rfl, rfl, I, M, rfl, by show i64 _ = i64 _; rw [hMh], hq1, by omega, rfl, h1, ?_, hs2.bump _⟩
      intro w hw
      rw [List.head?_drop, hz] at hw
      cases hw; exact hl
  · have hlt' : ¬ ((a + I : Nat) : Int) < (a + J : Nat) := by omega
    have hIJ' : I = J := by omega
    subst hIJ'
    simp only [s0, s2, s4, s14, s15, andThen_some, binA_lss, condP_bool]
    rw [decide_eq_false hlt']
    simp only [Bool.false_eq_true, if_false]
    exact ko _ _ _ (hk _ _ I rfl rfl rfl rfl hJ h1 h2 (hs.bump _))
theorem sm_l5 (p : List Fir) (e0 : Fir) (x q : List Fir) (a m r : Nat) (ha : a = p.length) (hm : m = a + x.length) (hr : r ≤ x.length) (hn : n = (p ++ (x ++ e0 :: q)).length) (hc : n < 4611686018427387904) (T : List AV) (H : AH) (hT : T.length = 220) (s0 : sl T 0 = sF b n c) (s17 : sl T 17 = i64 m) (s14 : sl T 14 = i64 (a + r : Nat))
    (hs : Sat ρ H (Cel b (flat encF (p ++ (x ++ e0 :: q)) ++ jk) :: Rs)) (K : Ex → List AV → AH → Prop)
    (hk : ∀ T' H', T'.length = 220 → Sat ρ H' (Cel b (flat encF (p ++ ((x.take r ++ e0 :: x.drop r) ++ q)) ++ jk) :: Rs) → K (.out 6) T' H') :
    loopP tab noExt R.slices_symMergeCmpFunc_cyc_Fired_l5 T H K := by
  simp only [List.length_append, List.length_cons] at hn
  refine loopP_invK (I := fun k T H' => T.length = 220 ∧ sl T 0 = sF b n c ∧ sl T 14 = i64 (a + r : Nat) ∧ ∃ d : Nat, sl T 17 = i64 (a + d : Nat) ∧ d ≤ x.length ∧ r ≤ d ∧ k = d - r ∧ Sat ρ H' (Cel b (flat encF (p ++ ((x.take d ++ e0 :: x.drop d) ++ q)) ++ jk) :: Rs)) ?_ (x.length - r) _ _ ⟨hT, s0, s14, x.length, by rw [s17, hm], Nat.le_refl _, hr, rfl, by simpa using hs⟩
  rintro k T H' ⟨hT, s0, s14, d, s17, hd, hrd, hk', hs⟩ K' kn kr ko
  rw [slices_symMergeCmpFunc_cyc_Fired_l5_at hT]
  by_cases hlt : r < d
  · have hlt' : ((a + d : Nat) : Int) > (a + r : Nat) := by omega
    obtain ⟨d, rfl⟩ : ∃ d', d = d' + 1 := ⟨d - 1, by omega⟩
    have hy : d < x.length := by omega
    rw [List.take_add_one, List.getElem?_eq_getElem hy] at hs
    have e1 : p ++ (((x.take d ++ (some x[d]).toList) ++ e0 :: x.drop (d + 1)) ++ q) = (p ++ x.take d) ++ x[d] :: ([] ++ e0 :: (x.drop (d + 1) ++ q)) := by simp only [Option.toList_some, List.append_assoc, List.cons_append, List.nil_append]
    rw [e1] at hs
    obtain ⟨g1, g2, H1, H2, g3, g4, hs2⟩ := ((hs.bump 3).bump 18).ws encF_len (i := a + d) (m := a + (d + 1)) (by simp; omega) (by simp; omega)
    have g1 : H'.ldn b ((a + d) * 3) 3 = some (encF x[d]) := g1
    have g2 : H'.ldn b ((a + (d + 1)) * 3) 3 = some (encF e0) := g2
    have w1 := wrapM1 (a + (d + 1)) (by omega) (by omega)
    have w1' : a + (d + 1) - 1 = a + d := by omega
    rw [w1'] at w1
    have i1 : a + d < n := by omega
    have i2 : a + (d + 1) < n := by omega
    have e2 : (p ++ x.take d) ++ e0 :: ([] ++ x[d] :: (x.drop (d + 1) ++ q)) = p ++ ((x.take d ++ e0 :: x.drop d) ++ q) := by
      rw [List.drop_eq_getElem_cons hy]; simp only [List.append_assoc, List.cons_append, List.nil_append]
    rw [e2] at hs2
    have hkn := kn (d - r)
    generalize hp1 : a + d = p1 at *
    generalize hp2 : a + (d + 1) = p2 at *
    simp only [s0, s14, s17, andThen_some, binA_gtr, condP_bool]
    rw [decide_eq_true hlt']
    simp only [if_true, andThen_some, binA_sub, w1]
    simp [i1, i2, g1, g2, encF_len, w1]
    refine ⟨_, g3, _, g4, hkn _ _ (by omega) ⟨rfl, rfl, rfl, d, by show i64 _ = i64 _; rw [hp1], by omega, by omega, rfl, hs2.bump _⟩⟩
  · have hlt' : ¬ ((a + d : Nat) : Int) > (a + r : Nat) := by omega
    have hdr : d = r := by omega
    subst hdr
    simp only [s0, s14, s17, andThen_some, binA_gtr, condP_bool]
    rw [decide_eq_false hlt']
    simp only [Bool.false_eq_true, if_false]
    exact ko _ _ _ (hk _ _ rfl (hs.bump _))
end
end Go.AM

/-
  What is fired: two sorted parts merged in place: the whole.
-/
set_option maxRecDepth 20000
namespace Go.AM
attribute [local simp] Nat.add_assoc resA callvP
section
variable {ρ : HF} (b c n : Nat) (jk : List SV) (Rs : List Asr)
theorem sm_l8 (D : List Fir) (hn : n = D.length) (hc : n < 4611686018427387904) (f0 r0 P : Nat) (hb : ∀ k, f0 ≤ k → k < r0 → k < n ∧ k ≤ P ∧ P - k < n) (hsr : f0 ≤ r0) (hr : r0 < 4611686018427387904) (hP : P < 9223372036854775808) (T : List AV) (H : AH) (hT : T.length = 220) (A1 A2 A3 A18 A19 : AV) (s0 : sl T 0 = sF b n c) (s1 : sl T 1 = A1) (s2 : sl T 2 = A2) (s3 : sl T 3 = A3) (s4 : sl T 4 = fO) (s18 : sl T 18 = A18) (s19 : sl T 19 = A19) (s20 : sl T 20 = i64 f0) (s21 : sl T 21 = i64 r0) (s22 : sl T 22 = i64 P)
    (hs : Sat ρ H (Cel b (flat encF D ++ jk) :: Rs)) (K : Ex → List AV → AH → Prop)
    (hk : ∀ T' H' st, T'.length = 220 → sl T' 0 = sF b n c → sl T' 1 = A1 → sl T' 2 = A2 → sl T' 3 = A3 → sl T' 4 = fO → sl T' 18 = A18 → sl T' 19 = A19 → sl T' 20 = i64 (st : Nat) → f0 ≤ st → st ≤ r0 → (st = f0 ∨ ∃ u w, D[st - 1]? = some u ∧ D[P - (st - 1)]? = some w ∧ ltF w u = false) → (st = r0 ∨ ∃ u w, D[st]? = some u ∧ D[P - st]? = some w ∧ ltF w u = true) → Sat ρ H' (Cel b (flat encF D ++ jk) :: Rs) → K (.out 8) T' H') :
    loopP tab noExt R.slices_symMergeCmpFunc_cyc_Fired_l8 T H K := by
  refine loopP_invK (I := fun k T H' => T.length = 220 ∧ sl T 0 = sF b n c ∧ sl T 1 = A1 ∧ sl T 2 = A2 ∧ sl T 3 = A3 ∧ sl T 4 = fO ∧ sl T 18 = A18 ∧ sl T 19 = A19 ∧ sl T 22 = i64 P ∧ ∃ I J : Nat, sl T 20 = i64 I ∧ sl T 21 = i64 J ∧ f0 ≤ I ∧ I ≤ J ∧ J ≤ r0 ∧ k = J - I ∧ (I = f0 ∨ ∃ u w, D[I - 1]? = some u ∧ D[P - (I - 1)]? = some w ∧ ltF w u = false) ∧ (J = r0 ∨ ∃ u w, D[J]? = some u ∧ D[P - J]? = some w ∧ ltF w u = true) ∧ Sat ρ H' (Cel b (flat encF D ++ jk) :: Rs)) ?_ (r0 - f0) _ _ ⟨hT, s0, s1, s2, s3, s4, s18, s19, s22, f0, r0, s20, s21, Nat.le_refl _, hsr, Nat.le_refl _, rfl, .inl rfl, .inl rfl, hs⟩
  rintro k T H' ⟨hT, s0, s1, s2, s3, s4, s18, s19, s22, I, J, s20, s21, hI, hIJ, hJ, hk', h1, h2, hs⟩ K' kn kr ko
  rw [slices_symMergeCmpFunc_cyc_Fired_l8_at hT]
  by_cases hlt : I < J
  · have hlt' : (I : Int) < (J : Int) := by omega
    have w1 := wrapP I J (by omega)
    have w2 := wrapU64N (I + J) (by omega)
    have w3 := shr1 (I + J) (by omega)
    have w4 := wrapN ((I + J) / 2) (by omega)
    have hq1 : I ≤ (I + J) / 2 := by omega
    have hq2 : (I + J) / 2 < J := by omega
    generalize hM' : (I + J) / 2 = M at *
    obtain ⟨i1, i2, i3⟩ := hb M (by omega) (by omega)
    obtain ⟨u, hu⟩ : ∃ u, D[M]? = some u := ⟨_, List.getElem?_eq_getElem (by omega)⟩
    obtain ⟨w, hw⟩ : ∃ w, D[P - M]? = some w := ⟨_, List.getElem?_eq_getElem (by omega)⟩
    have g1 := rdEl encF_len hs.cel hu
    have g2 := rdEl encF_len hs.cel hw
    have w5 := wrapP1 M (by omega)
    have w6 := wrapM P M (by omega) i2
    generalize hS : I + J = S at *
    obtain ⟨Q, hQ⟩ : ∃ Q, Q = P - M := ⟨_, rfl⟩
    rw [← hQ] at w6 g2 i3
    simp only [s0, s1, s2, s3, s4, s18, s19, s20, s21, s22, andThen_some, binA_lss, condP_bool]
    rw [decide_eq_true hlt']
    simp only [if_true, andThen_some, binA_add, w1, convA_int, w2, w3, w4, binA_sub, w6]
    simp [i1, i3, g1, g2]
    refine (order_tri w u).use (R := _) (((hs.bump 3).bump 7).bump 14) ?_
    rintro v H2 P' ⟨rfl, rfl⟩ hs2
    have ho := ordI_neg w u
    have hs2 : Sat ρ H2 (Cel b (flat encF D ++ jk) :: Rs) := hs2
    cases hl : ltF w u
    · rw [hl] at ho
      simp [ho, w5]
      refine kn (J - (M + 1)) _ _ (by omega) ⟨rfl, rfl, rfl, rfl, rfl, rfl, rfl, rfl, rfl, M + 1, J, rfl, rfl, by omega, hq2, hJ, rfl, .inr ⟨u, w, by simpa using hu, by simpa using hw, hl⟩, h2, hs2.bump _⟩
    · rw [hl] at ho
      simp [ho]
      exact kn (M - I) _ _ (by omega) ⟨rfl, rfl, rfl, rfl, rfl, rfl, rfl, rfl, rfl, I, M, rfl, rfl, hI, hq1, by omega, rfl, h1, .inr ⟨u, w, hu, hw, hl⟩, hs2.bump _⟩
  · have hIJ' : I = J := by omega
    subst hIJ'
    simp only [s0, s1, s2, s3, s4, s18, s19, s20, s21, s22, andThen_some, binA_lss, condP_bool]
    rw [decide_eq_false (by omega)]
    simp only [Bool.false_eq_true, if_false]
    exact ko _ _ _ (hk _ _ I rfl rfl rfl rfl rfl rfl rfl rfl rfl hI hJ h1 h2 (hs.bump _))
def SmIH (N : Nat) : Prop := ∀ (p x y q : List Fir) (a m e : Nat), x.length + y.length < N → 0 < x.length → 0 < y.length → a = p.length → m = a + x.length → e = m + y.length → n = (p ++ (x ++ (y ++ q))).length → SrtL ltF x → SrtL ltF y →
  Tri tab noExt F.slices_symMergeCmpFunc_cyc_Fired [sF b n c, i64 a, i64 m, i64 e, fO] [Cel b (flat encF (p ++ (x ++ (y ++ q))) ++ jk)] fun v P' => v = unit ∧ ∃ z, SrtL ltF z ∧ z.Perm (x ++ y) ∧ P' = [Cel b (flat encF (p ++ (z ++ q)) ++ jk)]
theorem sm_s9 (N : Nat) (ih : SmIH b c n jk N) (p x y q : List Fir) (a m e : Nat) (ha : a = p.length) (hm : m = a + x.length) (he : e = m + y.length) (hn : n = (p ++ (x ++ (y ++ q))).length) (hN : x.length + y.length < N) (hx : SrtL ltF x) (hy : SrtL ltF y) (T : List AV) (H : AH) (hT : T.length = 220) (s0 : sl T 0 = sF b n c) (s3 : sl T 3 = i64 e) (s4 : sl T 4 = fO) (s18 : sl T 18 = i64 a) (s24 : sl T 24 = i64 m)
    (hs : Sat ρ H (Cel b (flat encF (p ++ (x ++ (y ++ q))) ++ jk) :: Rs)) (K : Ex → List AV → AH → Prop)
    (hk : ∀ T' H' z, SrtL ltF z → z.Perm (x ++ y) → Sat ρ H' (Cel b (flat encF (p ++ (z ++ q)) ++ jk) :: Rs) → K .norm T' H') :
    wpC tab noExt R.slices_symMergeCmpFunc_cyc_Fired_s9 T H K := by
  rw [slices_symMergeCmpFunc_cyc_Fired_s9_at hT]
  by_cases h1 : a < m
  · have h1' : (a : Int) < m := by omega
    by_cases h2 : m < e
    · have h2' : (m : Int) < e := by omega
      simp only [s0, s3, s4, s18, s24, andThen_some, binA_lss]
      rw [decide_eq_true h1']
      simp [h2]
      refine (ih p x y q a m e hN (by omega) (by omega) ha hm he hn hx hy).use ((hs.bump _).bump _) ?_
      rintro v H2 P' ⟨rfl, z, hz, hzp, rfl⟩ hs2
      try simp
      exact hk _ _ z hz hzp hs2
    · have hyn : y = [] := List.length_eq_zero_iff.1 (by omega)
      subst hyn
      simp only [s0, s3, s4, s18, s24, andThen_some, binA_lss]
      rw [decide_eq_true h1']
      simp [h2]
      exact hk _ _ x hx (by simp) (hs.bump _)
  · have hxn : x = [] := List.length_eq_zero_iff.1 (by omega)
    subst hxn
    have h1' : ¬ (a : Int) < m := by omega
    simp only [s0, s3, s4, s18, s24, andThen_some, binA_lss]
    rw [decide_eq_false h1']
    simp
    exact hk _ _ y hy (by simp) (hs.bump _)
theorem sm_s10 (N : Nat) (ih : SmIH b c n jk N) (p x1 y1 x2 y2 q : List Fir) (a st mid en e : Nat) (ha : a = p.length) (hst : st = a + x1.length) (hmid : mid = st + y1.length) (hen : en = mid + x2.length) (he : e = en + y2.length) (hn : n = (p ++ (x1 ++ (y1 ++ (x2 ++ (y2 ++ q))))).length) (hN1 : x1.length + y1.length < N) (hN2 : x2.length + y2.length < N)
    (hx1 : SrtL ltF x1) (hy1 : SrtL ltF y1) (hx2 : SrtL ltF x2) (hy2 : SrtL ltF y2) (T : List AV) (H : AH) (hT : T.length = 220) (s0 : sl T 0 = sF b n c) (s1 : sl T 1 = i64 a) (s3 : sl T 3 = i64 e) (s4 : sl T 4 = fO) (s18 : sl T 18 = i64 mid) (s20 : sl T 20 = i64 st) (s24 : sl T 24 = i64 en)
    (hs : Sat ρ H (Cel b (flat encF (p ++ (x1 ++ (y1 ++ (x2 ++ (y2 ++ q))))) ++ jk) :: Rs)) (K : Ex → List AV → AH → Prop)
    (hk : ∀ T' H' z1 z2, SrtL ltF z1 → SrtL ltF z2 → z1.Perm (x1 ++ y1) → z2.Perm (x2 ++ y2) → Sat ρ H' (Cel b (flat encF (p ++ ((z1 ++ z2) ++ q)) ++ jk) :: Rs) → K .norm T' H') :
    wpC tab noExt R.slices_symMergeCmpFunc_cyc_Fired_s10 T H K := by
  have hl : n = p.length + (x1.length + (y1.length + (x2.length + (y2.length + q.length)))) := by rw [hn]; simp only [List.length_append]
  have fin : ∀ (z1 : List Fir) (T' : List AV) (H' : AH), SrtL ltF z1 → z1.Perm (x1 ++ y1) → T'.length = 220 → sl T' 0 = sF b n c → sl T' 3 = i64 e → sl T' 4 = fO → sl T' 18 = i64 mid → sl T' 24 = i64 en → Sat ρ H' (Cel b (flat encF (p ++ (z1 ++ (x2 ++ (y2 ++ q)))) ++ jk) :: Rs) → wpC tab noExt R.slices_symMergeCmpFunc_cyc_Fired_s9 T' H' K := by
    intro z1 T' H' hz hzp hT' t0 t3 t4 t18 t24 hs'
    have hzl := hzp.length_eq
    rw [List.length_append] at hzl
    rw [← List.append_assoc p z1] at hs'
    refine sm_s9 b c n jk Rs N ih (p ++ z1) x2 y2 q mid en e (by simp; omega) (by omega) (by omega) (by simp; omega) hN2 hx2 hy2 T' H' hT' t0 t3 t4 t18 t24 hs' K ?_
    intro T2 H2 z2 hz2 hzp2 hs2
    refine hk T2 H2 z1 z2 hz hz2 hzp hzp2 ?_
    have e2 : (p ++ z1) ++ (z2 ++ q) = p ++ ((z1 ++ z2) ++ q) := by simp only [List.append_assoc]
    rw [e2] at hs2
    exact hs2
  rw [slices_symMergeCmpFunc_cyc_Fired_s10_at hT]
  by_cases h1 : a < st
  · have h1' : (a : Int) < st := by omega
    by_cases h2 : st < mid
    · have h2' : (st : Int) < mid := by omega
      simp only [s0, s1, s3, s4, s18, s20, s24, andThen_some, binA_lss]
      rw [decide_eq_true h1']
      simp [h2]
      refine (ih p x1 y1 (x2 ++ (y2 ++ q)) a st mid hN1 (by omega) (by omega) ha hst hmid hn hx1 hy1).use ((hs.bump _).bump _) ?_
      rintro v H2 P' ⟨rfl, z, hz, hzp, rfl⟩ hs2
      exact fin z _ _ hz hzp rfl rfl rfl rfl rfl rfl hs2
    · have hyn : y1 = [] := List.length_eq_zero_iff.1 (by omega)
      subst hyn
      simp only [s0, s1, s3, s4, s18, s20, s24, andThen_some, binA_lss]
      rw [decide_eq_true h1']
      simp [h2]
      exact fin x1 _ _ hx1 (by simp) rfl rfl rfl rfl rfl rfl (hs.bump _)
  · have hxn : x1 = [] := List.length_eq_zero_iff.1 (by omega)
    subst hxn
    have h1' : ¬ (a : Int) < st := by omega
    simp only [s0, s1, s3, s4, s18, s20, s24, andThen_some, binA_lss]
    rw [decide_eq_false h1']
    simp
    exact fin y1 _ _ hy1 (by simp) rfl rfl rfl rfl rfl rfl (hs.bump _)
theorem sm_s11 (N : Nat) (ih : SmIH b c n jk N) (p x1 x2 y1 y2 q : List Fir) (a m st mid en nn e : Nat) (ha : a = p.length) (hst : st = a + x1.length) (hm : m = st + x2.length) (hen : en = m + y1.length) (he : e = en + y2.length) (hmid : mid = st + y1.length) (hnn : nn = en + st) (hn : n = (p ++ (x1 ++ (x2 ++ (y1 ++ (y2 ++ q))))).length) (hc : n < 4611686018427387904) (hN1 : x1.length + y1.length < N) (hN2 : x2.length + y2.length < N)
    (hx1 : SrtL ltF x1) (hy1 : SrtL ltF y1) (hx2 : SrtL ltF x2) (hy2 : SrtL ltF y2) (T : List AV) (H : AH) (hT : T.length = 220) (s0 : sl T 0 = sF b n c) (s1 : sl T 1 = i64 a) (s2 : sl T 2 = i64 m) (s3 : sl T 3 = i64 e) (s4 : sl T 4 = fO) (s18 : sl T 18 = i64 mid) (s19 : sl T 19 = i64 nn) (s20 : sl T 20 = i64 st)
    (hs : Sat ρ H (Cel b (flat encF (p ++ (x1 ++ (x2 ++ (y1 ++ (y2 ++ q))))) ++ jk) :: Rs)) (K : Ex → List AV → AH → Prop)
    (hk : ∀ T' H' z1 z2, SrtL ltF z1 → SrtL ltF z2 → z1.Perm (x1 ++ y1) → z2.Perm (x2 ++ y2) → Sat ρ H' (Cel b (flat encF (p ++ ((z1 ++ z2) ++ q)) ++ jk) :: Rs) → K .norm T' H') :
    wpC tab noExt R.slices_symMergeCmpFunc_cyc_Fired_s11 T H K := by
  have hl : n = p.length + (x1.length + (x2.length + (y1.length + (y2.length + q.length)))) := by rw [hn]; simp only [List.length_append]
  have fin : ∀ (T' : List AV) (H' : AH), T'.length = 220 → sl T' 0 = sF b n c → sl T' 1 = i64 a → sl T' 3 = i64 e → sl T' 4 = fO → sl T' 18 = i64 mid → sl T' 20 = i64 st → sl T' 24 = i64 en → Sat ρ H' (Cel b (flat encF (p ++ (x1 ++ (y1 ++ (x2 ++ (y2 ++ q))))) ++ jk) :: Rs) → wpC tab noExt R.slices_symMergeCmpFunc_cyc_Fired_s10 T' H' K := by
    intro T' H' hT' t0 t1 t3 t4 t18 t20 t24 hs'
    exact sm_s10 b c n jk Rs N ih p x1 y1 x2 y2 q a st mid en e ha hst hmid (by omega) he (by simp; omega) hN1 hN2 hx1 hy1 hx2 hy2 T' H' hT' t0 t1 t3 t4 t18 t20 t24 hs' K hk
  rw [slices_symMergeCmpFunc_cyc_Fired_s11_at hT]
  have w1 := wrapM nn st (by omega) (by omega)
  have w1' : nn - st = en := by omega
  rw [w1'] at w1
  by_cases h1 : st < m
  · have h1' : (st : Int) < m := by omega
    by_cases h2 : m < en
    · simp only [s0, s1, s2, s3, s4, s18, s19, s20, andThen_some, binA_sub, w1, binA_lss]
      rw [decide_eq_true h1']
      simp [h2]
      rw [← List.append_assoc p x1] at hs
      refine (rotate_tri b c jk fO (p ++ x1) x2 y1 (y2 ++ q) n st m en (by simp; omega) (by simp; omega) (by omega) (by omega) (by omega) (by omega) hc).use (((hs.bump _).bump _).bump _) ?_
      rintro v H2 P' ⟨rfl, rfl⟩ hs2
      rw [List.append_assoc p x1] at hs2
      exact fin _ _ rfl rfl rfl rfl rfl rfl rfl rfl hs2
    · have hyn : y1 = [] := List.length_eq_zero_iff.1 (by omega)
      subst hyn
      simp only [s0, s1, s2, s3, s4, s18, s19, s20, andThen_some, binA_sub, w1, binA_lss]
      rw [decide_eq_true h1']
      simp [h2]
      exact fin _ _ rfl rfl rfl rfl rfl rfl rfl rfl ((hs.bump _).bump _)
  · have hxn : x2 = [] := List.length_eq_zero_iff.1 (by omega)
    subst hxn
    have h1' : ¬ (st : Int) < m := by omega
    simp only [s0, s1, s2, s3, s4, s18, s19, s20, andThen_some, binA_sub, w1, binA_lss]
    rw [decide_eq_false h1']
    simp
    exact fin _ _ rfl rfl rfl rfl rfl rfl rfl rfl ((hs.bump _).bump _)
theorem sm_s12 (N : Nat) (ih : SmIH b c n jk N) (p x y q : List Fir) (a m e mid nn f0 r0 : Nat) (ha : a = p.length) (hm : m = a + x.length) (he : e = m + y.length) (hmid : mid = (a + e) / 2) (hnn : nn = mid + m) (hn : n = (p ++ (x ++ (y ++ q))).length) (hc : n < 4611686018427387904) (hN : x.length + y.length ≤ N) (h2x : 2 ≤ x.length) (h2y : 2 ≤ y.length) (hf : (mid < m ∧ f0 = nn - e ∧ r0 = mid) ∨ (m ≤ mid ∧ f0 = a ∧ r0 = m)) (hx : SrtL ltF x) (hy : SrtL ltF y)
    (T : List AV) (H : AH) (hT : T.length = 220) (s0 : sl T 0 = sF b n c) (s1 : sl T 1 = i64 a) (s2 : sl T 2 = i64 m) (s3 : sl T 3 = i64 e) (s4 : sl T 4 = fO) (s18 : sl T 18 = i64 mid) (s19 : sl T 19 = i64 nn) (s20 : sl T 20 = i64 f0) (s21 : sl T 21 = i64 r0)
    (hs : Sat ρ H (Cel b (flat encF (p ++ (x ++ (y ++ q))) ++ jk) :: Rs)) (K : Ex → List AV → AH → Prop)
    (hk : ∀ T' H' z, SrtL ltF z → z.Perm (x ++ y) → Sat ρ H' (Cel b (flat encF (p ++ (z ++ q)) ++ jk) :: Rs) → K .norm T' H') :
    wpC tab noExt R.slices_symMergeCmpFunc_cyc_Fired_s12 T H K := by
  have hl : n = p.length + (x.length + (y.length + q.length)) := by rw [hn]; simp only [List.length_append]
  rw [slices_symMergeCmpFunc_cyc_Fired_s12_at hT]
  have w1 := wrapM1 nn (by omega) (by omega)
  simp only [s0, s1, s2, s3, s4, s18, s19, s20, s21, andThen_some, binA_sub, w1]
  refine sm_l8 b c n jk Rs (p ++ (x ++ (y ++ q))) hn hc f0 r0 (nn - 1) ?_ (by omega) (by omega) (by omega) _ _ rfl (i64 a) (i64 m) (i64 e) (i64 mid) (i64 nn) rfl rfl rfl rfl rfl rfl rfl rfl rfl rfl (hs.bump _) _ ?_
  · intro k h1 h2
    omega
  intro T' H' st hT' t0 t1 t2 t3 t4 t18 t19 t20 hst hst2 c1 c2 hs2
  simp
  have hsa : a ≤ st := by omega
  have hsm : st ≤ m := by omega
  have hsd : st ≤ mid := by omega
  have hen : mid + m - st ≤ e := by omega
  have gx : ∀ i, i < x.length → (p ++ (x ++ (y ++ q)))[a + i]? = x[i]? := fun i hi => at_mid p x _ i _ (by omega) hi
  have gy : ∀ i, i < y.length → (p ++ (x ++ (y ++ q)))[m + i]? = y[i]? := fun i hi => by
    rw [← List.append_assoc]; exact at_mid (p ++ x) y q i _ (by simp; omega) hi
  have hxs : x = x.take (st - a) ++ x.drop (st - a) := (List.take_append_drop _ _).symm
  have hys : y = y.take (mid - st) ++ y.drop (mid - st) := (List.take_append_drop _ _).symm
  have j1 : ∀ u w, (x.take (st - a)).getLast? = some u → (y.drop (mid - st)).head? = some w → ltF w u = false := by
    intro u w hu hw
    have hp : 0 < st - a := by
      rcases Nat.eq_zero_or_pos (st - a) with h | h
      · rw [h] at hu; simp at hu
      · exact h
    rw [List.head?_drop] at hw
    have hwl : mid - st < y.length := (List.getElem?_eq_some_iff.1 hw).1
    rw [List.getLast?_eq_getElem?, List.length_take, Nat.min_eq_left (by omega), List.getElem?_take, if_pos (by omega)] at hu
    rcases c1 with h | ⟨u', w', hu', hw', hlt⟩
    · omega
    · have e1 : st - 1 = a + (st - a - 1) := by omega
      have e2 : nn - 1 - (st - 1) = m + (mid - st) := by omega
      rw [e2, gy _ hwl, hw] at hw'
      rw [e1, gx _ (by omega), hu] at hu'
      cases hu'; cases hw'; exact hlt
  have j2 : ∀ u w, (y.take (mid - st)).getLast? = some u → (x.drop (st - a)).head? = some w → ltF w u = false := by
    intro u w hu hw
    have hp : 0 < mid - st := by
      rcases Nat.eq_zero_or_pos (mid - st) with h | h
      · rw [h] at hu; simp at hu
      · exact h
    rw [List.head?_drop] at hw
    have hwl : st - a < x.length := (List.getElem?_eq_some_iff.1 hw).1
    rw [List.getLast?_eq_getElem?, List.length_take, Nat.min_eq_left (by omega), List.getElem?_take, if_pos (by omega)] at hu
    rcases c2 with h | ⟨u', w', hu', hw', hlt⟩
    · omega
    · have e1 : st = a + (st - a) := by omega
      have e2 : nn - 1 - st = m + (mid - st - 1) := by omega
      rw [e2, gy _ (by omega), hu] at hw'
      rw [e1, gx _ (by omega), hw] at hu'
      cases hu'; cases hw'
      exact lt_flip ltF_ord hlt
  have hx' := hx; have hy' := hy
  rw [hxs] at hx'; rw [hys] at hy'
  obtain ⟨hx1, hx2, _⟩ := srtL_append.1 hx'
  obtain ⟨hy1, hy2, _⟩ := srtL_append.1 hy'
  have e1 : p ++ (x ++ (y ++ q)) = p ++ (x.take (st - a) ++ (x.drop (st - a) ++ (y.take (mid - st) ++ (y.drop (mid - st) ++ q)))) := by
    conv => lhs; rw [hxs, hys]
    simp only [List.append_assoc]
  rw [e1] at hs2
  have l1 : (x.take (st - a)).length = st - a := by rw [List.length_take]; omega
  have l2 : (x.drop (st - a)).length = m - st := by rw [List.length_drop]; omega
  have l3 : (y.take (mid - st)).length = mid - st := by rw [List.length_take]; omega
  have l4 : (y.drop (mid - st)).length = e - (mid + m - st) := by rw [List.length_drop]; omega
  refine sm_s11 b c n jk Rs N ih p _ _ _ _ q a m st mid (mid + m - st) nn e ha (by omega) (by omega) (by omega) (by omega) (by omega) (by omega) (by rw [← e1]; exact hn) hc (by omega) (by omega) hx1 hy1 hx2 hy2 T' H' hT' t0 t1 t2 t3 t4 t18 t19 t20 hs2 K ?_
  intro T2 H2 z1 z2 hz1 hz2 hp1 hp2 hs3
  refine hk T2 H2 (z1 ++ z2) (srtL_four ltF_ord hx' hy' j1 j2 hp1 hp2 hz1 hz2) ?_ hs3
  have := four_perm hp1 hp2
  rwa [← hxs, ← hys] at this
theorem sm_s13 (N : Nat) (ih : SmIH b c n jk N) (p x y q : List Fir) (a m e : Nat) (ha : a = p.length) (hm : m = a + x.length) (he : e = m + y.length) (hn : n = (p ++ (x ++ (y ++ q))).length) (hc : n < 4611686018427387904) (hN : x.length + y.length ≤ N) (h2x : 2 ≤ x.length) (h2y : 2 ≤ y.length) (hx : SrtL ltF x) (hy : SrtL ltF y)
    (T : List AV) (H : AH) (hT : T.length = 220) (s0 : sl T 0 = sF b n c) (s1 : sl T 1 = i64 a) (s2 : sl T 2 = i64 m) (s3 : sl T 3 = i64 e) (s4 : sl T 4 = fO)
    (hs : Sat ρ H (Cel b (flat encF (p ++ (x ++ (y ++ q))) ++ jk) :: Rs)) (K : Ex → List AV → AH → Prop)
    (hk : ∀ T' H' z, SrtL ltF z → z.Perm (x ++ y) → Sat ρ H' (Cel b (flat encF (p ++ (z ++ q)) ++ jk) :: Rs) → K .norm T' H') :
    wpC tab noExt R.slices_symMergeCmpFunc_cyc_Fired_s13 T H K := by
  have hl : n = p.length + (x.length + (y.length + q.length)) := by rw [hn]; simp only [List.length_append]
  rw [slices_symMergeCmpFunc_cyc_Fired_s13_at hT]
  have w1 := wrapP a e (by omega)
  have w2 := wrapU64N (a + e) (by omega)
  have w3 := shr1 (a + e) (by omega)
  have w4 := wrapN ((a + e) / 2) (by omega)
  generalize hmid : (a + e) / 2 = mid at *
  have w5 := wrapP mid m (by omega)
  generalize hnn : mid + m = nn at *
  generalize hae : a + e = ae at *
  simp only [s0, s1, s2, s3, s4, andThen_some, binA_add, w1, convA_int, w2, w3, w4, w5, binA_gtr, condP_bool]
  by_cases h : mid < m
  · rw [decide_eq_true (by omega)]
    have w6 := wrapM nn e (by omega) (by omega)
    simp only [if_true, binA_sub, w6, andThen_some]
    exact sm_s12 b c n jk Rs N ih p x y q a m e mid nn (nn - e) mid ha hm he (by omega) (by omega) hn hc hN h2x h2y (.inl ⟨h, rfl, rfl⟩) hx hy _ _ rfl rfl rfl rfl rfl rfl rfl rfl rfl rfl (by (repeat refine Sat.bump ?_ _); exact hs) K hk
  · rw [decide_eq_false (by omega)]
    simp only [Bool.false_eq_true, if_false]
    exact sm_s12 b c n jk Rs N ih p x y q a m e mid nn a m ha hm he (by omega) (by omega) hn hc hN h2x h2y (.inr ⟨by omega, rfl, rfl⟩) hx hy _ _ rfl rfl rfl rfl rfl rfl rfl rfl rfl rfl (by (repeat refine Sat.bump ?_ _); exact hs) K hk
theorem sm_s7 (p : List Fir) (e0 : Fir) (x q : List Fir) (a m r : Nat) (ha : a = p.length) (hm : m = a + x.length) (hr : r ≤ x.length) (hn : n = (p ++ (x ++ e0 :: q)).length) (hc : n < 4611686018427387904) (T : List AV) (H : AH) (hT : T.length = 220) (s0 : sl T 0 = sF b n c) (s2 : sl T 2 = i64 m) (s14 : sl T 14 = i64 (a + r : Nat))
    (hs : Sat ρ H (Cel b (flat encF (p ++ (x ++ e0 :: q)) ++ jk) :: Rs)) (K : Ex → List AV → AH → Prop)
    (hk : ∀ T' H', Sat ρ H' (Cel b (flat encF (p ++ ((x.take r ++ e0 :: x.drop r) ++ q)) ++ jk) :: Rs) → K .ret T' H') :
    wpC tab noExt R.slices_symMergeCmpFunc_cyc_Fired_s7 T H K := by
  rw [slices_symMergeCmpFunc_cyc_Fired_s7_at hT]
  simp only [s0, s2, s14]
  refine sm_l5 b c n jk Rs p e0 x q a m r ha hm hr hn hc _ _ rfl rfl rfl rfl (hs.bump _) _ ?_
  intro T' H' hT' hs2
  simp
  rw [slices_symMergeCmpFunc_cyc_Fired_s6_at hT']
  exact hk _ _ hs2
theorem sm_s3 (p : List Fir) (e0 : Fir) (y q : List Fir) (a m r : Nat) (ha : a = p.length) (hm : m = a + 1) (hr : r ≤ y.length) (hn : n = (p ++ ([e0] ++ (y ++ q))).length) (hc : n < 4611686018427387904) (T : List AV) (H : AH) (hT : T.length = 220) (s0 : sl T 0 = sF b n c) (s1 : sl T 1 = i64 a) (s10 : sl T 10 = i64 (m + r : Nat))
    (hs : Sat ρ H (Cel b (flat encF (p ++ ([e0] ++ (y ++ q))) ++ jk) :: Rs)) (K : Ex → List AV → AH → Prop)
    (hk : ∀ T' H', Sat ρ H' (Cel b (flat encF (p ++ ((y.take r ++ e0 :: y.drop r) ++ q)) ++ jk) :: Rs) → K .ret T' H') :
    wpC tab noExt R.slices_symMergeCmpFunc_cyc_Fired_s3 T H K := by
  rw [slices_symMergeCmpFunc_cyc_Fired_s3_at hT]
  simp only [s0, s1, s10]
  refine sm_l1 b c n jk Rs p e0 y q a m r ha hm hr hn hc _ _ rfl rfl rfl rfl (hs.bump _) _ ?_
  intro T' H' hT' hs2
  simp
  rw [slices_symMergeCmpFunc_cyc_Fired_s2_at hT']
  exact hk _ _ hs2
theorem sm_s14 (N : Nat) (ih : SmIH b c n jk N) (p x y q : List Fir) (a m e : Nat) (ha : a = p.length) (hm : m = a + x.length) (he : e = m + y.length) (hn : n = (p ++ (x ++ (y ++ q))).length) (hc : n < 4611686018427387904) (hN : x.length + y.length ≤ N) (h2x : 2 ≤ x.length) (hy1 : 0 < y.length) (hx : SrtL ltF x) (hy : SrtL ltF y)
    (T : List AV) (H : AH) (hT : T.length = 220) (s0 : sl T 0 = sF b n c) (s1 : sl T 1 = i64 a) (s2 : sl T 2 = i64 m) (s3 : sl T 3 = i64 e) (s4 : sl T 4 = fO)
    (hs : Sat ρ H (Cel b (flat encF (p ++ (x ++ (y ++ q))) ++ jk) :: Rs)) (K : Ex → List AV → AH → Prop)
    (hk : ∀ E T' H' z, (E = .norm ∨ E = .ret) → SrtL ltF z → z.Perm (x ++ y) → Sat ρ H' (Cel b (flat encF (p ++ (z ++ q)) ++ jk) :: Rs) → K E T' H') :
    wpC tab noExt R.slices_symMergeCmpFunc_cyc_Fired_s14 T H K := by
  have hl : n = p.length + (x.length + (y.length + q.length)) := by rw [hn]; simp only [List.length_append]
  rw [slices_symMergeCmpFunc_cyc_Fired_s14_at hT]
  have w1 := wrapM e m (by omega) (by omega)
  have w1' : e - m = y.length := by omega
  rw [w1'] at w1
  simp only [s0, s1, s2, s3, s4, andThen_some, binA_sub, w1, binA_eql, condP_bool]
  by_cases h : y.length = 1
  · rw [decide_eq_true (by omega)]
    obtain ⟨e0, rfl⟩ := List.length_eq_one_iff.1 h
    simp only [if_true]
    refine sm_l4 b c n jk Rs p e0 x q a m ha hm (by simpa using hn) hc _ _ rfl rfl rfl rfl rfl rfl (((hs.bump 4).bump 2).bump 2) _ ?_
    intro T' H' r hT' t0 t2 t14 hr c1 c2 hs2
    simp
    refine sm_s7 b c n jk Rs p e0 x q a m r ha hm hr (by simpa using hn) hc T' H' hT' t0 t2 t14 hs2 _ ?_
    intro T2 H2 hs3
    simp
    refine hk _ _ _ _ (.inr rfl) ?_ ?_ hs3
    · exact srtL_ins ltF_ord (by rw [List.take_append_drop]; exact hx) c1 fun z hz => lt_flip ltF_ord (c2 z hz)
    · refine List.Perm.trans List.perm_middle ?_
      rw [List.take_append_drop]
      exact (List.perm_append_singleton e0 x).symm
  · rw [decide_eq_false (by omega)]
    simp only [Bool.false_eq_true, if_false]
    exact sm_s13 b c n jk Rs N ih p x y q a m e ha hm he hn hc hN h2x (by omega) hx hy _ _ rfl rfl rfl rfl rfl rfl (hs.bump _) K fun T' H' z => hk _ T' H' z (.inl rfl)
end
theorem symMerge_all (b c n : Nat) (jk : List SV) (hc : n < 4611686018427387904) : ∀ N, SmIH b c n jk N
  | 0 => fun _ _ _ _ _ _ _ h => by omega
  | N + 1 => by
    intro p x y q a m e hN h1x h1y ha hm he hn hx hy
    have ih := symMerge_all b c n jk hc N
    refine Tri.intro fun ρ H Rs K hs hk => ?_
    have hl : n = p.length + (x.length + (y.length + q.length)) := by rw [hn]; simp only [List.length_append]
    apply slices_symMergeCmpFunc_cyc_Fired_call
    have w1 := wrapM m a (by omega) (by omega)
    have w1' : m - a = x.length := by omega
    rw [w1'] at w1
    simp only [andThen_some, binA_sub, w1, binA_eql, condP_bool]
    by_cases h : x.length = 1
    · rw [decide_eq_true (by omega)]
      obtain ⟨e0, rfl⟩ := List.length_eq_one_iff.1 h
      simp only [if_true]
      refine sm_l0 b c n jk Rs p e0 y q a m e ha hm he hn hc _ _ rfl rfl rfl rfl rfl rfl (((hs.bump 4).bump 2).bump 2) _ ?_
      intro T' H' r hT' t0 t1 t10 hr c1 c2 hs2
      simp
      refine sm_s3 b c n jk Rs p e0 y q a m r ha hm hr hn hc T' H' hT' t0 t1 t10 hs2 _ ?_
      intro T2 H2 hs3
      simp
      refine hk _ _ _ ⟨rfl, _, ?_, ?_, rfl⟩ hs3
      · exact srtL_ins ltF_ord (by rw [List.take_append_drop]; exact hy) (fun z hz => lt_flip ltF_ord (c1 z hz)) c2
      · refine List.Perm.trans List.perm_middle ?_
        rw [List.take_append_drop]
        exact List.Perm.refl _
    · rw [decide_eq_false (by omega)]
      simp only [Bool.false_eq_true, if_false]
      refine sm_s14 b c n jk Rs N ih p x y q a m e ha hm he hn hc (by omega) (by omega) h1y hx hy _ _ rfl rfl rfl rfl rfl rfl (hs.bump _) _ ?_
      intro E T' H' z hE hz hzp hs2
      rcases hE with rfl | rfl
      · simp
        exact hk _ _ _ ⟨rfl, z, hz, hzp, rfl⟩ hs2
      · simp
        exact hk _ _ _ ⟨rfl, z, hz, hzp, rfl⟩ hs2
theorem symMerge_tri (b c n : Nat) (jk : List SV) (p x y q : List Fir) (a m e : Nat) (h1x : 0 < x.length) (h1y : 0 < y.length) (ha : a = p.length) (hm : m = a + x.length) (he : e = m + y.length) (hn : n = (p ++ (x ++ (y ++ q))).length) (hc : n < 4611686018427387904) (hx : SrtL ltF x) (hy : SrtL ltF y) :
    Tri tab noExt F.slices_symMergeCmpFunc_cyc_Fired [sF b n c, i64 a, i64 m, i64 e, fO] [Cel b (flat encF (p ++ (x ++ (y ++ q))) ++ jk)] fun v P' => v = unit ∧ ∃ z, SrtL ltF z ∧ z.Perm (x ++ y) ∧ P' = [Cel b (flat encF (p ++ (z ++ q)) ++ jk)] :=
  symMerge_all b c n jk hc _ p x y q a m e (Nat.lt_succ_self _) h1x h1y ha hm he hn hx hy
end Go.AM

/-
  What is fired: sorted, the whole row.
-/
set_option maxRecDepth 20000
namespace Go.AM
attribute [local simp] Nat.add_assoc resA callvP
theorem flat_blocks {α : Type} {s : Nat} : ∀ {L : List (List α)}, (∀ l ∈ L, l.length = s) → L.flatten.length = L.length * s
  | [], _ => by simp
  | l :: L, h => by
    rw [List.flatten_cons, List.length_append, h l (by simp), flat_blocks (L := L) fun x hx => h x (by simp [hx]), List.length_cons, Nat.add_mul]; omega
section
variable {ρ : HF} (b c n : Nat) (jk : List SV) (Rs : List Asr) (x : List Fir)
theorem st_l0 (hn : n = x.length) (hc : n < 1152921504606846976) (T : List AV) (H : AH) (hT : T.length = 63) (s0 : sl T 0 = sF b n c) (s1 : sl T 1 = i64 n) (s2 : sl T 2 = fO) (s6 : sl T 6 = i64 (20 : Nat)) (s7 : sl T 7 = i64 (0 : Nat)) (s8 : sl T 8 = i64 (20 : Nat))
    (hs : Sat ρ H (Cel b (flat encF x ++ jk) :: Rs)) (K : Ex → List AV → AH → Prop)
    (hk : ∀ (T' : List AV) (H' : AH) (L : List (List Fir)) (r : List Fir), T'.length = 63 → sl T' 0 = sF b n c → sl T' 1 = i64 n → sl T' 2 = fO → sl T' 6 = i64 (20 : Nat) → sl T' 7 = i64 (L.length * 20 : Nat) → (∀ l ∈ L, l.length = 20 ∧ SrtL ltF l) → (L.flatten ++ r).Perm x → r.length < 20 → Sat ρ H' (Cel b (flat encF (L.flatten ++ r) ++ jk) :: Rs) → K (.out 0) T' H') :
    loopP tab noExt R.slices_stableCmpFunc_cyc_Fired_l0 T H K := by
  refine loopP_invK (I := fun k T H' => T.length = 63 ∧ sl T 0 = sF b n c ∧ sl T 1 = i64 n ∧ sl T 2 = fO ∧ sl T 6 = i64 (20 : Nat) ∧ ∃ (L : List (List Fir)) (r : List Fir), sl T 7 = i64 (L.length * 20 : Nat) ∧ sl T 8 = i64 (L.length * 20 + 20 : Nat) ∧ k = r.length ∧ (∀ l ∈ L, l.length = 20 ∧ SrtL ltF l) ∧ (L.flatten ++ r).Perm x ∧ Sat ρ H' (Cel b (flat encF (L.flatten ++ r) ++ jk) :: Rs)) ?_ x.length _ _ ⟨hT, s0, s1, s2, s6, [], x, s7, s8, rfl, by simp, by simp, by simpa using hs⟩
  rintro k T H' ⟨hT, s0, s1, s2, s6, L, r, s7, s8, hk', hL, hp, hs⟩ K' kn kr ko
  rw [slices_stableCmpFunc_cyc_Fired_l0_at hT]
  have hfl := flat_blocks (fun l hl => (hL l hl).1)
  have hlen := hp.length_eq
  rw [List.length_append, hfl] at hlen
  simp only [s0, s1, s2, s6, s7, s8, andThen_some, binA_leq, condP_bool]
  by_cases h : L.length * 20 + 20 ≤ n
  · rw [decide_eq_true (by omega)]
    simp only [if_true]
    obtain ⟨r1, r2, rfl, hr1⟩ : ∃ r1 r2, r = r1 ++ r2 ∧ r1.length = 20 := ⟨r.take 20, r.drop 20, (List.take_append_drop _ _).symm, by simp; omega⟩
    rw [List.length_append] at hlen
    refine (insSort_tri b c n jk L.flatten r1 r2 (L.length * 20) (L.length * 20 + 20) hfl.symm (by omega) (by simp [hfl]; omega) (by omega)).use ((hs.bump _).bump _) ?_
    rintro v H2 P' ⟨rfl, z, hz, hzp, rfl⟩ hs2
    have w1 := wrapP (L.length * 20 + 20) 20 (by omega)
    have hzl := hzp.length_eq
    simp only [andThen_some, binA_add, w1]
    refine kn r2.length _ _ (by rw [hk', List.length_append]; omega) ⟨rfl, rfl, rfl, rfl, rfl, L ++ [z], r2, ?_, ?_, rfl, ?_, ?_, ?_⟩
    · show i64 _ = i64 _; simp; omega
    · show i64 _ = i64 _; simp; omega
    · intro l hl
      rcases List.mem_append.1 hl with h | h
      · exact hL l h
      · simp at h; subst h; exact ⟨by omega, hz⟩
    · refine List.Perm.trans ?_ hp
      simp only [List.flatten_append, List.flatten_cons, List.flatten_nil, List.append_nil, List.append_assoc]
      exact List.Perm.append_left _ (List.Perm.append_right _ hzp)
    · have e : (L ++ [z]).flatten ++ r2 = L.flatten ++ (z ++ r2) := by simp
      rw [e]
      exact (Sat.bump hs2 _).bump _
  · rw [decide_eq_false (by omega)]
    simp only [Bool.false_eq_true, if_false]
    exact ko _ _ _ (hk _ _ L r rfl rfl rfl rfl rfl rfl hL hp (by omega) (hs.bump _))
theorem st_l1 (s : Nat) (hsp : 0 < s) (hn : n = x.length) (hc : n < 1152921504606846976) (hsn : s < n) (L0 : List (List Fir)) (z0 : List Fir) (hL0 : ∀ l ∈ L0, l.length = s ∧ SrtL ltF l) (hz0 : z0.length < s) (hp0 : (L0.flatten ++ z0).Perm x) (T : List AV) (H : AH) (hT : T.length = 63) (s0 : sl T 0 = sF b n c) (s1 : sl T 1 = i64 n) (s2 : sl T 2 = fO) (s6 : sl T 6 = i64 s) (s7 : sl T 7 = i64 (0 : Nat)) (s8 : sl T 8 = i64 (2 * s : Nat))
    (hs : Sat ρ H (Cel b (flat encF (L0.flatten ++ z0) ++ jk) :: Rs)) (K : Ex → List AV → AH → Prop)
    (hk : ∀ (T' : List AV) (H' : AH) (M L : List (List Fir)), T'.length = 63 → sl T' 0 = sF b n c → sl T' 1 = i64 n → sl T' 2 = fO → sl T' 6 = i64 s → sl T' 7 = i64 (M.length * (2 * s) : Nat) → (∀ l ∈ M, l.length = 2 * s ∧ SrtL ltF l) → (∀ l ∈ L, l.length = s ∧ SrtL ltF l) → L.length ≤ 1 → (M.flatten ++ (L.flatten ++ z0)).Perm x → Sat ρ H' (Cel b (flat encF (M.flatten ++ (L.flatten ++ z0)) ++ jk) :: Rs) → K (.out 4) T' H') :
    loopP tab noExt R.slices_stableCmpFunc_cyc_Fired_l1 T H K := by
  refine loopP_invK (I := fun k T H' => T.length = 63 ∧ sl T 0 = sF b n c ∧ sl T 1 = i64 n ∧ sl T 2 = fO ∧ sl T 6 = i64 s ∧ ∃ (M L : List (List Fir)), sl T 7 = i64 (M.length * (2 * s) : Nat) ∧ sl T 8 = i64 (M.length * (2 * s) + 2 * s : Nat) ∧ k = L.length ∧ (∀ l ∈ M, l.length = 2 * s ∧ SrtL ltF l) ∧ (∀ l ∈ L, l.length = s ∧ SrtL ltF l) ∧ (M.flatten ++ (L.flatten ++ z0)).Perm x ∧ Sat ρ H' (Cel b (flat encF (M.flatten ++ (L.flatten ++ z0)) ++ jk) :: Rs)) ?_ L0.length _ _ ⟨hT, s0, s1, s2, s6, [], L0, by rw [s7]; simp, by rw [s8]; simp, rfl, by simp, hL0, by simpa using hp0, by simpa using hs⟩
  rintro k T H' ⟨hT, s0, s1, s2, s6, M, L, s7, s8, hk', hM, hL, hp, hs⟩ K' kn kr ko
  rw [slices_stableCmpFunc_cyc_Fired_l1_at hT]
  have hfM := flat_blocks (fun l hl => (hM l hl).1)
  have hfL := flat_blocks (fun l hl => (hL l hl).1)
  have hlen := hp.length_eq
  rw [List.length_append, List.length_append, hfM, hfL] at hlen
  generalize hA : M.length * (2 * s) = A at *
  simp only [s0, s1, s2, s6, s7, s8, andThen_some, binA_leq, condP_bool]
  match L, hL, hfL, hlen, hp, hs, hk' with
  | [], hL, hfL, hlen, hp, hs, hk' =>
    simp only [List.length_nil, Nat.zero_mul] at hlen
    rw [decide_eq_false (by omega)]
    simp only [Bool.false_eq_true, if_false]
    exact ko _ _ _ (hk _ _ M [] rfl rfl rfl rfl rfl (by rw [hA]; rfl) hM hL (by simp) hp (hs.bump _))
  | [l], hL, hfL, hlen, hp, hs, hk' =>
    simp only [List.length_cons, List.length_nil, Nat.zero_add, Nat.one_mul] at hlen
    rw [decide_eq_false (by omega)]
    simp only [Bool.false_eq_true, if_false]
    exact ko _ _ _ (hk _ _ M [l] rfl rfl rfl rfl rfl (by rw [hA]; rfl) hM hL (by simp) hp (hs.bump _))
  | l1 :: l2 :: L, hL, hfL, hlen, hp, hs, hk' =>
    have hl1 := hL l1 (by simp)
    have hl2 := hL l2 (by simp)
    have hlen2 : A + (2 * s + (L.length * s + z0.length)) = x.length := by
      rw [← hlen]; simp only [List.length_cons, Nat.add_mul]; omega
    rw [decide_eq_true (by omega)]
    have w1 := wrapP A s (by omega)
    have w2 := wrapT s (by omega)
    have w3 := wrapP (A + 2 * s) (2 * s) (by omega)
    simp only [if_true, andThen_some, binA_add, w1]
    have e1 : M.flatten ++ ((l1 :: l2 :: L).flatten ++ z0) = M.flatten ++ (l1 ++ (l2 ++ (L.flatten ++ z0))) := by simp
    rw [e1] at hs hp
    refine (symMerge_tri b c n jk M.flatten l1 l2 (L.flatten ++ z0) A (A + s) (A + 2 * s) (by omega) (by omega) hfM.symm (by omega) (by omega) (by rw [hn, ← hp.length_eq]) (by omega) hl1.2 hl2.2).use ((hs.bump _).bump _) ?_
    rintro v H2 P' ⟨rfl, z, hz, hzp, rfl⟩ hs2
    have hzl := hzp.length_eq
    rw [List.length_append] at hzl
    simp only [binA_mul, andThen_some]
    rw [show (2 : Int) * (s : Int) = 2 * (s : Int) from rfl, w2]
    simp only [binA_add, andThen_some, w3]
    refine kn L.length _ _ (by rw [hk']; simp) ⟨rfl, rfl, rfl, rfl, rfl, M ++ [z], L, ?_, ?_, rfl, ?_, ?_, ?_, ?_⟩
    · show i64 _ = i64 _
      rw [List.length_append, List.length_singleton, Nat.add_mul, hA, Nat.one_mul]
    · show i64 _ = i64 _
      rw [List.length_append, List.length_singleton, Nat.add_mul, hA, Nat.one_mul]
    · intro l hl
      rcases List.mem_append.1 hl with h | h
      · exact hM l h
      · simp at h; subst h; exact ⟨by omega, hz⟩
    · exact fun l hl => hL l (by simp [hl])
    · refine List.Perm.trans ?_ hp
      simp only [List.flatten_append, List.flatten_cons, List.flatten_nil, List.append_nil, List.append_assoc]
      refine List.Perm.append_left _ ?_
      rw [← List.append_assoc l1 l2]
      exact List.Perm.append_right _ hzp
    · have e : (M ++ [z]).flatten ++ (L.flatten ++ z0) = M.flatten ++ (z ++ (L.flatten ++ z0)) := by simp
      rw [e]
      exact (Sat.bump hs2 _).bump _
theorem st_s2 (s : Nat) (hsp : 0 < s) (hn : n = x.length) (hc : n < 1152921504606846976) (hsn : s < n) (M L : List (List Fir)) (z0 : List Fir) (hM : ∀ l ∈ M, l.length = 2 * s ∧ SrtL ltF l) (hL : ∀ l ∈ L, l.length = s ∧ SrtL ltF l) (hL1 : L.length ≤ 1) (hz0 : z0.length < s) (hzs : SrtL ltF z0) (hp : (M.flatten ++ (L.flatten ++ z0)).Perm x) (T : List AV) (H : AH) (hT : T.length = 63) (s0 : sl T 0 = sF b n c) (s1 : sl T 1 = i64 n) (s2 : sl T 2 = fO) (s6 : sl T 6 = i64 s) (s7 : sl T 7 = i64 (M.length * (2 * s) : Nat))
    (hs : Sat ρ H (Cel b (flat encF (M.flatten ++ (L.flatten ++ z0)) ++ jk) :: Rs)) (K : Ex → List AV → AH → Prop)
    (hk : ∀ (T' : List AV) (H' : AH) (z : List Fir), T'.length = 63 → sl T' 0 = sF b n c → sl T' 1 = i64 n → sl T' 2 = fO → sl T' 6 = i64 (2 * s : Nat) → z.length < 2 * s → SrtL ltF z → (M.flatten ++ z).Perm x → Sat ρ H' (Cel b (flat encF (M.flatten ++ z) ++ jk) :: Rs) → K .norm T' H') :
    wpC tab noExt R.slices_stableCmpFunc_cyc_Fired_s2 T H K := by
  rw [slices_stableCmpFunc_cyc_Fired_s2_at hT]
  have hfM := flat_blocks (fun l hl => (hM l hl).1)
  have hfL := flat_blocks (fun l hl => (hL l hl).1)
  have hlen := hp.length_eq
  rw [List.length_append, List.length_append, hfM, hfL] at hlen
  generalize hA : M.length * (2 * s) = A at *
  have w2 := wrapT' s (by omega)
  match L, hL, hfL, hlen, hp, hs, hL1 with
  | [], hL, hfL, hlen, hp, hs, _ =>
    simp only [List.length_nil, Nat.zero_mul] at hlen
    have w1 := wrapP A s (by omega)
    simp only [s0, s1, s2, s6, s7, andThen_some, binA_add, w1, binA_lss, condP_bool]
    rw [decide_eq_false (by omega)]
    simp only [Bool.false_eq_true, if_false, binA_mul, andThen_some, w2]
    refine hk _ _ z0 rfl rfl rfl rfl rfl (by omega) hzs (by simpa using hp) (by (repeat refine Sat.bump ?_ _); simpa using hs)
  | [l], hL, hfL, hlen, hp, hs, _ =>
    have hl := hL l (by simp)
    simp only [List.length_cons, List.length_nil, Nat.zero_add, Nat.one_mul] at hlen
    have w1 := wrapP A s (by omega)
    have e1 : M.flatten ++ ([l].flatten ++ z0) = M.flatten ++ (l ++ (z0 ++ [])) := by simp
    rw [e1] at hs hp
    simp only [s0, s1, s2, s6, s7, andThen_some, binA_add, w1, binA_lss, condP_bool]
    by_cases hz : 0 < z0.length
    · rw [decide_eq_true (by omega)]
      simp only [if_true]
      refine (symMerge_tri b c n jk M.flatten l z0 [] A (A + s) n (by omega) hz hfM.symm (by omega) (by omega) (by rw [hn, ← hp.length_eq]) (by omega) hl.2 hzs).use (((hs.bump _).bump _).bump _) ?_
      rintro v H2 P' ⟨rfl, z, hzr, hzp, rfl⟩ hs2
      have hzl := hzp.length_eq
      rw [List.length_append] at hzl
      simp only [binA_mul, andThen_some, w2]
      refine hk _ _ z rfl rfl rfl rfl rfl (by omega) hzr ?_ (by (repeat refine Sat.bump ?_ _); simpa using hs2)
      refine List.Perm.trans (List.Perm.append_left _ ?_) hp
      simpa using hzp
    · have : z0 = [] := List.length_eq_zero_iff.1 (by omega)
      subst this
      simp only [List.length_nil] at hlen
      rw [decide_eq_false (by omega)]
      simp only [Bool.false_eq_true, if_false, binA_mul, andThen_some, w2]
      exact hk _ _ l rfl rfl rfl rfl rfl (by omega) hl.2 (by simpa using hp) (by (repeat refine Sat.bump ?_ _); simpa using hs)
  | _ :: _ :: _, _, _, _, _, _, h => simp at h
theorem st_l3 (hn : n = x.length) (hc : n < 1152921504606846976) (L0 : List (List Fir)) (z0 : List Fir) (hL0 : ∀ l ∈ L0, l.length = 20 ∧ SrtL ltF l) (hz0 : z0.length < 20) (hzs0 : SrtL ltF z0) (hp0 : (L0.flatten ++ z0).Perm x) (T : List AV) (H : AH) (hT : T.length = 63) (s0 : sl T 0 = sF b n c) (s1 : sl T 1 = i64 n) (s2 : sl T 2 = fO) (s6 : sl T 6 = i64 (20 : Nat))
    (hs : Sat ρ H (Cel b (flat encF (L0.flatten ++ z0) ++ jk) :: Rs)) (K : Ex → List AV → AH → Prop)
    (hk : ∀ (T' : List AV) (H' : AH) (z : List Fir), SrtL ltF z → z.Perm x → Sat ρ H' (Cel b (flat encF z ++ jk) :: Rs) → K (.out 2) T' H') :
    loopP tab noExt R.slices_stableCmpFunc_cyc_Fired_l3 T H K := by
  refine loopP_invK (I := fun k T H' => T.length = 63 ∧ sl T 0 = sF b n c ∧ sl T 1 = i64 n ∧ sl T 2 = fO ∧ ∃ (s : Nat) (L : List (List Fir)) (z : List Fir), 0 < s ∧ sl T 6 = i64 s ∧ k = n - s ∧ (∀ l ∈ L, l.length = s ∧ SrtL ltF l) ∧ z.length < s ∧ SrtL ltF z ∧ (L.flatten ++ z).Perm x ∧ Sat ρ H' (Cel b (flat encF (L.flatten ++ z) ++ jk) :: Rs)) ?_ (n - 20) _ _ ⟨hT, s0, s1, s2, 20, L0, z0, by omega, s6, rfl, hL0, hz0, hzs0, hp0, hs⟩
  rintro k T H' ⟨hT, s0, s1, s2, s, L, z, hsp, s6, hk', hL, hz, hzs, hp, hs⟩ K' kn kr ko
  rw [slices_stableCmpFunc_cyc_Fired_l3_at hT]
  have hfL := flat_blocks (fun l hl => (hL l hl).1)
  have hlen := hp.length_eq
  rw [List.length_append, hfL] at hlen
  simp only [s0, s1, s2, s6, andThen_some, binA_lss, condP_bool]
  by_cases h : s < n
  · rw [decide_eq_true (by omega)]
    have w2 := wrapT s (by omega)
    simp only [if_true, binA_mul, andThen_some]
    rw [w2]
    refine st_l1 b c n jk Rs x s hsp hn hc h L z hL hz hp _ _ rfl rfl rfl rfl rfl rfl rfl ((hs.bump _).bump _) _ ?_
    intro T' H2 M L' hT' t0 t1 t2 t6 t7 hM hL' hL1 hp' hs2
    simp
    refine st_s2 b c n jk Rs x s hsp hn hc h M L' z hM hL' hL1 hz hzs hp' T' H2 hT' t0 t1 t2 t6 t7 hs2 _ ?_
    intro T3 H3 z3 hT3 u0 u1 u2 u6 hz3 hzs3 hp3 hs3
    simp
    exact kn (n - 2 * s) _ _ (by omega) ⟨hT3, u0, u1, u2, 2 * s, M, z3, by omega, u6, rfl, hM, hz3, hzs3, hp3, hs3⟩
  · rw [decide_eq_false (by omega)]
    simp only [Bool.false_eq_true, if_false]
    refine ko _ _ _ ?_
    match L, hL, hfL, hlen, hp, hs with
    | [], hL, hfL, hlen, hp, hs => exact hk _ _ z hzs (by simpa using hp) (by simpa using hs.bump _)
    | [l], hL, hfL, hlen, hp, hs =>
      have hl := hL l (by simp)
      have : z = [] := List.length_eq_zero_iff.1 (by simp at hlen; omega)
      subst this
      exact hk _ _ l hl.2 (by simpa using hp) (by simpa using hs.bump _)
    | l1 :: l2 :: L, hL, hfL, hlen, hp, hs =>
      exfalso
      simp only [List.length_cons, Nat.add_mul] at hlen
      omega
theorem st_s4 (hn : n = x.length) (hc : n < 1152921504606846976) (L0 : List (List Fir)) (r : List Fir) (hL0 : ∀ l ∈ L0, l.length = 20 ∧ SrtL ltF l) (hr : r.length < 20) (hp0 : (L0.flatten ++ r).Perm x) (T : List AV) (H : AH) (hT : T.length = 63) (s0 : sl T 0 = sF b n c) (s1 : sl T 1 = i64 n) (s2 : sl T 2 = fO) (s6 : sl T 6 = i64 (20 : Nat)) (s7 : sl T 7 = i64 (L0.length * 20 : Nat))
    (hs : Sat ρ H (Cel b (flat encF (L0.flatten ++ r) ++ jk) :: Rs)) (K : Ex → List AV → AH → Prop)
    (hk : ∀ (T' : List AV) (H' : AH) (z : List Fir), SrtL ltF z → z.Perm x → Sat ρ H' (Cel b (flat encF z ++ jk) :: Rs) → K .norm T' H') :
    wpC tab noExt R.slices_stableCmpFunc_cyc_Fired_s4 T H K := by
  rw [slices_stableCmpFunc_cyc_Fired_s4_at hT]
  have hfL := flat_blocks (fun l hl => (hL0 l hl).1)
  have hlen := hp0.length_eq
  rw [List.length_append, hfL] at hlen
  simp only [s0, s1, s2, s6, s7]
  rw [← List.append_nil r] at hs
  refine (insSort_tri b c n jk L0.flatten r [] (L0.length * 20) n hfL.symm (by omega) (by simp [hfL]; omega) (by omega)).use (hs.bump _) ?_
  rintro v H2 P' ⟨rfl, z, hz, hzp, rfl⟩ hs2
  have hzl := hzp.length_eq
  rw [List.append_nil] at hs2
  refine st_l3 b c n jk Rs x hn hc L0 z hL0 (by omega) hz ((List.Perm.append_left _ hzp).trans hp0) _ _ rfl rfl rfl rfl rfl hs2 _ ?_
  intro T' H3 z3 hz3 hzp3 hs3
  simp
  exact hk _ _ z3 hz3 hzp3 hs3
end
theorem stable_tri (b c n : Nat) (jk : List SV) (x : List Fir) (hn : n = x.length) (hc : n < 1152921504606846976) :
    Tri tab noExt F.slices_stableCmpFunc_cyc_Fired [sF b n c, i64 n, fO] [Cel b (flat encF x ++ jk)] fun v P' => v = unit ∧ ∃ z, SrtL ltF z ∧ z.Perm x ∧ P' = [Cel b (flat encF z ++ jk)] := by
  refine Tri.intro fun ρ H Rs K hs hk => ?_
  apply slices_stableCmpFunc_cyc_Fired_call
  refine st_l0 b c n jk Rs x hn hc _ _ rfl rfl rfl rfl rfl rfl rfl ((hs.bump _).bump _) _ ?_
  intro T' H' L r hT' t0 t1 t2 t6 t7 hL hp hr hs2
  simp
  refine st_s4 b c n jk Rs x hn hc L r hL hr hp T' H' hT' t0 t1 t2 t6 t7 hs2 _ ?_
  intro T3 H3 z hz hzp hs3
  simp
  exact hk _ _ _ ⟨rfl, z, hz, hzp, rfl⟩ hs3
theorem ins_nil (e : Nat) : Tri tab noExt F.slices_insertionSortCmpFunc_cyc_Fired [.s (.slice none 0 0 e), i64 0, i64 0, fO] [] fun v P' => v = unit ∧ P' = [] := by
  refine Tri.intro fun ρ H Rs K hs hk => ?_
  apply slices_insertionSortCmpFunc_cyc_Fired_call
  simp
  refine loopP_invK (I := fun _ T H' => T.length = 53 ∧ sl T 2 = i64 0 ∧ sl T 8 = i64 1 ∧ Sat ρ H' Rs) ?_ 0 _ _ ⟨rfl, rfl, by rfl, hs.bump _⟩
  rintro k T H' ⟨hT, s2, s8, hs⟩ K' kn kr ko
  rw [slices_insertionSortCmpFunc_cyc_Fired_l2_at hT]
  simp [s2, s8]
  refine ko _ _ _ ?_
  simp
  exact hk _ _ _ ⟨rfl, rfl⟩ (hs.bump _)
theorem stable_nil (e : Nat) : Tri tab noExt F.slices_stableCmpFunc_cyc_Fired [.s (.slice none 0 0 e), i64 0, fO] [] fun v P' => v = unit ∧ P' = [] := by
  refine Tri.intro fun ρ H Rs K hs hk => ?_
  apply slices_stableCmpFunc_cyc_Fired_call
  refine loopP_invK (I := fun _ T H' => T.length = 63 ∧ sl T 0 = .s (.slice none 0 0 e) ∧ sl T 1 = i64 0 ∧ sl T 2 = fO ∧ sl T 6 = i64 20 ∧ sl T 7 = i64 0 ∧ sl T 8 = i64 20 ∧ Sat ρ H' Rs) ?_ 0 _ _ ⟨rfl, rfl, rfl, rfl, rfl, rfl, rfl, (hs.bump _).bump _⟩
  rintro k T H' ⟨hT, s0, s1, s2, s6, s7, s8, hs⟩ K' kn kr ko
  rw [slices_stableCmpFunc_cyc_Fired_l0_at hT]
  simp only [s0, s1, s2, s6, s7, s8, andThen_some, binA_leq, condP_bool]
  simp
  refine ko _ _ _ ?_
  simp
  have key : ∀ (T : List AV) (H : AH), T.length = 63 → sl T 0 = .s (.slice none 0 0 e) → sl T 1 = i64 0 → sl T 2 = fO → sl T 6 = i64 20 → sl T 7 = i64 0 → Sat ρ H Rs → wpC tab noExt R.slices_stableCmpFunc_cyc_Fired_s4 T H (retK [] K) := by
    intro T H hT s0 s1 s2 s6 s7 hs
    rw [slices_stableCmpFunc_cyc_Fired_s4_at hT]
    simp only [s0, s1, s2, s6, s7]
    refine (ins_nil e).use (R := Rs) (hs.bump _) ?_
    rintro v H2 P' ⟨rfl, rfl⟩ hs2
    refine loopP_invK (I := fun _ T H' => T.length = 63 ∧ sl T 1 = i64 0 ∧ sl T 6 = i64 20 ∧ Sat ρ H' Rs) ?_ 0 _ _ ⟨rfl, rfl, rfl, hs2⟩
    rintro k T H' ⟨hT, s1, s6, hs⟩ K' kn kr ko
    rw [slices_stableCmpFunc_cyc_Fired_l3_at hT]
    simp [s1, s6]
    refine ko _ _ _ ?_
    simp
    exact hk _ _ _ ⟨rfl, rfl⟩ (hs.bump _)
  exact key _ _ rfl rfl rfl rfl rfl rfl (hs.bump _)
theorem SortF_tri (s : SV) (r : List Fir) (hc : r.length < 1152921504606846976) : Tri tab noExt F.slices_SortStableFunc__cyc_Fired_cyc_Fired [.s s, fO] [Row encF 3 s r] fun v P' => v = unit ∧ ∃ z, SrtL ltF z ∧ z.Perm r ∧ P' = [Row encF 3 s z] := by
  refine Tri.intro fun ρ H Rs K hs hk => ?_
  apply slices_SortStableFunc__cyc_Fired_cyc_Fired_call
  rcases Sat.rowInv (R := Rs) hs with ⟨e, rfl, rfl, hs1⟩ | ⟨b, c, j, rfl, hs1, h1, h2⟩
  · simp
    refine (stable_nil e).use (R := Rs) (hs1.bump _) ?_
    rintro v H2 P' ⟨rfl, rfl⟩ hs2
    exact hk _ _ _ ⟨rfl, [], .nil, .refl _, rfl⟩ (Sat.mkNil hs2 e)
  · simp
    refine (stable_tri b c r.length j r rfl hc).use (hs1.bump _) ?_
    rintro v H2 P' ⟨rfl, z, hz, hzp, rfl⟩ hs2
    have hzl := hzp.length_eq
    refine hk _ _ _ ⟨rfl, z, hz, hzp, rfl⟩ ?_
    have := Sat.mkRow (enc := encF) (k := 3) (r := z) (b := b) (c := c) (j := j) (R := Rs) hs2 (by simp only [List.length_append, flat_len encF_len] at h1 ⊢; omega) (by omega)
    rw [hzl] at this
    exact this
theorem ClipF_tri (s : SV) (r : List Fir) : Tri tab noExt F.slices_Clip__cyc_Fired_cyc_Fired [.s s] [Row encF 3 s r] fun v P' => ∃ s', v = .s s' ∧ P' = [Row encF 3 s' r] := by
  refine Tri.intro fun ρ H Rs K hs hk => ?_
  apply slices_Clip__cyc_Fired_cyc_Fired_call
  rcases Sat.rowInv (R := Rs) hs with ⟨e, rfl, rfl, hs1⟩ | ⟨b, c, j, rfl, hs1, h1, h2⟩
  · simp [slSlA, boundsA, boundA]
    exact hk _ _ _ ⟨_, rfl, rfl⟩ (Sat.mkNil ((hs1.bump _).bump _) 3)
  · simp [slSlA, boundsA, boundA, h2, addO]
    exact hk _ _ _ ⟨_, rfl, rfl⟩ (Sat.mkRow (enc := encF) (k := 3) ((hs1.bump _).bump _) (by simp [flat_len encF_len]) (Nat.le_refl _))
end Go.AM

/-
  A heap of entries, in plain lists: no program in sight.
-/
namespace Go.AM
structure Ent where
  at_ : Int
  handle : Int
  arg : Int
  deriving DecidableEq, Inhabited
def aheadB (a b : Ent) : Bool := decide (a.at_ < b.at_) || (decide (a.at_ = b.at_) && decide (a.handle < b.handle))
def swapE (r : List Ent) (i k : Nat) : List Ent := (r.set i (r.getD k default)).set k (r.getD i default)
theorem swapE_len (r : List Ent) (i k : Nat) : (swapE r i k).length = r.length := by simp [swapE]
def upF (r : List Ent) (i : Nat) : List Ent :=
  if h : 0 < i ∧ aheadB (r.getD i default) (r.getD ((i - 1) / 2) default) = true then upF (swapE r i ((i - 1) / 2)) ((i - 1) / 2) else r
termination_by i
decreasing_by omega
theorem upF_len (r : List Ent) (i : Nat) : (upF r i).length = r.length := by
  induction i using Nat.strongRecOn generalizing r with
  | _ i ih =>
    rw [upF]
    split
    · rw [ih _ (by omega), swapE_len]
    · rfl
theorem getD_get {r : List Ent} {i : Nat} (h : i < r.length) : r.getD i default = r[i] := by simp [List.getD_eq_getElem?_getD, h]
def kid (r : List Ent) (i : Nat) : Nat := if 2 * i + 2 < r.length ∧ aheadB (r.getD (2 * i + 2) default) (r.getD (2 * i + 1) default) = true then 2 * i + 2 else 2 * i + 1
theorem kid_gt (r : List Ent) (i : Nat) : i < kid r i := by unfold kid; split <;> omega
def downF (r : List Ent) (i : Nat) : List Ent :=
  if _h : kid r i < r.length ∧ aheadB (r.getD (kid r i) default) (r.getD i default) = true then downF (swapE r i (kid r i)) (kid r i) else r
termination_by r.length - i
decreasing_by rw [swapE_len]; have := kid_gt r i; omega
theorem downF_len (r : List Ent) (i : Nat) : (downF r i).length = r.length := by
  generalize hm : r.length - i = m
  induction m using Nat.strongRecOn generalizing r i with
  | _ m ih =>
    rw [downF]
    split
    · have := kid_gt r i
      rw [ih ((swapE r i (kid r i)).length - kid r i) (by rw [swapE_len]; omega) _ _ rfl, swapE_len]
    · rfl
theorem ahead_iff {a b : Ent} : aheadB a b = true ↔ a.at_ < b.at_ ∨ a.at_ = b.at_ ∧ a.handle < b.handle := by simp [aheadB]
def leE (a b : Ent) : Prop := aheadB b a = false
theorem le_iff {a b : Ent} : leE a b ↔ ¬ (b.at_ < a.at_ ∨ b.at_ = a.at_ ∧ b.handle < a.handle) := by
  rw [← ahead_iff]; simp [leE]
theorem lt_le {a b : Ent} (h : aheadB a b = true) : leE a b := by rw [ahead_iff] at h; rw [le_iff]; omega
theorem le_rfl' (a : Ent) : leE a a := by rw [le_iff]; omega
theorem le_trans' {a b c : Ent} (h : leE a b) (h' : leE b c) : leE a c := by rw [le_iff] at *; omega
theorem not_lt_le {a b : Ent} (h : ¬ aheadB a b = true) : leE b a := by simpa [leE] using h
abbrev gE (r : List Ent) (k : Nat) : Ent := r.getD k default
theorem getD_set' (r : List Ent) (i : Nat) (x : Ent) (m : Nat) (hi : i < r.length) : (r.set i x).getD m default = if m = i then x else r.getD m default := by
  simp only [List.getD_eq_getElem?_getD, List.getElem?_set]
  by_cases h : i = m
  · subst h; simp [hi]
  · rw [if_neg h, if_neg (fun h' => h h'.symm)]
theorem swapE_getD (r : List Ent) (i k m : Nat) (hi : i < r.length) (hk : k < r.length) : gE (swapE r i k) m = if m = k then gE r i else if m = i then gE r k else gE r m := by
  unfold gE swapE
  rw [getD_set' _ _ _ _ (by simpa using hk)]
  split
  · rfl
  · rw [getD_set' _ _ _ _ hi]
theorem swapE_perm (r : List Ent) (i k : Nat) (hi : i < r.length) (hk : k < r.length) : (swapE r i k).Perm r := by
  rw [List.perm_iff_count]
  intro a
  unfold swapE
  rw [List.count_set (by simpa using hk), List.count_set hi]
  have e1 : r.getD i default = r[i] := getD_get hi
  have e2 : r.getD k default = r[k] := getD_get hk
  have c1 : (if r[i] == a then 1 else 0) ≤ r.count a := by
    split
    · rename_i h; rw [beq_iff_eq] at h; subst h; exact List.count_pos_iff.2 (List.getElem_mem hi)
    · omega
  have e3 : (r.set i (r.getD k default))[k]'(by simpa using hk) = r[k] := by
    rw [List.getElem_set]; split
    · exact e2
    · rfl
  rw [e3, e1, e2]
  have : r.count a - (if r[i] == a then 1 else 0) + (if r[k] == a then 1 else 0) - (if r[k] == a then 1 else 0) + (if r[i] == a then 1 else 0) = r.count a := by omega
  simpa using this
theorem upF_perm (r : List Ent) (i : Nat) (hi : i < r.length ∨ i = 0) : (upF r i).Perm r := by
  induction i using Nat.strongRecOn generalizing r with
  | _ i ih =>
    rw [upF]
    split
    · rename_i h
      refine (ih _ (by omega) _ (.inl (by rw [swapE_len]; omega))).trans (swapE_perm _ _ _ (by omega) (by omega))
    · exact List.Perm.refl _
theorem downF_perm (r : List Ent) (i : Nat) (hi : i < r.length) : (downF r i).Perm r := by
  generalize hm : r.length - i = m
  induction m using Nat.strongRecOn generalizing r i with
  | _ m ih =>
    rw [downF]
    split
    · rename_i h
      have := kid_gt r i
      refine (ih ((swapE r i (kid r i)).length - kid r i) (by rw [swapE_len]; omega) _ _ (by rw [swapE_len]; exact h.1) rfl).trans (swapE_perm _ _ _ hi h.1)
    · exact List.Perm.refl _
def Hp (r : List Ent) : Prop := ∀ k, 0 < k → k < r.length → leE (gE r ((k - 1) / 2)) (gE r k)
theorem upF_hp (r : List Ent) (i : Nat) (hi : i < r.length) (hA : ∀ k, 0 < k → k < r.length → k ≠ i → leE (gE r ((k - 1) / 2)) (gE r k))
    (hB : ∀ k, 0 < k → k < r.length → (k - 1) / 2 = i → 0 < i → leE (gE r ((i - 1) / 2)) (gE r k)) : Hp (upF r i) := by
  induction i using Nat.strongRecOn generalizing r with
  | _ i ih =>
    rw [upF]
    split
    · rename_i h
      obtain ⟨h0, hlt⟩ := h
      generalize hp : (i - 1) / 2 = p at *
      have hpi : p < i := by omega
      have hpl : p < r.length := by omega
      refine ih _ hpi _ (by rw [swapE_len]; exact hpl) ?_ ?_
      · intro k hk0 hkl hkp
        rw [swapE_len] at hkl
        rw [swapE_getD r i p _ hi hpl, swapE_getD r i p _ hi hpl, if_neg hkp]
        by_cases hki : k = i
        · subst hki
          rw [hp, if_pos rfl, if_pos rfl]
          exact lt_le hlt
        · rw [if_neg hki]
          by_cases hq1 : (k - 1) / 2 = p
          · rw [if_pos hq1]
            have := hA k hk0 hkl hki
            rw [hq1] at this
            exact le_trans' (lt_le hlt) this
          · rw [if_neg hq1]
            by_cases hq2 : (k - 1) / 2 = i
            · rw [if_pos hq2]; exact hB k hk0 hkl hq2 h0
            · rw [if_neg hq2]; exact hA k hk0 hkl hki
      · intro k hk0 hkl hkp hp0
        rw [swapE_len] at hkl
        rw [swapE_getD r i p _ hi hpl, swapE_getD r i p _ hi hpl]
        rw [if_neg (by omega), if_neg (by omega), if_neg (by omega)]
        have a1 := hA p hp0 hpl (by omega)
        by_cases hki : k = i
        · rw [if_pos hki]; exact a1
        · rw [if_neg hki]
          have := hA k hk0 hkl hki
          rw [hkp] at this
          exact le_trans' a1 this
    · rename_i h
      intro k hk0 hkl
      by_cases hki : k = i
      · subst hki
        exact not_lt_le fun hc => h ⟨hk0, hc⟩
      · exact hA k hk0 hkl hki
theorem kid_cases (r : List Ent) (i : Nat) : kid r i = 2 * i + 1 ∨ kid r i = 2 * i + 2 := by unfold kid; split <;> simp
theorem kid_le (r : List Ent) (i k : Nat) (hk0 : 0 < k) (hk : k < r.length) (hp : (k - 1) / 2 = i) : kid r i < r.length ∧ leE (gE r (kid r i)) (gE r k) := by
  have : k = 2 * i + 1 ∨ k = 2 * i + 2 := by omega
  unfold kid
  split
  · rename_i h
    refine ⟨h.1, ?_⟩
    rcases this with rfl | rfl
    · exact lt_le h.2
    · exact le_rfl' _
  · rename_i h
    refine ⟨by omega, ?_⟩
    rcases this with rfl | rfl
    · exact le_rfl' _
    · exact not_lt_le fun hc => h ⟨hk, hc⟩
theorem downF_hp (r : List Ent) (i : Nat) (hi : i < r.length) (hA : ∀ k, 0 < k → k < r.length → (k - 1) / 2 ≠ i → leE (gE r ((k - 1) / 2)) (gE r k))
    (hB : ∀ k, 0 < k → k < r.length → (k - 1) / 2 = i → 0 < i → leE (gE r ((i - 1) / 2)) (gE r k)) : Hp (downF r i) := by
  generalize hm : r.length - i = m
  induction m using Nat.strongRecOn generalizing r i with
  | _ m ih =>
    rw [downF]
    split
    · rename_i h
      obtain ⟨hcl, hlt⟩ := h
      have hcc := kid_cases r i
      have hmin := kid_le r i
      generalize hc : kid r i = c at *
      have hci : (c - 1) / 2 = i := by omega
      refine ih ((swapE r i c).length - c) (by rw [swapE_len]; omega) _ _ (by rw [swapE_len]; exact hcl) ?_ ?_ rfl
      · intro k hk0 hkl hkp
        rw [swapE_len] at hkl
        rw [swapE_getD r i c _ hi hcl, swapE_getD r i c _ hi hcl, if_neg hkp]
        by_cases hkc : k = c
        · subst hkc
          rw [if_pos hci, if_pos rfl]
          exact lt_le hlt
        · rw [if_neg hkc]
          by_cases hki : k = i
          · subst hki
            rw [if_neg (by omega), if_pos rfl]
            exact hB c (by omega) hcl hci hk0
          · rw [if_neg hki]
            by_cases hq : (k - 1) / 2 = i
            · rw [if_pos hq]; exact (hmin k hk0 hkl hq).2
            · rw [if_neg hq]; exact hA k hk0 hkl hq
      · intro k hk0 hkl hkp hc0
        rw [swapE_len] at hkl
        rw [swapE_getD r i c _ hi hcl, swapE_getD r i c _ hi hcl]
        rw [hci, if_neg (by omega), if_pos rfl, if_neg (by omega), if_neg (by omega)]
        have := hA k hk0 hkl (by omega)
        rwa [hkp] at this
    · rename_i h
      intro k hk0 hkl
      by_cases hq : (k - 1) / 2 = i
      · obtain ⟨h1, h2⟩ := kid_le r i k hk0 hkl hq
        rw [hq]
        exact le_trans' (not_lt_le fun hc => h ⟨h1, hc⟩) h2
      · exact hA k hk0 hkl hq
theorem snoc_hp (r : List Ent) (e : Ent) (h : Hp r) : Hp (upF (r ++ [e]) r.length) := by
  have g1 : ∀ k, k < r.length → gE (r ++ [e]) k = gE r k := fun k hk => by simp [gE, List.getD_eq_getElem?_getD, List.getElem?_append_left hk]
  refine upF_hp _ _ (by simp) ?_ ?_
  · intro k h0 hk hne
    simp at hk
    rw [g1 _ (by omega), g1 _ (by omega)]
    exact h k h0 (by omega)
  · intro k h0 hk hp hl
    simp at hk; omega
def remF (r : List Ent) (i : Nat) : List Ent :=
  let n := r.length - 1
  let q := (r.set i (r.getD n default)).take n
  if i < n then downF (upF q i) i else q
theorem rem_perm0 (r : List Ent) (i : Nat) (hi : i < r.length) : r.Perm (gE r i :: (r.set i (r.getD (r.length - 1) default)).take (r.length - 1)) := by
  have hn : r.length - 1 < r.length := by omega
  have h1 : (swapE r i (r.length - 1)).Perm r := swapE_perm r i (r.length - 1) hi hn
  have h2 : swapE r i (r.length - 1) = (r.set i (r.getD (r.length - 1) default)).take (r.length - 1) ++ [gE r i] := by
    unfold swapE
    generalize hq : r.set i (r.getD (r.length - 1) default) = q
    have hl : q.length = r.length := by rw [← hq]; simp
    rw [List.set_eq_take_append_cons_drop, if_pos (by omega), List.drop_eq_nil_of_le (by omega)]
  rw [h2] at h1
  exact h1.symm.trans (List.perm_append_singleton _ _)
theorem remF_perm (r : List Ent) (i : Nat) (hi : i < r.length) : r.Perm (gE r i :: remF r i) := by
  refine (rem_perm0 r i hi).trans (List.Perm.cons _ ?_)
  unfold remF
  simp only
  split
  · rename_i h
    have hq : i < ((r.set i (r.getD (r.length - 1) default)).take (r.length - 1)).length := by simp; omega
    refine ((downF_perm _ _ (by rw [upF_len]; exact hq)).trans (upF_perm _ _ (.inl hq))).symm
  · exact List.Perm.refl _
theorem hp_no (r : List Ent) (h : Hp r) (i : Nat) : downF r i = r := by
  rw [downF, dif_neg]
  rintro ⟨h1, h2⟩
  have hc := kid_cases r i
  have := h (kid r i) (by omega) h1
  rw [show (kid r i - 1) / 2 = i by omega] at this
  unfold leE gE at this
  rw [h2] at this; cases this
theorem remF_hp (r : List Ent) (i : Nat) (hi : i < r.length) (h : Hp r) : Hp (remF r i) := by
  unfold remF
  simp only
  generalize hx : r.getD (r.length - 1) default = x
  generalize hn : r.length - 1 = n at *
  generalize hq : (r.set i x).take n = q
  have hl : q.length = n := by rw [← hq]; simp; omega
  have g1 : ∀ k, k < n → gE q k = if k = i then x else gE r k := fun k hk => by
    rw [← hq]
    have := getD_set' r i x k hi
    unfold gE
    rw [← this]
    simp only [List.getD_eq_getElem?_getD, List.getElem?_take, if_pos hk]
  have hup : ∀ k, 0 < k → k < r.length → leE (gE r ((k - 1) / 2)) (gE r k) := h
  have hA0 : ∀ k, 0 < k → k < q.length → k ≠ i → (k - 1) / 2 ≠ i → leE (gE q ((k - 1) / 2)) (gE q k) := fun k h0 hk hki hp => by
    rw [g1 _ (by omega), g1 _ (by omega), if_neg hki, if_neg hp]
    exact h k h0 (by omega)
  split
  · rename_i hin
    have hB0 : ∀ k, 0 < k → k < q.length → (k - 1) / 2 = i → 0 < i → leE (gE q ((i - 1) / 2)) (gE q k) := fun k h0 hk hp hi0 => by
      rw [g1 _ (by omega), g1 _ (by omega), if_neg (by omega), if_neg (by omega)]
      have a1 := h i hi0 hi
      have a2 := h k h0 (by omega)
      rw [hp] at a2
      exact le_trans' a1 a2
    by_cases hgo : 0 < i ∧ aheadB (gE q i) (gE q ((i - 1) / 2)) = true
    · have hhp : Hp (upF q i) := by
        refine upF_hp q i (by omega) ?_ hB0
        intro k h0 hk hki
        by_cases hp : (k - 1) / 2 = i
        · have b1 := hB0 k h0 hk hp hgo.1
          rw [hp]
          exact le_trans' (lt_le hgo.2) b1
        · exact hA0 k h0 hk hki hp
      rw [hp_no _ hhp]
      exact hhp
    · have : upF q i = q := by rw [upF, dif_neg hgo]
      rw [this]
      refine downF_hp q i (by omega) ?_ hB0
      intro k h0 hk hp
      by_cases hki : k = i
      · subst hki
        exact not_lt_le fun hc => hgo ⟨h0, hc⟩
      · exact hA0 k h0 hk hki hp
  · intro k h0 hk
    exact hA0 k h0 hk (by omega) (by omega)
theorem hp_head (r : List Ent) (h : Hp r) (k : Nat) (hk : k < r.length) : leE (gE r 0) (gE r k) := by
  induction k using Nat.strongRecOn with
  | _ k ih =>
    by_cases h0 : 0 < k
    · exact le_trans' (ih ((k - 1) / 2) (by omega) (by omega)) (h k h0 hk)
    · rw [show k = 0 by omega]; exact le_rfl' _
end Go.AM

/-
  What is to come, as a list in its order: put in, taken out, found.
-/
namespace Go.AM
def Srt (L : List Ent) : Prop := L.Pairwise fun a b => aheadB a b = true
structure Good (L : List Ent) (last : Int) : Prop where
  srt : Srt L
  nod : (L.map Ent.handle).Nodup
  bnd : ∀ e ∈ L, 1 ≤ e.handle ∧ e.handle ≤ last
  len : L.length ≤ 256
  pos : 0 ≤ last
def insE (e : Ent) (L : List Ent) : List Ent := L.takeWhile (fun x => aheadB x e) ++ e :: L.dropWhile (fun x => aheadB x e)
theorem insE_perm (e : Ent) (L : List Ent) : (insE e L).Perm (e :: L) := by
  unfold insE
  refine List.perm_middle.trans ?_
  rw [List.takeWhile_append_dropWhile]
theorem insE_mem {e x : Ent} {L : List Ent} : x ∈ insE e L ↔ x = e ∨ x ∈ L := by
  rw [(insE_perm e L).mem_iff]; simp
theorem insE_len (e : Ent) (L : List Ent) : (insE e L).length = L.length + 1 := by
  rw [(insE_perm e L).length_eq]; simp
theorem insE_cons (e x : Ent) (L : List Ent) : insE e (x :: L) = if aheadB x e = true then x :: insE e L else e :: x :: L := by
  unfold insE
  by_cases h : aheadB x e = true
  · simp [h]
  · simp [h]
theorem ahead_trans {a b c : Ent} (h : aheadB a b = true) (h' : aheadB b c = true) : aheadB a c = true := by rw [ahead_iff] at *; omega
theorem insE_srt (e : Ent) (L : List Ent) (h : Srt L) (hn : ∀ x ∈ L, x.handle ≠ e.handle) : Srt (insE e L) := by
  induction L with
  | nil => exact List.pairwise_singleton _ _
  | cons x L ih =>
    rw [insE_cons]
    have h1 := List.pairwise_cons.1 h
    split
    · rename_i hx
      refine List.pairwise_cons.2 ⟨fun y hy => ?_, ih h1.2 fun y hy => hn y (by simp [hy])⟩
      rcases insE_mem.1 hy with rfl | hy
      · exact hx
      · exact h1.1 y hy
    · rename_i hx
      have he : aheadB e x = true := by
        have := hn x (by simp)
        rw [ahead_iff] at hx ⊢
        omega
      refine List.pairwise_cons.2 ⟨fun y hy => ?_, h⟩
      rcases List.mem_cons.1 hy with rfl | hy
      · exact he
      · exact ahead_trans he (h1.1 y hy)
theorem Good.ins {L : List Ent} {last : Int} (h : Good L last) (a x : Int) (hl : L.length < 256) : Good (insE ⟨a, last + 1, x⟩ L) (last + 1) := by
  refine ⟨insE_srt _ _ h.srt fun y hy => ?_, ?_, fun e he => ?_, by rw [insE_len]; omega, by have := h.pos; omega⟩
  · have := h.bnd y hy
    simp; omega
  · rw [((insE_perm _ L).map Ent.handle).nodup_iff]
    simp only [List.map_cons, List.nodup_cons, h.nod, and_true]
    intro hm
    obtain ⟨e, he, hh⟩ := List.mem_map.1 hm
    have := h.bnd e he
    omega
  · rcases insE_mem.1 he with rfl | he
    · have := h.pos; simp; omega
    · have := h.bnd e he; omega
theorem Good.sub {L L' : List Ent} {last : Int} (h : Good L last) (hs : L'.Sublist L) : Good L' last :=
  ⟨h.srt.sublist hs, h.nod.sublist (hs.map _), fun e he => h.bnd e (hs.subset he), Nat.le_trans hs.length_le h.len, h.pos⟩
theorem Good.nil : Good [] 0 := ⟨List.Pairwise.nil, List.Pairwise.nil, by simp, by simp, by omega⟩
theorem gE_mem {r : List Ent} {i : Nat} (hi : i < r.length) : gE r i ∈ r := by unfold gE; rw [getD_get hi]; exact List.getElem_mem hi
theorem head_eq {r L : List Ent} {e : Ent} {last : Int} (hp : r.Perm (e :: L)) (hh : Hp r) (hg : Good (e :: L) last) : gE r 0 = e := by
  have hlen : 0 < r.length := by rw [hp.length_eq]; simp
  have h1 : gE r 0 ∈ e :: L := hp.mem_iff.1 (gE_mem hlen)
  rcases List.mem_cons.1 h1 with h | h
  · exact h
  · have h2 := (List.pairwise_cons.1 hg.srt).1 _ h
    obtain ⟨k, hk, he⟩ := List.getElem_of_mem (hp.mem_iff.2 (List.mem_cons_self : e ∈ e :: L))
    have h3 := hp_head r hh k hk
    unfold gE at h3 h2
    rw [getD_get hk, he] at h3
    unfold leE at h3
    rw [h2] at h3; cases h3
theorem rem0_perm {r L : List Ent} {e : Ent} {last : Int} (hp : r.Perm (e :: L)) (hh : Hp r) (hg : Good (e :: L) last) : (remF r 0).Perm L := by
  have hlen : 0 < r.length := by rw [hp.length_eq]; simp
  have h1 := remF_perm r 0 hlen
  rw [head_eq hp hh hg] at h1
  exact (List.perm_cons _).1 (h1.symm.trans hp)
def fidx (r : List Ent) (h : Int) : Option Nat := r.findIdx? fun e => decide (e.handle = h)
theorem fidx_none {r : List Ent} {h : Int} : fidx r h = none ↔ ∀ e ∈ r, e.handle ≠ h := by
  unfold fidx
  rw [List.findIdx?_eq_none_iff]
  simp
theorem fidx_some {r : List Ent} {h : Int} {i : Nat} (hf : fidx r h = some i) : i < r.length ∧ (gE r i).handle = h := by
  unfold fidx at hf
  rw [List.findIdx?_eq_some_iff_getElem] at hf
  obtain ⟨h1, h2, _⟩ := hf
  exact ⟨h1, by unfold gE; rw [getD_get h1]; simpa using h2⟩
theorem rem_filter {r L : List Ent} {h : Int} {i : Nat} (hp : r.Perm L) (hn : (L.map Ent.handle).Nodup) (hf : fidx r h = some i) : (remF r i).Perm (L.filter fun e => decide (e.handle ≠ h)) := by
  obtain ⟨hi, hh⟩ := fidx_some hf
  have h1 := remF_perm r i hi
  have h2 : ((gE r i :: remF r i).map Ent.handle).Nodup := ((h1.symm.trans hp).map Ent.handle).nodup_iff.2 hn
  simp only [List.map_cons, List.nodup_cons] at h2
  have h3 : (remF r i).filter (fun e => decide (e.handle ≠ h)) = remF r i := by
    rw [List.filter_eq_self]
    intro e he
    simp only [decide_eq_true_eq]
    intro hc
    exact h2.1 (List.mem_map.2 ⟨e, he, by rw [hc, hh]⟩)
  have h4 := (h1.symm.trans hp).filter (fun e => decide (e.handle ≠ h))
  rw [List.filter_cons, if_neg (by rw [hh]; simp), h3] at h4
  exact h4
def byH (L : List Ent) (h : Int) : Option Ent := L.find? fun e => decide (e.handle = h)
theorem byH_none {L : List Ent} {h : Int} : byH L h = none ↔ ∀ e ∈ L, e.handle ≠ h := by
  unfold byH; rw [List.find?_eq_none]; simp
theorem nodup_handle_eq {L : List Ent} (hn : (L.map Ent.handle).Nodup) {a b : Ent} (ha : a ∈ L) (hb : b ∈ L) (h : a.handle = b.handle) : a = b := by
  induction L with
  | nil => simp at ha
  | cons x L ih =>
    simp only [List.map_cons, List.nodup_cons] at hn
    rcases List.mem_cons.1 ha with rfl | ha' <;> rcases List.mem_cons.1 hb with rfl | hb'
    · rfl
    · exact absurd (List.mem_map.2 ⟨b, hb', h.symm⟩) hn.1
    · exact absurd (List.mem_map.2 ⟨a, ha', h⟩) hn.1
    · exact ih hn.2 ha' hb'
theorem byH_some {L : List Ent} {h : Int} {e : Ent} (hn : (L.map Ent.handle).Nodup) (he : e ∈ L) (hh : e.handle = h) : byH L h = some e := by
  cases hb : byH L h with
  | none => exact absurd hh (byH_none.1 hb e he)
  | some x =>
    unfold byH at hb
    have h1 := List.mem_of_find?_eq_some hb
    have h2 := List.find?_some hb
    simp at h2
    rw [nodup_handle_eq hn h1 he (by rw [h2, hh])]
theorem fidx_byH {r L : List Ent} {h : Int} (hp : r.Perm L) (hn : (L.map Ent.handle).Nodup) : (fidx r h).map (gE r) = byH L h := by
  cases hf : fidx r h with
  | none =>
    have h1 := fidx_none.1 hf
    rw [Option.map_none, eq_comm, byH_none]
    exact fun e he => h1 e (hp.mem_iff.2 he)
  | some i =>
    obtain ⟨h1, h2⟩ := fidx_some hf
    rw [Option.map_some, byH_some hn (hp.mem_iff.1 (gE_mem h1)) h2]
def dueL (L : List Ent) (now : Int) : List Ent := L.takeWhile fun e => decide (e.at_ ≤ now)
def toL (L : List Ent) (now : Int) : List Ent := L.dropWhile fun e => decide (e.at_ ≤ now)
end Go.AM

/-
  The document's timers: what their methods give, raw.
-/
namespace Go.AM
attribute [local simp] AH.ld AH.ldn AH.stn AH.new Nat.add_assoc resA resA1 fillA buildA slSlA boundsA boundA callvP
def encR (e : Ent) : List SV := [.int .i64 e.handle, .int .u64 e.at_, .int .i64 e.arg]
theorem encR_len (e : Ent) : (encR e).length = 3 := rfl
theorem andThen_of' {α : Type} {o : Option α} {a : α} {K : α → Prop} (h : o = some a) (hk : K a) : andThen o K := ⟨a, h, hk⟩
def RfR (m : Nat) (r : List Ent) (last : Int) : Asr := .ex fun s => .all [Cel m [s, .int .i64 last], Row encR 3 s r]
section
variable {ρ : HF} {H : AH} {Rs : List Asr} {m : Nat} {r : List Ent} {last : Int}
theorem Sat.rfOpen (h : Sat ρ H (RfR m r last :: Rs)) : ∃ s, Sat ρ H (Cel m [s, .int .i64 last] :: Row encR 3 s r :: Rs) := by
  obtain ⟨s, h⟩ := h.ex
  exact ⟨s, h.all⟩
theorem Sat.rfClose {s : SV} (h : Sat ρ H (Cel m [s, .int .i64 last] :: Row encR 3 s r :: Rs)) : Sat ρ H (RfR m r last :: Rs) :=
  Sat.mkEx s (Sat.mkAll h)
end
def oidx' : Option Nat → Int
  | none => -1
  | some i => i
theorem get_ex {α : Type} {r : List α} {i : Nat} (h : i < r.length) : ∃ e, r[i]? = some e := ⟨_, List.getElem?_eq_getElem h⟩
theorem fidx_of {r : List Ent} {h : Int} {i : Nat} {e : Ent} (he : r[i]? = some e) (hh : e.handle = h) (hno : ∀ k x, k < i → r[k]? = some x → x.handle ≠ h) : fidx r h = some i := by
  obtain ⟨hlt, rfl⟩ := List.getElem?_eq_some_iff.1 he
  unfold fidx
  rw [List.findIdx?_eq_some_iff_getElem]
  exact ⟨hlt, by simpa using hh, fun k hk => by simpa using hno k _ hk (List.getElem?_eq_getElem (by omega))⟩
theorem fidx_no {r : List Ent} {h : Int} (hno : ∀ k x, k < r.length → r[k]? = some x → x.handle ≠ h) : fidx r h = none := by
  rw [fidx_none]
  intro e he
  obtain ⟨k, hk, rfl⟩ := List.getElem_of_mem he
  exact hno k _ hk (List.getElem?_eq_getElem hk)
theorem RfFind_tri (m : Nat) (r : List Ent) (last h : Int) (hl : r.length ≤ 256) : Tri tab noExt F.detentref7_Timers_Find [ptr m, i64 h] [RfR m r last] fun v P' => v = i64 (oidx' (fidx r h)) ∧ P' = [RfR m r last] := by
  intro ρ H Rs hs
  apply detentref7_Timers_Find_call
  obtain ⟨s, hs⟩ := Sat.rfOpen hs
  refine loopP_invK (I := fun n T H => T.length = 26 ∧ sl T 0 = ptr m ∧ sl T 1 = i64 h ∧ ∃ i : Nat, sl T 5 = i64 i ∧ i ≤ r.length ∧ n = r.length - i ∧ (∀ (k : Nat) (x : Ent), k < i → r[k]? = some x → x.handle ≠ h) ∧ Sat ρ H (Cel m [s, .int .i64 last] :: Row encR 3 s r :: Rs)) ?_ r.length _ _ ⟨rfl, rfl, rfl, 0, rfl, Nat.zero_le _, rfl, by omega, (hs.bump _).bump _⟩
  intro n T H ⟨hT, s0, s1, i, s5, hi, hn, hno, hs⟩ K kn kr ko
  rw [detentref7_Timers_Find_l0_at hT]
  have hb := hs.cel
  have hlen := hs.swap.rowLen
  by_cases hlt : i < r.length
  · have hlt' : (i : Int) < (r.length : Int) := by omega
    obtain ⟨b, c, j, rfl, hb2, _, _⟩ := hs.swap.rowBlk (by omega)
    obtain ⟨e, he⟩ := get_ex hlt
    have hc := flat_cell encR_len (j := j) he 0 (by omega)
    simp [encR] at hc
    have w1 : IntKind.i64.wrap ((i : Int) + 1) = (i : Int) + 1 := wrap_i64 (by omega) (by omega)
    by_cases hh : e.handle = h
    · simp [s0, s1, s5, hb, hb2, hlt, hlt', hc, hh]
      refine kr _ _ ?_
      simp [fidx_of he hh hno, oidx']
      exact Sat.rfClose (by (repeat refine Sat.bump ?_ _); exact hs)
    · simp [s0, s1, s5, hb, hb2, hlt, hlt', hc, w1, hh]
      refine kn (r.length - (i + 1)) _ _ (by omega) ⟨rfl, rfl, rfl, i + 1, rfl, hlt, rfl, fun k x hk hx => ?_, by (repeat refine Sat.bump ?_ _); exact hs⟩
      by_cases hki : k = i
      · subst hki
        rw [he] at hx; cases hx; exact hh
      · exact hno k x (by omega) hx
  · have hlt' : ¬ (i : Int) < (r.length : Int) := by omega
    have hie : i = r.length := by omega
    subst hie
    simp [s0, s1, s5, hb, hlen]
    refine ko _ _ _ ?_
    simp only [blockK_out, if_true, seqK_norm]
    rw [detentref7_Timers_Find_s1_at rfl]
    simp [fidx_no hno, oidx']
    exact Sat.rfClose (by (repeat refine Sat.bump ?_ _); exact hs)
def IsLeast (r : List Ent) (k : Nat) (e : Ent) : Prop := r[k]? = some e ∧ (∀ (i : Nat) (x : Ent), r[i]? = some x → e.at_ ≤ x.at_) ∧ ∀ (i : Nat) (x : Ent), i < k → r[i]? = some x → e.at_ < x.at_
theorem RfLeast_tri (m : Nat) (r : List Ent) (last : Int) (hl : r.length ≤ 256) : Tri tab noExt F.detentref7_Timers_least [ptr m] [RfR m r last] fun v P' => P' = [RfR m r last] ∧ ((r = [] ∧ v = i64 (-1)) ∨ ∃ k e, v = i64 (k : Nat) ∧ IsLeast r k e) := by
  intro ρ H Rs hs
  apply detentref7_Timers_least_call
  obtain ⟨s, hs⟩ := Sat.rfOpen hs
  refine loopP_invK (I := fun n T H => T.length = 37 ∧ sl T 0 = ptr m ∧ ∃ i : Nat, sl T 4 = i64 i ∧ i ≤ r.length ∧ n = r.length - i ∧ ((i = 0 ∧ sl T 3 = i64 (-1)) ∨ ∃ k e, sl T 3 = i64 (k : Nat) ∧ k < i ∧ r[k]? = some e ∧ (∀ (j : Nat) (x : Ent), j < i → r[j]? = some x → e.at_ ≤ x.at_) ∧ ∀ (j : Nat) (x : Ent), j < k → r[j]? = some x → e.at_ < x.at_) ∧ Sat ρ H (Cel m [s, .int .i64 last] :: Row encR 3 s r :: Rs)) ?_ r.length _ _ ⟨rfl, rfl, 0, rfl, Nat.zero_le _, rfl, .inl ⟨rfl, rfl⟩, ((hs.bump _).bump _).bump _⟩
  intro n T H ⟨hT, s0, i, s4, hi, hn, hk, hs⟩ K kn kr ko
  rw [detentref7_Timers_least_l0_at hT]
  have hb := hs.cel
  have hlen := hs.swap.rowLen
  by_cases hlt : i < r.length
  · have hlt' : (i : Int) < (r.length : Int) := by omega
    obtain ⟨b, c, j, rfl, hb2, _, _⟩ := hs.swap.rowBlk (by omega)
    obtain ⟨e, he⟩ := get_ex hlt
    have hc := flat_cell encR_len (j := j) he 1 (by omega)
    simp [encR] at hc
    have w1 : IntKind.i64.wrap ((i : Int) + 1) = (i : Int) + 1 := wrap_i64 (by omega) (by omega)
    have hm1 : r.length - (i + 1) < n := by omega
    rcases hk with ⟨rfl, s3⟩ | ⟨k, ek, s3, hki, hek, q1, q2⟩
    · simp at hc w1
      have hne : ¬ r = [] := fun h => by rw [h] at hlt; simp at hlt
      simp [s0, s3, s4, hb, hne, hlt, w1]
      refine kn (r.length - (0 + 1)) _ _ hm1 ⟨rfl, rfl, 1, rfl, hlt, rfl, .inr ⟨0, e, rfl, by omega, he, fun j x hj hx => ?_, by omega⟩, by (repeat refine Sat.bump ?_ _); exact hs⟩
      rw [show j = 0 by omega, he] at hx; cases hx; exact Int.le_refl _
    · have hkl : k < r.length := by omega
      have hkl' : (k : Int) < (r.length : Int) := by omega
      have hck := flat_cell encR_len (j := j) hek 1 (by omega)
      simp [encR] at hck
      have n0 : ¬ (k : Int) < 0 := by omega
      by_cases hlt2 : e.at_ < ek.at_
      · simp [s0, s3, s4, hb, hb2, hlt, hlt', hkl, hkl', hc, hck, n0, w1, hlt2]
        refine kn (r.length - (i + 1)) _ _ hm1 ⟨rfl, rfl, i + 1, rfl, hlt, rfl, .inr ⟨i, e, rfl, by omega, he, fun j x hj hx => ?_, fun j x hj hx => ?_⟩, by (repeat refine Sat.bump ?_ _); exact hs⟩
        · by_cases hji : j = i
          · subst hji; rw [he] at hx; cases hx; exact Int.le_refl _
          · have := q1 j x (by omega) hx; omega
        · have := q1 j x hj hx; omega
      · simp [s0, s3, s4, hb, hb2, hlt, hlt', hkl, hkl', hc, hck, n0, w1, hlt2]
        refine kn (r.length - (i + 1)) _ _ hm1 ⟨rfl, rfl, i + 1, rfl, hlt, rfl, .inr ⟨k, ek, rfl, by omega, hek, fun j x hj hx => ?_, q2⟩, by (repeat refine Sat.bump ?_ _); exact hs⟩
        by_cases hji : j = i
        · subst hji; rw [he] at hx; cases hx; omega
        · exact q1 j x (by omega) hx
  · have fin : ∀ (T : List AV) (H : AH) (v : AV), T.length = 37 → sl T 3 = v → Sat ρ H (Cel m [s, .int .i64 last] :: Row encR 3 s r :: Rs) → ((r = [] ∧ v = i64 (-1)) ∨ ∃ k e, v = i64 (k : Nat) ∧ IsLeast r k e) → wpC tab noExt R.detentref7_Timers_least_s1 T H (retK [.tmp 2] fun v H' => ∃ P', (P' = [RfR m r last] ∧ ((r = [] ∧ v = i64 (-1)) ∨ ∃ k e, v = i64 (k : Nat) ∧ IsLeast r k e)) ∧ Sat ρ H' (P' ++ Rs)) := by
      intro T H v hT t3 hs hv
      rw [detentref7_Timers_least_s1_at hT]
      refine ⟨_, rfl, ?_⟩
      exact ⟨_, ⟨rfl, by subst t3; exact hv⟩, Sat.rfClose (hs.bump _)⟩
    have hie : i = r.length := by omega
    subst hie
    have inr : ∀ j x, r[j]? = some x → j < r.length := fun j x h => (List.getElem?_eq_some_iff.1 h).1
    rcases hk with ⟨h0, s3⟩ | ⟨k, e, s3, hki, hek, q1, q2⟩
    · simp [s0, s4, hb, hlen]
      refine ko _ _ _ ?_
      exact fin _ _ _ rfl s3 (hs.bump _) (.inl ⟨List.length_eq_zero_iff.1 h0, rfl⟩)
    · simp [s0, s4, hb, hlen]
      refine ko _ _ _ ?_
      exact fin _ _ _ rfl s3 (hs.bump _) (.inr ⟨k, e, rfl, hek, fun i x hx => q1 i x (inr i x hx) hx, q2⟩)
theorem RfInsert_tri (m : Nat) (r : List Ent) (last a x : Int) (hl : r.length < 256) (hlast : 0 ≤ last ∧ last < 4611686018427387904) :
    Tri tab noExt F.detentref7_Timers_Insert [ptr m, u64 a, i64 x] [RfR m r last] fun v P' => v = .tup [.s (.int .i64 (last + 1)), .s (.int .i64 0)] ∧ P' = [RfR m (r ++ [⟨a, last + 1, x⟩]) (last + 1)] := by
  intro ρ H Rs hs
  apply detentref7_Timers_Insert_call
  obtain ⟨s, hs⟩ := Sat.rfOpen hs
  have hb := hs.cel
  have hlen := hs.swap.rowLen
  have hl' : ¬ (256 : Int) ≤ (r.length : Int) := by omega
  have w1 : IntKind.i64.wrap (last + 1) = last + 1 := wrap_i64 (by omega) (by omega)
  simp [hb, hlen, hl', w1, -AH.new]
  have hs1 := Sat.set (((hs.bump 2).bump 6).bump 8) [s, .int .i64 (last + 1)]
  have hs2 := hs1.frees 19 [1, 6, 14, 15] (by decide) (by decide)
  simp only [List.map_cons, List.map_nil, List.cons_append, List.nil_append, set_next, bump_next, Nat.add_assoc, Nat.reduceAdd] at hs2
  generalize ((((H.bump 2).bump 6).bump 8).set m (Blk.cells false [s, SV.int IntKind.i64 (last + 1)])).bump 19 = H1 at *
  refine Sat.copy encR_len hs2 (r2 := r) (fun H' h => ?_) ?_ (by omega) ?_
  · exact (h.front 4 (by simp)).rowSrc encR_len
  · exact (hs2.front 5 (by simp)).rowSl
  intro s' H2 _ hs3
  have hb3 := (hs3.front 3 (by simp)).cel
  have hs4 : Sat ρ H2 (Fre (H.next + 30) :: Row encR 3 s' r :: Fre (H.next + 31) :: Cel m [s, .int .i64 (last + 1)] :: Row encR 3 s r :: Rs) := hs3.swap
  simp [hb3, -AH.new]
  refine ⟨_, new_of H2 hs4.fre, ?_⟩
  have hs5 := Sat.mk hs4 (encR ⟨a, last + 1, x⟩)
  have hs6 : Sat ρ _ (Row encR 3 s' r :: Fre (H.next + 31) :: Cel (H.next + 30) (encR ⟨a, last + 1, x⟩) :: Cel m [s, .int .i64 (last + 1)] :: Row encR 3 s r :: Rs) := (hs5.swap.front 2 (by simp)).swap
  obtain ⟨s2, H3, e3, hs7, _⟩ := hs6.append1 encR_len (bytes := 24) (c := 1) (e := ⟨a, last + 1, x⟩) (o := 0) rfl (by simp [encR]) (by omega)
  refine andThen_of' e3 ?_
  have hs8 : Sat ρ H3 (Cel m [s, .int .i64 (last + 1)] :: Row encR 3 s2 (r ++ [⟨a, last + 1, x⟩]) :: Cel (H.next + 30) _ :: Row encR 3 s r :: Rs) := hs7.front 2 (by simp)
  have hb8 := hs8.cel
  simp [hb8]
  refine Sat.rfClose (s := s2) ?_
  have hs9 := Sat.set hs8 [s2, .int .i64 (last + 1)]
  have hs10 : Sat ρ _ (Row encR 3 s r :: Cel m [s2, .int .i64 (last + 1)] :: Row encR 3 s2 (r ++ [⟨a, last + 1, x⟩]) :: Cel (H.next + 30) _ :: Rs) := hs9.front 3 (by simp)
  exact ((hs10.drop.front 2 (by simp)).drop).bump 6
theorem RfCancel_tri (m : Nat) (r : List Ent) (last h : Int) (hl : r.length ≤ 256) : Tri tab noExt F.detentref7_Timers_Cancel [ptr m, i64 h] [RfR m r last] fun v P' => v = bl (fidx r h).isSome ∧ P' = [RfR m (match fidx r h with | none => r | some i => r.eraseIdx i) last] := by
  intro ρ H Rs hs
  apply detentref7_Timers_Cancel_call
  refine (RfFind_tri m r last h hl).use ((hs.bump _).bump _) ?_
  rintro v H1 P' ⟨rfl, rfl⟩ hs
  cases hf : fidx r h with
  | none =>
    simp [oidx']
    exact (by (repeat refine Sat.bump ?_ _); exact hs)
  | some i =>
    obtain ⟨hi, _⟩ := fidx_some hf
    have n0 : ¬ (i : Int) < 0 := by omega
    obtain ⟨s, hs⟩ := Sat.rfOpen hs
    obtain ⟨b, c, j, rfl, hb2, _, hrc⟩ := hs.swap.rowBlk (by omega)
    have hb := hs.cel
    simp [oidx', n0, hb, -AH.new]
    have hs2 := (hs.bump 2).frees 9 [0, 7] (by decide) (by decide)
    simp only [List.map_cons, List.map_nil, List.cons_append, List.nil_append, set_next, bump_next, Nat.add_assoc, Nat.reduceAdd] at hs2
    refine ⟨_, new_of _ hs2.fre, ?_⟩
    have hs3 := Sat.mk hs2 []
    generalize ((H1.bump 2).bump 9).set (H1.next + 2) (Blk.cells false []) = H5 at *
    have hb3 := (hs3.front 2 (by simp)).cel
    have hic : i ≤ c := by omega
    simp [hb3, hic]
    have hs4 : Sat ρ _ (Row encR 3 (.slice (some (H1.next + 2, 0)) 0 0 3) [] :: Fre (H1.next + 9) :: Cel m [.slice (some (b, 0)) r.length c 3, .int .i64 last] :: Row encR 3 (.slice (some (b, 0)) r.length c 3) r :: Rs) := Sat.mkRow (r := []) (j := []) (c := 0) hs3 (by simp) (by simp)
    have hx1 := (hs4.front 3 (by simp)).partSrc encR_len (o := 0) (l := 0) (n := i) (c' := c) rfl (by omega)
    have ht : (r.take i).length = i := by rw [List.length_take]; omega
    obtain ⟨s1, H2, e2, hs5, _⟩ := hs4.append encR_len (n := 0) (bytes := 24) (x := .s (.slice (some (b, 0)) i c 3)) (r2 := r.take i) (by rw [ht]; simpa using hx1) (by rw [ht]; rfl) (by rw [ht]; simp; omega)
    refine andThen_of' e2 ?_
    have hb5 := (hs5.front 1 (by simp)).cel
    have w1 : IntKind.i64.wrap ((i : Int) + 1) = (i : Int) + 1 := wrap_i64 (by omega) (by omega)
    have g1 : (0 : Int) ≤ (i : Int) + 1 := by omega
    have g2 : (i : Int) + 1 ≤ (r.length : Int) := by omega
    have g3 : ((i : Int) + 1).toNat = i + 1 := by omega
    simp [hb5, w1, g1, g2, g3]
    have hs6 := hs5.frees 13 [9] (by decide) (by decide)
    have hs6 : Sat ρ (H2.bump 13) (Row encR 3 s1 ([] ++ r.take i) :: Fre (H2.next + 9) :: Cel m [.slice (some (b, 0)) r.length c 3, .int .i64 last] :: Row encR 3 (.slice (some (b, 0)) r.length c 3) r :: Rs) := hs6.swap
    have hx2 := (hs6.front 3 (by simp)).partSrc encR_len (o := (i + 1) * 3) (l := i + 1) (n := r.length - (i + 1)) (c' := c - (i + 1)) rfl (by omega)
    have hd : (r.drop (i + 1)).length = r.length - (i + 1) := by rw [List.length_drop]
    have hd2 : (r.drop (i + 1)).take (r.length - (i + 1)) = r.drop (i + 1) := List.take_of_length_le (by omega)
    rw [hd2] at hx2
    obtain ⟨s2, H3, e3, hs7, _⟩ := hs6.append encR_len (n := 0) (bytes := 24) (x := .s (.slice (some (b, (i + 1) * 3)) (r.length - (i + 1)) (c - (i + 1)) 3)) (r2 := r.drop (i + 1)) (by rw [hd]; exact hx2) (by rw [hd]; rfl) (by rw [hd]; simp; omega)
    refine andThen_of' e3 ?_
    have hs8 : Sat ρ H3 (Cel m [.slice (some (b, 0)) r.length c 3, .int .i64 last] :: Row encR 3 s2 ([] ++ r.take i ++ r.drop (i + 1)) :: Row encR 3 (.slice (some (b, 0)) r.length c 3) r :: Rs) := hs7.swap
    have hb8 := hs8.cel
    simp [hb8]
    refine Sat.rfClose (s := s2) ?_
    have hs9 := Sat.set hs8 [s2, .int .i64 last]
    have hs10 : Sat ρ _ (Cel m [s2, .int .i64 last] :: Row encR 3 s2 ([] ++ r.take i ++ r.drop (i + 1)) :: Rs) := ((hs9.front 2 (by simp)).drop)
    rw [List.eraseIdx_eq_take_drop_succ]
    simpa using hs10.bump 1
end Go.AM

/-
  nums, heap: what the small functions give.
-/
namespace Go.AM
attribute [local simp] AH.ld AH.ldn AH.stn AH.new Nat.add_assoc resA
def Same (H H' : AH) : Prop := H.next ≤ H'.next ∧ ∀ b, b < H.next → H'.blk b = H.blk b
theorem Same.refl (H : AH) : Same H H := ⟨Nat.le_refl _, fun _ _ => rfl⟩
theorem Same.trans {H H1 H2 : AH} (h : Same H H1) (h' : Same H1 H2) : Same H H2 := ⟨Nat.le_trans h.1 h'.1, fun b hb => (h'.2 b (Nat.lt_of_lt_of_le hb h.1)).trans (h.2 b hb)⟩
theorem Same.bump {H H' : AH} (h : Same H H') (n : Nat) : Same H (H'.bump n) := ⟨Nat.le_trans h.1 (Nat.le_add_right _ _), h.2⟩
theorem Same.set {H H' : AH} (h : Same H H') {b : Nat} (hb : H.next ≤ b) (x : Blk) : Same H (H'.set b x) := ⟨h.1, fun c hc => by simp only [set_blk]; rw [if_neg (by omega)]; exact h.2 c hc⟩
def But (S : List Nat) (H H' : AH) : Prop := H.next ≤ H'.next ∧ ∀ b, b < H.next → b ∉ S → H'.blk b = H.blk b
theorem But.refl (S : List Nat) (H : AH) : But S H H := ⟨Nat.le_refl _, fun _ _ _ => rfl⟩
theorem But.trans {S : List Nat} {H H1 H2 : AH} (h : But S H H1) (h' : But S H1 H2) : But S H H2 := ⟨Nat.le_trans h.1 h'.1, fun b hb hs => (h'.2 b (Nat.lt_of_lt_of_le hb h.1) hs).trans (h.2 b hb hs)⟩
theorem But.bump {S : List Nat} {H H' : AH} (h : But S H H') (n : Nat) : But S H (H'.bump n) := ⟨Nat.le_trans h.1 (Nat.le_add_right _ _), h.2⟩
theorem But.set {S : List Nat} {H H' : AH} (h : But S H H') {b : Nat} (hb : b ∈ S ∨ H.next ≤ b) (x : Blk) : But S H (H'.set b x) := ⟨h.1, fun c hc hs => by
  simp only [set_blk]
  rw [if_neg (fun he => by subst he; rcases hb with hb | hb; exact hs hb; omega)]
  exact h.2 c hc hs⟩
theorem Same.but {H H' : AH} (h : Same H H') (S : List Nat) : But S H H' := ⟨h.1, fun b hb _ => h.2 b hb⟩
theorem But.same {H H' : AH} (h : But [] H H') : Same H H' := ⟨h.1, fun b hb => h.2 b hb (by simp)⟩
theorem But.mono {S S' : List Nat} {H H' : AH} (h : But S H H') (hs : ∀ b ∈ S, b ∈ S') : But S' H H' := ⟨h.1, fun b hb hn => h.2 b hb (fun hc => hn (hs b hc))⟩
theorem nums_Rel_spec (d : Int) (H : AH) (h1 : -9223372036854775808 ≤ d) (h2 : d < 9223372036854775808) :
    CallP tab noExt F.nums_Rel [i64 d] H fun v H' => v = (if d < 0 ∨ 2147483647 < d then .tup [.s (.int .u64 0), .s (.int .i64 (-17))] else .tup [.s (.int .u64 d), .s (.int .i64 0)]) ∧ Same H H' := by
  apply nums_Rel_call
  by_cases h : d < 0
  · simp [h, AV.part?]
    exact ((Same.refl _).bump _).bump _ |>.bump _
  · by_cases h' : 2147483647 < d
    · simp [h, h', AV.part?]
      exact ((Same.refl _).bump _).bump _ |>.bump _
    · have hw : IntKind.u64.wrap d = d := wrap_u64 (by omega) (by omega)
      simp [h, h', AV.part?, hw]
      exact ((Same.refl _).bump _).bump _ |>.bump _
def encE (e : Ent) : List SV := [.int .u64 e.at_, .int .i64 e.handle, .int .i64 e.arg]
theorem encE_len (e : Ent) : (encE e).length = 3 := rfl
abbrev slE (b n c : Nat) : AV := .s (.slice (some (b, 0)) n c 3)
theorem WF.free {H : AH} (h : WF H) (k : Nat) : H.blk (H.next + k) = none := h _ (Nat.le_add_right _ _)
theorem ahead_spec (b n c : Nat) (r : List Ent) (hn : r.length = n) (j : List SV) (i k : Nat) (H : AH) (hw : WF H) (hbn : b < H.next) (hb : H.blk b = some (.cells false (flat encE r ++ j))) (hi : i < r.length) (hk : k < r.length) :
    CallP tab noExt F.heap_row_ahead [slE b n c, i64 i, i64 k] H fun v H' => v = bl (aheadB r[i] r[k]) ∧ Same H H' := by
  subst hn
  apply heap_row_ahead_call
  have f1 : i * 3 + 3 ≤ (flat encE r).length + j.length := by simpa using flat_fit encE_len r j i hi
  have f2 : k * 3 + 3 ≤ (flat encE r).length + j.length := by simpa using flat_fit encE_len r j k hk
  have g1 := flat_ldn encE_len r j i hi
  have g2 := flat_ldn encE_len r j k hk
  have n1 : ∀ m, ¬ H.next + m = b := fun m => by omega
  have n2 : ∀ m, ¬ b = H.next + m := fun m => by omega
  have hf := hw.free
  have hsame : ∀ H', But [] H H' → Same H H' := fun _ h => h.same
  by_cases h1 : r[i].at_ < r[k].at_
  · simp [hi, hk, hb, f1, f2, g1, g2, hf, n1, n2, encE, h1, aheadB]
    repeat (first | exact Same.refl _ | refine Same.bump ?_ _ | refine Same.set ?_ (by omega) _)
  · by_cases h2 : r[i].at_ = r[k].at_
    · simp [hi, hk, hb, f1, f2, g1, g2, hf, n1, n2, encE, h1, h2, aheadB]
      repeat (first | exact Same.refl _ | refine Same.bump ?_ _ | refine Same.set ?_ (by omega) _)
    · simp [hi, hk, hb, f1, f2, g1, g2, hf, n1, n2, encE, h1, h2, aheadB]
      repeat (first | exact Same.refl _ | refine Same.bump ?_ _ | refine Same.set ?_ (by omega) _)
theorem half (n : Nat) : ((n : Int).tdiv 2) = ((n / 2 : Nat) : Int) := by rw [Int.tdiv_eq_ediv_of_nonneg (by omega)]; omega
theorem aheadD {r : List Ent} {i k : Nat} (hi : i < r.length) (hk : k < r.length) : aheadB (r.getD i default) (r.getD k default) = aheadB r[i] r[k] := by rw [getD_get hi, getD_get hk]
theorem up_spec (b n c : Nat) (j : List SV) (H0 : AH) (hbn : b < H0.next) (r0 : List Ent) (hn : r0.length = n) (hc : n < 4611686018427387904) (i0 : Nat) (hi0 : i0 < n ∨ i0 = 0) (hw : WF H0) (hb : H0.blk b = some (.cells false (flat encE r0 ++ j))) :
    CallP tab noExt F.heap_row_up [slE b n c, i64 i0] H0 fun v H' => v = unit ∧ H'.blk b = some (.cells false (flat encE (upF r0 i0) ++ j)) ∧ But [b] H0 H' := by
  apply heap_row_up_call
  refine loopP_inv (I := fun i T H => T.length = 35 ∧ sl T 0 = slE b n c ∧ sl T 1 = i64 i ∧ ∃ r, r.length = n ∧ upF r i = upF r0 i0 ∧ (i < n ∨ i = 0) ∧ WF H ∧ H.blk b = some (.cells false (flat encE r ++ j)) ∧ But [b] H0 H) ?_ i0 _ _ ?_
  · intro i T H ⟨hT, s0, s1, r, hr, hu, hi, hwf, hbl, hbut⟩
    rw [heap_row_up_l0_at hT]
    have hbn' : b < H.next := Nat.lt_of_lt_of_le hbn hbut.1
    by_cases h0 : 0 < i
    · have hi' : i < r.length := by omega
      have hi2 : i < n := by omega
      have hp' : (i - 1) / 2 < r.length := by omega
      have hp2 : (i - 1) / 2 < n := by omega
      have w1 : IntKind.i64.wrap ((i : Int) - 1) = ((i - 1 : Nat) : Int) := by rw [wrap_i64 (by omega) (by omega)]; omega
      have w2 : IntKind.i64.wrap (((i - 1) / 2 : Nat) : Int) = (((i - 1) / 2 : Nat) : Int) := by rw [wrap_i64 (by omega) (by omega)]
      have w3 := half (i - 1)
      generalize hp : (i - 1) / 2 = p at *
      simp only [s0, s1, andThen_some, binA_gtr, condP_bool]
      simp [h0, w1, w3, w2]
      refine (ahead_spec b n c r hr j i p (H.bump 10) (hwf.bump _) (by simp; omega) hbl hi' hp').mono_wf tab_wf noExt_wf noExt_next (hwf.bump _) ?_
      rintro v H1 hw1 hle ⟨rfl, hs⟩
      have hb1 : H1.blk b = some (.cells false (flat encE r ++ j)) := (hs.2 b (by simp; omega)).trans hbl
      have hbn1 : b < H1.next := by simp at hle; omega
      have hbut1 : But [b] H0 H1 := (hbut.bump 10).trans (hs.but _)
      have f1 : i * 3 + 3 ≤ (flat encE r).length + j.length := by simpa using flat_fit encE_len r j i hi'
      have f2 : p * 3 + 3 ≤ (flat encE r).length + j.length := by simpa using flat_fit encE_len r j p hp'
      have g1 := flat_ldn encE_len r j i hi'
      have g2 := flat_ldn encE_len r j p hp'
      have q1 := flat_splice encE_len r j i hi' r[p]
      have q2 := flat_splice encE_len (r.set i r[p]) j p (by simpa using hp') r[i]
      have f3 : p * 3 + 3 ≤ (flat encE (r.set i r[p])).length + j.length := by simpa using flat_fit encE_len (r.set i r[p]) j p (by simpa using hp')
      cases ha : aheadB r[i] r[p]
      · simp
        have : upF r i = r := by rw [upF, dif_neg]; rw [hp, aheadD hi' hp', ha]; simp
        rw [hb1, ← hu, this]
        exact ⟨rfl, hbut1⟩
      · simp [hb1, hi2, hp2, f1, f2, g1, g2, q1, encE_len, q2, f3]
        refine ⟨p, by omega, rfl, rfl, _, ?_, ?_, Or.inl hp2, ?_, rfl, ?_⟩
        · simpa using hr
        · rw [← hu]
          conv => rhs; rw [upF, dif_pos ⟨h0, by rw [hp, aheadD hi' hp', ha]⟩]
          simp [hp, swapE, hi', hp']
        · (repeat (first | assumption | exact Same.refl _ | exact But.refl _ _ | refine Same.bump ?_ _ | refine Same.set ?_ (by first | omega | (simp <;> omega)) _ | refine But.bump ?_ _ | refine But.set ?_ (by simp) _ | refine But.set ?_ (by first | omega | (simp <;> omega)) _ | refine WF.bump ?_ _ | refine WF.set ?_ (by first | omega | (simp <;> omega)) _))
        · (repeat (first | assumption | exact Same.refl _ | exact But.refl _ _ | refine Same.bump ?_ _ | refine Same.set ?_ (by first | omega | (simp <;> omega)) _ | refine But.bump ?_ _ | refine But.set ?_ (by simp) _ | refine But.set ?_ (by first | omega | (simp <;> omega)) _ | refine WF.bump ?_ _ | refine WF.set ?_ (by first | omega | (simp <;> omega)) _))
    · simp [s0, s1, h0]
      have : upF r i = r := by rw [upF, dif_neg]; simp [h0]
      rw [hbl, ← hu, this]
      exact ⟨rfl, hbut.bump _⟩
  · exact ⟨rfl, rfl, rfl, r0, hn, rfl, hi0, hw, hb, But.refl _ _⟩
theorem down_s0 (b n c : Nat) (j : List SV) (r : List Ent) (hr : r.length = n) (hc : n < 4611686018427387904) (i k : Nat) (hi : i < n) (T : List AV) (H : AH) (hT : T.length = 48) (s0 : sl T 0 = slE b n c) (s1 : sl T 1 = i64 i) (s4 : sl T 4 = i64 k)
    (hwf : WF H) (hbn : b < H.next) (hbl : H.blk b = some (.cells false (flat encE r ++ j))) (K : Ex → List AV → AH → Prop)
    (k1 : ∀ T' H', T'.length = 48 → H'.blk b = some (.cells false (flat encE r ++ j)) → But [b] H H' → ¬ (k < r.length ∧ aheadB (r.getD k default) (r.getD i default) = true) → K .ret T' H')
    (k2 : ∀ T' H', T'.length = 48 → sl T' 0 = slE b n c → sl T' 1 = i64 k → WF H' → H'.blk b = some (.cells false (flat encE (swapE r i k) ++ j)) → But [b] H H' → k < r.length → aheadB (r.getD k default) (r.getD i default) = true → K .norm T' H') :
    wpC tab noExt R.heap_row_down_s0 T H K := by
  rw [heap_row_down_s0_at hT]
  have hi' : i < r.length := by omega
  by_cases hk : k < n
  · have hk' : k < r.length := by omega
    have hk3 : ¬ n ≤ k := by omega
    simp [s0, s1, s4, hk3]
    refine (ahead_spec b n c r hr j k i (H.bump 11) (hwf.bump _) (by simp; omega) hbl hk' hi').mono_wf tab_wf noExt_wf noExt_next (hwf.bump _) ?_
    rintro v H1 hw1 hle ⟨rfl, hs⟩
    have hb1 : H1.blk b = some (.cells false (flat encE r ++ j)) := (hs.2 b (by simp; omega)).trans hbl
    have hbn1 : b < H1.next := by simp at hle; omega
    have hbut1 : But [b] H H1 := ((But.refl _ _).bump 11).trans (hs.but _)
    have f1 : i * 3 + 3 ≤ (flat encE r).length + j.length := by simpa using flat_fit encE_len r j i hi'
    have f2 : k * 3 + 3 ≤ (flat encE r).length + j.length := by simpa using flat_fit encE_len r j k hk'
    have g1 := flat_ldn encE_len r j i hi'
    have g2 := flat_ldn encE_len r j k hk'
    have q1 := flat_splice encE_len r j i hi' r[k]
    have q4 := flat_splice encE_len (r.set i r[k]) j k (by simpa using hk') r[i]
    have f4 : k * 3 + 3 ≤ (flat encE (r.set i r[k])).length + j.length := by simpa using flat_fit encE_len (r.set i r[k]) j k (by simpa using hk')
    cases ha : aheadB r[k] r[i]
    · simp
      refine k1 _ _ rfl hb1 hbut1 ?_
      rw [aheadD hk' hi', ha]; simp
    · simp [hb1, hk, hi, f1, f2, g1, g2, q1, encE_len, q4, f4]
      refine k2 _ _ rfl rfl rfl ?_ ?_ ?_ hk' ?_
      · (repeat (first | assumption | exact Same.refl _ | exact But.refl _ _ | refine Same.bump ?_ _ | refine Same.set ?_ (by first | omega | (simp <;> omega)) _ | refine But.bump ?_ _ | refine But.set ?_ (by simp) _ | refine But.set ?_ (by first | omega | (simp <;> omega)) _ | refine WF.bump ?_ _ | refine WF.set ?_ (by first | omega | (simp <;> omega)) _))
      · simp [swapE, hi', hk']
      · (repeat (first | assumption | exact Same.refl _ | exact But.refl _ _ | refine Same.bump ?_ _ | refine Same.set ?_ (by first | omega | (simp <;> omega)) _ | refine But.bump ?_ _ | refine But.set ?_ (by simp) _ | refine But.set ?_ (by first | omega | (simp <;> omega)) _ | refine WF.bump ?_ _ | refine WF.set ?_ (by first | omega | (simp <;> omega)) _))
      · rw [aheadD hk' hi', ha]
  · have hk3 : n ≤ k := by omega
    simp [s0, s1, s4, hk3]
    refine k1 _ _ rfl hbl ?_ (by omega)
    (repeat (first | assumption | exact Same.refl _ | exact But.refl _ _ | refine Same.bump ?_ _ | refine Same.set ?_ (by first | omega | (simp <;> omega)) _ | refine But.bump ?_ _ | refine But.set ?_ (by simp) _ | refine But.set ?_ (by first | omega | (simp <;> omega)) _ | refine WF.bump ?_ _ | refine WF.set ?_ (by first | omega | (simp <;> omega)) _))
theorem down_spec (b n c : Nat) (j : List SV) (H0 : AH) (hbn : b < H0.next) (r0 : List Ent) (hn : r0.length = n) (hc : n < 2305843009213693952) (i0 : Nat) (hi0 : i0 < n) (hw : WF H0) (hb : H0.blk b = some (.cells false (flat encE r0 ++ j))) :
    CallP tab noExt F.heap_row_down [slE b n c, i64 i0] H0 fun v H' => v = unit ∧ H'.blk b = some (.cells false (flat encE (downF r0 i0) ++ j)) ∧ But [b] H0 H' := by
  apply heap_row_down_call
  refine loopP_inv (I := fun m T H => T.length = 48 ∧ sl T 0 = slE b n c ∧ ∃ i : Nat, sl T 1 = i64 i ∧ m = n - i ∧ ∃ r, r.length = n ∧ downF r i = downF r0 i0 ∧ i < n ∧ WF H ∧ H.blk b = some (.cells false (flat encE r ++ j)) ∧ But [b] H0 H) ?_ (n - i0) _ _ ?_
  · intro m T H ⟨hT, s0, i, s1, hm, r, hr, hu, hi, hwf, hbl, hbut⟩
    rw [heap_row_down_l1_at hT]
    have hbn' : b < H.next := Nat.lt_of_lt_of_le hbn hbut.1
    have w1 : IntKind.i64.wrap (2 * (i : Int)) = ((2 * i : Nat) : Int) := by rw [wrap_i64 (by omega) (by omega)]; omega
    have w2 : IntKind.i64.wrap (((2 * i : Nat) : Int) + 1) = ((2 * i + 1 : Nat) : Int) := by rw [wrap_i64 (by omega) (by omega)]; omega
    have w3 : IntKind.i64.wrap (((2 * i + 1 : Nat) : Int) + 1) = ((2 * i + 2 : Nat) : Int) := by rw [wrap_i64 (by omega) (by omega)]; omega
    have tail : ∀ (T1 : List AV) (H1 : AH), T1.length = 48 → sl T1 0 = slE b n c → sl T1 1 = i64 i → sl T1 4 = i64 (kid r i) → WF H1 → H1.blk b = some (.cells false (flat encE r ++ j)) → But [b] H0 H1 →
        wpC tab noExt R.heap_row_down_s0 T1 H1 (blockK 1 (seqK (fun T' H' => ∃ m', m' < m ∧ T'.length = 48 ∧ sl T' 0 = slE b n c ∧ ∃ i : Nat, sl T' 1 = i64 i ∧ m' = n - i ∧ ∃ r, r.length = n ∧ downF r i = downF r0 i0 ∧ i < n ∧ WF H' ∧ H'.blk b = some (.cells false (flat encE r ++ j)) ∧ But [b] H0 H') (blockK 0 (retK [] fun v H' => v = unit ∧ H'.blk b = some (.cells false (flat encE (downF r0 i0) ++ j)) ∧ But [b] H0 H')))) := by
      intro T1 H1 hT1 t0 t1 t4 hw1 hb1 hbut1
      have hg := kid_gt r i
      refine down_s0 b n c j r hr (by omega) i (kid r i) hi T1 H1 hT1 t0 t1 t4 hw1 (Nat.lt_of_lt_of_le hbn hbut1.1) hb1 _ ?_ ?_
      · intro T' H' hT' hb2 hbut2 hno
        have hd : downF r i = r := by rw [downF, dif_neg hno]
        simp
        exact ⟨by rw [hb2, ← hu, hd], hbut1.trans hbut2⟩
      · intro T' H' hT' u0 u1 hw2 hb2 hbut2 hk ha
        simp only [blockK_norm, seqK_norm]
        refine ⟨n - kid r i, by omega, hT', u0, kid r i, u1, rfl, swapE r i (kid r i), by rw [swapE_len, hr], ?_, by omega, hw2, hb2, hbut1.trans hbut2⟩
        rw [← hu]
        conv => rhs; rw [downF, dif_pos ⟨hk, ha⟩]
    generalize hg1 : 2 * i + 1 = k1 at *
    generalize hg2 : 2 * i + 2 = k2 at *
    generalize hg0 : 2 * i = k0 at *
    by_cases h2 : k2 < n
    · have hk1 : k1 < r.length := by omega
      have hk2 : k2 < r.length := by omega
      simp [s0, s1, w1, w2, w3, h2]
      refine (ahead_spec b n c r hr j k2 k1 (H.bump 16) (hwf.bump _) (by simp; omega) hbl hk2 hk1).mono_wf tab_wf noExt_wf noExt_next (hwf.bump _) ?_
      rintro v H1 hw1 hle ⟨rfl, hs⟩
      have hb1 : H1.blk b = some (.cells false (flat encE r ++ j)) := (hs.2 b (by simp; omega)).trans hbl
      have hbn1 : b < H1.next := by simp at hle; omega
      have hbut1 : But [b] H0 H1 := (hbut.bump 16).trans (hs.but _)
      cases ha : aheadB r[k2] r[k1]
      · simp
        have hkid : kid r i = k1 := by unfold kid; rw [show 2 * i + 2 = k2 by omega, show 2 * i + 1 = k1 by omega, if_neg]; rw [aheadD hk2 hk1, ha]; simp
        refine tail _ _ rfl rfl rfl ?_ hw1 hb1 hbut1
        rw [hkid]; rfl
      · simp [w3]
        have hkid : kid r i = k2 := by unfold kid; rw [show 2 * i + 2 = k2 by omega, show 2 * i + 1 = k1 by omega, if_pos]; rw [aheadD hk2 hk1, ha]; simp [hk2]
        refine tail _ _ rfl rfl rfl ?_ (hw1.bump _) hb1 (hbut1.bump _)
        rw [hkid]; rfl
    · simp [s0, s1, w1, w2, w3, h2]
      have hkid : kid r i = k1 := by unfold kid; rw [show 2 * i + 2 = k2 by omega, show 2 * i + 1 = k1 by omega, if_neg]; omega
      refine tail _ _ rfl rfl rfl ?_ ((hwf.bump _).bump _) hbl ((hbut.bump _).bump _)
      rw [hkid]; rfl
  · exact ⟨rfl, rfl, i0, rfl, rfl, r0, hn, rfl, hi0, hw, hb, But.refl _ _⟩
end Go.AM

/-
  heap: rows on the heap; Insert, remove, find.
-/
namespace Go.AM
attribute [local simp] AH.ld AH.ldn AH.stn AH.new Nat.add_assoc resA fillA buildA slSlA boundsA boundA
theorem andThen_of {α : Type} {o : Option α} {a : α} {K : α → Prop} (h : o = some a) (hk : K a) : andThen o K := ⟨a, h, hk⟩
section
variable {α : Type} (enc : α → List SV) (k : Nat)
def RowAt (H : AH) (s : SV) (r : List α) (S : List Nat) : Prop :=
  (∃ e, s = .slice none 0 0 e ∧ r = [] ∧ S = []) ∨ ∃ b c j, s = .slice (some (b, 0)) r.length c k ∧ S = [b] ∧ b < H.next ∧ H.blk b = some (.cells false (flat enc r ++ j)) ∧ c * k ≤ (flat enc r ++ j).length ∧ r.length ≤ c
variable {enc k}
theorem RowAt.frame {H H' : AH} {s : SV} {r : List α} {S : List Nat} (h : RowAt enc k H s r S) (hn : H.next ≤ H'.next) (hb : ∀ b ∈ S, H'.blk b = H.blk b) : RowAt enc k H' s r S := by
  rcases h with h | ⟨b, c, j, h1, h2, h3, h4, h5⟩
  · exact .inl h
  · exact .inr ⟨b, c, j, h1, h2, by omega, by rw [hb b (by simp [h2])]; exact h4, h5⟩
theorem RowAt.lt {H : AH} {s : SV} {r : List α} {S : List Nat} (h : RowAt enc k H s r S) : ∀ b ∈ S, b < H.next := by
  rcases h with ⟨_, _, _, rfl⟩ | ⟨b, c, j, h1, rfl, h3, h4, h5⟩
  · simp
  · simpa using h3
theorem RowAt.len {H : AH} {s : SV} {r : List α} {S : List Nat} (h : RowAt enc k H s r S) : lenA (.s s) = some (i64 r.length) := by
  rcases h with ⟨_, rfl, rfl, _⟩ | ⟨b, c, j, rfl, _⟩ <;> rfl
theorem RowAt.append (hk : ∀ e, (enc e).length = k) {H : AH} {s : SV} {r : List α} {S : List Nat} (h : RowAt enc k H s r S) (e : α) {x id bytes : Nat} {ro : Bool} (hx : H.blk x = some (.cells ro (enc e))) (hxS : x ∉ S) (hid : H.blk id = none) (hidn : id < H.next) (hb : (r.length + 1) * bytes ≤ 70368744177664) :
    ∃ s' H' S', appendA k bytes id (.s s) (.s (.slice (some (x, 0)) 1 1 k)) H = some (.s s', H') ∧ RowAt enc k H' s' (r ++ [e]) S' ∧ H'.next = H.next ∧ (∀ b, b ∉ S → b ≠ id → H'.blk b = H.blk b) ∧ (∀ b ∈ S', b ∈ S ∨ b = id) := by
  have hcells : sliceCells k (.s (.slice (some (x, 0)) 1 1 k)) 1 H = some (enc e) := by
    simp only [sliceCells, ldn_of H hx, Nat.zero_add, Nat.one_mul, hk e]
    rw [if_pos (by simp), if_pos (by omega)]
    simp [← hk e]
  have hsl : slLen (.s (.slice (some (x, 0)) 1 1 k)) = some 1 := rfl
  rcases h with ⟨e0, rfl, rfl, rfl⟩ | ⟨b, c, j, rfl, rfl, h3, h4, h5, h6⟩
  · refine ⟨.slice (some (id, 0)) 1 1 k, H.set id (.cells false (enc e)), [id], ?_, .inr ⟨id, 1, [], rfl, rfl, hidn, by simp [flat], by simp [flat, hk], by simp⟩, rfl, ?_, by simp⟩
    · simp only [appendA, hcells, hsl, Option.bind_some]
      rw [if_pos (by simpa using hb), if_neg (by simp), new_of H hid]
      rfl
    · intro b _ hne; simp [hne]
  · have hfl := flat_len hk r
    by_cases hc : r.length + 1 ≤ c
    · have hle : (r.length + 1) * k ≤ c * k := Nat.mul_le_mul_right _ hc
      have hl : r.length * k + (enc e).length ≤ (flat enc r ++ j).length := by rw [hk]; rw [Nat.add_mul] at hle; omega
      refine ⟨.slice (some (b, 0)) (r.length + 1) c k, H.set b (.cells false (splice (flat enc r ++ j) (r.length * k) (enc e))), [b], ?_, .inr ⟨b, c, j.drop k, by simp, rfl, h3, ?_, ?_, by simpa using hc⟩, rfl, ?_, by simp⟩
      · simp only [appendA, hcells, hsl, Option.bind_some]
        rw [if_pos ⟨trivial, hb⟩, if_pos hc, Nat.zero_add, stn_of H h4 hl]
        rfl
      · rw [set_blk, if_pos rfl]
        congr 2
        unfold splice
        rw [← hfl, List.take_left, hk, ← List.drop_drop, List.drop_left, flat_snoc, List.append_assoc]
      · rw [flat_snoc]
        simp only [List.length_append, hk, List.length_drop] at h5 hl ⊢
        omega
      · intro b' hb' _; simp at hb'; simp [hb']
    · have hne : id ≠ b := fun he => by rw [he, h4] at hid; cases hid
      refine ⟨.slice (some (id, 0)) (r.length + 1) (r.length + 1) k, (H.set b .dead).set id (.cells false (flat enc r ++ enc e)), [id], ?_, .inr ⟨id, r.length + 1, [], by simp, rfl, hidn, ?_, ?_, by simp⟩, rfl, ?_, by simp⟩
      · simp only [appendA, hcells, hsl, Option.bind_some]
        rw [if_pos ⟨trivial, hb⟩, if_neg hc, h4]
        simp only [Nat.zero_add]
        rw [if_pos (by simp [hfl]), new_of _ (by rw [set_blk, if_neg hne]; exact hid)]
        simp only [List.drop_zero, ← hfl, List.take_left, Option.map_some]
      · rw [set_blk, if_pos rfl, flat_snoc, List.append_nil]
      · rw [flat_snoc]; simp [hfl, hk, Nat.add_mul]
      · intro b' hb' hb2; simp at hb'; simp [hb', hb2]
end
def TmR (H : AH) (t : Nat) (r : List Ent) (last : Int) (S : List Nat) : Prop :=
  t < H.next ∧ ∃ s Sr, H.blk t = some (.cells false [s, .int .i64 last]) ∧ RowAt encE 3 H s r Sr ∧ S = t :: Sr ∧ t ∉ Sr
theorem TmR.frame {H H' : AH} {t : Nat} {r : List Ent} {last : Int} {S : List Nat} (h : TmR H t r last S) (hn : H.next ≤ H'.next) (hb : ∀ b ∈ S, H'.blk b = H.blk b) : TmR H' t r last S := by
  obtain ⟨h0, s, Sr, h1, h2, rfl, h4⟩ := h
  exact ⟨by omega, s, Sr, by rw [hb t (by simp)]; exact h1, h2.frame hn fun b hb' => hb b (by simp [hb']), rfl, h4⟩
theorem TmR.lt {H : AH} {t : Nat} {r : List Ent} {last : Int} {S : List Nat} (h : TmR H t r last S) : ∀ b ∈ S, b < H.next := by
  obtain ⟨h0, s, Sr, h1, h2, rfl, h4⟩ := h
  intro b hb
  simp at hb
  rcases hb with rfl | hb
  · exact h0
  · exact h2.lt b hb
theorem Same.tmR {H H' : AH} (h : Same H H') {t : Nat} {r : List Ent} {last : Int} {S : List Nat} (ht : TmR H t r last S) : TmR H' t r last S := ht.frame h.1 fun b hb => h.2 b (ht.lt b hb)
def Own (H H' : AH) (S S' : List Nat) : Prop := But S H H' ∧ ∀ b ∈ S', b ∈ S ∨ H.next ≤ b
theorem Insert_raw (H : AH) (hw : WF H) (t : Nat) (r : List Ent) (last : Int) (S : List Nat) (ht : TmR H t r last S) (a x : Int) (hl : r.length < 256) (hlast : 0 ≤ last ∧ last < 4611686018427387904) :
    CallP tab noExt F.heap_Timers_Insert [ptr t, u64 a, i64 x] H fun v H' => v = .tup [.s (.int .i64 (last + 1)), .s (.int .i64 0)] ∧ ∃ S', TmR H' t (upF (r ++ [⟨a, last + 1, x⟩]) r.length) (last + 1) S' ∧ Own H H' S S' := by
  obtain ⟨h0, s, Sr, h1, h2, rfl, h4⟩ := ht
  apply heap_Timers_Insert_call
  have hlen := h2.len
  have hl' : ¬ (256 : Int) ≤ (r.length : Int) := by omega
  have n1 : ∀ m, ¬ H.next + m = t := fun m => by omega
  have n2 : ∀ m, ¬ t = H.next + m := fun m => by omega
  have hf := hw.free
  have w1 : IntKind.i64.wrap (last + 1) = last + 1 := wrap_i64 (by omega) (by omega)
  simp [h1, hlen, hl, hl', w1, hf, n1, n2]
  generalize hH1 : ((((((H.bump 2).bump 6).bump 8).set t (Blk.cells false [s, SV.int IntKind.i64 (last + 1)])).bump 17).set (H.next + 28) (Blk.cells false [SV.int IntKind.u64 a, SV.int IntKind.i64 (last + 1), SV.int IntKind.i64 x])) = H1
  have e1 : H1.next = H.next + 33 := by rw [← hH1]; simp [Nat.add_assoc]
  have e2 : ∀ b, H1.blk b = if b = H.next + 28 then some (.cells false [SV.int IntKind.u64 a, SV.int IntKind.i64 (last + 1), SV.int IntKind.i64 x]) else if b = t then some (.cells false [s, SV.int IntKind.i64 (last + 1)]) else H.blk b := by intro b; rw [← hH1]; simp
  have l2 := h2.lt
  have h2' : RowAt encE 3 H1 s r Sr := h2.frame (by omega) fun b hb => by
    have := l2 b hb
    rw [e2, if_neg (by omega), if_neg (fun (he : b = t) => h4 (he ▸ hb))]
  obtain ⟨s', H2, S2, ap, hr2, hnx, hoth, hsub⟩ := h2'.append encE_len ⟨a, last + 1, x⟩ (x := H.next + 28) (id := H.next + 29) (bytes := 24) (ro := false) (by rw [e2, if_pos rfl]; rfl) (fun hm => by have := l2 _ hm; omega) (by rw [e2, if_neg (by omega), if_neg (by omega)]; exact hf 29) (by omega) (by omega)
  refine andThen_of ap ?_
  have ht2 : H2.blk t = some (.cells false [s, SV.int IntKind.i64 (last + 1)]) := by rw [hoth t h4 (by omega), e2, if_neg (by omega), if_pos rfl]
  have htS2 : t ∉ S2 := fun hm => by rcases hsub t hm with h | h; exact h4 h; omega
  have hr3 := hr2.frame (H' := (H2.set t (.cells false [s', SV.int IntKind.i64 (last + 1)])).bump 11) (by simp) fun b hb => by simp; intro he; exact absurd (he ▸ hb) htS2
  have hwf2 : WF H2 := fun b hb => by rw [hoth b (fun hm => by have := l2 _ hm; omega) (by omega), e2, if_neg (by omega), if_neg (by omega)]; exact hw b (by omega)
  rcases hr3 with ⟨_, _, hno, _⟩ | ⟨b, c, j, rfl, rfl, hb3, hb4, hb5, hb6⟩
  · simp at hno
  have hl2 : (r ++ [(⟨a, last + 1, x⟩ : Ent)]).length = r.length + 1 := by simp
  have w2 : IntKind.i64.wrap (r.length : Int) = r.length := wrap_i64 (by omega) (by omega)
  rw [hl2] at hb3 hb4 hb6
  simp only [ht2, hl2]
  simp [ht2, w2]
  refine (up_spec b (r.length + 1) c j _ hb3 _ hl2 (by omega) r.length (.inl (by omega)) ((hwf2.set (by omega) _).bump _) (by simpa using hb4)).mono_wf tab_wf noExt_wf noExt_next ((hwf2.set (by omega) _).bump _) ?_
  rintro v H4 hw4 hle ⟨rfl, hb7, hbut⟩
  have htb : t ≠ b := fun he => htS2 (by simp [he])
  have ht4 : H4.blk t = some (.cells false [.slice (some (b, 0)) (r.length + 1) c 3, SV.int IntKind.i64 (last + 1)]) := by
    rw [hbut.2 t (by simp; omega) (by simp [htb])]; simp
  simp [ht4]
  have hnx4 : H2.next + 11 ≤ H4.next := by simpa using hle
  have hul : (upF (r ++ [(⟨a, last + 1, x⟩ : Ent)]) r.length).length = r.length + 1 := by rw [upF_len]; simp
  refine ⟨[t, b], ⟨by simp; omega, _, [b], by simpa using ht4, ?_, rfl, by simpa using htb⟩, ?_, ?_⟩
  · refine .inr ⟨b, c, j, by rw [hul], rfl, by simp at hb3 ⊢; omega, by simpa using hb7, ?_, by rw [hul]; simpa using hb6⟩
    simp only [List.length_append, flat_len encE_len, hul] at hb5 ⊢
    simpa using hb5
  · refine ⟨by simp; omega, fun b' hb' hn' => ?_⟩
    simp at hn'
    have hbn : b' ≠ b := fun he => by
      subst he
      rcases hsub b' (by simp) with h | h
      · exact hn'.2 h
      · omega
    have := hbut.2 b' (by simp; omega) (by simpa using hbn)
    simp only [bump_blk]
    rw [this]
    simp only [bump_blk, set_blk]
    rw [if_neg hn'.1, hoth b' hn'.2 (by omega), e2, if_neg (by omega), if_neg hn'.1]
  · intro b' hb'
    simp at hb'
    rcases hb' with rfl | rfl
    · simp
    · rcases hsub b' (by simp) with h | h
      · simp [h]
      · right; omega
theorem remove_raw (H : AH) (hw : WF H) (t : Nat) (r : List Ent) (last : Int) (S : List Nat) (ht : TmR H t r last S) (i : Nat) (hi : i < r.length) (hl : r.length ≤ 256) :
    CallP tab noExt F.heap_Timers_remove [ptr t, i64 i] H fun v H' => v = unit ∧ TmR H' t (remF r i) last S ∧ But S H H' := by
  obtain ⟨h0, s, Sr, h1, h2, rfl, h4⟩ := ht
  apply heap_Timers_remove_call
  rcases h2 with ⟨_, _, rfl, _⟩ | ⟨b, c, j, rfl, rfl, h3, hb, h5, h6⟩
  · simp at hi
  obtain ⟨n, hn⟩ : ∃ n, r.length = n + 1 := ⟨r.length - 1, by omega⟩
  have htb : ¬ t = b := by simpa using h4
  have hbt : ¬ b = t := fun h => htb h.symm
  rw [hn] at h6
  have hnc : n ≤ c := by omega
  have hnr : n < r.length := by omega
  have hi' : i < n + 1 := by omega
  have hii : (i : Int) < (n : Int) + 1 := by omega
  have w1 : IntKind.i64.wrap (n : Int) = n := wrap_i64 (by omega) (by omega)
  have f1 : i * 3 + 3 ≤ (flat encE r).length + j.length := by simpa using flat_fit encE_len r j i hi
  have f2 : n * 3 + 3 ≤ (flat encE r).length + j.length := by simpa using flat_fit encE_len r j n hnr
  have g2 := flat_ldn encE_len r j n hnr
  have q1 := flat_splice encE_len r j i hi r[n]
  simp [h1, hb, hn, w1, hi', hii, hnc, f1, f2, g2, q1, encE_len, htb, hbt]
  refine ⟨by omega, ?_⟩
  generalize hq : (r.set i r[n]).take n = q
  have hql : q.length = n := by rw [← hq]; simp; omega
  obtain ⟨j', hj', hjl⟩ : ∃ j', flat encE (r.set i r[n]) ++ j = flat encE q ++ j' ∧ True := by
    refine ⟨flat encE ((r.set i r[n]).drop n) ++ j, ?_, trivial⟩
    rw [← List.append_assoc]
    congr 1
    rw [← hq]
    unfold flat
    rw [← List.flatMap_append, List.take_append_drop]
  have hjl2 : (flat encE q ++ j').length = (flat encE r ++ j).length := by rw [← hj']; simp [flat_len encE_len]
  have hrem : remF r i = if i < n then downF (upF q i) i else q := by
    unfold remF
    simp only [hn, Nat.add_sub_cancel]
    rw [getD_get hnr, hq]
  rw [hj']
  have hw2 : WF ((((((H.bump 7).bump 14).set b (Blk.cells false (flat encE q ++ j'))).bump 10).set t (Blk.cells false [SV.slice (some (b, 0)) n c 3, SV.int IntKind.i64 last])).bump 3) := by (repeat (first | assumption | exact Same.refl _ | exact But.refl _ _ | refine Same.bump ?_ _ | refine Same.set ?_ (by first | omega | (simp <;> omega)) _ | refine But.bump ?_ _ | refine But.set ?_ (by simp) _ | refine But.set ?_ (by first | omega | (simp <;> omega)) _ | refine WF.bump ?_ _ | refine WF.set ?_ (by first | omega | (simp <;> omega)) _))
  generalize hH1 : ((((((H.bump 7).bump 14).set b (Blk.cells false (flat encE q ++ j'))).bump 10).set t (Blk.cells false [SV.slice (some (b, 0)) n c 3, SV.int IntKind.i64 last])).bump 3) = H1 at *
  have e1 : H1.next = H.next + 34 := by rw [← hH1]; simp [Nat.add_assoc]
  have eb : H1.blk b = some (.cells false (flat encE q ++ j')) := by rw [← hH1]; simp [hbt]
  have et : H1.blk t = some (.cells false [SV.slice (some (b, 0)) n c 3, SV.int IntKind.i64 last]) := by rw [← hH1]; simp
  have eo : But [t, b] H H1 := ⟨by omega, fun b' _ hb' => by
    simp at hb'
    rw [← hH1]; simp [hb']⟩
  split
  · rename_i hin
    refine (up_spec b n c j' _ (by simp; omega) q hql (by omega) i (.inl hin) (hw2.bump _) eb).mono_wf tab_wf noExt_wf noExt_next (hw2.bump _) ?_
    rintro v H2 hw3 hle ⟨rfl, eb2, but2⟩
    simp at hle
    have et2 : H2.blk t = some (.cells false [SV.slice (some (b, 0)) n c 3, SV.int IntKind.i64 last]) := by rw [but2.2 t (by simp; omega) (by simpa using htb)]; exact et
    simp [et2]
    refine (down_spec b n c j' _ (by simp; omega) (upF q i) (by rw [upF_len, hql]) (by omega) i hin (hw3.bump _) eb2).mono_wf tab_wf noExt_wf noExt_next (hw3.bump _) ?_
    rintro v H3 hw4 hle3 ⟨rfl, eb3, but3⟩
    simp at hle3
    have et3 : H3.blk t = some (.cells false [SV.slice (some (b, 0)) n c 3, SV.int IntKind.i64 last]) := by rw [but3.2 t (by simp; omega) (by simpa using htb)]; exact et2
    rw [hrem, if_pos hin]
    have hdl : (downF (upF q i) i).length = n := by rw [downF_len, upF_len, hql]
    refine ⟨⟨by omega, _, [b], et3, .inr ⟨b, c, j', by rw [hdl], rfl, by omega, eb3, ?_, by omega⟩, rfl, by simpa using htb⟩, ?_⟩
    · simp only [List.length_append, flat_len encE_len, hdl, hql] at hjl2 h5 ⊢
      omega
    · have b1 : But [t, b] H H2 := eo.trans (((But.refl _ H1).bump 6).trans (but2.mono (by simp)))
      exact b1.trans (((But.refl _ H2).bump 6).trans (but3.mono (by simp)))
  · rename_i hin
    rw [hrem, if_neg hin]
    refine ⟨⟨by omega, _, [b], et, .inr ⟨b, c, j', by rw [hql], rfl, by omega, eb, by rw [hjl2]; exact h5, by omega⟩, rfl, by simpa using htb⟩, eo⟩
end Go.AM

/-
  heap: find.
-/
namespace Go.AM
attribute [local simp] AH.ld AH.ldn AH.stn AH.new Nat.add_assoc resA resA1 fillA buildA slSlA boundsA boundA callvP
theorem find1_spec (H : AH) (hw : WF H) (x : Nat) (h : Int) (hx : x < H.next) (hb : H.blk x = some (.cells false [.int .i64 h])) (e : Ent) :
    CallP tab noExt F.heap_Timers_find_1 [.agg (encE e), ptr x] H fun v H' => v = bl (decide (e.handle = h)) ∧ Same H H' := by
  apply heap_Timers_find_1_call
  have n1 : ∀ m, ¬ H.next + m = x := fun m => by omega
  have n2 : ∀ m, ¬ x = H.next + m := fun m => by omega
  have hf := hw.free
  have hf0 := hf 0
  have n3 : ¬ x = H.next := by omega
  simp at hf0
  simp [hb, encE, hf, hf0, n1, n2, n3]
  (repeat (first | assumption | exact Same.refl _ | exact But.refl _ _ | refine Same.bump ?_ _ | refine Same.set ?_ (by first | omega | (simp <;> omega)) _ | refine But.bump ?_ _ | refine But.set ?_ (by simp) _ | refine But.set ?_ (by first | omega | (simp <;> omega)) _ | refine WF.bump ?_ _ | refine WF.set ?_ (by first | omega | (simp <;> omega)) _))
def oidx : Option Nat → Int
  | some i => i
  | none => -1
theorem IndexFunc_spec (H0 : AH) (hw : WF H0) (x : Nat) (h : Int) (s : SV) (r : List Ent) (S : List Nat) (hr : RowAt encE 3 H0 s r S) (hx : x < H0.next) (hb : H0.blk x = some (.cells false [.int .i64 h])) (hl : r.length ≤ 256) :
    CallP tab noExt F.slices_IndexFunc_heap_row_heap_entry [.s s, .s (.fn F.heap_Timers_find_1 [(x, 0)])] H0 fun v H' => v = i64 (oidx (fidx r h)) ∧ Same H0 H' := by
  apply slices_IndexFunc_heap_row_heap_entry_call
  have hlen := hr.len
  simp [hlen]
  refine loopP_inv (I := fun m T H => T.length = 19 ∧ sl T 0 = .s s ∧ sl T 1 = .s (.fn F.heap_Timers_find_1 [(x, 0)]) ∧ sl T 7 = i64 r.length ∧ ∃ i : Nat, sl T 8 = i64 i ∧ i ≤ r.length ∧ m = r.length - i ∧ (∀ k, k < i → ¬ (gE r k).handle = h) ∧ WF H ∧ Same H0 H) ?_ r.length _ _ ?_
  · intro m T H ⟨hT, s0, s1, s7, i, s8, hi, hm, hno, hwf, hs⟩
    rw [slices_IndexFunc_heap_row_heap_entry_l0_at hT]
    by_cases hlt : i < r.length
    · rcases hr with ⟨_, _, rfl, _⟩ | ⟨b, c, j, rfl, rfl, h3, hb3, h5, h6⟩
      · simp at hlt
      have f1 : i * 3 + 3 ≤ (flat encE r).length + j.length := by simpa using flat_fit encE_len r j i hlt
      have g1 := flat_ldn encE_len r j i hlt
      have hb4 : H.blk b = some (.cells false (flat encE r ++ j)) := (hs.2 b h3).trans hb3
      have hbx : H.blk x = some (.cells false [.int .i64 h]) := (hs.2 x hx).trans hb
      simp [s0, s1, s7, s8, hlt, hb4, f1, g1]
      have hw9 : WF (((H.bump 1).bump 2).bump 6) := ((hwf.bump _).bump _).bump _
      refine (find1_spec _ hw9 x h (by have := hs.1; simp; omega) hbx r[i]).mono_wf tab_wf noExt_wf noExt_next hw9 ?_
      rintro v H1 hw1 hle ⟨rfl, hs1⟩
      have hs2 : Same H0 H1 := (((hs.bump 1).bump 2).bump 6).trans hs1
      have w1 : IntKind.i64.wrap ((i : Int) + 1) = ((i + 1 : Nat) : Int) := by rw [wrap_i64 (by omega) (by omega)]; omega
      by_cases he : r[i].handle = h
      · simp [he, w1]
        refine ⟨?_, hs2.bump _⟩
        have : fidx r h = some i := by
          unfold fidx
          rw [List.findIdx?_eq_some_iff_getElem]
          refine ⟨hlt, by simpa using he, fun k hk => ?_⟩
          have := hno k hk
          unfold gE at this
          rw [getD_get (by omega)] at this
          simpa using this
        rw [this]; rfl
      · simp [he, w1]
        refine ⟨r.length - (i + 1), by omega, rfl, rfl, rfl, i + 1, by simp [sl], by omega, rfl, ?_, hw1.bump _, hs2.bump _⟩
        intro k hk
        by_cases hki : k = i
        · subst hki; simpa [hlt] using he
        · simpa using hno k (by omega)
    · have hlt' : ¬ (i : Int) < (r.length : Int) := by omega
      simp [s0, s1, s7, s8, hlt, hlt']
      rw [slices_IndexFunc_heap_row_heap_entry_s1_at rfl]
      simp
      refine ⟨?_, (hs.bump _).bump _⟩
      have : fidx r h = none := by
        unfold fidx
        rw [List.findIdx?_eq_none_iff]
        intro e he
        obtain ⟨k, hk, rfl⟩ := List.getElem_of_mem he
        have := hno k (by omega)
        unfold gE at this
        rw [getD_get hk] at this
        simpa using this
      rw [this]; rfl
  · exact ⟨rfl, rfl, rfl, rfl, 0, rfl, by omega, rfl, by omega, (hw.bump _).bump _, ((Same.refl _).bump _).bump _⟩
theorem find_raw (H : AH) (hw : WF H) (t : Nat) (r : List Ent) (last : Int) (S : List Nat) (ht : TmR H t r last S) (h : Int) (hl : r.length ≤ 256) :
    CallP tab noExt F.heap_Timers_find [ptr t, i64 h] H fun v H' => v = i64 (oidx (fidx r h)) ∧ Same H H' := by
  obtain ⟨h0, s, Sr, h1, h2, rfl, h4⟩ := ht
  apply heap_Timers_find_call
  have hf0 := hw.free 0
  have n3 : ¬ t = H.next := by omega
  simp at hf0
  simp [h1, hf0, n3]
  have hw2 : WF (((H.bump 2).set H.next (Blk.cells false [SV.int IntKind.i64 h])).bump 7) := by (repeat (first | assumption | exact Same.refl _ | exact But.refl _ _ | refine Same.bump ?_ _ | refine Same.set ?_ (by first | omega | (simp <;> omega)) _ | refine But.bump ?_ _ | refine But.set ?_ (by simp) _ | refine But.set ?_ (by first | omega | (simp <;> omega)) _ | refine WF.bump ?_ _ | refine WF.set ?_ (by first | omega | (simp <;> omega)) _))
  have hs : Same H (((H.bump 2).set H.next (Blk.cells false [SV.int IntKind.i64 h])).bump 7) := by (repeat (first | assumption | exact Same.refl _ | exact But.refl _ _ | refine Same.bump ?_ _ | refine Same.set ?_ (by first | omega | (simp <;> omega)) _ | refine But.bump ?_ _ | refine But.set ?_ (by simp) _ | refine But.set ?_ (by first | omega | (simp <;> omega)) _ | refine WF.bump ?_ _ | refine WF.set ?_ (by first | omega | (simp <;> omega)) _))
  refine (IndexFunc_spec _ hw2 H.next h s r Sr (h2.frame hs.1 fun b hb => hs.2 b (h2.lt b hb)) (by simp) (by simp) hl).mono_wf tab_wf noExt_wf noExt_next hw2 ?_
  rintro v H1 hw1 hle ⟨rfl, hs1⟩
  simp
  exact hs.trans hs1
end Go.AM

/-
  heap: what its methods give, by the list of what is to come.
-/
namespace Go.AM
attribute [local simp] AH.ld AH.ldn AH.stn AH.new Nat.add_assoc resA resA1 fillA buildA slSlA boundsA boundA callvP
def Tm (H : AH) (t : Nat) (L : List Ent) (last : Int) (S : List Nat) : Prop :=
  ∃ r, TmR H t r last S ∧ r.Perm L ∧ Hp r ∧ Good L last
theorem Tm.frame {H H' : AH} {t : Nat} {L : List Ent} {last : Int} {S : List Nat} (h : Tm H t L last S) (hn : H.next ≤ H'.next) (hb : ∀ b ∈ S, H'.blk b = H.blk b) : Tm H' t L last S := by
  obtain ⟨r, h1, h2⟩ := h
  exact ⟨r, h1.frame hn hb, h2⟩
theorem Tm.lt {H : AH} {t : Nat} {L : List Ent} {last : Int} {S : List Nat} (h : Tm H t L last S) : ∀ b ∈ S, b < H.next := by
  obtain ⟨r, h1, h2⟩ := h
  exact h1.lt
theorem Tm.good {H : AH} {t : Nat} {L : List Ent} {last : Int} {S : List Nat} (h : Tm H t L last S) : Good L last := by
  obtain ⟨r, h1, h2, h3, h4⟩ := h
  exact h4
theorem Same.tm {H H' : AH} (h : Same H H') {t : Nat} {L : List Ent} {last : Int} {S : List Nat} (ht : Tm H t L last S) : Tm H' t L last S := ht.frame h.1 fun b hb => h.2 b (ht.lt b hb)
theorem New_spec (H : AH) (hw : WF H) : CallP tab noExt F.heap_New [] H fun v H' => ∃ t S, v = ptr t ∧ Tm H' t [] 0 S ∧ Same H H' ∧ ∀ b ∈ S, H.next ≤ b := by
  apply heap_New_call
  have hf := hw.free
  simp [hf]
  refine ⟨[H.next + 2], ⟨[], ⟨by simp, _, [], by simp, .inl ⟨1, rfl, rfl, rfl⟩, rfl, by simp⟩, List.Perm.refl _, fun k _ hk => by simp at hk, Good.nil⟩, ?_, by simp⟩
  (repeat (first | assumption | exact Same.refl _ | exact But.refl _ _ | refine Same.bump ?_ _ | refine Same.set ?_ (by first | omega | (simp <;> omega)) _ | refine But.bump ?_ _ | refine But.set ?_ (by simp) _ | refine But.set ?_ (by first | omega | (simp <;> omega)) _ | refine WF.bump ?_ _ | refine WF.set ?_ (by first | omega | (simp <;> omega)) _))
theorem Insert_spec (H : AH) (hw : WF H) (t : Nat) (L : List Ent) (last : Int) (S : List Nat) (ht : Tm H t L last S) (a x : Int) (hl : L.length < 256) (hlast : last < 4611686018427387904) :
    CallP tab noExt F.heap_Timers_Insert [ptr t, u64 a, i64 x] H fun v H' => v = .tup [.s (.int .i64 (last + 1)), .s (.int .i64 0)] ∧ ∃ S', Tm H' t (insE ⟨a, last + 1, x⟩ L) (last + 1) S' ∧ Own H H' S S' := by
  obtain ⟨r, h1, hp, hh, hg⟩ := ht
  refine (Insert_raw H hw t r last S h1 a x (by rw [hp.length_eq]; exact hl) ⟨hg.pos, hlast⟩).mono ?_
  rintro v H' ⟨rfl, S', h2, h3⟩
  refine ⟨rfl, S', ⟨_, h2, ?_, snoc_hp _ _ hh, hg.ins a x hl⟩, h3⟩
  exact (upF_perm _ _ (.inl (by simp))).trans ((List.perm_append_singleton _ _).trans ((hp.cons _).trans (insE_perm _ _).symm))
theorem Len_spec (H : AH) (t : Nat) (L : List Ent) (last : Int) (S : List Nat) (ht : Tm H t L last S) :
    CallP tab noExt F.heap_Timers_Len [ptr t] H fun v H' => v = i64 L.length ∧ Same H H' := by
  obtain ⟨r, ⟨h0, s, Sr, h1, h2, rfl, h4⟩, hp, hh, hg⟩ := ht
  apply heap_Timers_Len_call
  have hlen := h2.len
  rw [hp.length_eq] at hlen
  simp [h1, hlen]
  (repeat (first | assumption | exact Same.refl _ | exact But.refl _ _ | refine Same.bump ?_ _ | refine Same.set ?_ (by first | omega | (simp <;> omega)) _ | refine But.bump ?_ _ | refine But.set ?_ (by simp) _ | refine But.set ?_ (by first | omega | (simp <;> omega)) _ | refine WF.bump ?_ _ | refine WF.set ?_ (by first | omega | (simp <;> omega)) _))
def nextV : List Ent → AV
  | [] => .tup [.s (.int .u64 0), .s (.bool false)]
  | e :: _ => .tup [.s (.int .u64 e.at_), .s (.bool true)]
def leftV (L : List Ent) (h now : Int) : AV :=
  match byH L h with
  | none => .tup [.s (.int .i64 0), .s (.bool false)]
  | some e => .tup [.s (.int .i64 (IntKind.i64.wrap (IntKind.u64.wrap (e.at_ - now)))), .s (.bool true)]
theorem cell_at {r : List Ent} {j : List SV} {i : Nat} (hi : i < r.length) (d : Nat) (hd : d < 3) : (flat encE r ++ j)[i * 3 + d]? = (encE r[i])[d]? := by
  have g1 := flat_ldn encE_len r j i hi
  rw [← g1, List.getElem?_take, if_pos hd, List.getElem?_drop]
theorem Cancel_spec (H : AH) (hw : WF H) (t : Nat) (L : List Ent) (last : Int) (S : List Nat) (ht : Tm H t L last S) (h : Int) :
    CallP tab noExt F.heap_Timers_Cancel [ptr t, i64 h] H fun v H' => v = bl (byH L h).isSome ∧ Tm H' t (L.filter fun e => decide (e.handle ≠ h)) last S ∧ But S H H' := by
  obtain ⟨r, hr, hp, hh, hg⟩ := ht
  apply heap_Timers_Cancel_call
  have hlr : r.length ≤ 256 := by rw [hp.length_eq]; exact hg.len
  refine (find_raw _ ((hw.bump _).bump _) t r last S (((Same.refl H).bump 1).bump 4 |>.tmR hr) h hlr).mono_wf tab_wf noExt_wf noExt_next ((hw.bump _).bump _) ?_
  rintro v H1 hw1 hle ⟨rfl, hs⟩
  have hs1 : Same H H1 := (((Same.refl H).bump 1).bump 4).trans hs
  have hby := fidx_byH hp hg.nod (h := h)
  have hr1 := hs1.tmR hr
  cases hf : fidx r h with
  | none =>
    rw [hf] at hby
    simp [oidx]
    have hno : L.filter (fun e => decide (e.handle ≠ h)) = L := by
      rw [List.filter_eq_self]
      intro e he
      simpa using byH_none.1 hby.symm e he
    have hb : But S H ((H1.bump 2).bump 3) := ((hs1.but S).bump _).bump _
    rw [← hby]
    have hno' : (L.filter fun e => !decide (e.handle = h)) = L := by simpa using hno
    rw [hno']
    exact ⟨rfl, ⟨r, hr1.frame (by (first | (simp; done) | omega | (simp <;> omega))) (fun _ _ => rfl), hp, hh, hg⟩, hb⟩
  | some i =>
    rw [hf] at hby
    obtain ⟨hi, he⟩ := fidx_some hf
    have hneg : (0 : Int) ≤ i := by omega
    simp [oidx, hneg]
    refine (remove_raw _ ((hw1.bump _).bump _) t r last S (hr1.frame (by (first | (simp; done) | omega | (simp <;> omega))) (fun _ _ => rfl)) i hi hlr).mono_wf tab_wf noExt_wf noExt_next ((hw1.bump _).bump _) ?_
    rintro v H2 hw2 hle2 ⟨rfl, h2, hb2⟩
    have hnx : H1.next ≤ H2.next := by simp at hle2; omega
    try simp [hneg]
    rw [← hby]
    refine ⟨rfl, ⟨remF r i, h2.frame (by (first | (simp; done) | omega | (simp <;> omega))) (fun _ _ => rfl), by simpa using rem_filter hp hg.nod hf, remF_hp r i hi hh, hg.sub (by exact List.filter_sublist)⟩, ?_⟩
    have b1 : But S H H2 := (hs1.but S).trans ((((But.refl S H1).bump _).bump _).trans hb2)
    first | exact b1 | exact b1.bump _
def encI (x : Int) : List SV := [.int .i64 x]
theorem encI_len (x : Int) : (encI x).length = 1 := rfl
theorem Due_spec (H0 : AH) (hw : WF H0) (t : Nat) (L0 : List Ent) (last : Int) (S : List Nat) (ht : Tm H0 t L0 last S) (now : Int) :
    CallP tab noExt F.heap_Timers_Due [ptr t, u64 now] H0 fun v H' => ∃ s So, v = .s s ∧ RowAt encI 1 H' s ((dueL L0 now).map Ent.arg) So ∧ Tm H' t (toL L0 now) last S ∧ But S H0 H' ∧ ∀ b ∈ So, H0.next ≤ b := by
  apply heap_Timers_Due_call
  have hlt0 := ht.lt
  refine loopP_inv (I := fun m T H => T.length = 36 ∧ sl T 0 = ptr t ∧ sl T 1 = u64 now ∧ ∃ s So o L, sl T 5 = .s s ∧ L.length = m ∧ RowAt encI 1 H s (o.map Ent.arg) So ∧ Tm H t L last S ∧ But S H0 H ∧ WF H ∧ (∀ b ∈ So, H0.next ≤ b) ∧ o ++ dueL L now = dueL L0 now ∧ toL L now = toL L0 now ∧ o.length + L.length ≤ 256) ?_ L0.length _ _ ?_
  · intro m T H ⟨hT, s0, s1, s, So, o, L, s5, hm, ho, htm, hbut, hwf, hSo, hd1, hd2, hl⟩
    rw [heap_Timers_Due_l0_at hT]
    obtain ⟨r, hr, hp, hh, hg⟩ := htm
    have hrk := hr
    obtain ⟨h0, sr, Sr, h1, h2, rfl, h4⟩ := hr
    have hlen := h2.len
    have hSn : ∀ b, b ∈ t :: Sr → b ∉ So := fun b hb hm => by have := hlt0 b hb; have := hSo b hm; omega
    cases L with
    | nil =>
      rw [hp.length_eq] at hlen
      simp at hlen
      simp [s0, s1, s5, h1, hlen]
      rw [heap_Timers_Due_s1_at rfl]
      simp [sl]
      refine ⟨So, ?_, ⟨r, ?_, ?_, hh, ?_⟩, (hbut.bump _).bump _, hSo⟩
      · rw [← hd1, show dueL [] now = [] from rfl, List.append_nil]; exact ho.frame (by (first | (simp; done) | omega | (simp <;> omega))) (fun _ _ => rfl)
      · exact hrk.frame (by (first | (simp; done) | omega | (simp <;> omega))) (fun _ _ => rfl)
      · rw [← hd2]; exact hp
      · rw [← hd2]; exact hg
    | cons e L =>
      rcases h2 with ⟨_, _, rfl, _⟩ | ⟨b, c, j, rfl, rfl, h3, hb, h5, h6⟩
      · have := hp.length_eq; simp at this
      have h0r : 0 < r.length := by rw [hp.length_eq]; simp
      have h0r' : (0 : Int) < r.length := by omega
      have hrn : ¬ r = [] := fun he => by simp [he] at h0r
      have hhd := head_eq hp hh hg
      unfold gE at hhd
      rw [getD_get h0r] at hhd
      have c0 := cell_at (j := j) h0r 0 (by omega)
      have c2 := cell_at (j := j) h0r 2 (by omega)
      rw [hhd] at c0 c2
      simp [encE] at c0 c2
      by_cases hle : e.at_ ≤ now
      · simp [s0, s1, s5, h1, hb, h0r, h0r', hrn, c0, c2, hle]
        have hf := hwf.free
        have hf25 := hf 25
        simp [hf25]
        generalize hH1 : ((H.bump 17).bump 11).set (H.next + 25) (Blk.cells false [SV.int IntKind.i64 e.arg]) = H1
        have e1 : H1.next = H.next + 28 := by rw [← hH1]; simp [Nat.add_assoc]
        have e2 : ∀ b', H1.blk b' = if b' = H.next + 25 then some (Blk.cells false [SV.int IntKind.i64 e.arg]) else H.blk b' := fun b' => by rw [← hH1]; simp
        have hol := ho.lt
        have hm' : o.length < 256 := by simp at hl; omega
        obtain ⟨s', H2, S2, ap, hr2, hnx, hoth, hsub⟩ := (ho.frame (H' := H1) (by omega) fun b' hb' => by have := hol b' hb'; rw [e2, if_neg (by omega)]).append encI_len e.arg (x := H.next + 25) (id := H.next + 26) (bytes := 8) (ro := false) (by rw [e2, if_pos rfl]; rfl) (fun hx => by have := hol _ hx; omega) (by rw [e2, if_neg (by omega)]; exact hf 26) (by omega) (by simp; omega)
        refine andThen_of ap ?_
        have hS2 : ∀ b' ∈ S2, H0.next ≤ b' := fun b' hb' => by
          rcases hsub b' hb' with h | h
          · exact hSo b' h
          · have := hbut.1; omega
        have hwf2 : WF H2 := fun b' hb' => by rw [hoth b' (fun hx => by have := hol _ hx; omega) (by omega), e2, if_neg (by omega)]; exact hwf b' (by omega)
        have hS1 : ∀ b' ∈ [t, b], H2.blk b' = H.blk b' := fun b' hb' => by
          have := hlt0 b' hb'
          have := hbut.1
          rw [hoth b' (hSn b' hb') (by omega), e2, if_neg (by omega)]
        refine (remove_raw _ (hwf2.bump _) t r last [t, b] (hrk.frame (by simp; omega) (fun b' hb' => by simpa using hS1 b' hb')) 0 h0r (by rw [hp.length_eq]; exact hg.len)).mono_wf tab_wf noExt_wf noExt_next (hwf2.bump _) ?_
        rintro v H3 hw3 hle3 ⟨rfl, hr3, hb3⟩
        simp at hle3
        have hS2n : ∀ b', b' ∈ S2 → b' ∉ [t, b] := fun b' hb' hm' => by have := hlt0 b' hm'; have := hS2 b' hb'; omega
        have hol2 := hr2.lt
        refine ⟨L.length, by rw [← hm]; simp, rfl, rfl, s', rfl, S2, o ++ [e], L, rfl, ?_, ⟨remF r 0, hr3, rem0_perm hp hh hg, remF_hp r 0 h0r hh, hg.sub (List.sublist_cons_self _ _)⟩, ?_, hw3, hS2, ?_, ?_, by simp at hl ⊢; omega⟩
        · rw [List.map_append]
          exact hr2.frame (by omega) fun b' hb' => hb3.2 b' (by simp; have := hol2 b' hb'; omega) (hS2n b' hb')
        · refine ⟨by have := hbut.1; omega, fun b' hb' hn' => ?_⟩
          rw [hb3.2 b' (by simp; have := hbut.1; omega) hn']
          simp only [bump_blk]
          rw [hoth b' (fun hx => by have := hSo b' hx; omega) (by have := hbut.1; omega), e2, if_neg (by have := hbut.1; omega)]
          exact hbut.2 b' hb' hn'
        · rw [← hd1]; simp [dueL, hle]
        · rw [← hd2]; simp [toL, hle]
      · simp [s0, s1, s5, h1, hb, h0r, h0r', hrn, c0, c2, hle]
        rw [heap_Timers_Due_s1_at rfl]
        simp [sl]
        refine ⟨So, ?_, ⟨r, ?_, ?_, hh, ?_⟩, (hbut.bump _).bump _, hSo⟩
        · rw [← hd1, show dueL (e :: L) now = [] by simp [dueL, hle], List.append_nil]; exact ho.frame (by (first | (simp; done) | omega | (simp <;> omega))) (fun _ _ => rfl)
        · exact hrk.frame (by (first | (simp; done) | omega | (simp <;> omega))) (fun _ _ => rfl)
        · rw [← hd2]; simpa [toL, hle] using hp
        · rw [← hd2]; simpa [toL, hle] using hg
  · refine ⟨rfl, rfl, rfl, .slice none 0 0 1, [], [], L0, rfl, rfl, .inl ⟨1, rfl, rfl, rfl⟩, ht.frame (by (first | (simp; done) | omega | (simp <;> omega))) (fun _ _ => rfl), ((But.refl _ _).bump _).bump _, (hw.bump _).bump _, by simp, rfl, rfl, by simpa using ht.good.len⟩
end Go.AM

/-
  clock: what its methods give.
-/
namespace Go.AM
attribute [local simp] AH.ld AH.ldn AH.stn AH.new Nat.add_assoc resA resA1 fillA buildA slSlA boundsA boundA callvP
def Ck (H : AH) (c : Nat) (L : List Ent) (last tic up base : Int) (S : List Nat) : Prop :=
  c < H.next ∧ ∃ t St, H.blk c = some (.cells false [.ptr (some (t, 0)), .int .u64 tic, .int .u64 up, .int .u64 base]) ∧ Tm H t L last St ∧ S = c :: St ∧ c ∉ St
theorem Ck.frame {H H' : AH} {c : Nat} {L : List Ent} {last tic up base : Int} {S : List Nat} (h : Ck H c L last tic up base S) (hn : H.next ≤ H'.next) (hb : ∀ b ∈ S, H'.blk b = H.blk b) : Ck H' c L last tic up base S := by
  obtain ⟨h0, t, St, h1, h2, rfl, h4⟩ := h
  exact ⟨by omega, t, St, by rw [hb c (by simp)]; exact h1, h2.frame hn fun b hb' => hb b (by simp [hb']), rfl, h4⟩
theorem Ck.lt {H : AH} {c : Nat} {L : List Ent} {last tic up base : Int} {S : List Nat} (h : Ck H c L last tic up base S) : ∀ b ∈ S, b < H.next := by
  obtain ⟨h0, t, St, h1, h2, rfl, h4⟩ := h
  intro b hb
  simp at hb
  rcases hb with rfl | hb
  · exact h0
  · exact h2.lt b hb
theorem Same.ck {H H' : AH} (h : Same H H') {c : Nat} {L : List Ent} {last tic up base : Int} {S : List Nat} (ht : Ck H c L last tic up base S) : Ck H' c L last tic up base S := ht.frame h.1 fun b hb => h.2 b (ht.lt b hb)
theorem NewClock_spec (H : AH) (hw : WF H) (tic : Int) (h1 : 1 ≤ tic) (h2 : tic ≤ 1000) :
    CallP tab noExt F.clock_NewClock [i64 tic] H fun v H' => ∃ c S, v = .tup [.s (.ptr (some (c, 0))), .s (.int .i64 0)] ∧ Ck H' c [] 0 tic 0 0 S ∧ Same H H' ∧ ∀ b ∈ S, H.next ≤ b := by
  apply clock_NewClock_call
  have g1 : ¬ tic < 1 := by omega
  have g2 : ¬ 1000 < tic := by omega
  have w : IntKind.u64.wrap tic = tic := wrap_u64 (by omega) (by omega)
  simp [g1, g2, w]
  have hw1 : WF (((H.bump 2).bump 6).bump 7) := by (repeat (first | assumption | exact Same.refl _ | exact But.refl _ _ | refine Same.bump ?_ _ | refine Same.set ?_ (by first | omega | (simp <;> omega)) _ | refine But.bump ?_ _ | refine But.set ?_ (by simp) _ | refine But.set ?_ (by first | omega | (simp <;> omega)) _ | refine WF.bump ?_ _ | refine WF.set ?_ (by first | omega | (simp <;> omega)) _))
  refine (New_spec _ hw1).mono_wf tab_wf noExt_wf noExt_next hw1 ?_
  rintro v H1 hw2 hle ⟨t, S, rfl, htm, hs, hS⟩
  have hf : H1.blk (H.next + 12) = none := by rw [hs.2 _ (by (first | (simp; done) | omega | (simp <;> omega)))]; exact hw.free 12
  have hlt := htm.lt
  simp at hle hS
  simp [hf]
  refine ⟨(H.next + 12) :: S, ⟨by (first | (simp; done) | omega | (simp <;> omega)), t, S, by simp, ?_, rfl, fun hm => by have := hS _ hm; omega⟩, ?_, ?_⟩
  · exact htm.frame (by (first | (simp; done) | omega | (simp <;> omega))) fun b hb => by have := hS b hb; simp; omega
  · refine ⟨by simp; omega, fun b hb => ?_⟩
    rw [set_blk, if_neg (by omega), hs.2 b (by simp; omega)]; rfl
  · intro b hb
    simp at hb
    rcases hb with rfl | hb
    · omega
    · have := hS b hb; omega
theorem Now_spec (H : AH) (c : Nat) (L : List Ent) (last tic up base : Int) (S : List Nat) (hc : Ck H c L last tic up base S) :
    CallP tab noExt F.clock_Clock_Now [ptr c] H fun v H' => v = u64 ((IntKind.u64.wrap (base + up)).tmod 281474976710656) ∧ Same H H' := by
  obtain ⟨h0, t, St, h1, h2, rfl, h4⟩ := hc
  apply clock_Clock_Now_call
  simp [h1]
  apply nums_Add_call
  simp
  (repeat (first | assumption | exact Same.refl _ | exact But.refl _ _ | refine Same.bump ?_ _ | refine Same.set ?_ (by first | omega | (simp <;> omega)) _ | refine But.bump ?_ _ | refine But.set ?_ (by simp) _ | refine But.set ?_ (by first | omega | (simp <;> omega)) _ | refine WF.bump ?_ _ | refine WF.set ?_ (by first | omega | (simp <;> omega)) _))
theorem Up_spec (H : AH) (c : Nat) (L : List Ent) (last tic up base : Int) (S : List Nat) (hc : Ck H c L last tic up base S) :
    CallP tab noExt F.clock_Clock_Up [ptr c] H fun v H' => v = u64 up ∧ Same H H' := by
  obtain ⟨h0, t, St, h1, h2, rfl, h4⟩ := hc
  apply clock_Clock_Up_call
  simp [h1]
  (repeat (first | assumption | exact Same.refl _ | exact But.refl _ _ | refine Same.bump ?_ _ | refine Same.set ?_ (by first | omega | (simp <;> omega)) _ | refine But.bump ?_ _ | refine But.set ?_ (by simp) _ | refine But.set ?_ (by first | omega | (simp <;> omega)) _ | refine WF.bump ?_ _ | refine WF.set ?_ (by first | omega | (simp <;> omega)) _))
theorem Tick_spec (H : AH) (hw : WF H) (c : Nat) (L : List Ent) (last tic up base : Int) (S : List Nat) (hc : Ck H c L last tic up base S) :
    CallP tab noExt F.clock_Clock_Tick [ptr c] H fun v H' => ∃ s So, v = .s s ∧ RowAt encI 1 H' s ((dueL L (IntKind.u64.wrap (up + tic))).map Ent.arg) So ∧ Ck H' c (toL L (IntKind.u64.wrap (up + tic))) last tic (IntKind.u64.wrap (up + tic)) base S ∧ But S H H' ∧ ∀ b ∈ So, H.next ≤ b := by
  obtain ⟨h0, t, St, h1, h2, rfl, h4⟩ := hc
  apply clock_Clock_Tick_call
  simp [h1]
  have hw1 : WF ((((H.bump 1).bump 12).set c (Blk.cells false [SV.ptr (some (t, 0)), SV.int IntKind.u64 tic, SV.int IntKind.u64 (IntKind.u64.wrap (up + tic)), SV.int IntKind.u64 base])).bump 10) := by (repeat (first | assumption | exact Same.refl _ | exact But.refl _ _ | refine Same.bump ?_ _ | refine Same.set ?_ (by first | omega | (simp <;> omega)) _ | refine But.bump ?_ _ | refine But.set ?_ (by simp) _ | refine But.set ?_ (by first | omega | (simp <;> omega)) _ | refine WF.bump ?_ _ | refine WF.set ?_ (by first | omega | (simp <;> omega)) _))
  generalize hH1 : ((((H.bump 1).bump 12).set c (Blk.cells false [SV.ptr (some (t, 0)), SV.int IntKind.u64 tic, SV.int IntKind.u64 (IntKind.u64.wrap (up + tic)), SV.int IntKind.u64 base])).bump 10) = H1 at *
  have e1 : H1.next = H.next + 23 := by rw [← hH1]; simp [Nat.add_assoc]
  have e2 : ∀ b, b ≠ c → H1.blk b = H.blk b := fun b hb => by rw [← hH1]; simp [hb]
  have ec : H1.blk c = some (.cells false [SV.ptr (some (t, 0)), SV.int IntKind.u64 tic, SV.int IntKind.u64 (IntKind.u64.wrap (up + tic)), SV.int IntKind.u64 base]) := by rw [← hH1]; simp
  have hl := h2.lt
  refine (Due_spec H1 hw1 t L last St (h2.frame (by omega) fun b hb => e2 b fun he => h4 (he ▸ hb)) (IntKind.u64.wrap (up + tic))).mono_wf tab_wf noExt_wf noExt_next hw1 ?_
  rintro v H2 hw2 hle ⟨s, So, rfl, hr, htm, hbut, hSo⟩
  simp
  refine ⟨So, hr, ⟨by omega, t, St, by rw [hbut.2 c (by omega) h4]; exact ec, htm, rfl, h4⟩, ⟨by omega, fun b hb hn => ?_⟩, fun b hb => by have := hSo b hb; omega⟩
  simp at hn
  rw [hbut.2 b (by omega) hn.2, e2 b hn.1]
theorem After_spec (H : AH) (hw : WF H) (c : Nat) (L : List Ent) (last tic up base : Int) (S : List Nat) (hc : Ck H c L last tic up base S) (d x : Int) (hd : 0 ≤ d) (hd2 : d ≤ 2147483647) (hl : L.length < 256) (hlast : last < 4611686018427387904) :
    CallP tab noExt F.clock_Clock_After [ptr c, i64 d, i64 x] H fun v H' => v = .tup [.s (.int .i64 (last + 1)), .s (.int .i64 0)] ∧ ∃ S', Ck H' c (insE ⟨IntKind.u64.wrap (IntKind.u64.wrap (up + d) + tic), last + 1, x⟩ L) (last + 1) tic up base S' ∧ Own H H' S S' := by
  obtain ⟨h0, t, St, h1, h2, rfl, h4⟩ := hc
  apply clock_Clock_After_call
  refine (nums_Rel_spec d _ (by omega) (by omega)).mono_wf tab_wf noExt_wf noExt_next ((hw.bump _).bump _) ?_
  rintro v H1 hw1 hle ⟨rfl, hs⟩
  rw [if_neg (by omega)]
  have hs1 : Same H H1 := (((Same.refl H).bump _).bump _).trans hs
  have h1' := (hs1.2 c h0).trans h1
  simp [h1']
  have hw2 : WF ((H1.bump 2).bump 21) := by (repeat (first | assumption | exact Same.refl _ | exact But.refl _ _ | refine Same.bump ?_ _ | refine Same.set ?_ (by first | omega | (simp <;> omega)) _ | refine But.bump ?_ _ | refine But.set ?_ (by simp) _ | refine But.set ?_ (by first | omega | (simp <;> omega)) _ | refine WF.bump ?_ _ | refine WF.set ?_ (by first | omega | (simp <;> omega)) _))
  simp at hle
  refine (Insert_spec _ hw2 t L last St ((hs1.tm h2).frame (by (first | (simp; done) | omega | (simp <;> omega))) (fun _ _ => rfl)) _ x hl hlast).mono_wf tab_wf noExt_wf noExt_next hw2 ?_
  rintro v H2 hw3 hle2 ⟨rfl, S', htm, hown, hsub⟩
  have hl2 := h2.lt
  simp at hle2 hsub
  simp
  have hcS : c ∉ S' := fun hm => by
    rcases hsub c hm with h | h
    · exact h4 h
    · omega
  refine ⟨c :: S', ⟨by omega, t, S', by rw [hown.2 c (by simp; omega) h4]; exact h1', htm, rfl, hcS⟩, ⟨by omega, fun b hb hn => ?_⟩, fun b hb => ?_⟩
  · simp at hn
    rw [hown.2 b (by simp; omega) hn.2]
    exact hs1.2 b hb
  · simp at hb
    rcases hb with rfl | hb
    · simp
    · rcases hsub b hb with h | h
      · simp [h]
      · right; omega
end Go.AM

/-
  heap, clock: their contracts over things side by side.
-/
namespace Go.AM
theorem RowAt.next {α : Type} {enc : α → List SV} {k : Nat} {f : HF} {n m : Nat} {s : SV} {r : List α} {S : List Nat} (h : RowAt enc k ⟨f, n⟩ s r S) (hb : ∀ b ∈ S, b < m) : RowAt enc k ⟨f, m⟩ s r S := by
  rcases h with h | ⟨b, c, j, h1, rfl, h3, h4⟩
  · exact .inl h
  · exact .inr ⟨b, c, j, h1, rfl, hb b (by simp), h4⟩
theorem Tm.next {f : HF} {n m : Nat} {t : Nat} {L : List Ent} {last : Int} {S : List Nat} (h : Tm ⟨f, n⟩ t L last S) (hb : ∀ b ∈ S, b < m) : Tm ⟨f, m⟩ t L last S := by
  obtain ⟨r, ⟨h0, s, Sr, h1, h2, rfl, h4⟩, h5⟩ := h
  exact ⟨r, ⟨hb t (by simp), s, Sr, h1, h2.next fun b hb' => hb b (by simp [hb']), rfl, h4⟩, h5⟩
theorem Ck.nextOf {f : HF} {n m : Nat} {c : Nat} {L : List Ent} {last tic up base : Int} {S : List Nat} (h : Ck ⟨f, n⟩ c L last tic up base S) (hb : ∀ b ∈ S, b < m) : Ck ⟨f, m⟩ c L last tic up base S := by
  obtain ⟨h0, t, St, h1, h2, rfl, h4⟩ := h
  exact ⟨hb c (by simp), t, St, h1, h2.next fun b hb' => hb b (by simp [hb']), rfl, h4⟩
def RowA {α : Type} (enc : α → List SV) (k : Nat) (s : SV) (r : List α) : Asr := ⟨fun _ f S => ∃ n, RowAt enc k ⟨f, n⟩ s r S, fun hg ⟨n, h⟩ => ⟨n, h.frame (Nat.le_refl _) hg⟩⟩
def TmA (t : Nat) (L : List Ent) (last : Int) : Asr := ⟨fun _ f S => ∃ n, Tm ⟨f, n⟩ t L last S, fun hg ⟨n, h⟩ => ⟨n, h.frame (Nat.le_refl _) hg⟩⟩
def CkA (c : Nat) (L : List Ent) (last tic up base : Int) : Asr := ⟨fun _ f S => ∃ n, Ck ⟨f, n⟩ c L last tic up base S, fun hg ⟨n, h⟩ => ⟨n, h.frame (Nat.le_refl _) hg⟩⟩
theorem SatL.one {ρ f : HF} {A : Asr} {S : List Nat} (h : A.p ρ f S) : SatL ρ f [A] S := by simpa using SatL.cons h .nil (by simp)
theorem SatL.one_inv {ρ f : HF} {A : Asr} {S : List Nat} (h : SatL ρ f [A] S) : A.p ρ f S := by
  obtain ⟨S1, S2, rfl, h1, h2, _⟩ := h.cons_inv
  rw [h2.nil_inv, List.append_nil]; exact h1
section
variable {f : Nat} {args : List AV}
theorem Tri.keep {A : Asr} {v0 : AV} (h : ∀ ρ H S, WF H → A.p ρ H.blk S → (∀ b ∈ S, b < H.next) → CallP tab noExt f args H fun v H' => v = v0 ∧ Same H H') : Tri tab noExt f args [A] fun v P' => v = v0 ∧ P' = [A] :=
  Tri.of tab_wf noExt_wf noExt_next noExt_ro fun ρ H S hw _ hs hb => (h ρ H S hw hs.one_inv hb).mono fun v H' ⟨h1, h2⟩ => ⟨[A], ⟨h1, rfl⟩, S, hs.loc fun b hb' => h2.2 b (hb b hb'), fun b hb => .inl hb, fun b hb' => Nat.lt_of_lt_of_le (hb b hb') h2.1, fun b hb _ => h2.2 b hb⟩
theorem Tri.turn {A A' : Asr} {v0 : AV} (h : ∀ ρ H S, WF H → A.p ρ H.blk S → (∀ b ∈ S, b < H.next) → CallP tab noExt f args H fun v H' => v = v0 ∧ ∃ S', A'.p ρ H'.blk S' ∧ (∀ b ∈ S', b < H'.next) ∧ Own H H' S S') : Tri tab noExt f args [A] fun v P' => v = v0 ∧ P' = [A'] :=
  Tri.of tab_wf noExt_wf noExt_next noExt_ro fun ρ H S hw _ hs hb => (h ρ H S hw hs.one_inv hb).mono fun _ _ ⟨h1, S', h2, h3, h4⟩ => ⟨[A'], ⟨h1, rfl⟩, S', .one h2, h4.2, h3, h4.1.2⟩
theorem But.own {S : List Nat} {H H' : AH} (h : But S H H') : Own H H' S S := ⟨h, fun _ hb => .inl hb⟩
end
section
variable (t : Nat) (L : List Ent) (last : Int)
theorem Len_tri : Tri tab noExt F.heap_Timers_Len [ptr t] [TmA t L last] fun v P' => v = i64 L.length ∧ P' = [TmA t L last] :=
  Tri.keep fun _ H S _ ⟨_, h⟩ hb => Len_spec H t L last S (h.next hb)
theorem Cancel_tri (h : Int) : Tri tab noExt F.heap_Timers_Cancel [ptr t, i64 h] [TmA t L last] fun v P' => v = bl (byH L h).isSome ∧ P' = [TmA t (L.filter fun e => decide (e.handle ≠ h)) last] :=
  Tri.turn fun _ H S hw ⟨_, hh⟩ hb => (Cancel_spec H hw t L last S (hh.next hb) h).mono fun _ _ ⟨h1, h2, h3⟩ => ⟨h1, S, ⟨_, h2⟩, h2.lt, h3.own⟩
end
section
variable (c : Nat) (L : List Ent) (last tic up base : Int)
theorem NewClock_tri (h1 : 1 ≤ tic) (h2 : tic ≤ 1000) : Tri tab noExt F.clock_NewClock [i64 tic] [] fun v P' => ∃ c, v = .tup [.s (.ptr (some (c, 0))), .s (.int .i64 0)] ∧ P' = [CkA c [] 0 tic 0 0] :=
  Tri.of tab_wf noExt_wf noExt_next noExt_ro fun _ H S hw _ hs hb => (NewClock_spec H hw tic h1 h2).mono fun v H' ⟨t, S', h1, h2, h3, h4⟩ => ⟨_, ⟨t, h1, rfl⟩, S', .one ⟨_, h2⟩, fun b hb => .inr (h4 b hb), h2.lt, fun b hb _ => h3.2 b hb⟩
theorem Now_tri : Tri tab noExt F.clock_Clock_Now [ptr c] [CkA c L last tic up base] fun v P' => v = u64 ((IntKind.u64.wrap (base + up)).tmod 281474976710656) ∧ P' = [CkA c L last tic up base] :=
  Tri.keep fun _ H S _ ⟨_, h⟩ hb => Now_spec H c L last tic up base S (h.nextOf hb)
theorem Up_tri : Tri tab noExt F.clock_Clock_Up [ptr c] [CkA c L last tic up base] fun v P' => v = u64 up ∧ P' = [CkA c L last tic up base] :=
  Tri.keep fun _ H S _ ⟨_, h⟩ hb => Up_spec H c L last tic up base S (h.nextOf hb)
theorem Tick_tri : Tri tab noExt F.clock_Clock_Tick [ptr c] [CkA c L last tic up base] fun v P' => ∃ s, v = .s s ∧ P' = [RowA encI 1 s ((dueL L (IntKind.u64.wrap (up + tic))).map Ent.arg), CkA c (toL L (IntKind.u64.wrap (up + tic))) last tic (IntKind.u64.wrap (up + tic)) base] :=
  Tri.of tab_wf noExt_wf noExt_next noExt_ro fun ρ H S hw _ hs hb => by
    obtain ⟨_, h⟩ := hs.one_inv
    refine (Tick_spec H hw c L last tic up base S (h.nextOf hb)).mono fun v H' ⟨s, So, h1, h2, h3, h4, h5⟩ => ⟨_, ⟨s, h1, rfl⟩, So ++ S, .cons ⟨_, h2⟩ (.one ⟨_, h3⟩) fun b hb1 hb2 => ?_, fun b hb' => ?_, fun b hb' => ?_, fun b hb' => h4.2 b hb'⟩
    · have := h5 b hb1; have := hb b hb2; omega
    · rcases List.mem_append.1 hb' with h | h
      · exact .inr (h5 b h)
      · exact .inl h
    · rcases List.mem_append.1 hb' with h | h
      · exact h2.lt b h
      · exact h3.lt b h
theorem After_tri (d x : Int) (hd : 0 ≤ d) (hd2 : d ≤ 2147483647) (hl : L.length < 256) (hlast : last < 4611686018427387904) :
    Tri tab noExt F.clock_Clock_After [ptr c, i64 d, i64 x] [CkA c L last tic up base] fun v P' => v = .tup [.s (.int .i64 (last + 1)), .s (.int .i64 0)] ∧ P' = [CkA c (insE ⟨IntKind.u64.wrap (IntKind.u64.wrap (up + d) + tic), last + 1, x⟩ L) (last + 1) tic up base] :=
  Tri.turn fun _ H S hw ⟨_, h⟩ hb => (After_spec H hw c L last tic up base S (h.nextOf hb) d x hd hd2 hl hlast).mono fun _ _ ⟨h1, S', h2, h3⟩ => ⟨h1, S', ⟨_, h2⟩, h2.lt, h3⟩
end
section
variable {ρ : HF} {H : AH} {R : List Asr}
theorem Sat.row {α : Type} {enc : α → List SV} {k : Nat} {s : SV} {r : List α} (h : Sat ρ H (RowA enc k s r :: R)) : lenA (.s s) = some (i64 r.length) ∧ ∃ S, RowAt enc k H s r S := by
  obtain ⟨hw, S, h1, h2⟩ := h
  obtain ⟨S1, S2, rfl, ⟨n, k1⟩, _⟩ := h1.cons_inv
  exact ⟨k1.len, S1, (k1.next (m := H.next) fun b hb => h2 b (by simp [hb]))⟩
theorem Sat.good {t : Nat} {L : List Ent} {last : Int} (h : Sat ρ H (TmA t L last :: R)) : Good L last := by
  obtain ⟨hw, S, h1, h2⟩ := h
  obtain ⟨S1, S2, rfl, ⟨n, k1⟩, _⟩ := h1.cons_inv
  exact k1.good
end
end Go.AM

/-
  The document's timers: what their methods give, by what is to come.
-/
namespace Go.AM
attribute [local simp] AH.ld AH.ldn AH.stn AH.new Nat.add_assoc resA resA1 fillA buildA slSlA boundsA boundA callvP
def HS (r : List Ent) : Prop := r.Pairwise fun a b => a.handle < b.handle
theorem HS.snoc {r : List Ent} {e : Ent} (h : HS r) (hb : ∀ x ∈ r, x.handle < e.handle) : HS (r ++ [e]) :=
  List.pairwise_append.2 ⟨h, List.pairwise_singleton _ _, fun x hx y hy => by simp at hy; subst hy; exact hb x hx⟩
theorem HS.get {r : List Ent} (h : HS r) {i j : Nat} {a b : Ent} (hij : i < j) (ha : r[i]? = some a) (hb : r[j]? = some b) : a.handle < b.handle := by
  obtain ⟨hi, rfl⟩ := List.getElem?_eq_some_iff.1 ha
  obtain ⟨hj, rfl⟩ := List.getElem?_eq_some_iff.1 hb
  exact List.pairwise_iff_getElem.1 h i j hi hj hij
theorem erase_perm {r : List Ent} {k : Nat} {e : Ent} (h : r[k]? = some e) : r.Perm (e :: r.eraseIdx k) := by
  obtain ⟨hk, rfl⟩ := List.getElem?_eq_some_iff.1 h
  rw [List.eraseIdx_eq_take_drop_succ]
  conv => lhs; rw [show r = r.take k ++ r[k] :: r.drop (k + 1) by simp]
  exact List.perm_middle
theorem least_head {r L : List Ent} {x e : Ent} {last : Int} {k : Nat} (hl : IsLeast r k e) (hp : r.Perm (x :: L)) (hs : HS r) (hg : Good (x :: L) last) : e = x := by
  obtain ⟨h1, h2, h3⟩ := hl
  have hx : x ∈ r := hp.mem_iff.2 (by simp)
  obtain ⟨j, hj⟩ := List.getElem?_of_mem hx
  have he : e ∈ x :: L := hp.mem_iff.1 (List.mem_of_getElem? h1)
  rcases List.mem_cons.1 he with h | h
  · exact h
  · have a1 := (List.pairwise_cons.1 hg.srt).1 e h
    rw [ahead_iff] at a1
    have a2 := h2 j x hj
    by_cases hjk : j < k
    · have := h3 j x hjk hj; omega
    · by_cases hkj : k < j
      · have := hs.get hkj h1 hj; omega
      · have : j = k := by omega
        subst this
        rw [h1] at hj; cases hj; rfl
theorem fidx_get {r : List Ent} {k : Nat} {e : Ent} (h : r[k]? = some e) (hs : HS r) : fidx r e.handle = some k :=
  fidx_of h rfl fun i x hi hx => by have := hs.get hi hx h; omega
theorem fidx_gets {r : List Ent} {h : Int} {i : Nat} (hf : fidx r h = some i) : ∃ e, r[i]? = some e ∧ e.handle = h := by
  obtain ⟨hi, hh⟩ := fidx_some hf
  unfold gE at hh
  rw [getD_get hi] at hh
  exact ⟨r[i], List.getElem?_eq_getElem hi, hh⟩
theorem cancel_plain {r L : List Ent} {last h : Int} (hp : r.Perm L) (hs : HS r) (hg : Good L last) :
    (fidx r h).isSome = (byH L h).isSome ∧ (match fidx r h with | none => r | some i => r.eraseIdx i).Perm (L.filter fun e => decide (e.handle ≠ h)) ∧ HS (match fidx r h with | none => r | some i => r.eraseIdx i) := by
  have hb := fidx_byH hp hg.nod (h := h)
  cases hf : fidx r h with
  | none =>
    rw [hf] at hb
    refine ⟨by rw [← hb]; rfl, ?_, hs⟩
    have : L.filter (fun e => decide (e.handle ≠ h)) = L := by
      rw [List.filter_eq_self]
      intro e he
      simpa using byH_none.1 hb.symm e he
    simp only [this]; exact hp
  | some i =>
    rw [hf] at hb
    refine ⟨by rw [← hb]; rfl, ?_, hs.sublist (List.eraseIdx_sublist _ _)⟩
    obtain ⟨e, he, hh⟩ := fidx_gets hf
    have h1 := erase_perm he
    have h2 := (h1.symm.trans hp).filter (fun e => decide (e.handle ≠ h))
    rw [List.filter_cons, if_neg (by rw [hh]; simp)] at h2
    have h3 : (r.eraseIdx i).filter (fun e => decide (e.handle ≠ h)) = r.eraseIdx i := by
      rw [List.filter_eq_self]
      intro x hx
      have hnd : ((e :: r.eraseIdx i).map Ent.handle).Nodup := ((h1.symm.trans hp).map Ent.handle).nodup_iff.2 hg.nod
      simp only [List.map_cons, List.nodup_cons] at hnd
      simp only [decide_eq_true_eq]
      intro hc
      exact hnd.1 (List.mem_map.2 ⟨x, hx, by rw [hc, hh]⟩)
    rwa [h3] at h2
def RfT (m : Nat) (L : List Ent) (last : Int) : Asr := .ex fun r => .all [RfR m r last, .pure (r.Perm L ∧ HS r ∧ Good L last)]
section
variable {ρ : HF} {H : AH} {Rs : List Asr} {m : Nat} {L : List Ent} {last : Int}
theorem Sat.rtOpen (h : Sat ρ H (RfT m L last :: Rs)) : ∃ r, Sat ρ H (RfR m r last :: Rs) ∧ r.Perm L ∧ HS r ∧ Good L last := by
  obtain ⟨r, h⟩ := h.ex
  obtain ⟨hp, h⟩ := h.all.swap.pure
  exact ⟨r, h, hp⟩
theorem Sat.rtClose {r : List Ent} (h : Sat ρ H (RfR m r last :: Rs)) (hp : r.Perm L ∧ HS r ∧ Good L last) : Sat ρ H (RfT m L last :: Rs) :=
  Sat.mkEx r (Sat.mkAll (Sat.mkPure hp h).swap)
end
section
variable (m : Nat) (L : List Ent) (last : Int)
theorem RtInsert_tri (a x : Int) (hl : L.length < 256) (hlast : last < 4611686018427387904) : Tri tab noExt F.detentref7_Timers_Insert [ptr m, u64 a, i64 x] [RfT m L last] fun v P' => v = .tup [.s (.int .i64 (last + 1)), .s (.int .i64 0)] ∧ P' = [RfT m (insE ⟨a, last + 1, x⟩ L) (last + 1)] := by
  intro ρ H Rs hs
  obtain ⟨r, hs, hp, hh, hg⟩ := Sat.rtOpen hs
  refine (RfInsert_tri m r last a x (by rw [hp.length_eq]; exact hl) ⟨hg.pos, hlast⟩).use hs ?_
  rintro v H' P' ⟨rfl, rfl⟩ hs
  refine ⟨_, ⟨rfl, rfl⟩, Sat.rtClose hs ⟨?_, hh.snoc fun e he => ?_, hg.ins a x hl⟩⟩
  · exact (List.perm_append_singleton _ _).trans ((hp.cons _).trans (insE_perm _ _).symm)
  · have := (hg.bnd e (hp.mem_iff.1 he)).2
    simp only; omega
theorem RtCancel_tri (h : Int) : Tri tab noExt F.detentref7_Timers_Cancel [ptr m, i64 h] [RfT m L last] fun v P' => v = bl (byH L h).isSome ∧ P' = [RfT m (L.filter fun e => decide (e.handle ≠ h)) last] := by
  intro ρ H Rs hs
  obtain ⟨r, hs, hp, hh, hg⟩ := Sat.rtOpen hs
  refine (RfCancel_tri m r last h (by rw [hp.length_eq]; exact hg.len)).use hs ?_
  rintro v H' P' ⟨rfl, rfl⟩ hs
  obtain ⟨c1, c2, c3⟩ := cancel_plain (h := h) hp hh hg
  refine ⟨_, ⟨by rw [c1], rfl⟩, Sat.rtClose hs ⟨c2, c3, hg.sub List.filter_sublist⟩⟩
theorem RtDue_tri (now : Int) : Tri tab noExt F.detentref7_Timers_Due [ptr m, u64 now] [RfT m L last] fun v P' => ∃ s, v = .s s ∧ P' = [Row encI 1 s ((dueL L now).map Ent.arg), RfT m (toL L now) last] := by
  intro ρ H Rs hs
  apply detentref7_Timers_Due_call
  have hg0 : Good L last := by obtain ⟨_, _, _, _, h⟩ := Sat.rtOpen hs; exact h
  refine loopP_invK (I := fun n T H => T.length = 45 ∧ sl T 0 = ptr m ∧ sl T 1 = u64 now ∧ ∃ s o L', sl T 5 = .s s ∧ n = L'.length ∧ o ++ dueL L' now = dueL L now ∧ toL L' now = toL L now ∧ o.length + L'.length ≤ 256 ∧ Sat ρ H (Row encI 1 s (o.map Ent.arg) :: RfT m L' last :: Rs)) ?_ L.length _ _ ⟨rfl, rfl, rfl, _, [], L, rfl, rfl, rfl, rfl, by simpa using hg0.len, Sat.mkNil ((hs.bump _).bump _) 1⟩
  intro n T H ⟨hT, s0, s1, s, o, L', s5, hn, hd1, hd2, hl, hs⟩ K kn kr ko
  rw [detentref7_Timers_Due_l0_at hT]
  obtain ⟨r, hs1, hp, hh, hg⟩ := Sat.rtOpen hs.swap
  simp [s0, s1, s5]
  refine (RfLeast_tri m r last (by rw [hp.length_eq]; exact hg.len)).use (hs1.bump _) ?_
  rintro v H1 P' ⟨rfl, hv⟩ hs2
  rcases hv with ⟨rfl, rfl⟩ | ⟨k, e, rfl, hle⟩
  · have hL : L' = [] := List.length_eq_zero_iff.1 (by rw [← hp.length_eq]; rfl)
    subst hL
    simp
    refine kr _ _ ?_
    simp [s5]
    have h1 : Sat ρ H1 (RfT m [] last :: Row encI 1 s (o.map Ent.arg) :: Rs) := Sat.rtClose hs2 ⟨hp, hh, hg⟩
    have e1 : dueL L now = o := by rw [← hd1]; simp [dueL]
    have e2 : toL L now = [] := by rw [← hd2]; rfl
    rw [e1, e2]
    exact ((h1.swap.bump _).bump _)
  · have hk : k < r.length := (List.getElem?_eq_some_iff.1 hle.1).1
    cases L' with
    | nil => have := hp.length_eq; simp at this; rw [this] at hk; simp at hk
    | cons x L' =>
      have hex := least_head hle hp hh hg
      subst hex
      obtain ⟨sr, hs3⟩ := Sat.rfOpen hs2
      obtain ⟨b, c, j, rfl, hb2, _, _⟩ := hs3.swap.rowBlk (by omega)
      have hb := hs3.cel
      have hc0 := flat_cell encR_len (j := j) hle.1 0 (by omega)
      have hc1 := flat_cell encR_len (j := j) hle.1 1 (by omega)
      have hc2 := flat_cell encR_len (j := j) hle.1 2 (by omega)
      simp [encR] at hc0 hc1 hc2
      have n0 : ¬ (k : Int) < 0 := by omega
      have hk' : (k : Int) < (r.length : Int) := by omega
      by_cases hnow : e.at_ ≤ now
      · have n1 : ¬ now < e.at_ := by omega
        simp [n0, hb, hb2, hk, hk', hc1, hc2, n1, -AH.new]
        have hs4 := (hs3.bump 14).frees 12 [9, 10] (by decide) (by decide)
        simp only [List.map_cons, List.map_nil, List.cons_append, List.nil_append, bump_next, Nat.add_assoc, Nat.reduceAdd] at hs4
        refine ⟨_, new_of _ hs4.fre, ?_⟩
        have hs5 := Sat.mk hs4 (encI e.arg)
        simp only [encI] at hs5
        generalize ((H1.bump 14).bump 12).set (H1.next + 23) (Blk.cells false [SV.int IntKind.i64 e.arg]) = H5 at *
        have hs6 : Sat ρ H5 (Row encI 1 s (o.map Ent.arg) :: Fre (H1.next + 24) :: Cel (H1.next + 23) [SV.int IntKind.i64 e.arg] :: Cel m [.slice (some (b, 0)) r.length c 3, .int .i64 last] :: Row encR 3 (.slice (some (b, 0)) r.length c 3) r :: Rs) := by
          have h1 : Sat ρ H5 (Row encI 1 s (o.map Ent.arg) :: Cel (H1.next + 23) _ :: Fre (H1.next + 24) :: Cel m _ :: Row encR 3 _ r :: Rs) := hs5.front 4 (by simp)
          have h2 : Sat ρ H5 (Fre (H1.next + 24) :: Row encI 1 s (o.map Ent.arg) :: Cel (H1.next + 23) _ :: Cel m _ :: Row encR 3 _ r :: Rs) := h1.front 2 (by simp)
          exact h2.swap
        have hl2 : o.length < 256 := by simp at hl; omega
        obtain ⟨s', H6, e6, hs7, _⟩ := hs6.append1 encI_len (bytes := 8) (c := 1) (e := e.arg) (o := 0) rfl (by simp) (by simp; omega)
        refine andThen_of' e6 ?_
        have hs8 : Sat ρ H6 (Cel m [.slice (some (b, 0)) r.length c 3, .int .i64 last] :: Row encR 3 (.slice (some (b, 0)) r.length c 3) r :: Row encI 1 s' (o.map Ent.arg ++ [e.arg]) :: Rs) := by
          have h1 : Sat ρ H6 (Cel (H1.next + 23) _ :: Row encI 1 s' (o.map Ent.arg ++ [e.arg]) :: Cel m _ :: Row encR 3 _ r :: Rs) := hs7.swap
          have h2 : Sat ρ H6 (Row encR 3 _ r :: Row encI 1 s' (o.map Ent.arg ++ [e.arg]) :: Cel m _ :: Rs) := h1.drop.front 2 (by simp)
          exact h2.front 2 (by simp)
        have hb8 := hs8.cel
        obtain ⟨b', c', j', he', hb9, _, _⟩ := hs8.swap.rowBlk (by omega)
        cases he'
        have hc9 := flat_cell encR_len (j := j') hle.1 0 (by omega)
        simp [encR] at hc9
        simp [hb8, hb9, hk, hk', hc9]
        refine (RfCancel_tri m r last e.handle (by rw [hp.length_eq]; exact hg.len)).use (Sat.rfClose (hs8.bump 10)) ?_
        rintro v H7 P' ⟨rfl, rfl⟩ hs9
        rw [fidx_get hle.1 hh] at hs9
        have hg' : Good L' last := hg.sub (List.sublist_cons_self _ _)
        have hp' : (r.eraseIdx k).Perm L' := (List.perm_cons _).1 ((erase_perm hle.1).symm.trans hp)
        refine kn L'.length _ _ (by simp at hn; omega) ⟨rfl, rfl, rfl, s', o ++ [e], L', rfl, rfl, ?_, ?_, by simp at hl ⊢; omega, ?_⟩
        · rw [← hd1]; simp [dueL, hnow]
        · rw [← hd2]; simp [toL, hnow]
        · rw [List.map_append]
          exact (Sat.rtClose hs9 ⟨hp', hh.sublist (List.eraseIdx_sublist _ _), hg'⟩).swap
      · have n1 : now < e.at_ := by omega
        simp [n0, hb, hb2, hk, hk', hc1, n1]
        refine kr _ _ ?_
        simp [s5]
        have h1 : Sat ρ H1 (RfT m (e :: L') last :: Row encI 1 s (o.map Ent.arg) :: Rs) := Sat.rtClose hs2 ⟨hp, hh, hg⟩
        have e1 : dueL L now = o := by rw [← hd1]; simp [dueL, hnow]
        have e2 : toL L now = e :: L' := by rw [← hd2]; simp [toL, hnow]
        rw [e1, e2]
        exact ((h1.swap.bump _).bump _)
end
end Go.AM

/-
  Timers told apart; the same of both.
-/
namespace Go.AM
attribute [local simp] AH.ld AH.ldn AH.stn AH.new Nat.add_assoc resA resA1 fillA buildA slSlA boundsA boundA callvP
section
variable {ρ : HF} {H : AH} {Rs : List Asr}
theorem Sat.rowOfA {α : Type} {enc : α → List SV} {k : Nat} {s : SV} {r : List α} (h : Sat ρ H (RowA enc k s r :: Rs)) : Sat ρ H (Row enc k s r :: Rs) :=
  Sat.imp (A := RowA enc k s r) (B := Row enc k s r) (fun _ _ ⟨_, h⟩ => h.elim .inl fun ⟨b, c, j, h1, h2, _, h4, h5⟩ => .inr ⟨b, c, j, h1, h2, h4, h5⟩) h
end
theorem Same3_tri (x y : SV) (D : List Int) (hD : D.length ≤ 1000000) : Tri tab noExt F.detentlaw3_Same [.s x, .s y] [Row encI 1 x D, Row encI 1 y D] fun v P' => v = bl true ∧ P' = [Row encI 1 x D, Row encI 1 y D] := by
  intro ρ H Rs hs
  have hs : Sat ρ H (Row encI 1 x D :: Row encI 1 y D :: Rs) := hs
  apply detentlaw3_Same_call
  have l1 := hs.rowLen
  have l2 := hs.swap.rowLen
  simp [l1, l2]
  refine loopP_invK (I := fun n T H => T.length = 26 ∧ sl T 0 = .s x ∧ sl T 1 = .s y ∧ ∃ i : Nat, sl T 5 = i64 i ∧ i ≤ D.length ∧ n = D.length - i ∧ Sat ρ H (Row encI 1 x D :: Row encI 1 y D :: Rs)) ?_ D.length _ _ ⟨rfl, rfl, rfl, 0, rfl, Nat.zero_le _, rfl, (by (repeat refine Sat.bump ?_ _); exact hs)⟩
  intro n T H ⟨hT, s0, s1, i, s5, hi, hn, hs⟩ K kn kr ko
  rw [detentlaw3_Same_l0_at hT]
  have l1 := hs.rowLen
  by_cases hlt : i < D.length
  · have hlt' : (i : Int) < (D.length : Int) := by omega
    obtain ⟨b, c, j, rfl, hb, _, _⟩ := hs.rowBlk (by omega)
    obtain ⟨b', c', j', rfl, hb', _, _⟩ := hs.swap.rowBlk (by omega)
    obtain ⟨e, he⟩ := get_ex hlt
    have hc := flat_cell encI_len (j := j) he 0 (by omega)
    have hc' := flat_cell encI_len (j := j') he 0 (by omega)
    simp [encI] at hc hc'
    have w1 : IntKind.i64.wrap ((i : Int) + 1) = (i : Int) + 1 := wrap_i64 (by omega) (by omega)
    simp [s0, s1, s5, hlt, hlt', hb, hb', hc, hc', w1]
    exact kn (D.length - (i + 1)) _ _ (by omega) ⟨rfl, rfl, rfl, i + 1, rfl, hlt, rfl, by (repeat refine Sat.bump ?_ _); exact hs⟩
  · have hie : i = D.length := by omega
    subst hie
    simp [s0, s1, s5, l1]
    refine ko _ _ _ ?_
    simp only [blockK_out, if_true, seqK_norm]
    rw [detentlaw3_Same_s1_at rfl]
    simp
    exact (hs.bump _).bump _
end Go.AM

/-
  A clock, opened and closed.
-/
namespace Go.AM
section
variable {ρ : HF} {H : AH} {R : List Asr}
theorem Sat.ckOpen {c : Nat} {L : List Ent} {last tic up base : Int} (h : Sat ρ H (CkA c L last tic up base :: R)) : ∃ t, Sat ρ H (Cel c [.ptr (some (t, 0)), .int .u64 tic, .int .u64 up, .int .u64 base] :: TmA t L last :: R) := by
  obtain ⟨hw, S, h1, h2⟩ := h
  obtain ⟨S1, S2, rfl, ⟨n, h0, t, St, k1, k2, rfl, k4⟩, h4, h5⟩ := h1.cons_inv
  refine ⟨t, hw, [c] ++ (St ++ S2), .cons ⟨rfl, k1⟩ (.cons ⟨n, k2⟩ h4 fun b hb => h5 b (by simp [hb])) ?_, by simpa using h2⟩
  intro b hb hs
  simp at hb
  subst hb
  rcases List.mem_append.1 hs with hs | hs
  · exact k4 hs
  · exact h5 b (by simp) hs
theorem Sat.ckClose {c t : Nat} {L : List Ent} {last tic up base : Int} (h : Sat ρ H (Cel c [.ptr (some (t, 0)), .int .u64 tic, .int .u64 up, .int .u64 base] :: TmA t L last :: R)) : Sat ρ H (CkA c L last tic up base :: R) := by
  obtain ⟨hw, S, h1, h2⟩ := h
  obtain ⟨S1, S2, rfl, ⟨rfl, k1⟩, h3, h4⟩ := h1.cons_inv
  obtain ⟨S3, S4, rfl, ⟨n, k2⟩, h5, h6⟩ := h3.cons_inv
  refine ⟨hw, ([c] ++ S3) ++ S4, .cons (A := CkA c L last tic up base) ⟨H.next, h2 c (by simp), t, S3, k1, k2.next fun b hb => h2 b (by simp [hb]), rfl, fun hc => h4 c (by simp) (by simp [hc])⟩ h5 ?_, by simpa using h2⟩
  intro b hb hs
  rcases List.mem_append.1 hb with hb | hb
  · exact h4 b hb (by simp [hs])
  · exact h6 b hb hs
end
end Go.AM

/-
  Handlers by time: what they are on the heap; a tick's cyclic ones.
-/
set_option maxRecDepth 10000
namespace Go.AM
attribute [local simp] Nat.add_assoc resA resA1 fillA buildA callvP
section
variable {α : Type} {enc : α → List SV} {k : Nat}
theorem rdCell (hk : ∀ e, (enc e).length = k) {H : AH} {b : Nat} {ro : Bool} {r : List α} {j : List SV} (hb : H.blk b = some (.cells ro (flat enc r ++ j))) {i : Nat} {x : α} (hx : r[i]? = some x) (d : Nat) (hd : d < k) : H.ld b (i * k + d) = (enc x)[d]? := by
  rw [ld_of H hb, flat_cell hk hx d hd]
theorem splice_set {l : List SV} {o : Nat} {v : SV} (h : o < l.length) : splice l o [v] = l.set o v := by
  unfold splice
  rw [List.set_eq_take_append_cons_drop, if_pos h]
  simp
theorem wrCell (hk : ∀ e, (enc e).length = k) {H : AH} {b : Nat} {r : List α} {j : List SV} (hb : H.blk b = some (.cells false (flat enc r ++ j))) {i : Nat} {x y : α} (hx : r[i]? = some x) (d : Nat) (hd : d < k) (v : SV) (hy : enc y = (enc x).set d v) : H.stn b (i * k + d) [v] = some (H.set b (.cells false (flat enc (r.set i y) ++ j))) := by
  obtain ⟨hi, rfl⟩ := List.getElem?_eq_some_iff.1 hx
  have hf := flat_fit hk r j i hi
  rw [stn_of H hb (by simp only [List.length_singleton]; omega), splice_set (by omega)]
  obtain ⟨h1, h2⟩ := flat_split hk r i hi
  have h3 : flat enc (r.set i y) = flat enc (r.take i) ++ (enc y ++ flat enc (r.drop (i + 1))) := by
    rw [List.set_eq_take_append_cons_drop, if_pos hi]
    simp [flat]
  rw [h1, h3, hy]
  congr 3
  have e : i * k + d = (flat enc (r.take i)).length + d := by rw [h2]
  rw [e, List.append_assoc, List.set_append_right _ _ (by omega), Nat.add_sub_cancel_left, List.append_assoc, List.set_append_left _ _ (by rw [hk]; exact hd), List.append_assoc, List.append_assoc]
end
def encC (c : Cyc) : List SV := [.int .u64 c.first, .int .u64 c.next, .int .u64 c.period, .bool c.on, .bool c.keep]
def encL (a : Alr) : List SV := [.bool a.on, .int .u64 a.at_]
theorem encC_len (c : Cyc) : (encC c).length = 5 := rfl
theorem encL_len (a : Alr) : (encL a).length = 2 := rfl
def HdA (h : Nat) (cs : List Cyc) (al : List Alr) (L : List Ent) (last tic up base : Int) : Asr :=
  Asr.ex fun (q : Nat × SV × SV) => Asr.all [Cel h [.ptr (some (q.1, 0)), .int .u64 tic, q.2.1, q.2.2], CkA q.1 L last tic up base, Row encC 5 q.2.1 cs, Row encL 2 q.2.2 al]
section
variable {ρ : HF} {H : AH} {R : List Asr} {h : Nat} {cs : List Cyc} {al : List Alr} {L : List Ent} {last tic up base : Int}
theorem Sat.hdOpen (hs : Sat ρ H (HdA h cs al L last tic up base :: R)) : ∃ c s1 s2, Sat ρ H (Cel h [.ptr (some (c, 0)), .int .u64 tic, s1, s2] :: CkA c L last tic up base :: Row encC 5 s1 cs :: Row encL 2 s2 al :: R) := by
  obtain ⟨⟨c, s1, s2⟩, h1⟩ := Sat.ex hs
  exact ⟨c, s1, s2, Sat.all h1⟩
theorem Sat.hdClose {c : Nat} {s1 s2 : SV} (hs : Sat ρ H (Cel h [.ptr (some (c, 0)), .int .u64 tic, s1, s2] :: CkA c L last tic up base :: Row encC 5 s1 cs :: Row encL 2 s2 al :: R)) : Sat ρ H (HdA h cs al L last tic up base :: R) :=
  Sat.mkEx (F := fun (q : Nat × SV × SV) => Asr.all [Cel h [.ptr (some (q.1, 0)), .int .u64 tic, q.2.1, q.2.2], CkA q.1 L last tic up base, Row encC 5 q.2.1 cs, Row encL 2 q.2.2 al]) (c, s1, s2) (Sat.mkAll hs)
end
structure HdOk (cs : List Cyc) (al : List Alr) (up : Int) : Prop where
  up0 : 0 ≤ up
  up1 : up < 68719476736
  lc : cs.length ≤ 8
  la : al.length ≤ 8
  c : ∀ c ∈ cs, (0 ≤ c.first ∧ c.first < 4398046511104) ∧ (0 ≤ c.next ∧ c.next < 4398046511104) ∧ (1 ≤ c.period ∧ c.period < 4294967296)
  a : ∀ a ∈ al, 0 ≤ a.at_ ∧ a.at_ < 4398046511104
section
variable {ρ : HF}
theorem pass_l0 (up : Int) (hu : 0 ≤ up ∧ up < 68719476736) (b : Nat) (jb : List SV) (A B : List Cyc) (c : Cyc) (hc : (0 ≤ c.next ∧ c.next < 4398046511104) ∧ (1 ≤ c.period ∧ c.period < 4294967296)) (i : Nat) (hi : i = A.length) (hi8 : i < 8) (g : List Fir) (hg : (g.length : Int) ≤ i * (up + 1)) (Rs : List Asr) (T : List AV) (H : AH) (hT : T.length = 114) (A0 A4 A25 A26 : AV) (s0 : sl T 0 = A0) (s4 : sl T 4 = A4) (s5 : sl T 5 = u64 up) (so : SV) (s6 : sl T 6 = .s so) (s7 : sl T 7 = i64 i) (s8 : sl T 8 = .s (.ptr (some (b, i * 5)))) (s25 : sl T 25 = A25) (s26 : sl T 26 = A26)
    (hs : Sat ρ H (Row encF 3 so g :: Cel b (flat encC (A ++ c :: B) ++ jb) :: Rs)) (K : Ex → List AV → AH → Prop)
    (hk : ∀ (T' : List AV) (H' : AH) (so' : SV), T'.length = 114 → sl T' 0 = A0 → sl T' 4 = A4 → sl T' 5 = u64 up → sl T' 6 = .s so' → sl T' 25 = A25 → sl T' 26 = A26 → Sat ρ H' (Row encF 3 so' (g ++ firesC c i (firesN c up)) :: Cel b (flat encC (A ++ cycT up c :: B) ++ jb) :: Rs) → K (.out 2) T' H') :
    loopP tab noExt R.cyc_Hands_Pass_l0 T H K := by
  have hN := firesN_le (c := c) (up := up) hc.2.1 hc.1.1 hu.1
  refine loopP_invK (I := fun k T H' => T.length = 114 ∧ sl T 0 = A0 ∧ sl T 4 = A4 ∧ sl T 5 = u64 up ∧ sl T 7 = i64 i ∧ sl T 8 = .s (.ptr (some (b, i * 5))) ∧ sl T 25 = A25 ∧ sl T 26 = A26 ∧ ∃ (so : SV) (n : Nat), sl T 6 = .s so ∧ n ≤ firesN c up ∧ k = firesN c up - n ∧ Sat ρ H' (Row encF 3 so (g ++ firesC c i n) :: Cel b (flat encC (A ++ nextC c n :: B) ++ jb) :: Rs)) ?_ (firesN c up) _ _ ⟨hT, s0, s4, s5, s7, s8, s25, s26, so, 0, s6, Nat.zero_le _, rfl, by rw [nextC_zero]; simpa [firesC] using hs⟩
  rintro k T H' ⟨hT, s0, s4, s5, s7, s8, s25, s26, so, n, s6, hn, hk', hs⟩ K' kn kr ko
  rw [cyc_Hands_Pass_l0_at hT]
  have hb := (hs.front 1 (by simp)).cel
  have hx : (A ++ nextC c n :: B)[i]? = some (nextC c n) := by subst hi; simp
  have g3 := rdCell encC_len hb hx 3 (by omega)
  have g1 := rdCell encC_len hb hx 1 (by omega)
  have hmore := firesN_more (up := up) hc.2.1 n hn
  have hon : (nextC c n).on = c.on := rfl
  simp [encC] at g3 g1
  have hnl : n < firesN c up → 0 ≤ (nextC c n).next ∧ (nextC c n).next ≤ up := by
    intro h
    refine ⟨?_, (hmore.2 h).2⟩
    simp only [nextC]
    have : 0 ≤ (n : Int) * c.period := Int.mul_nonneg (by omega) (by omega)
    omega
  by_cases hlt : n < firesN c up
  · obtain ⟨ho, hle⟩ := hmore.2 hlt
    obtain ⟨hn0, _⟩ := hnl hlt
    rw [hon, ho] at g3
    have w1 := wrapP1 i (by omega)
    simp [s0, s4, s5, s6, s7, s8, s25, s26, g3, g1, hle, w1]
    have hs1 := Sat.frees (hs.bump 12) 11 [8, 9] (by decide) (by decide)
    simp only [List.map_cons, List.map_nil, List.cons_append, List.nil_append, bump_next, Nat.add_assoc] at hs1
    refine ⟨_, new_of _ hs1.fre, ?_⟩
    have hs2 := Sat.mk hs1 [.bool true, .int .i64 ((i : Int) + 1), .int .u64 (nextC c n).next]
    generalize ((H'.bump 12).bump 11).set (H'.next + (12 + 8)) (Blk.cells false [.bool true, .int .i64 ((i : Int) + 1), .int .u64 (nextC c n).next]) = H3 at *
    have hs3 : Sat ρ H3 (Row encF 3 so (g ++ firesC c i n) :: Fre (H'.next + (12 + 9)) :: Cel (H'.next + (12 + 8)) _ :: Cel b (flat encC (A ++ nextC c n :: B) ++ jb) :: Rs) := Sat.re hs2 [2, 1, 0] (by simp) (by decide)
    have hfl : (g ++ firesC c i n).length = g.length + n := by rw [List.length_append, firesC_len]
    have hmul : (i : Int) * (up + 1) ≤ 8 * (up + 1) := Int.mul_le_mul_of_nonneg_right (by omega) (by omega)
    obtain ⟨so', H4, e4, hs4, hn4⟩ := Sat.append1 (bytes := 24) (c := 1) (o := 0) (e := (⟨true, (i : Int) + 1, (nextC c n).next⟩ : Fir)) encF_len hs3 rfl (by simp) (by rw [hfl]; omega)
    refine ⟨_, e4, ?_⟩
    have hb4 := (hs4.front 2 (by simp)).cel
    have q1 := rdCell encC_len hb4 hx 1 (by omega)
    have q2 := rdCell encC_len hb4 hx 2 (by omega)
    have w3 : IntKind.u64.wrap ((nextC c n).next + (nextC c n).period) = (nextC c (n + 1)).next := by
      rw [← nextC_succ]
      have : (nextC c n).period = c.period := rfl
      rw [wrap_u64 (by rw [this]; omega) (by rw [this]; omega)]
      simp [nextC]
    have hb5 : (H4.bump 12).blk b = some (.cells false (flat encC (A ++ nextC c n :: B) ++ jb)) := hb4
    have q3 := wrCell encC_len hb5 hx (y := nextC c (n + 1)) 1 (by omega) (.int .u64 (nextC c (n + 1)).next) (by simp [encC, nextC])
    have hset : (A ++ nextC c n :: B).set i (nextC c (n + 1)) = A ++ nextC c (n + 1) :: B := by subst hi; simp
    rw [hset] at q3
    simp [encC] at q1 q2
    simp [q1, q2, w3]
    refine ⟨_, q3, kn (firesN c up - (n + 1)) _ _ (by omega) ⟨rfl, rfl, rfl, rfl, rfl, rfl, rfl, rfl, so', n + 1, rfl, hlt, rfl, ?_⟩⟩
    rw [firesC_succ, ← List.append_assoc]
    have hs5 : Sat ρ H4 (Cel b (flat encC (A ++ nextC c n :: B) ++ jb) :: Row encF 3 so' ((g ++ firesC c i n) ++ [⟨true, (i : Int) + 1, (nextC c n).next⟩]) :: Rs) := Sat.sel hs4 [2, 0] 3 (by simp) (by decide)
    exact ((Sat.set (hs5.bump 12) _).swap)
  · have hne : ¬ (c.on = true ∧ (nextC c n).next ≤ up) := fun h => hlt (hmore.1 h)
    have hn' : n = firesN c up := by omega
    subst hn'
    have key : ∀ (T' : List AV) (H'' : AH), T'.length = 114 → sl T' 0 = A0 → sl T' 4 = A4 → sl T' 5 = u64 up → sl T' 6 = .s so → sl T' 25 = A25 → sl T' 26 = A26 → Sat ρ H'' (Row encF 3 so (g ++ firesC c i (firesN c up)) :: Cel b (flat encC (A ++ nextC c (firesN c up) :: B) ++ jb) :: Rs) → K' (.out 2) T' H'' :=
      fun T' H'' h1 h2 h3 h4 h5 h6 h7 h8 => ko _ _ _ (hk _ _ so h1 h2 h3 h4 h5 h6 h7 h8)
    cases ho : c.on
    · rw [hon, ho] at g3
      simp [s0, s4, s5, s6, s7, s8, s25, s26, g3]
      exact key _ _ rfl rfl rfl rfl rfl rfl rfl (hs.bump _)
    · rw [hon, ho] at g3
      have hle : ¬ (nextC c (firesN c up)).next ≤ up := fun h => hne ⟨ho, h⟩
      simp [s0, s4, s5, s6, s7, s8, s25, s26, g3, g1, hle]
      exact key _ _ rfl rfl rfl rfl rfl rfl rfl (hs.bump _)
end
end Go.AM

/-
  Handlers by time: a tick.
-/
set_option maxRecDepth 10000
namespace Go.AM
attribute [local simp] Nat.add_assoc resA resA1 fillA buildA callvP
section
variable {ρ : HF}
theorem pass_l2 (up : Int) (hu : 0 ≤ up ∧ up < 68719476736) (h : Nat) (cs : List Cyc) (hcs : cs.length ≤ 8) (hc : ∀ c ∈ cs, (0 ≤ c.next ∧ c.next < 4398046511104) ∧ (1 ≤ c.period ∧ c.period < 4294967296)) (c0 s1 s2 : SV) (tic : Int) (Rs : List Asr) (T : List AV) (H : AH) (hT : T.length = 114) (A4 : AV) (t0 : sl T 0 = ptr h) (t4 : sl T 4 = A4) (t5 : sl T 5 = u64 up) (e : Nat) (t6 : sl T 6 = .s (.slice none 0 0 e)) (t25 : sl T 25 = i64 cs.length) (t26 : sl T 26 = i64 (0 : Nat))
    (hs : Sat ρ H (Cel h [c0, .int .u64 tic, s1, s2] :: Row encC 5 s1 cs :: Rs)) (K : Ex → List AV → AH → Prop)
    (hk : ∀ (T' : List AV) (H' : AH) (so : SV), T'.length = 114 → sl T' 0 = ptr h → sl T' 4 = A4 → sl T' 5 = u64 up → sl T' 6 = .s so → Sat ρ H' (Row encF 3 so (genC cs up cs.length) :: Cel h [c0, .int .u64 tic, s1, s2] :: Row encC 5 s1 (cs.map (cycT up)) :: Rs) → K (.out 0) T' H') :
    loopP tab noExt R.cyc_Hands_Pass_l2 T H K := by
  refine loopP_invK (I := fun k T H' => T.length = 114 ∧ sl T 0 = ptr h ∧ sl T 4 = A4 ∧ sl T 5 = u64 up ∧ sl T 25 = i64 cs.length ∧ ∃ (so : SV) (i : Nat), sl T 6 = .s so ∧ sl T 26 = i64 i ∧ i ≤ cs.length ∧ k = cs.length - i ∧ Sat ρ H' (Row encF 3 so (genC cs up i) :: Cel h [c0, .int .u64 tic, s1, s2] :: Row encC 5 s1 ((cs.take i).map (cycT up) ++ cs.drop i) :: Rs)) ?_ cs.length _ _ ⟨hT, t0, t4, t5, t25, _, 0, t6, t26, Nat.zero_le _, rfl, Sat.mkNil (by simpa using hs) e⟩
  rintro k T H' ⟨hT, t0, t4, t5, t25, so, i, t6, t26, hi, hk', hs⟩ K' kn kr ko
  rw [cyc_Hands_Pass_l2_at hT]
  by_cases hlt : i < cs.length
  · obtain ⟨c, hci⟩ : ∃ c, cs[i]? = some c := ⟨_, List.getElem?_eq_getElem hlt⟩
    have hcm := hc c (List.mem_of_getElem? hci)
    have hbh := (hs.front 1 (by simp)).cel
    have hs1 : Sat ρ H' (Row encC 5 s1 ((cs.take i).map (cycT up) ++ cs.drop i) :: Row encF 3 so (genC cs up i) :: Cel h [c0, .int .u64 tic, s1, s2] :: Rs) := Sat.re hs [2, 0, 1] (by simp) (by decide)
    have hl : ((cs.take i).map (cycT up) ++ cs.drop i).length = cs.length := by simp; omega
    have hdrop : cs.drop i = c :: cs.drop (i + 1) := by
      rw [List.drop_eq_getElem_cons hlt]
      have := (List.getElem?_eq_some_iff.1 hci).2
      rw [this]
    rcases hs1.rowInv with ⟨e1, _, h0, _⟩ | ⟨b, cp, j, hsl, hs2, h1, h2⟩
    · rw [h0] at hl; simp at hl; omega
    · rw [hl] at hsl h2
      have hgl := genC_len (cs := cs) hu.1 (fun c hc' => ⟨(hc c hc').2.1, (hc c hc').1.1⟩) i
      rw [hdrop] at hs2 h1
      have hs3 : Sat ρ H' (Row encF 3 so (genC cs up i) :: Cel b (flat encC ((cs.take i).map (cycT up) ++ c :: cs.drop (i + 1)) ++ j) :: Cel h [c0, .int .u64 tic, s1, s2] :: Rs) := hs2.swap
      have hlt' : (i : Int) < cs.length := by omega
      simp only [t0, t4, t5, t6, t25, t26, andThen_some, binA_lss, condP_bool]
      rw [decide_eq_true hlt']
      simp [AH.ld, hbh]
      refine ⟨_, by rw [hsl]; exact ixEl hlt, ?_⟩
      refine pass_l0 up hu b j ((cs.take i).map (cycT up)) (cs.drop (i + 1)) c hcm i (by simp; omega) (by omega) _ hgl _ _ _ rfl (ptr h) A4 (i64 cs.length) (i64 i) rfl rfl rfl so rfl rfl rfl rfl rfl (((hs3.bump 1).bump 2).bump 7) _ ?_
      intro T' H2 so' hT' u0 u4 u5 u6 u25 u26 hs4
      simp
      rw [cyc_Hands_Pass_s1_at hT']
      have w1 := wrapP1 i (by omega)
      simp only [u26, andThen_some, binA_add, w1]
      refine kn (cs.length - (i + 1)) _ _ (by omega) ⟨by simp, u0, u4, u5, u25, so', i + 1, u6, rfl, hlt, rfl, ?_⟩
      rw [genC_succ hci, ← map_take_succ hci]
      have hs5 : Sat ρ H2 (Cel b (flat encC ((cs.take i).map (cycT up) ++ cycT up c :: cs.drop (i + 1)) ++ j) :: Row encF 3 so' (genC cs up i ++ firesC c i (firesN c up)) :: Cel h [c0, .int .u64 tic, s1, s2] :: Rs) := hs4.swap
      have hl2 : ((cs.take i).map (cycT up) ++ cycT up c :: cs.drop (i + 1)).length = cs.length := by simp; omega
      have hs6 := Sat.mkRow (enc := encC) (k := 5) (c := cp) hs5 (by
        simp only [List.length_append, flat_len encC_len] at h1 ⊢
        simp at h1 ⊢; omega) (by omega)
      rw [hl2, ← hsl] at hs6
      exact (Sat.re hs6 [1, 2, 0] (by simp) (by decide)).bump 2
  · have hie : i = cs.length := by omega
    subst hie
    simp only [t0, t4, t5, t6, t25, t26, andThen_some, binA_lss, condP_bool]
    rw [decide_eq_false (by omega)]
    simp only [Bool.false_eq_true, if_false]
    refine ko _ _ _ (hk _ _ so rfl rfl rfl rfl rfl ?_)
    simpa using hs.bump 1
theorem pass_l3 (up : Int) (hu : 0 ≤ up ∧ up < 68719476736) (h : Nat) (al : List Alr) (hal : al.length ≤ 8) (ha : ∀ a ∈ al, 0 ≤ a.at_ ∧ a.at_ < 4398046511104) (g : List Fir) (hg : (g.length : Int) ≤ 8 * (up + 1)) (c0 s1 s2 : SV) (tic : Int) (Rs : List Asr) (T : List AV) (H : AH) (hT : T.length = 114) (A4 : AV) (t4 : sl T 4 = A4) (t0 : sl T 0 = ptr h) (t5 : sl T 5 = u64 up) (so0 : SV) (t6 : sl T 6 = .s so0) (t73 : sl T 73 = i64 al.length) (t74 : sl T 74 = i64 (0 : Nat))
    (hs : Sat ρ H (Row encF 3 so0 g :: Cel h [c0, .int .u64 tic, s1, s2] :: Row encL 2 s2 al :: Rs)) (K : Ex → List AV → AH → Prop)
    (hk : ∀ (T' : List AV) (H' : AH) (so : SV), T'.length = 114 → sl T' 4 = A4 → sl T' 6 = .s so → Sat ρ H' (Row encF 3 so (g ++ genA al up al.length) :: Cel h [c0, .int .u64 tic, s1, s2] :: Row encL 2 s2 (al.map (alrT up)) :: Rs) → K (.out 4) T' H') :
    loopP tab noExt R.cyc_Hands_Pass_l3 T H K := by
  refine loopP_invK (I := fun k T H' => T.length = 114 ∧ sl T 0 = ptr h ∧ sl T 4 = A4 ∧ sl T 5 = u64 up ∧ sl T 73 = i64 al.length ∧ ∃ (so : SV) (i : Nat), sl T 6 = .s so ∧ sl T 74 = i64 i ∧ i ≤ al.length ∧ k = al.length - i ∧ Sat ρ H' (Row encF 3 so (g ++ genA al up i) :: Cel h [c0, .int .u64 tic, s1, s2] :: Row encL 2 s2 ((al.take i).map (alrT up) ++ al.drop i) :: Rs)) ?_ al.length _ _ ⟨hT, t0, t4, t5, t73, so0, 0, t6, t74, Nat.zero_le _, rfl, by simpa [genA] using hs⟩
  rintro k T H' ⟨hT, t0, t4, t5, t73, so, i, t6, t74, hi, hk', hs⟩ K' kn kr ko
  rw [cyc_Hands_Pass_l3_at hT]
  by_cases hlt : i < al.length
  · obtain ⟨a, hai⟩ : ∃ a, al[i]? = some a := ⟨_, List.getElem?_eq_getElem hlt⟩
    have ham := ha a (List.mem_of_getElem? hai)
    have hbh := (hs.front 1 (by simp)).cel
    have hs1 : Sat ρ H' (Row encL 2 s2 ((al.take i).map (alrT up) ++ al.drop i) :: Row encF 3 so (g ++ genA al up i) :: Cel h [c0, .int .u64 tic, s1, s2] :: Rs) := Sat.re hs [2, 0, 1] (by simp) (by decide)
    have hl : ((al.take i).map (alrT up) ++ al.drop i).length = al.length := by simp; omega
    have hx : ((al.take i).map (alrT up) ++ al.drop i)[i]? = some a := map_take_get hai
    have hdrop : al.drop i = a :: al.drop (i + 1) := by
      rw [List.drop_eq_getElem_cons hlt]
      have := (List.getElem?_eq_some_iff.1 hai).2
      rw [this]
    rcases hs1.rowInv with ⟨e1, _, h0, _⟩ | ⟨b, cp, j, hsl, hs2, h1, h2⟩
    · rw [h0] at hl; simp at hl; omega
    · rw [hl] at hsl h2
      have hgl := genA_len al up i
      have hlt' : (i : Int) < al.length := by omega
      have hh3 : H'.ld h 3 = some s2 := by rw [ld_of H' hbh]; rfl
      have hb := hs2.cel
      have q0 := rdCell encL_len hb hx 0 (by omega)
      have q1 := rdCell encL_len hb hx 1 (by omega)
      simp [encL] at q0 q1
      have w1 := wrapP1 i (by omega)
      have hix := ixEl (b := b) (c := cp) (k := 2) hlt
      rw [← hsl] at hix
      have fin : ∀ (T' : List AV) (H2 : AH) (so' : SV), T'.length = 114 → sl T' 0 = ptr h → sl T' 4 = A4 → sl T' 5 = u64 up → sl T' 73 = i64 al.length → sl T' 6 = .s so' → sl T' 74 = i64 (i + 1 : Nat) → Sat ρ H2 (Cel b (flat encL ((al.take i).map (alrT up) ++ alrT up a :: al.drop (i + 1)) ++ j) :: Row encF 3 so' (g ++ genA al up (i + 1)) :: Cel h [c0, .int .u64 tic, s1, s2] :: Rs) → K' .norm T' H2 := by
        intro T' H2 so' hT' u0 u4 u5 u73 u6 u74 hs5
        refine kn (al.length - (i + 1)) _ _ (by omega) ⟨hT', u0, u4, u5, u73, so', i + 1, u6, u74, hlt, rfl, ?_⟩
        rw [← map_take_succ hai]
        have hl2 : ((al.take i).map (alrT up) ++ alrT up a :: al.drop (i + 1)).length = al.length := by simp; omega
        have hs6 := Sat.mkRow (enc := encL) (k := 2) (c := cp) hs5 (by
          simp only [List.length_append, flat_len encL_len] at h1 ⊢
          simp at h1 ⊢; omega) (by omega)
        rw [hl2, ← hsl] at hs6
        exact Sat.re hs6 [1, 2, 0] (by simp) (by decide)
      by_cases hf : a.on = true ∧ a.at_ ≤ up
      · obtain ⟨hon, hle⟩ := hf
        have ht : alrT up a = ⟨false, 0⟩ := by unfold alrT; rw [if_pos ⟨hon, hle⟩]
        have hga : genA al up (i + 1) = genA al up i ++ [⟨false, (i : Int) + 1, a.at_⟩] := by rw [genA_succ hai, if_pos ⟨hon, hle⟩]
        rw [hon] at q0
        simp only [t0, t4, t5, t6, t73, t74, andThen_some, binA_lss, condP_bool]
        rw [decide_eq_true hlt']
        simp [hh3, hix, q0, q1, hle, w1]
        have hs3 := Sat.frees ((((hs2.bump 1).bump 2).bump 7).bump 12) 11 [8, 9] (by decide) (by decide)
        simp only [List.map_cons, List.map_nil, List.cons_append, List.nil_append, bump_next, Nat.add_assoc] at hs3
        refine ⟨_, new_of _ hs3.fre, ?_⟩
        have hs4 := Sat.mk hs3 [.bool false, .int .i64 ((i : Int) + 1), .int .u64 a.at_]
        have hs5 := Sat.re hs4 [3, 1, 0, 2] (by simp) (by decide)
        obtain ⟨so', H4, e4, hs6, hn4⟩ := Sat.append1 (k := 3) (enc := encF) (bytes := 24) (c := 1) (o := 0) (e := (⟨false, (i : Int) + 1, a.at_⟩ : Fir)) (r := g ++ genA al up i) encF_len hs5 rfl (by simp) (by simp only [List.length_append]; omega)
        refine ⟨_, e4, ?_⟩
        have hs7 : Sat ρ H4 (Cel b (flat encL ((al.take i).map (alrT up) ++ al.drop i) ++ j) :: Row encF 3 so' ((g ++ genA al up i) ++ [⟨false, (i : Int) + 1, a.at_⟩]) :: Cel h [c0, .int .u64 tic, s1, s2] :: Rs) := Sat.sel hs6 [2, 0, 3] 4 (by simp) (by decide)
        have q3 := wrEl (H := H4.bump 4) encL_len (hs7.bump 4).cel (i := i) (by rw [hl]; exact hlt) (⟨false, 0⟩ : Alr)
        have hs8 := Sat.set (hs7.bump 4) (flat encL (((al.take i).map (alrT up) ++ al.drop i).set i (⟨false, 0⟩ : Alr)) ++ j)
        simp only [encL] at q3
        simp
        refine ⟨_, q3, fin _ _ so' rfl rfl rfl rfl rfl rfl rfl ?_⟩
        rw [hga, ht, ← map_take_set (f := alrT up) (y := (⟨false, 0⟩ : Alr)) hai, ← List.append_assoc]
        exact hs8.bump 2
      · have ht : alrT up a = a := by unfold alrT; rw [if_neg hf]
        have hga : genA al up (i + 1) = genA al up i := by rw [genA_succ hai, if_neg hf, List.append_nil]
        have hs3 : Sat ρ H' (Cel b (flat encL ((al.take i).map (alrT up) ++ alrT up a :: al.drop (i + 1)) ++ j) :: Row encF 3 so (g ++ genA al up (i + 1)) :: Cel h [c0, .int .u64 tic, s1, s2] :: Rs) := by
          rw [ht, hga, ← hdrop]; exact hs2
        simp only [t0, t4, t5, t6, t73, t74, andThen_some, binA_lss, condP_bool]
        rw [decide_eq_true hlt']
        cases hon : a.on
        · rw [hon] at q0
          simp [hh3, hix, q0, w1]
          exact fin _ _ so rfl rfl rfl rfl rfl rfl rfl (by (repeat refine Sat.bump ?_ _); exact hs3)
        · rw [hon] at q0
          have hle : ¬ a.at_ ≤ up := fun h => hf ⟨hon, h⟩
          simp [hh3, hix, q0, q1, hle, w1]
          exact fin _ _ so rfl rfl rfl rfl rfl rfl rfl (by (repeat refine Sat.bump ?_ _); exact hs3)
  · have hie : i = al.length := by omega
    subst hie
    simp only [t0, t4, t5, t6, t73, t74, andThen_some, binA_lss, condP_bool]
    rw [decide_eq_false (by omega)]
    simp only [Bool.false_eq_true, if_false]
    refine ko _ _ _ (hk _ _ so rfl rfl rfl ?_)
    simpa using hs.bump 1
theorem pass_s4 (Rs : List Asr) (T : List AV) (H : AH) (hT : T.length = 114) (A4 : AV) (t4 : sl T 4 = A4) (so : SV) (t6 : sl T 6 = .s so) (g : List Fir) (hg : g.length < 1152921504606846976)
    (hs : Sat ρ H (Row encF 3 so g :: Rs)) (K : Ex → List AV → AH → Prop)
    (hk : ∀ (T' : List AV) (H' : AH) (so' : SV) (z : List Fir), sl T' 2 = .s so' → sl T' 3 = A4 → SrtL ltF z → z.Perm g → Sat ρ H' (Row encF 3 so' z :: Rs) → K .ret T' H') :
    wpC tab noExt R.cyc_Hands_Pass_s4 T H K := by
  rw [cyc_Hands_Pass_s4_at hT]
  simp only [t4, t6]
  refine (SortF_tri so g hg).use (R := Rs) (hs.bump _) ?_
  rintro v H2 P' ⟨rfl, z, hz, hzp, rfl⟩ hs2
  refine (ClipF_tri so z).use (R := Rs) (Sat.bump hs2 _) ?_
  rintro v H3 P' ⟨so', rfl, rfl⟩ hs3
  exact hk _ _ so' z rfl rfl hz hzp hs3
theorem pass_s5 (up : Int) (hu : 0 ≤ up ∧ up < 68719476736) (h : Nat) (al : List Alr) (hal : al.length ≤ 8) (ha : ∀ a ∈ al, 0 ≤ a.at_ ∧ a.at_ < 4398046511104) (g : List Fir) (hg : (g.length : Int) ≤ 8 * (up + 1)) (c0 s1 s2 : SV) (tic : Int) (Rs : List Asr) (T : List AV) (H : AH) (hT : T.length = 114) (A4 : AV) (t0 : sl T 0 = ptr h) (t4 : sl T 4 = A4) (t5 : sl T 5 = u64 up) (so : SV) (t6 : sl T 6 = .s so)
    (hs : Sat ρ H (Row encF 3 so g :: Cel h [c0, .int .u64 tic, s1, s2] :: Row encL 2 s2 al :: Rs)) (K : Ex → List AV → AH → Prop)
    (hk : ∀ (T' : List AV) (H' : AH) (so' : SV) (z : List Fir), sl T' 2 = .s so' → sl T' 3 = A4 → SrtL ltF z → z.Perm (g ++ genA al up al.length) → Sat ρ H' (Row encF 3 so' z :: Cel h [c0, .int .u64 tic, s1, s2] :: Row encL 2 s2 (al.map (alrT up)) :: Rs) → K .ret T' H') :
    wpC tab noExt R.cyc_Hands_Pass_s5 T H K := by
  rw [cyc_Hands_Pass_s5_at hT]
  have hbh := (hs.front 1 (by simp)).cel
  have hh3 : H.ld h 3 = some s2 := by rw [ld_of H hbh]; rfl
  have hl := Sat.rowLen (Sat.re hs [2, 0, 1] (by simp) (by decide))
  simp only [t0, t4, t5, t6]
  simp [hh3, hl]
  refine pass_l3 up hu h al hal ha g hg c0 s1 s2 tic Rs _ _ rfl A4 rfl rfl rfl so rfl rfl rfl (hs.bump _) _ ?_
  intro T' H2 so' hT' u4 u6 hs2
  simp
  have hgl := genA_len al up al.length
  refine pass_s4 _ T' H2 hT' A4 u4 so' u6 _ (by rw [List.length_append]; omega) hs2 _ ?_
  intro T3 H3 so3 z v2 v3 hz hzp hs3
  exact hk T3 H3 so3 z v2 v3 hz hzp hs3
end
theorem Pass_tri (h : Nat) (cs : List Cyc) (al : List Alr) (L : List Ent) (last tic up base : Int) (hok : HdOk cs al up) (ht : 1 ≤ tic ∧ tic ≤ 1000) (hu : up + tic < 68719476736) :
    Tri tab noExt F.cyc_Hands_Pass [ptr h] [HdA h cs al L last tic up base] fun v P' => ∃ so sa z, v = .tup [.s so, .s sa] ∧ SrtL ltF z ∧ z.Perm (genF cs al (up + tic)) ∧ P' = [Row encF 3 so z, Row encI 1 sa ((dueL L (up + tic)).map Ent.arg), HdA h (cs.map (cycT (up + tic))) (al.map (alrT (up + tic))) (toL L (up + tic)) last tic (up + tic) base] := by
  refine Tri.intro fun ρ H Rs K hs hk => ?_
  apply cyc_Hands_Pass_call
  obtain ⟨c, s1, s2, hs1⟩ := Sat.hdOpen hs
  have hbh := hs1.cel
  have hh0 : H.ld h 0 = some (.ptr (some (c, 0))) := by rw [ld_of H hbh]; rfl
  have h0 := hok.up0
  have w : IntKind.u64.wrap (up + tic) = up + tic := wrap_u64 (by omega) (by omega)
  simp [hh0]
  refine (Tick_tri c L last tic up base).use ((((hs1.swap).bump 2).bump 6)) ?_
  rintro v H2 P' ⟨sa, rfl, rfl⟩ hs2
  rw [w] at hs2
  have hs2 : Sat ρ H2 (CkA c (toL L (up + tic)) last tic (up + tic) base :: Cel h [.ptr (some (c, 0)), .int .u64 tic, s1, s2] :: RowA encI 1 sa ((dueL L (up + tic)).map Ent.arg) :: Row encC 5 s1 cs :: Row encL 2 s2 al :: Rs) := Sat.re hs2 [1, 2, 0] (by simp) (by decide)
  have hbh2 := (hs2.front 1 (by simp)).cel
  have hh0 : H2.ld h 0 = some (.ptr (some (c, 0))) := by rw [ld_of H2 hbh2]; rfl
  simp [hh0]
  refine (Up_tri c _ last tic (up + tic) base).use (hs2.bump 6) ?_
  rintro v H3 P' ⟨rfl, rfl⟩ hs3
  have hs3 : Sat ρ H3 (Cel h [.ptr (some (c, 0)), .int .u64 tic, s1, s2] :: Row encC 5 s1 cs :: Row encL 2 s2 al :: CkA c (toL L (up + tic)) last tic (up + tic) base :: RowA encI 1 sa ((dueL L (up + tic)).map Ent.arg) :: Rs) := Sat.re hs3 [1, 3, 4, 0, 2] (by simp) (by decide)
  have hbh3 := hs3.cel
  have hh2 : H3.ld h 2 = some s1 := by rw [ld_of H3 hbh3]; rfl
  have hl := Sat.rowLen (Sat.drop hs3)
  simp [hh2, hl]
  refine pass_l2 (up + tic) ⟨by omega, hu⟩ h cs hok.lc (fun x hx => (hok.c x hx).2) _ s1 s2 tic _ _ _ rfl (.s sa) rfl rfl rfl 1 rfl rfl rfl ((hs3.bump 1).bump 6) _ ?_
  intro T' H4 so hT' u0 u4 u5 u6 hs4
  simp
  have hgl := genC_len (cs := cs) (up := up + tic) (by omega) (fun c hc' => ⟨(hok.c c hc').2.2.1, (hok.c c hc').2.1.1⟩) cs.length
  have hmul : (cs.length : Int) * (up + tic + 1) ≤ 8 * (up + tic + 1) := Int.mul_le_mul_of_nonneg_right (by have := hok.lc; omega) (by omega)
  have hs5 : Sat ρ H4 (Row encF 3 so (genC cs (up + tic) cs.length) :: Cel h [.ptr (some (c, 0)), .int .u64 tic, s1, s2] :: Row encL 2 s2 al :: Row encC 5 s1 (cs.map (cycT (up + tic))) :: CkA c (toL L (up + tic)) last tic (up + tic) base :: RowA encI 1 sa ((dueL L (up + tic)).map Ent.arg) :: Rs) := Sat.re hs4 [0, 1, 3, 2] (by simp) (by decide)
  refine pass_s5 (up + tic) ⟨by omega, hu⟩ h al hok.la hok.a _ (by omega) _ s1 s2 tic _ T' H4 hT' (.s sa) u0 u4 u5 so u6 hs5 _ ?_
  intro T5 H5 so5 z v2 v3 hz hzp hs6
  have v2' : T5[2]?.getD undef = .s so5 := by rw [← List.getD_eq_getElem?_getD]; exact v2
  have v3' : T5[3]?.getD undef = .s sa := by rw [← List.getD_eq_getElem?_getD]; exact v3
  simp [v2', v3']
  refine hk _ _ _ ⟨so5, sa, z, rfl, hz, hzp, rfl⟩ ?_
  have hs7 : Sat ρ H5 (RowA encI 1 sa ((dueL L (up + tic)).map Ent.arg) :: Cel h [.ptr (some (c, 0)), .int .u64 tic, s1, s2] :: CkA c (toL L (up + tic)) last tic (up + tic) base :: Row encC 5 s1 (cs.map (cycT (up + tic))) :: Row encL 2 s2 (al.map (alrT (up + tic))) :: Row encF 3 so5 z :: Rs) := Sat.re hs6 [5, 1, 4, 3, 2, 0] (by simp) (by decide)
  have hs8 : Sat ρ H5 (Cel h [.ptr (some (c, 0)), .int .u64 tic, s1, s2] :: CkA c (toL L (up + tic)) last tic (up + tic) base :: Row encC 5 s1 (cs.map (cycT (up + tic))) :: Row encL 2 s2 (al.map (alrT (up + tic))) :: Row encF 3 so5 z :: Row encI 1 sa ((dueL L (up + tic)).map Ent.arg) :: Rs) := Sat.re (Sat.rowOfA hs7) [1, 2, 3, 4, 5, 0] (by simp) (by decide)
  exact Sat.re (Sat.hdClose hs8) [1, 2, 0] (by simp) (by decide)
end Go.AM

/-
  The document's clock; clocks told apart; what is refused.
-/
namespace Go.AM
attribute [local simp] AH.ld AH.ldn AH.stn AH.new Nat.add_assoc resA resA1 fillA buildA slSlA boundsA boundA callvP
def RkA (m : Nat) (L : List Ent) (last tic up base : Int) : Asr := .ex fun t => .all [Cel m [.ptr (some (t, 0)), .int .i64 tic, .int .u64 up, .int .u64 base], RfT t L last]
section
variable {ρ : HF} {H : AH} {Rs : List Asr} {m : Nat} {L : List Ent} {last tic up base : Int}
theorem Sat.rkOpen (h : Sat ρ H (RkA m L last tic up base :: Rs)) : ∃ t, Sat ρ H (Cel m [.ptr (some (t, 0)), .int .i64 tic, .int .u64 up, .int .u64 base] :: RfT t L last :: Rs) := by
  obtain ⟨t, h⟩ := h.ex
  exact ⟨t, h.all⟩
theorem Sat.rkClose {t : Nat} (h : Sat ρ H (Cel m [.ptr (some (t, 0)), .int .i64 tic, .int .u64 up, .int .u64 base] :: RfT t L last :: Rs)) : Sat ρ H (RkA m L last tic up base :: Rs) :=
  Sat.mkEx t (Sat.mkAll h)
end
theorem NewClock_no (tic : Int) (h : tic < 1 ∨ 1000 < tic) : Tri tab noExt F.clock_NewClock [i64 tic] [] fun v P' => v = .tup [.s (.ptr none), .s (.int .i64 (-17))] ∧ P' = [] := by
  intro ρ H Rs hs
  apply clock_NewClock_call
  by_cases g1 : tic < 1
  · simp [g1]
    exact (by (repeat refine Sat.bump ?_ _); exact hs)
  · have g2 : 1000 < tic := by omega
    simp [g1, g2]
    exact (by (repeat refine Sat.bump ?_ _); exact hs)
theorem RkNew_no (tic : Int) (h : tic < 1 ∨ 1000 < tic) : Tri tab noExt F.detentref8_New [i64 tic] [] fun v P' => v = .tup [.s (.ptr none), .s (.int .i64 (-17))] ∧ P' = [] := by
  intro ρ H Rs hs
  apply detentref8_New_call
  by_cases g1 : tic < 1
  · simp [g1]
    exact (by (repeat refine Sat.bump ?_ _); exact hs)
  · have g2 : 1000 < tic := by omega
    simp [g1, g2]
    exact (by (repeat refine Sat.bump ?_ _); exact hs)
theorem RkNew_tri (tic : Int) (h1 : 1 ≤ tic) (h2 : tic ≤ 1000) : Tri tab noExt F.detentref8_New [i64 tic] [] fun v P' => ∃ m, v = .tup [.s (.ptr (some (m, 0))), .s (.int .i64 0)] ∧ P' = [RkA m [] 0 tic 0 0] := by
  intro ρ H Rs hs
  apply detentref8_New_call
  have g1 : ¬ tic < 1 := by omega
  have g2 : ¬ 1000 < tic := by omega
  simp [g1, g2, -AH.new]
  have hs1 := ((Sat.bump (l := Rs) hs 2).bump 6).frees 7 [1, 4] (by decide) (by decide)
  simp only [List.map_cons, List.map_nil, List.cons_append, List.nil_append, bump_next, Nat.add_assoc, Nat.reduceAdd] at hs1
  refine ⟨_, new_of _ hs1.fre, ?_⟩
  have hs2 := (Sat.mk hs1 [.slice none 0 0 1, .int .i64 0]).swap
  refine ⟨_, new_of _ hs2.fre, ?_⟩
  have hs3 := Sat.mk hs2 [.ptr (some (H.next + 9, 0)), .int .i64 tic, .int .u64 0, .int .u64 0]
  simp
  refine Sat.rkClose (t := H.next + 9) ?_
  have hs4 : Sat ρ _ (RfT (H.next + 9) [] 0 :: Cel (H.next + 12) _ :: Rs) := Sat.rtClose (r := []) (Sat.rfClose (r := []) (s := .slice none 0 0 1) (Sat.mkNil hs3.swap 1).swap) ⟨List.Perm.refl _, List.Pairwise.nil, Good.nil⟩
  exact hs4.swap
theorem tmod48 {x : Int} (h : 0 ≤ x) : x.tmod 281474976710656 = x % 281474976710656 := Int.tmod_eq_emod_of_nonneg h
theorem wrapU (y : Int) : IntKind.u64.wrap y = y % 18446744073709551616 := by simp [IntKind.wrap, IntKind.bits, IntKind.signed]
section
variable (m : Nat) (L : List Ent) (last tic up base : Int)
theorem RefAdd_tri (a b : Int) (ha : 0 ≤ a) (hb : 0 ≤ b) : Tri tab noExt F.detentref1_Add [u64 a, u64 b] [] fun v P' => v = u64 ((a + b) % 281474976710656) ∧ P' = [] := by
  refine Tri.intro fun ρ H Rs K hs hk => ?_
  apply detentref1_Add_call
  have w : IntKind.u64.wrap (a % 281474976710656 + b % 281474976710656) = a % 281474976710656 + b % 281474976710656 := by rw [wrapU]; omega
  have e : (a % 281474976710656 + b % 281474976710656).tmod 281474976710656 = (a + b) % 281474976710656 := by rw [tmod48 (by omega)]; omega
  simp [tmod48 ha, tmod48 hb, w, e]
  exact hk _ _ _ ⟨rfl, rfl⟩ (by (repeat refine Sat.bump ?_ _); exact hs)
theorem RefRel_tri (d : Int) (h1 : -9223372036854775808 ≤ d) (h2 : d < 9223372036854775808) :
    Tri tab noExt F.detentref1_Rel [i64 d] [] fun v P' => v = (if d < 0 ∨ 2147483647 < d then .tup [.s (.int .u64 0), .s (.int .i64 (-17))] else .tup [.s (.int .u64 d), .s (.int .i64 0)]) ∧ P' = [] := by
  intro ρ H Rs hs
  apply detentref1_Rel_call
  by_cases h : d < 0
  · simp [h]
    exact (by (repeat refine Sat.bump ?_ _); exact hs)
  · by_cases h' : 2147483647 < d
    · simp [h, h']
      exact (by (repeat refine Sat.bump ?_ _); exact hs)
    · have hw : IntKind.u64.wrap d = d := wrap_u64 (by omega) (by omega)
      simp [h, h', hw]
      exact (by (repeat refine Sat.bump ?_ _); exact hs)
theorem RkNow_tri (hb : 0 ≤ base ∧ base < 281474976710656) (hu : 0 ≤ up ∧ up ≤ 1000000) : Tri tab noExt F.detentref8_Clock_Now [ptr m] [RkA m L last tic up base] fun v P' => v = u64 ((IntKind.u64.wrap (base + up)).tmod 281474976710656) ∧ P' = [RkA m L last tic up base] := by
  refine Tri.intro fun ρ H Rs K hs hk => ?_
  obtain ⟨t, hs⟩ := Sat.rkOpen hs
  have hc := hs.cel
  apply detentref8_Clock_Now_call
  simp [hc]
  refine (RefAdd_tri base up hb.1 hu.1).use (R := _ :: _ :: Rs) ((hs.bump 1).bump 10) ?_
  rintro v H1 P' ⟨rfl, rfl⟩ hs1
  refine hk _ _ _ ⟨?_, rfl⟩ (Sat.rkClose hs1)
  rw [wrapU, tmod48 (by omega)]
  congr 2; omega
theorem RkTick_tri (ht : 1 ≤ tic ∧ tic ≤ 1000) (hu : 0 ≤ up ∧ up ≤ 1000000) : Tri tab noExt F.detentref8_Clock_Tick [ptr m] [RkA m L last tic up base] fun v P' => ∃ s, v = .s s ∧ P' = [Row encI 1 s ((dueL L (IntKind.u64.wrap (up + tic))).map Ent.arg), RkA m (toL L (IntKind.u64.wrap (up + tic))) last tic (IntKind.u64.wrap (up + tic)) base] := by
  refine Tri.intro fun ρ H Rs K hs hk => ?_
  obtain ⟨t, hs⟩ := Sat.rkOpen hs
  have hc := hs.cel
  apply detentref8_Clock_Tick_call
  have w : IntKind.u64.wrap tic = tic := wrap_u64 (by omega) (by omega)
  simp [hc, w]
  have hs1 := Sat.set ((hs.bump 1).bump 14) [.ptr (some (t, 0)), .int .i64 tic, .int .u64 (IntKind.u64.wrap (up + tic)), .int .u64 base]
  refine (RtDue_tri t L last (IntKind.u64.wrap (up + tic))).use (hs1.swap.bump 10) ?_
  rintro v H1 P' ⟨s, rfl, rfl⟩ hs2
  refine hk _ _ _ ⟨s, rfl, rfl⟩ ?_
  have hs3 : Sat ρ H1 (Cel m _ :: Row encI 1 s _ :: RfT t _ last :: Rs) := hs2.front 2 (by simp)
  have hs4 : Sat ρ H1 (RfT t _ last :: Cel m _ :: Row encI 1 s _ :: Rs) := hs3.front 2 (by simp)
  exact (Sat.rkClose hs4.swap).swap
theorem RkAfter_tri (ht : 1 ≤ tic ∧ tic ≤ 1000) (d x : Int) (hd : 0 ≤ d) (hd2 : d ≤ 2147483647) (hl : L.length < 256) (hlast : last < 4611686018427387904) :
    Tri tab noExt F.detentref8_Clock_After [ptr m, i64 d, i64 x] [RkA m L last tic up base] fun v P' => v = .tup [.s (.int .i64 (last + 1)), .s (.int .i64 0)] ∧ P' = [RkA m (insE ⟨IntKind.u64.wrap (IntKind.u64.wrap (up + d) + tic), last + 1, x⟩ L) (last + 1) tic up base] := by
  intro ρ H Rs hs
  obtain ⟨t, hs⟩ := Sat.rkOpen hs
  apply detentref8_Clock_After_call
  refine (RefRel_tri d (by omega) (by omega)).use (R := _ :: _ :: Rs) ((hs.bump 2).bump 7) ?_
  rintro v H1 P' ⟨rfl, rfl⟩ hs1
  rw [if_neg (by omega)]
  have hc := hs1.cel
  have w : IntKind.u64.wrap tic = tic := wrap_u64 (by omega) (by omega)
  simp [hc, w]
  refine (RtInsert_tri t L last _ x hl hlast).use (hs1.swap.bump 2 |>.bump 22) ?_
  rintro v H2 P' ⟨rfl, rfl⟩ hs2
  simp
  exact Sat.rkClose hs2.swap
theorem RkAfter_no (d x : Int) (hd : d < 0 ∨ 2147483647 < d) (h1 : -9223372036854775808 ≤ d) (h2 : d < 9223372036854775808) :
    Tri tab noExt F.detentref8_Clock_After [ptr m, i64 d, i64 x] [RkA m L last tic up base] fun v P' => v = .tup [.s (.int .i64 0), .s (.int .i64 (-17))] ∧ P' = [RkA m L last tic up base] := by
  intro ρ H Rs hs
  apply detentref8_Clock_After_call
  refine (RefRel_tri d h1 h2).use (R := _ :: Rs) ((hs.bump 2).bump 7) ?_
  rintro v H1 P' ⟨rfl, rfl⟩ hs1
  rw [if_pos hd]
  simp
  exact (hs1.bump 2).bump 3
theorem After_no (d x : Int) (hd : d < 0 ∨ 2147483647 < d) (h1 : -9223372036854775808 ≤ d) (h2 : d < 9223372036854775808) :
    Tri tab noExt F.clock_Clock_After [ptr m, i64 d, i64 x] [CkA m L last tic up base] fun v P' => v = .tup [.s (.int .i64 0), .s (.int .i64 (-17))] ∧ P' = [CkA m L last tic up base] := by
  intro ρ H Rs hs
  apply clock_Clock_After_call
  have hrel : Tri tab noExt F.nums_Rel [i64 d] [] fun v P' => v = .tup [.s (.int .u64 0), .s (.int .i64 (-17))] ∧ P' = [] :=
    Tri.of tab_wf noExt_wf noExt_next noExt_ro fun _ H S hw _ hs hb => (nums_Rel_spec d H h1 h2).mono fun v H' ⟨k1, k2⟩ => ⟨[], ⟨by rw [k1, if_pos hd], rfl⟩, [], .nil, by simp, by simp, fun b hb _ => k2.2 b hb⟩
  refine hrel.use (R := _ :: Rs) ((hs.bump 2).bump 7) ?_
  rintro v H1 P' ⟨rfl, rfl⟩ hs1
  simp
  exact (by (repeat refine Sat.bump ?_ _); exact hs1)
end
end Go.AM
