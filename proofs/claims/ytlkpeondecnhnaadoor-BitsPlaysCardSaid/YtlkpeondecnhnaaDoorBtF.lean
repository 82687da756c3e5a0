/-
  bits: any play: what is asked at its end; the law.
-/
import Derived.Test.YtlkpeondecnhnaaDoorBtE
namespace Go.AM
attribute [local simp] AH.ld AH.ldn AH.stn AH.new Nat.add_assoc resA resA1 fillA buildA slSlA boundsA boundA callvP

theorem fo_step {h : Nat → Bool} {p : Int} {q : Nat} (on : h (q + 1) = true) : (fo h p (q + 1)).getD 0 = if (fo h p q).getD 0 = 0 ∧ p < (q : Int) + 1 then (q : Int) + 1 else (fo h p q).getD 0 := by
  rw [fo_succ, if_pos on]
  cases he : fo h p q with
  | none =>
    by_cases hp : p < (q : Int) + 1 <;> simp [hp]
  | some x =>
    have := fo_pos he
    have hx : ¬ x = 0 := by omega
    simp [hx]

theorem fo_skip {h : Nat → Bool} {p : Int} {q : Nat} (on : h (q + 1) = false) : fo h p (q + 1) = fo h p q := by
  rw [fo_succ, if_neg (by rw [on]; decide)]

theorem hasOn_at {h : Nat → Bool} {q : Nat} (hq : q < 256) : hasOn h ((q : Int) + 1) = h (q + 1) := by
  unfold hasOn
  rw [show ((q : Int) + 1).toNat = q + 1 by omega, decide_eq_true (by omega), Bool.true_and]

section
variable {ρ : HF}

theorem play_s5 (q : Nat) (hq : q < 256) (T : List AV) (H : AH) (hT : T.length = 184) (s13 : sl T 13 = i64 ((q : Int) + 1)) (K : Ex → List AV → AH → Prop)
    (hk : ∀ T', T'.length = 184 → sl T' 1 = sl T 1 → sl T' 5 = sl T 5 → sl T' 6 = sl T 6 → sl T' 10 = sl T 10 → sl T' 11 = sl T 11 → sl T' 12 = sl T 12 → sl T' 13 = i64 ((q : Int) + 1 + 1) → K .norm T' (H.bump 3)) :
    wpC tab noExt R.detentlaw5_BitsPlays_s5 T H K := by
  have w1 : IntKind.i64.wrap ((q : Int) + 1 + 1) = (q : Int) + 1 + 1 := wrap_i64 (by omega) (by omega)
  rw [detentlaw5_BitsPlays_s5_at hT]
  simp [s13, w1]
  exact hk _ rfl rfl rfl rfl rfl rfl rfl rfl

set_option maxRecDepth 4000 in
theorem play_s4 (f a pp : Int) (q : Nat) (hq : q < 256) (T : List AV) (H : AH) (hT : T.length = 184) (s1 : sl T 1 = i64 pp) (s12 : sl T 12 = i64 a) (s13 : sl T 13 = i64 ((q : Int) + 1)) (K : Ex → List AV → AH → Prop)
    (b o : Nat) (row : SV) (s5 : sl T 5 = ptr b) (s6 : sl T 6 = ptr o) (s10 : sl T 10 = .s row) (s11 : sl T 11 = i64 f) (L : List Asr) (hs : Sat ρ H L)
    (hk : ∀ T' H', T'.length = 184 → sl T' 1 = i64 pp → sl T' 5 = ptr b → sl T' 6 = ptr o → sl T' 10 = .s row → sl T' 11 = i64 f → sl T' 12 = i64 (if a = 0 ∧ pp < (q : Int) + 1 then (q : Int) + 1 else a) → sl T' 13 = i64 ((q : Int) + 1 + 1) → Sat ρ H' L → K .norm T' H') :
    wpC tab noExt R.detentlaw5_BitsPlays_s4 T H (blockK 5 (seqK (fun T H => wpC tab noExt R.detentlaw5_BitsPlays_s5 T H K) K)) := by
  rw [detentlaw5_BitsPlays_s4_at hT]
  by_cases h1 : a = 0
  · by_cases h2 : pp < (q : Int) + 1
    · rw [if_pos ⟨h1, h2⟩] at hk
      simp [s1, s12, s13, h1, h2]
      refine play_s5 q hq _ _ rfl rfl K fun T' u0 u1 u5 u6 u10 u11 u12 u13 => ?_
      exact hk _ _ u0 (u1.trans rfl) (by first | exact u5.trans s5 | exact u5) (by first | exact u6.trans s6 | exact u6) (by first | exact u10.trans s10 | exact u10) (by first | exact u11.trans s11 | exact u11) (u12.trans rfl) u13 (by (repeat refine Sat.bump ?_ _); exact hs)
    · rw [if_neg (fun h => h2 h.2)] at hk
      simp [s1, s12, s13, h1, h2]
      refine play_s5 q hq _ _ rfl rfl K fun T' u0 u1 u5 u6 u10 u11 u12 u13 => ?_
      exact hk _ _ u0 (u1.trans rfl) (by first | exact u5.trans s5 | exact u5) (by first | exact u6.trans s6 | exact u6) (by first | exact u10.trans s10 | exact u10) (by first | exact u11.trans s11 | exact u11) (u12.trans (by rw [h1]; rfl)) u13 (by (repeat refine Sat.bump ?_ _); exact hs)
  · rw [if_neg (fun h => h1 h.1)] at hk
    simp [s1, s12, s13, h1]
    refine play_s5 q hq _ _ ?_ ?_ K fun T' u0 u1 u5 u6 u10 u11 u12 u13 => ?_
    · rfl
    · first | rfl | exact s13
    exact hk _ _ u0 (by first | exact u1.trans s1 | exact u1) (by first | exact u5.trans s5 | exact u5) (by first | exact u6.trans s6 | exact u6) (by first | exact u10.trans s10 | exact u10) (by first | exact u11.trans s11 | exact u11) (u12.trans rfl) u13 (by (repeat refine Sat.bump ?_ _); exact hs)

set_option maxRecDepth 4000 in
theorem play_l6 (b o : Nat) (pp : Int) (h : Nat → Bool) (T : List AV) (H : AH) (hT : T.length = 184) (s1 : sl T 1 = i64 pp) (s5 : sl T 5 = ptr b) (s6 : sl T 6 = ptr o) (s10 : sl T 10 = .s (.slice none 0 0 1)) (s11 : sl T 11 = i64 0) (s12 : sl T 12 = i64 0) (s13 : sl T 13 = i64 1)
    (hs : Sat ρ H [MpA b h [], Cel o (boolsC h)]) (K : Ex → List AV → AH → Prop)
    (hk : ∀ T' H' row, T'.length = 184 → sl T' 1 = i64 pp → sl T' 5 = ptr b → sl T' 10 = .s row → sl T' 11 = i64 ((fo h 0 256).getD 0) → sl T' 12 = i64 ((fo h pp 256).getD 0) → Sat ρ H' [MpA b h [], Row encI 1 row (rowUpto h 256)] → K (.out 4) T' H') :
    loopP tab noExt R.detentlaw5_BitsPlays_l6 T H K := by
  refine loopP_invK (I := fun n T' H' => T'.length = 184 ∧ sl T' 1 = i64 pp ∧ sl T' 5 = ptr b ∧ sl T' 6 = ptr o ∧ ∃ (q : Nat) (row : SV), sl T' 10 = .s row ∧ sl T' 11 = i64 ((fo h 0 q).getD 0) ∧ sl T' 12 = i64 ((fo h pp q).getD 0) ∧ sl T' 13 = i64 ((q : Int) + 1) ∧ q ≤ 256 ∧ n = 256 - q ∧ Sat ρ H' [MpA b h [], Row encI 1 row (rowUpto h q), Cel o (boolsC h)]) ?_ 256 _ _ ⟨hT, s1, s5, s6, 0, _, s10, s11, s12, s13, by omega, rfl, (Sat.mkNil hs 1).swap⟩
  rintro n T' H' ⟨hT', t1, t5, t6, q, row, t10, t11, t12, t13, hq, hn, hs⟩ K' kn kr ko
  rw [detentlaw5_BitsPlays_l6_at hT']
  by_cases hlt : q < 256
  · have g1 : (q : Int) + 1 ≤ 256 := by omega
    have g2 : (q : Int) + 1 < 258 := by omega
    have g3 : (0 : Int) ≤ (q : Int) + 1 := by omega
    have g4 : ((q : Int) + 1).toNat = q + 1 := by omega
    have w1 : IntKind.i64.wrap ((q : Int) + 1 + 1) = (q : Int) + 1 + 1 := wrap_i64 (by omega) (by omega)
    have hget := boolsC_get h (show q + 1 < 258 by omega)
    have hc := (hs.front 2 (by simp)).cel
    have hc : H'.blk o = some (.cells false (boolsC h)) := hc
    simp [t5, t6, t13, g1, g2, g3, g4, hc, hget]
    refine (MapHas_tri b h [] _).use ((hs.bump 2).bump 6) ?_
    rintro v H2 P' ⟨rfl, rfl⟩ hs2
    rw [hasOn_at hlt]
    have hs2 : Sat ρ H2 [MpA b h [], Row encI 1 row (rowUpto h q), Cel o (boolsC h)] := hs2
    have hc2 := (hs2.front 2 (by simp)).cel
    have hc2 : H2.blk o = some (.cells false (boolsC h)) := hc2
    cases hon : h (q + 1) with
    | false =>
      rw [hon] at hget
      simp [hc2, hget, g2, g3, g4, t13, t6]
      refine play_s5 q hlt _ _ ?_ ?_ K' fun T2 u0 u1 u5 u6 u10 u11 u12 u13 => ?_
      · rfl
      · first | rfl | exact t13
      refine kn (256 - (q + 1)) _ _ (by omega) ⟨u0, (by first | exact u1.trans t1 | exact u1), (by first | exact u5.trans t5 | exact u5), (by first | exact u6.trans t6 | exact u6), q + 1, row, (by first | exact u10.trans t10 | exact u10), ?_, ?_, u13, by omega, rfl, ?_⟩
      · rw [fo_skip hon]; first | exact u11.trans t11 | exact u11
      · rw [fo_skip hon]; first | exact u12.trans t12 | exact u12
      · rw [rowUpto_succ, hon]
        simp only [Bool.false_eq_true, if_false, List.append_nil]
        exact (by (repeat refine Sat.bump ?_ _); exact hs2)
    | true =>
      rw [hon] at hget
      simp [hc2, hget, g2, g3, g4, t13, t6, t10, t11, -AH.new]
      have hs3 := (hs2.bump 4).frees 5 [2, 3] (by decide) (by decide)
      simp only [List.map_cons, List.map_nil, List.cons_append, List.nil_append, bump_next, Nat.add_assoc, Nat.reduceAdd] at hs3
      refine ⟨_, new_of _ hs3.fre, ?_⟩
      have hs4 := Sat.mk hs3 (encI ((q : Int) + 1))
      simp only [encI] at hs4
      have hs5 : Sat ρ _ (Row encI 1 row (rowUpto h q) :: Fre (H2.next + 7) :: Cel (H2.next + 6) [.int .i64 ((q : Int) + 1)] :: MpA b h [] :: [Cel o (boolsC h)]) := hs4.re [3, 1, 0, 2, 4] (by simp) (by decide)
      have hle := rowUpto_le h q
      obtain ⟨s', H3, e2, hs6, _⟩ := hs5.append1 encI_len (bytes := 8) (c := 1) (e := (q : Int) + 1) (o := 0) rfl (by simp) (by omega)
      refine andThen_of' e2 ?_
      have hrow : rowUpto h q ++ [(q : Int) + 1] = rowUpto h (q + 1) := by rw [rowUpto_succ, hon]; rfl
      rw [hrow] at hs6
      have hs7 : Sat ρ H3 [MpA b h [], Row encI 1 s' (rowUpto h (q + 1)), Cel o (boolsC h)] := hs6.sel [2, 0, 3] 4 (by simp) (by decide)
      have e1 := fo_step (p := 0) hon
      have e2 := fo_step (p := pp) hon
      have e0 : (0 : Int) < (q : Int) + 1 := by omega
      simp only [e0, and_true] at e1
      generalize (fo h 0 q).getD 0 = f at *
      generalize (fo h pp q).getD 0 = a at *
      by_cases hf : f = 0
      · rw [if_pos hf] at e1
        simp [hf]
        refine play_s4 (ρ := ρ) ((q : Int) + 1) a pp q hlt _ _ ?_ ?_ ?_ ?_ K' b o s' ?_ ?_ ?_ ?_ _ ((hs7.bump 2).bump 2) ?_
        · rfl
        · first | rfl | exact t1
        · first | rfl | exact t12
        · rfl
        · first | rfl | exact t5
        · rfl
        · rfl
        · rfl
        intro T2 H4 u0 u1 u5 u6 u10 u11 u12 u13 hs8
        exact kn (256 - (q + 1)) _ _ (by omega) ⟨u0, u1, u5, u6, q + 1, s', u10, by rw [e1]; exact u11, by rw [e2]; exact u12, u13, by omega, rfl, hs8⟩
      · rw [if_neg hf] at e1
        simp [hf]
        refine play_s4 (ρ := ρ) f a pp q hlt _ _ ?_ ?_ ?_ ?_ K' b o s' ?_ ?_ ?_ ?_ _ (hs7.bump 2) ?_
        · rfl
        · first | rfl | exact t1
        · first | rfl | exact t12
        · rfl
        · first | rfl | exact t5
        · rfl
        · rfl
        · first | rfl | exact t11
        intro T2 H4 u0 u1 u5 u6 u10 u11 u12 u13 hs8
        exact kn (256 - (q + 1)) _ _ (by omega) ⟨u0, u1, u5, u6, q + 1, s', u10, by rw [e1]; exact u11, by rw [e2]; exact u12, u13, by omega, rfl, hs8⟩
  · have hie : q = 256 := by omega
    subst hie
    simp [t13]
    exact ko _ _ _ (hk _ _ row rfl t1 t5 t10 t11 t12 ((show Sat ρ H' [MpA b h [], Row encI 1 row (rowUpto h 256)] from hs.sel [0, 1] 3 (by simp) (by decide)).bump _))

theorem play_l7 (r : List Int) (hr : r.length ≤ 256) (p q : SV) (T : List AV) (H : AH) (hT : T.length = 184) (s10 : sl T 10 = .s p) (s18 : sl T 18 = .s q) (s19 : sl T 19 = i64 0) (L : List Asr)
    (hs : Sat ρ H (RdI q r :: RdI p r :: L)) (K : Ex → List AV → AH → Prop) (hk : ∀ T' H', T'.length = 184 → K (.out 6) T' H') :
    loopP tab noExt R.detentlaw5_BitsPlays_l7 T H K := by
  have hl1 := Sat.rdLen hs
  refine loopP_invK (I := fun n T' H' => T'.length = 184 ∧ sl T' 10 = .s p ∧ sl T' 18 = .s q ∧ ∃ i : Nat, sl T' 19 = i64 i ∧ i ≤ r.length ∧ n = r.length - i ∧ Sat ρ H' (RdI q r :: RdI p r :: L)) ?_ r.length _ _ ⟨hT, s10, s18, 0, s19, Nat.zero_le _, rfl, hs⟩
  intro n T' H' ⟨hT', t10, t18, i, t19, hi, hn, hs⟩ K' kn _ ko
  rw [detentlaw5_BitsPlays_l7_at hT']
  by_cases hlt : i < r.length
  · have hlt' : (i : Int) < (r.length : Int) := by omega
    obtain ⟨y, hyi⟩ := get_ex hlt
    obtain ⟨bs, c, ro, l, rfl, hb, hli, _⟩ := Sat.rdGet hs hyi
    obtain ⟨bs2, c2, ro2, l2, rfl, hb2, hli2, _⟩ := Sat.rdGet hs.swap hyi
    have w1 : IntKind.i64.wrap ((i : Int) + 1) = (i : Int) + 1 := wrap_i64 (by omega) (by omega)
    simp [t10, t18, t19, hlt, hlt', hb, hli, hb2, hli2, w1]
    exact kn (r.length - (i + 1)) _ _ (by omega) ⟨rfl, rfl, rfl, i + 1, rfl, hlt, rfl, by (repeat refine Sat.bump ?_ _); exact hs⟩
  · have hie : i = r.length := by omega
    subst hie
    simp [t18, t19, hl1]
    exact ko _ _ _ (hk _ _ rfl)

set_option maxRecDepth 4000 in
theorem play_s9 (b : Nat) (pp : Int) (h : Nat → Bool) (row : SV) (T : List AV) (H : AH) (hT : T.length = 184) (s1 : sl T 1 = i64 pp) (s5 : sl T 5 = ptr b) (s10 : sl T 10 = .s row) (s11 : sl T 11 = i64 ((fo h 0 256).getD 0)) (s12 : sl T 12 = i64 ((fo h pp 256).getD 0))
    (hs : Sat ρ H [MpA b h [], Row encI 1 row (rowUpto h 256)]) (K : Ex → List AV → AH → Prop) (hk : ∀ T' H', sl T' 4 = bl true → K .ret T' H') :
    wpC tab noExt R.detentlaw5_BitsPlays_s9 T H K := by
  rw [detentlaw5_BitsPlays_s9_at hT]
  rw [fo_next] at s11 s12
  rw [show (0 : Int).toNat = 0 from rfl] at s11
  simp only [s5, s1, s10, s11, s12]
  refine (MapFirst_tri _ _ _).use (hs.bump 6) ?_
  rintro v H1 P' ⟨rfl, rfl⟩ hs1
  have e1 : ∃ (x : Int) (is : Bool), afterV (nextOn h 0) = .tup [.s (.int .i64 x), .s (.bool is)] ∧ ((nextOn h 0).map fun (j : Nat) => ((j : Int) + 1)).getD 0 = x ∧ decide (x > 0) = is := by
    cases nextOn h 0 with
    | none => exact ⟨0, false, rfl, rfl, rfl⟩
    | some j => exact ⟨(j : Int) + 1, true, rfl, rfl, decide_eq_true (by omega)⟩
  have e2 : ∃ (x : Int) (is : Bool), afterV (nextOn h pp.toNat) = .tup [.s (.int .i64 x), .s (.bool is)] ∧ ((nextOn h pp.toNat).map fun (j : Nat) => ((j : Int) + 1)).getD 0 = x ∧ decide (x > 0) = is := by
    cases nextOn h pp.toNat with
    | none => exact ⟨0, false, rfl, rfl, rfl⟩
    | some j => exact ⟨(j : Int) + 1, true, rfl, rfl, decide_eq_true (by omega)⟩
  obtain ⟨x, is, e3, e4, e5⟩ := e1
  obtain ⟨y, js, e6, e7, e8⟩ := e2
  rw [e3, e4, e7]
  simp
  refine (MapAfter_tri _ _ _ _).use (hs1.bump 7) ?_
  rintro v H2 P' ⟨rfl, rfl⟩ hs2
  rw [e6]
  simp
  refine (MapRow_tri _ _ _).use (hs2.bump 2) ?_
  rintro v H3 P' ⟨q, rfl, rfl⟩ hs3
  have hs3 : Sat ρ H3 [MpA b h [], Row encI 1 q (rowUpto h 256), Row encI 1 row (rowUpto h 256)] := hs3.re [1, 0] (by simp) (by decide)
  have l1 := (hs3.front 1 (by simp)).rowLen
  have l2 := (hs3.front 2 (by simp)).rowLen
  have hle := rowUpto_le h 256
  simp [e5, e8]
  refine (MapLen_tri _ _ _).use (hs3.bump 42) ?_
  rintro v H4 P' ⟨rfl, rfl⟩ hs4
  simp [l1, l2]
  refine (MapHas_tri _ _ _ _).use hs4 ?_
  rintro v H5 P' ⟨rfl, rfl⟩ hs5
  rw [show hasOn h 0 = false by simp [hasOn]]
  simp
  refine (MapHas_tri _ _ _ _).use hs5 ?_
  rintro v H6 P' ⟨rfl, rfl⟩ hs6
  rw [show hasOn h 257 = false by simp [hasOn]]
  simp
  refine (MapHas_tri _ _ _ _).use hs6 ?_
  rintro v H7 P' ⟨rfl, rfl⟩ hs7
  rw [show hasOn h (-1) = false by simp [hasOn]]
  simp
  have hs8 : Sat ρ H7 (RdI q (rowUpto h 256) :: RdI row (rowUpto h 256) :: [MpA b h []]) := by
    have h1 : Sat ρ H7 [Row encI 1 q (rowUpto h 256), Row encI 1 row (rowUpto h 256), MpA b h []] := hs7.re [1, 2, 0] (by simp) (by decide)
    exact (Sat.rdRow (Sat.rdRow h1).swap).swap
  refine play_l7 (rowUpto h 256) hle row q _ _ ?_ ?_ ?_ ?_ _ (hs8.bump 1) _ ?_
  · rfl
  · first | rfl | exact s10
  · rfl
  · rfl
  intro T' H' hT'
  simp
  rw [detentlaw5_BitsPlays_s8_at hT']
  exact hk _ _ rfl
end

set_option maxRecDepth 4000 in
theorem BitsPlays_abs (H : AH) (hw : WF H) (h0 : H.blk 0 = some (.cells true tzCells)) (avs : List AV) (ha : ArgsAt H.blk [.slice ActTy, .int .i64] avs) : CallP tab noExt F.detentlaw5_BitsPlays avs H fun v _ => v = bl true := by
  obtain ⟨l, s, _, rfl, hx, ha2⟩ := ha.slice
  obtain ⟨pp, _, rfl, _, ha2⟩ := ha2.int'
  obtain rfl := ha2.nil'
  have hlen := At.slLen hx
  apply detentlaw5_BitsPlays_call
  refine known5_tri.use (R := []) (((tz_start hw h0).bump 1).bump 2) ?_
  rintro v H0 P' ⟨rfl, rfl⟩ hs0
  by_cases g : (40 : Int) < l.length
  · simp [hlen, g]
  simp [hlen, g, -AH.new]
  have hs1 := ((Sat.drop hs0).bump 3).frees 1 [0] (by decide) (by decide)
  simp only [List.map_cons, List.map_nil, List.cons_append, List.nil_append, bump_next, Nat.add_assoc, Nat.reduceAdd, Nat.add_zero] at hs1
  refine ⟨_, new_of _ hs1.fre, ?_⟩
  have hs2 := (hs1.newMap h0).frees 1 [0] (by decide) (by decide)
  simp only [List.map_cons, List.map_nil, List.cons_append, List.nil_append, bump_next, set_next, Nat.add_assoc, Nat.reduceAdd, Nat.add_zero] at hs2
  refine ⟨_, new_of _ hs2.fre, ?_⟩
  have hs3 := (hs2.mk (boolsC fun _ => false)).swap
  refine play_l3 (ρ := H.blk) l s hx (by omega) (H0.next + 3) (H0.next + 4) pp _ _ ?_ ?_ ?_ ?_ ?_ ?_ (fun _ => false) (hs3.bump 1) _ ?_ ?_
  · rfl
  · rfl
  · rfl
  · rfl
  · rfl
  · rfl
  · intro T' H' e
    simp
    exact e
  intro T' H' h hT' t1 t5 t6 hs
  simp
  rw [detentlaw5_BitsPlays_s10_at hT']
  refine play_l6 (ρ := H.blk) (H0.next + 3) (H0.next + 4) pp h _ _ ?_ ?_ ?_ ?_ ?_ ?_ ?_ ?_ ((((hs.bump 1).bump 1).bump 1).bump 1) _ ?_
  · rfl
  · first | rfl | exact t1
  · first | rfl | exact t5
  · first | rfl | exact t6
  · rfl
  · rfl
  · rfl
  · rfl
  intro T2 H2 row hT2 u1 u5 u10 u11 u12 hs2
  simp
  refine play_s9 (ρ := H.blk) (H0.next + 3) pp h row _ _ hT2 u1 u5 u10 u11 u12 hs2 _ ?_
  intro T3 H3 e
  simp
  exact e
end Go.AM
