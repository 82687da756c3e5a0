/-
  bits: who is first, who is next, all, how many.
-/
import Derived.Test.YtlkpeondecnhnaaDoorBtA
namespace Go.AM
attribute [local simp] AH.ld AH.ldn AH.stn AH.new Nat.add_assoc resA resA1 fillA buildA slSlA boundsA boundA callvP

theorem wrapU (y : Int) : IntKind.u64.wrap y = y % 18446744073709551616 := by simp [IntKind.wrap, IntKind.bits, IntKind.signed]

theorem mulU (a c : Nat) : IntKind.u64.wrap ((a : Int) * (c : Int)) = ((a * c % 18446744073709551616 : Nat) : Int) := by
  rw [wrapU, Int.natCast_emod, Int.natCast_mul]
  rfl

theorem Tz_tri {w k : Nat} (hl : Low w k) (hw : w < 18446744073709551616) (b : Nat) (on : Nat → Bool) (post : List SV) : Tri tab noExt F.math_bits_TrailingZeros64 [u64 w] [MpA b on post] fun v P' => v = i64 k ∧ P' = [MpA b on post] := by
  refine Tri.intro fun ρ H Rs K hs hk => ?_
  apply math_bits_TrailingZeros64_call
  obtain ⟨h0, _⟩ := Sat.mpOpen hs
  have hb := hs.roOf 0 _ h0
  have hw0 : 0 < w := by
    apply Nat.pos_of_ne_zero
    rintro rfl
    have := hl.2.1
    rw [Nat.zero_testBit] at this; cases this
  have hw0' : ¬ w = 0 := by omega
  have hneg : IntKind.u64.wrap (-(w : Int)) = ((18446744073709551616 - w : Nat) : Int) := by simp [IntKind.wrap, IntKind.bits, IntKind.signed]; omega
  have eand := binA_and64 hw (show 18446744073709551616 - w < 18446744073709551616 by omega)
  rw [low_and hl hw] at eand
  obtain ⟨hz1, hz2⟩ := tz_index k hl.1
  have hmul := mulU (2 ^ k) 285870213051353865
  have eshr := binA_shr64 (a := 2 ^ k * 285870213051353865 % 18446744073709551616) (k := 58) .u64 (by omega)
  generalize 2 ^ k * 285870213051353865 % 18446744073709551616 = y at *
  generalize hx : 2 ^ k = pk at *
  generalize 18446744073709551616 - w = nw at *
  have hy : ((y / 2 ^ 58 : Nat) : Int) < 64 := by omega
  have hy0 : (0 : Int) ≤ ((y / 2 ^ 58 : Nat) : Int) := by omega
  generalize y / 2 ^ 58 = ix at *
  have hcell : tzCells[ix]? = some (.int .u8 k) := by simp [tzCells, hz1]
  have hk' := hl.1
  have w8 : IntKind.i64.wrap (k : Int) = (k : Int) := wrap_i64 (by omega) (by omega)
  have hl : ((285870213051353865 : Nat) : Int) = 285870213051353865 := by simp
  have hl58 : ((58 : Nat) : Int) = 58 := by simp
  rw [hl58] at eshr
  rw [hl] at hmul
  have hneg' : IntKind.u64.wrap (0 - (w : Int)) = (nw : Int) := by rw [Int.zero_sub]; exact hneg
  have hdec : decide ((w : Int) = 0) = false := decide_eq_false (by omega)
  have hld : AH.ld (((H.bump 1).bump 2).bump 10) 0 ix = some (.int .u8 k) := by
    rw [ld_of _ (show (((H.bump 1).bump 2).bump 10).blk 0 = some (.cells true tzCells) from hb)]; exact hcell
  have hix : indexArrA 64 1 (.s (.ptr (some (0, 0)))) (u64 ix) = some (.s (.ptr (some (0, ix)))) := by
    rw [indexArrA_eq, if_pos ⟨hy0, hy⟩, Int.toNat_natCast, Nat.mul_one, Nat.zero_add]
  rw [binA_eql, andThen_some, hdec, condP_bool, if_neg Bool.false_ne_true, unA_neg, andThen_some, hneg', eand, andThen_some, binA_mul, andThen_some, hmul, eshr, andThen_some, hix, andThen_some, loadA_one, hld, Option.map_some, andThen_some, convA_int, andThen_some, w8, andThen_some]
  exact hk _ _ _ ⟨rfl, rfl⟩ (by (repeat refine Sat.bump ?_ _); exact hs)

def nextOn (on : Nat → Bool) (p : Nat) : Option Nat := (List.range 256).find? fun i => decide (p ≤ i) && on (i + 1)

def afterV : Option Nat → AV
  | some j => .tup [.s (.int .i64 ((j : Int) + 1)), .s (.bool true)]
  | none => .tup [.s (.int .i64 0), .s (.bool false)]

theorem nextOn_some {on : Nat → Bool} {p j : Nat} (h1 : p ≤ j) (h2 : j < 256) (h3 : on (j + 1) = true) (h4 : ∀ i, p ≤ i → i < j → on (i + 1) = false) : nextOn on p = some j := by
  unfold nextOn
  rw [List.find?_range_eq_some]
  refine ⟨by simp [h1, h3], by simpa using h2, fun i hi => ?_⟩
  by_cases hp : p ≤ i
  · simp [h4 i hp hi]
  · simp [hp]

theorem nextOn_none {on : Nat → Bool} {p : Nat} (h : ∀ i, p ≤ i → i < 256 → on (i + 1) = false) : nextOn on p = none := by
  unfold nextOn
  rw [List.find?_range_eq_none]
  intro i hi
  by_cases hp : p ≤ i
  · simp [h i hp hi]
  · simp [hp]

theorem After_s0 (b : Nat) (on : Nat → Bool) (post : List SV) (pp i : Nat) (hi : i < 4) (w : Nat) (hw : w < 18446744073709551616) (hpp : pp < 256)
    (hwb : ∀ j, j < 64 → w.testBit j = (decide (pp ≤ 64 * i + j) && on (64 * i + j + 1))) (hno : ∀ j, pp ≤ j → j < 64 * i → on (j + 1) = false) {ρ : HF} {Rs : List Asr}
    (T : List AV) (H : AH) (hT : T.length = 43) (s0 : sl T 0 = ptr b) (s1 : sl T 1 = i64 pp) (s6 : sl T 6 = i64 i) (s7 : sl T 7 = u64 w) (hs : Sat ρ H (MpA b on post :: Rs)) (K : Ex → List AV → AH → Prop)
    (k1 : ∀ T' H', nextOn on pp ≠ none → sl T' 4 = i64 (((nextOn on pp).getD 0 : Nat) + 1) → sl T' 5 = bl true → Sat ρ H' (MpA b on post :: Rs) → K .ret T' H')
    (k2 : ∀ T' H', T'.length = 43 → sl T' 0 = ptr b → sl T' 1 = i64 pp → sl T' 6 = i64 i → (∀ j, pp ≤ j → j < 64 * (i + 1) → on (j + 1) = false) → Sat ρ H' (MpA b on post :: Rs) → K .norm T' H') :
    wpC tab noExt R.bits_Map_After_s0 T H K := by
  rw [bits_Map_After_s0_at hT]
  by_cases h0 : w = 0
  · subst h0
    simp [s7]
    refine k2 _ _ rfl s0 s1 s6 (fun j h1 h2 => ?_) (hs.bump 2)
    by_cases hj : j < 64 * i
    · exact hno j h1 hj
    · have := hwb (j - 64 * i) (by omega)
      rw [Nat.zero_testBit, show 64 * i + (j - 64 * i) = j by omega, decide_eq_true h1, Bool.true_and] at this
      exact this.symm
  · obtain ⟨k, hl⟩ := low_ex (Nat.pos_of_ne_zero h0) hw
    have hk64 := hl.1
    have hb := hwb k hl.1
    rw [hl.2.1] at hb
    have hb := hb.symm
    rw [Bool.and_eq_true, decide_eq_true_iff] at hb
    have hnx : nextOn on pp = some (64 * i + k) := by
      refine nextOn_some hb.1 (by omega) hb.2 fun j h1 h2 => ?_
      by_cases hj : j < 64 * i
      · exact hno j h1 hj
      · have := hwb (j - 64 * i) (by omega)
        rw [hl.2.2 (j - 64 * i) (by omega), show 64 * i + (j - 64 * i) = j by omega, decide_eq_true h1, Bool.true_and] at this
        exact this.symm
    have w1 : IntKind.i64.wrap ((i : Int) * 64) = ((64 * i : Nat) : Int) := by rw [wrap_i64 (by omega) (by omega)]; omega
    have w2 : IntKind.i64.wrap (((64 * i : Nat) : Int) + k) = ((64 * i + k : Nat) : Int) := by rw [wrap_i64 (by omega) (by omega)]; omega
    have w3 : IntKind.i64.wrap (((64 * i + k : Nat) : Int) + 1) = ((64 * i + k : Nat) : Int) + 1 := wrap_i64 (by omega) (by omega)
    have hj : 64 * i + k < 256 := by omega
    generalize hq : 64 * i + k = q at *
    generalize 64 * i = i6 at *
    simp [s6, s7, h0, w1]
    refine (Tz_tri hl hw b on post).use ((hs.bump 2).bump 8) ?_
    rintro v H1 P' ⟨rfl, rfl⟩ hs1
    simp [w2, w3]
    exact k1 _ _ (by rw [hnx]; simp) (by rw [hnx]; rfl) rfl hs1

theorem MapAfter_tri (b : Nat) (on : Nat → Bool) (post : List SV) (p : Int) : Tri tab noExt F.bits_Map_After [ptr b, i64 p] [MpA b on post] fun v P' => v = afterV (nextOn on p.toNat) ∧ P' = [MpA b on post] := by
  refine Tri.intro fun ρ H Rs K hs hk => ?_
  apply bits_Map_After_call
  obtain ⟨pp, hpp⟩ : ∃ pp : Nat, pp = p.toNat := ⟨_, rfl⟩
  rw [← hpp] at hk
  have hmax : (if 0 > p then (0 : Int) else p) = (pp : Int) := by split <;> omega
  have hs : Sat ρ H (MpA b on post :: Rs) := hs
  by_cases hge : 256 ≤ pp
  · have hge' : (256 : Int) ≤ (pp : Int) := by omega
    have hn : nextOn on pp = none := nextOn_none fun i h1 h2 => by omega
    rw [hn] at hk
    rw [minmaxA_max, hmax]
    simp [hge', -minmaxA_max]
    exact hk _ _ _ ⟨rfl, rfl⟩ (by (repeat refine Sat.bump ?_ _); exact hs)
  · have hge' : ¬ (256 : Int) ≤ (pp : Int) := by omega
    have e1 : (pp : Int).tdiv 64 = ((pp / 64 : Nat) : Int) := by rw [Int.tdiv_eq_ediv_of_nonneg (by omega)]; omega
    have e2 : (pp : Int).tmod 64 = ((pp % 64 : Nat) : Int) := by rw [Int.tmod_eq_emod_of_nonneg (by omega)]; omega
    have w1 : IntKind.i64.wrap ((pp / 64 : Nat) : Int) = ((pp / 64 : Nat) : Int) := wrap_i64 (by omega) (by omega)
    obtain ⟨a, ha⟩ : ∃ a, a = pp / 64 := ⟨_, rfl⟩
    obtain ⟨r, hr⟩ : ∃ r, r = pp % 64 := ⟨_, rfl⟩
    rw [← ha] at e1 w1
    rw [← hr] at e2
    rw [minmaxA_max, hmax]
    simp [hge', e1, w1]
    refine loopP_invK (I := fun n T H => T.length = 43 ∧ sl T 0 = ptr b ∧ sl T 1 = i64 pp ∧ ∃ i : Nat, sl T 6 = i64 i ∧ a ≤ i ∧ i ≤ 4 ∧ n = 4 - i ∧ (∀ j, pp ≤ j → j < 64 * i → on (j + 1) = false) ∧ Sat ρ H (MpA b on post :: Rs)) ?_ (4 - a) _ _ ⟨rfl, rfl, rfl, a, rfl, Nat.le_refl _, by omega, rfl, fun j h1 h2 => by omega, by (repeat refine Sat.bump ?_ _); exact hs⟩
    intro n T H ⟨hT, s0, s1, i, s6, hai, hi, hn, hno, hs⟩ K' kn kr ko
    rw [bits_Map_After_l2_at hT]
    by_cases hlt : i < 4
    · have hlt' : (i : Int) < 4 := by omega
      obtain ⟨h0, ws, hm, hs2⟩ := Sat.mpOpen hs
      obtain ⟨w, hw, hwl, hwb⟩ := hm.get hlt
      have hc := hs2.cel
      have hcell := words_get (post := post) hw
      have hm1 : 4 - (i + 1) < n := by omega
      have w2 : IntKind.i64.wrap ((i : Int) + 1) = (i : Int) + 1 := wrap_i64 (by omega) (by omega)
      have s1k : ∀ (T1 : List AV) (H1 : AH), T1.length = 43 → sl T1 0 = ptr b → sl T1 1 = i64 pp → sl T1 6 = i64 i → (∀ j, pp ≤ j → j < 64 * (i + 1) → on (j + 1) = false) → Sat ρ H1 (MpA b on post :: Rs) → wpC tab noExt R.bits_Map_After_s1 T1 H1 K' := by
        intro T1 H1 hT1 t0 t1 t6 hno1 hs1
        rw [bits_Map_After_s1_at hT1]
        simp [t0, t1, t6, w2]
        exact kn _ _ _ hm1 ⟨rfl, rfl, rfl, i + 1, rfl, by omega, by omega, rfl, hno1, hs1.bump 3⟩
      have tail : ∀ (T1 : List AV) (H1 : AH) (w' : Nat), w' < 18446744073709551616 → (∀ j, j < 64 → w'.testBit j = (decide (pp ≤ 64 * i + j) && on (64 * i + j + 1))) → T1.length = 43 → sl T1 0 = ptr b → sl T1 1 = i64 pp → sl T1 6 = i64 i → sl T1 7 = u64 w' → Sat ρ H1 (MpA b on post :: Rs) →
          wpC tab noExt R.bits_Map_After_s0 T1 H1 (blockK 1 (seqK (fun T H => wpC tab noExt R.bits_Map_After_s1 T H K') K')) := by
        intro T1 H1 w' hw' hwb' hT1 t0 t1 t6 t7 hs1
        refine After_s0 b on post pp i hlt w' hw' (by omega) hwb' hno T1 H1 hT1 t0 t1 t6 t7 hs1 _ ?_ ?_
        · intro T' H' hne q4 q5 hs'
          simp only [blockK_ret, seqK_ret]
          refine kr _ _ ?_
          simp only [blockK_ret, seqK_ret, retK_ret]
          have q4' : T'.getD 4 undef = i64 (((nextOn on pp).getD 0 : Nat) + 1) := q4
          have q5' : T'.getD 5 undef = bl true := q5
          simp only [resA, List.mapM_cons, List.mapM_nil, resA1, q4', q5']
          refine ⟨_, rfl, hk _ _ _ ⟨?_, rfl⟩ hs'⟩
          cases hnx : nextOn on pp with
          | none => exact absurd hnx hne
          | some j => rfl
        · intro T' H' hT' q0 q1 q6 hno' hs'
          simp only [blockK_norm, seqK_norm]
          exact s1k T' H' hT' q0 q1 q6 hno' hs'
      by_cases hia : i = a
      · subst hia
        have eshr := binA_shr64 (a := w) (k := r) .i64 (by omega)
        have hstr : w / 2 ^ r * 2 ^ r ≤ w := Nat.div_mul_le_self _ _
        have eshl := binA_shl64 (a := w / 2 ^ r) (k := r) .i64 (by omega) (by omega)
        have hbit : ∀ j, j < 64 → (w / 2 ^ r * 2 ^ r).testBit j = (decide (pp ≤ 64 * i + j) && on (64 * i + j + 1)) := by
          intro j hj
          rw [strike_bit, hwb j hj]
          congr 1
          rw [decide_eq_decide]; omega
        generalize w / 2 ^ r = wd at *
        generalize wd * 2 ^ r = wm at *
        simp [s0, s1, s6, hlt, hlt', hc, hcell, e1, w1, e2, eshr, eshl]
        exact tail _ _ wm (by omega) hbit rfl rfl rfl rfl rfl (Sat.mpClose (by (repeat refine Sat.bump ?_ _); exact hs2) h0 hm)
      · have hia' : ¬ (i : Int) = (a : Int) := by omega
        simp [s0, s1, s6, hlt, hlt', hc, hcell, e1, w1, hia', hia]
        refine tail _ _ w hwl (fun j hj => ?_) rfl rfl rfl rfl rfl (Sat.mpClose (by (repeat refine Sat.bump ?_ _); exact hs2) h0 hm)
        rw [hwb j hj, decide_eq_true (show pp ≤ 64 * i + j by omega), Bool.true_and]
    · have hie : i = 4 := by omega
      subst hie
      have hnx : nextOn on pp = none := nextOn_none fun j h1 h2 => hno j h1 (by omega)
      rw [hnx] at hk
      simp [s6]
      refine ko _ _ _ ?_
      simp only [blockK_out, if_true, seqK_norm]
      rw [bits_Map_After_s3_at rfl]
      simp
      exact hk _ _ _ ⟨rfl, rfl⟩ ((hs.bump 2).bump 2)

theorem MapFirst_tri (b : Nat) (on : Nat → Bool) (post : List SV) : Tri tab noExt F.bits_Map_First [ptr b] [MpA b on post] fun v P' => v = afterV (nextOn on 0) ∧ P' = [MpA b on post] := by
  refine Tri.intro fun ρ H Rs K hs hk => ?_
  apply bits_Map_First_call
  refine (MapAfter_tri b on post 0).use ((hs.bump 2).bump 6) ?_
  rintro v H1 P' ⟨rfl, rfl⟩ hs1
  rw [Int.toNat_zero]
  cases hn : nextOn on 0 with
  | none =>
    rw [hn] at hk
    simp [afterV]
    exact hk _ _ _ ⟨rfl, rfl⟩ hs1
  | some j =>
    rw [hn] at hk
    simp [afterV]
    exact hk _ _ _ ⟨rfl, rfl⟩ hs1

/-- Those below, in order. -/
def rowUpto (on : Nat → Bool) (q : Nat) : List Int := ((List.range q).filter fun i => on (i + 1)).map fun (i : Nat) => ((i : Int) + 1)

theorem rowUpto_succ (on : Nat → Bool) (q : Nat) : rowUpto on (q + 1) = rowUpto on q ++ if on (q + 1) then [(q : Int) + 1] else [] := by
  unfold rowUpto
  rw [List.range_succ, List.filter_append, List.map_append]
  congr 1
  by_cases h : on (q + 1) <;> simp [h]

theorem rowUpto_skip {on : Nat → Bool} {q : Nat} : ∀ {j : Nat}, q ≤ j → (∀ i, q ≤ i → i < j → on (i + 1) = false) → rowUpto on j = rowUpto on q := by
  intro j
  induction j with
  | zero => intro h _; rw [show q = 0 by omega]
  | succ j ih =>
    intro h hn
    by_cases hq : q = j + 1
    · rw [hq]
    · rw [rowUpto_succ, hn j (by omega) (by omega), ih (by omega) fun i h1 h2 => hn i h1 (by omega)]
      simp

theorem nextOn_some_inv {on : Nat → Bool} {q j : Nat} (h : nextOn on q = some j) : q ≤ j ∧ j < 256 ∧ on (j + 1) = true ∧ ∀ i, q ≤ i → i < j → on (i + 1) = false := by
  unfold nextOn at h
  rw [List.find?_range_eq_some] at h
  obtain ⟨h1, h2, h3⟩ := h
  simp only [Bool.and_eq_true, decide_eq_true_eq] at h1
  refine ⟨h1.1, by simpa using h2, h1.2, fun i hi hj => ?_⟩
  have := h3 i hj
  simpa [hi] using this

theorem nextOn_none_inv {on : Nat → Bool} {q : Nat} (h : nextOn on q = none) : ∀ i, q ≤ i → i < 256 → on (i + 1) = false := by
  unfold nextOn at h
  rw [List.find?_range_eq_none] at h
  intro i hi hj
  have := h i hj
  simpa [hi] using this

theorem rowUpto_next {on : Nat → Bool} {q j : Nat} (h : nextOn on q = some j) : rowUpto on (j + 1) = rowUpto on q ++ [(j : Int) + 1] := by
  obtain ⟨h1, h2, h3, h4⟩ := nextOn_some_inv h
  rw [rowUpto_succ, h3, rowUpto_skip h1 h4]; rfl

theorem rowUpto_none {on : Nat → Bool} {q : Nat} (hq : q ≤ 256) (h : nextOn on q = none) : rowUpto on 256 = rowUpto on q := rowUpto_skip hq (nextOn_none_inv h)

theorem rowUpto_le (on : Nat → Bool) (q : Nat) : (rowUpto on q).length ≤ q := by
  unfold rowUpto
  rw [List.length_map]
  have := List.length_filter_le (fun i => on (i + 1)) (List.range q)
  simpa using this

theorem MapRow_tri (b : Nat) (on : Nat → Bool) (post : List SV) : Tri tab noExt F.bits_Map_Row [ptr b] [MpA b on post] fun v P' => ∃ s, v = .s s ∧ P' = [Row encI 1 s (rowUpto on 256), MpA b on post] := by
  refine Tri.intro fun ρ H Rs K hs hk => ?_
  apply bits_Map_Row_call
  refine (MapFirst_tri b on post).use (((hs.bump 1).bump 1).bump 7) ?_
  rintro v H1 P' ⟨rfl, rfl⟩ hs1
  have key : ∀ (T : List AV) (H : AH) (x : AV) (ok : Bool), T.length = 23 → sl T 0 = ptr b → sl T 3 = .s (.slice none 0 0 1) → sl T 4 = x → sl T 5 = bl ok → ((ok = true ∧ ∃ j : Nat, nextOn on 0 = some j ∧ x = i64 ((j : Int) + 1)) ∨ (ok = false ∧ nextOn on 0 = none)) → Sat ρ H (MpA b on post :: Rs) →
      loopP tab noExt R.bits_Map_Row_l0 T H (blockK 0 (seqK (fun T H => wpC tab noExt R.bits_Map_Row_s1 T H (retK [.tmp 2] K)) (retK [.tmp 2] K))) := by
    intro T H x ok hT s0 s3 s4 s5 hx hs
    refine loopP_invK (I := fun n T H => T.length = 23 ∧ sl T 0 = ptr b ∧ ∃ (q : Nat) (s : SV) (x : AV) (ok : Bool), sl T 3 = .s s ∧ sl T 4 = x ∧ sl T 5 = bl ok ∧ q ≤ 256 ∧ n = 256 - q ∧ ((ok = true ∧ ∃ j : Nat, nextOn on q = some j ∧ x = i64 ((j : Int) + 1)) ∨ (ok = false ∧ nextOn on q = none)) ∧ Sat ρ H (Row encI 1 s (rowUpto on q) :: MpA b on post :: Rs)) ?_ 256 _ _ ⟨hT, s0, 0, _, x, ok, s3, s4, s5, by omega, rfl, hx, Sat.mkNil hs 1⟩
    intro n T H ⟨hT, s0, q, s, x, ok, s3, s4, s5, hq, hn, hx, hs⟩ K' kn kr ko
    rw [bits_Map_Row_l0_at hT]
    rcases hx with ⟨rfl, j, hj, rfl⟩ | ⟨rfl, hnx⟩
    · obtain ⟨g1, g2, g3, g4⟩ := nextOn_some_inv hj
      simp [s0, s3, s4, s5, -AH.new]
      have hs1 := (hs.bump 1).frees 5 [2, 3] (by decide) (by decide)
      simp only [List.map_cons, List.map_nil, List.cons_append, List.nil_append, bump_next, Nat.add_assoc, Nat.reduceAdd] at hs1
      refine ⟨_, new_of _ hs1.fre, ?_⟩
      have hs2 := Sat.mk hs1 (encI ((j : Int) + 1))
      simp only [encI] at hs2
      have hs3 : Sat ρ _ (Row encI 1 s (rowUpto on q) :: Fre (H.next + 4) :: Cel (H.next + 3) [.int .i64 ((j : Int) + 1)] :: MpA b on post :: Rs) := hs2.re [2, 1, 0] (by simp) (by decide)
      have hle := rowUpto_le on q
      obtain ⟨s', H2, e2, hs4, _⟩ := hs3.append1 encI_len (bytes := 8) (c := 1) (e := (j : Int) + 1) (o := 0) rfl (by simp) (by omega)
      refine andThen_of' e2 ?_
      rw [← rowUpto_next hj] at hs4
      have hs5 : Sat ρ H2 (MpA b on post :: Row encI 1 s' (rowUpto on (j + 1)) :: Cel (H.next + 3) _ :: Rs) := hs4.front 2 (by simp)
      refine (MapAfter_tri b on post ((j : Int) + 1)).use (hs5.bump 8) ?_
      rintro v H3 P' ⟨rfl, rfl⟩ hs6
      have hs7 : Sat ρ H3 (Row encI 1 s' (rowUpto on (j + 1)) :: MpA b on post :: Rs) := hs6.sel [1, 0] 3 (by simp) (by decide)
      have ht : ((j : Int) + 1).toNat = j + 1 := by omega
      rw [ht]
      cases hnx : nextOn on (j + 1) with
      | none =>
        simp [afterV]
        exact kn (256 - (j + 1)) _ _ (by omega) ⟨rfl, rfl, j + 1, s', _, false, rfl, rfl, rfl, by omega, rfl, .inr ⟨rfl, hnx⟩, hs7⟩
      | some j' =>
        simp [afterV]
        exact kn (256 - (j + 1)) _ _ (by omega) ⟨rfl, rfl, j + 1, s', _, true, rfl, rfl, rfl, by omega, rfl, .inl ⟨rfl, j', hnx, rfl⟩, hs7⟩
    · simp [s0, s3, s4, s5]
      refine ko _ _ _ ?_
      simp only [blockK_out, if_true, seqK_norm]
      rw [bits_Map_Row_s1_at rfl]
      refine ⟨_, rfl, hk _ _ _ ⟨s, rfl, rfl⟩ ?_⟩
      rw [rowUpto_none hq hnx]
      exact (hs.bump 1).bump 2
  cases hnx : nextOn on 0 with
  | none =>
    simp [afterV]
    exact key _ _ _ false rfl rfl rfl rfl rfl (.inr ⟨rfl, hnx⟩) hs1
  | some j =>
    simp [afterV]
    exact key _ _ _ true rfl rfl rfl rfl rfl (.inl ⟨rfl, j, hnx, rfl⟩) hs1

theorem Ones_tri {w : Nat} (hw : w < 18446744073709551616) : Tri tab noExt F.math_bits_OnesCount64 [u64 w] [] fun v P' => v = i64 (pop 64 w) ∧ P' = [] := by
  refine Tri.intro fun ρ H Rs K hs hk => ?_
  apply math_bits_OnesCount64_call
  obtain ⟨b1, b2, b3, b4, b5, b6, b7, b8⟩ := ones_plain w hw _ _ _ _ _ _ rfl rfl rfl rfl rfl rfl
  rw [← b8] at hk
  have e1 := binA_shr64 (a := w) (k := 1) .u64 (by omega)
  have e2 := binA_and64 (a := w / 2 ^ 1) (b := 6148914691236517205) (by omega) (by omega)
  have e3 := binA_and64 (a := w) (b := 6148914691236517205) hw (by omega)
  generalize ha : (w / 2 &&& 6148914691236517205) + (w &&& 6148914691236517205) = a at *
  have e4 : IntKind.u64.wrap (((w / 2 ^ 1 &&& 6148914691236517205 : Nat) : Int) + ((w &&& 6148914691236517205 : Nat) : Int)) = (a : Int) := by
    rw [← Int.natCast_add, show (w / 2 ^ 1 &&& 6148914691236517205) + (w &&& 6148914691236517205) = a from ha, u64_nat b1]
  have e5 := binA_shr64 (a := a) (k := 2) .u64 (by omega)
  have e6 := binA_and64 (a := a / 2 ^ 2) (b := 3689348814741910323) (by omega) (by omega)
  have e7 := binA_and64 (a := a) (b := 3689348814741910323) b1 (by omega)
  generalize hb : (a / 4 &&& 3689348814741910323) + (a &&& 3689348814741910323) = b at *
  have e8 : IntKind.u64.wrap (((a / 2 ^ 2 &&& 3689348814741910323 : Nat) : Int) + ((a &&& 3689348814741910323 : Nat) : Int)) = (b : Int) := by
    rw [← Int.natCast_add, show (a / 2 ^ 2 &&& 3689348814741910323) + (a &&& 3689348814741910323) = b from hb, u64_nat b2]
  have e9 := binA_shr64 (a := b) (k := 4) .u64 (by omega)
  have e10 : IntKind.u64.wrap (((b / 2 ^ 4 : Nat) : Int) + (b : Int)) = ((b / 16 + b : Nat) : Int) := by
    rw [← Int.natCast_add, show b / 2 ^ 4 + b = b / 16 + b from rfl, u64_nat b3]
  have e11 := binA_and64 (a := b / 16 + b) (b := 1085102592571150095) b3 (by omega)
  generalize hc : ((b / 16 + b) &&& 1085102592571150095) = c at *
  have e12 := binA_shr64 (a := c) (k := 8) .u64 (by omega)
  generalize hd : c + c / 256 = d at *
  have e13 : IntKind.u64.wrap ((c : Int) + ((c / 2 ^ 8 : Nat) : Int)) = (d : Int) := by
    rw [← Int.natCast_add, show c + c / 2 ^ 8 = d from hd, u64_nat (by omega)]
  have e14 := binA_shr64 (a := d) (k := 16) .u64 (by omega)
  generalize he : d + d / 65536 = e at *
  have e15 : IntKind.u64.wrap ((d : Int) + ((d / 2 ^ 16 : Nat) : Int)) = (e : Int) := by
    rw [← Int.natCast_add, show d + d / 2 ^ 16 = e from he, u64_nat (by omega)]
  have e16 := binA_shr64 (a := e) (k := 32) .u64 (by omega)
  generalize hf : e + e / 4294967296 = f at *
  have e17 : IntKind.u64.wrap ((e : Int) + ((e / 2 ^ 32 : Nat) : Int)) = (f : Int) := by
    rw [← Int.natCast_add, show e + e / 2 ^ 32 = f from hf, u64_nat (by omega)]
  have e18 : IntKind.i64.wrap (f : Int) = (f : Int) := wrap_i64 (by omega) (by omega)
  have e19 := binA_and127 b7
  have l1 : ((1 : Nat) : Int) = 1 := rfl
  have l2 : ((2 : Nat) : Int) = 2 := rfl
  have l4 : ((4 : Nat) : Int) = 4 := rfl
  have l8 : ((8 : Nat) : Int) = 8 := rfl
  have l16 : ((16 : Nat) : Int) = 16 := rfl
  have l32 : ((32 : Nat) : Int) = 32 := rfl
  have m0 : ((6148914691236517205 : Nat) : Int) = 6148914691236517205 := by simp
  have m1 : ((3689348814741910323 : Nat) : Int) = 3689348814741910323 := by simp
  have m2 : ((1085102592571150095 : Nat) : Int) = 1085102592571150095 := by simp
  rw [l1] at e1
  rw [m0] at e2 e3
  rw [l2] at e5
  rw [m1] at e6 e7
  rw [l4] at e9
  rw [m2] at e11
  rw [l8] at e12
  rw [l16] at e14
  rw [l32] at e16
  rw [e1, andThen_some, e2, andThen_some, e3, andThen_some, binA_add, andThen_some, e4, e5, andThen_some, e6, andThen_some, e7, andThen_some, binA_add, andThen_some, e8, e9, andThen_some, binA_add, andThen_some, e10, e11, andThen_some, e12, andThen_some, binA_add, andThen_some, e13, e14, andThen_some, binA_add, andThen_some, e15, e16, andThen_some, binA_add, andThen_some, e17, convA_int, andThen_some, e18, e19, andThen_some, andThen_some]
  exact hk _ _ _ ⟨rfl, rfl⟩ (by (repeat refine Sat.bump ?_ _); exact hs)

theorem cnt_word {ws : List Nat} {on : Nat → Bool} (hm : IsMap ws on) {i w : Nat} (hi : i < 4) (hw : ws[i]? = some w) : (rowUpto on (64 * (i + 1))).length = (rowUpto on (64 * i)).length + pop 64 w := by
  obtain ⟨w', hw', _, hwb⟩ := hm.get hi
  rw [hw] at hw'; cases hw'
  rw [pop_count]
  unfold rowUpto
  rw [List.length_map, List.length_map, show 64 * (i + 1) = 64 * i + 64 by omega, List.range_add, List.filter_append, List.length_append, List.filter_map, List.length_map]
  congr 2
  apply List.filter_congr
  intro j hj
  simp only [List.mem_range] at hj
  simp only [Function.comp]
  rw [hwb j hj]

theorem MapLen_tri (b : Nat) (on : Nat → Bool) (post : List SV) : Tri tab noExt F.bits_Map_Len [ptr b] [MpA b on post] fun v P' => v = i64 (rowUpto on 256).length ∧ P' = [MpA b on post] := by
  refine Tri.intro fun ρ H Rs K hs hk => ?_
  apply bits_Map_Len_call
  obtain ⟨h0, ws, hm, hs2⟩ := Sat.mpOpen hs
  have hc := hs2.cel
  have hwl : (wordsC ws).length = 4 := by simp [wordsC, hm.1]
  have htake : (wordsC ws ++ post).take 4 = wordsC ws := by rw [← hwl, List.take_left]
  have h4 : 4 ≤ (wordsC ws).length + post.length := by omega
  simp [hc, htake, h4]
  refine loopP_invK (I := fun n T H => T.length = 19 ∧ sl T 9 = .agg (wordsC ws) ∧ ∃ i : Nat, sl T 10 = i64 i ∧ sl T 3 = i64 (rowUpto on (64 * i)).length ∧ i ≤ 4 ∧ n = 4 - i ∧ Sat ρ H (MpA b on post :: Rs)) ?_ 4 _ _ ⟨rfl, rfl, 0, rfl, rfl, by omega, rfl, by (repeat refine Sat.bump ?_ _); exact hs⟩
  intro n T H ⟨hT, s9, i, s10, s3, hi, hn, hs⟩ K' kn kr ko
  rw [bits_Map_Len_l0_at hT]
  by_cases hlt : i < 4
  · have hlt' : (i : Int) < 4 := by omega
    obtain ⟨w, hw, hwlt, _⟩ := hm.get hlt
    have hcell := words_get (post := []) hw
    rw [List.append_nil] at hcell
    have hcw := cnt_word hm hlt hw
    have hle := rowUpto_le on (64 * (i + 1))
    have w1 : IntKind.i64.wrap ((i : Int) + 1) = (i : Int) + 1 := wrap_i64 (by omega) (by omega)
    have hix : indexA 4 1 none (.agg (wordsC ws)) (i64 i) = some (u64 w) := by
      simp only [indexA]
      rw [if_pos ⟨by omega, hlt'⟩, Int.toNat_natCast, Nat.mul_one, partA_none, hcell]; rfl
    simp [s9, s10, s3, hlt', hix]
    refine (Ones_tri hwlt).use (R := _ :: Rs) (((hs.bump 1).bump 2).bump 5) ?_
    rintro v H1 P' ⟨rfl, rfl⟩ hs1
    have w2 : IntKind.i64.wrap (((rowUpto on (64 * i)).length : Int) + (pop 64 w : Nat)) = ((rowUpto on (64 * (i + 1))).length : Int) := by rw [wrap_i64 (by omega) (by omega)]; omega
    generalize (rowUpto on (64 * i)).length = c0 at *
    generalize pop 64 w = pw at *
    simp [w1, w2]
    exact kn (4 - (i + 1)) _ _ (by omega) ⟨rfl, rfl, i + 1, rfl, rfl, by omega, rfl, hs1.bump 2⟩
  · have hie : i = 4 := by omega
    subst hie
    simp [s10]
    refine ko _ _ _ ?_
    simp only [blockK_out, if_true, seqK_norm]
    rw [bits_Map_Len_s1_at rfl]
    refine ⟨_, rfl, hk _ _ _ ⟨s3, rfl⟩ ((hs.bump 1).bump 2)⟩

end Go.AM
