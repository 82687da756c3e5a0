/-
  nums, heap: what the small functions give.
-/
import Derived.Test.YtkhffcbnhleeoaaWp
import Derived.Test.YtkhffcbnhleeoaaAmU
import Derived.Test.YtkhffcbnhleeoaaPlA
import Derived.Test.YtkhffcbnhleeoaaPlB
namespace Go.AM
attribute [local simp] AH.ld AH.ldn AH.stn AH.new Nat.add_assoc resA

/- ---- heaps side by side ---- -/

/-- Blocks that were are as they were. -/
def Same (H H' : AH) : Prop := H.next ≤ H'.next ∧ ∀ b, b < H.next → H'.blk b = H.blk b

theorem Same.refl (H : AH) : Same H H := ⟨Nat.le_refl _, fun _ _ => rfl⟩
theorem Same.trans {H H1 H2 : AH} (h : Same H H1) (h' : Same H1 H2) : Same H H2 := ⟨Nat.le_trans h.1 h'.1, fun b hb => (h'.2 b (Nat.lt_of_lt_of_le hb h.1)).trans (h.2 b hb)⟩
theorem Same.bump {H H' : AH} (h : Same H H') (n : Nat) : Same H (H'.bump n) := ⟨Nat.le_trans h.1 (Nat.le_add_right _ _), h.2⟩
theorem Same.set {H H' : AH} (h : Same H H') {b : Nat} (hb : H.next ≤ b) (x : Blk) : Same H (H'.set b x) := ⟨h.1, fun c hc => by simp only [set_blk]; rw [if_neg (by omega)]; exact h.2 c hc⟩

/-- All blocks that were but those of a list are as they were. -/
def But (S : List Nat) (H H' : AH) : Prop := H.next ≤ H'.next ∧ ∀ b, b < H.next → b ∉ S → H'.blk b = H.blk b

theorem But.refl (S : List Nat) (H : AH) : But S H H := ⟨Nat.le_refl _, fun _ _ _ => rfl⟩
theorem But.trans {S : List Nat} {H H1 H2 : AH} (h : But S H H1) (h' : But S H1 H2) : But S H H2 := ⟨Nat.le_trans h.1 h'.1, fun b hb hs => (h'.2 b (Nat.lt_of_lt_of_le hb h.1) hs).trans (h.2 b hb hs)⟩
theorem But.bump {S : List Nat} {H H' : AH} (h : But S H H') (n : Nat) : But S H (H'.bump n) := ⟨Nat.le_trans h.1 (Nat.le_add_right _ _), h.2⟩
theorem But.set {S : List Nat} {H H' : AH} (h : But S H H') {b : Nat} (hb : b ∈ S ∨ H.next ≤ b) (x : Blk) : But S H (H'.set b x) := ⟨h.1, fun c hc hs => by
  simp only [set_blk]
  rw [if_neg (fun he => by subst he; rcases hb with hb | hb; exact hs hb; omega)]
  exact h.2 c hc hs⟩
theorem Same.but {H H' : AH} (h : Same H H') (S : List Nat) : But S H H' := ⟨h.1, fun b hb _ => h.2 b hb⟩
theorem But.same {H H' : AH} (h : But [] H H') : Same H H' := ⟨h.1, fun b hb => h.2 b hb (by simp)⟩
theorem But.mono {S S' : List Nat} {H H' : AH} (h : But S H H') (hs : ∀ b ∈ S, b ∈ S') : But S' H H' := ⟨h.1, fun b hb hn => h.2 b hb (fun hc => hn (hs b hc))⟩

/- ---- nums ---- -/

theorem nums_Rel_spec (d : Int) (H : AH) (h1 : -9223372036854775808 ≤ d) (h2 : d < 9223372036854775808) :
    CallP tab noExt F.nums_Rel [i64 d] H fun v H' => v = (if d < 0 ∨ 2147483647 < d then .tup [.s (.int .u64 0), .s (.int .i64 (-17))] else .tup [.s (.int .u64 d), .s (.int .i64 0)]) ∧ Same H H' := by
  apply nums_Rel_call
  by_cases h : d < 0
  · simp [h, AV.part?]
    exact ((Same.refl _).bump _).bump _ |>.bump _
  · by_cases h' : 2147483647 < d
    · simp [h, h', AV.part?]
      exact ((Same.refl _).bump _).bump _ |>.bump _
    · have hw : IntKind.u64.wrap d = d := wrap_u64 (by omega) (by omega)
      simp [h, h', AV.part?, hw]
      exact ((Same.refl _).bump _).bump _ |>.bump _

/- ---- heap: entries ---- -/

def encE (e : Ent) : List SV := [.int .u64 e.at_, .int .i64 e.handle, .int .i64 e.arg]
theorem encE_len (e : Ent) : (encE e).length = 3 := rfl

/-- A slice of entries. -/
abbrev slE (b n c : Nat) : AV := .s (.slice (some (b, 0)) n c 3)

theorem WF.free {H : AH} (h : WF H) (k : Nat) : H.blk (H.next + k) = none := h _ (Nat.le_add_right _ _)

theorem ahead_spec (b n c : Nat) (r : List Ent) (hn : r.length = n) (j : List SV) (i k : Nat) (H : AH) (hw : WF H) (hbn : b < H.next) (hb : H.blk b = some (.cells false (flat encE r ++ j))) (hi : i < r.length) (hk : k < r.length) :
    CallP tab noExt F.heap_row_ahead [slE b n c, i64 i, i64 k] H fun v H' => v = bl (aheadB r[i] r[k]) ∧ Same H H' := by
  subst hn
  apply heap_row_ahead_call
  have f1 : i * 3 + 3 ≤ (flat encE r).length + j.length := by simpa using flat_fit encE_len r j i hi
  have f2 : k * 3 + 3 ≤ (flat encE r).length + j.length := by simpa using flat_fit encE_len r j k hk
  have g1 := flat_ldn encE_len r j i hi
  have g2 := flat_ldn encE_len r j k hk
  have n1 : ∀ m, ¬ H.next + m = b := fun m => by omega
  have n2 : ∀ m, ¬ b = H.next + m := fun m => by omega
  have hf := hw.free
  have hsame : ∀ H', But [] H H' → Same H H' := fun _ h => h.same
  by_cases h1 : r[i].at_ < r[k].at_
  · simp [hi, hk, hb, f1, f2, g1, g2, hf, n1, n2, encE, h1, aheadB]
    repeat (first | exact Same.refl _ | refine Same.bump ?_ _ | refine Same.set ?_ (by omega) _)
  · by_cases h2 : r[i].at_ = r[k].at_
    · simp [hi, hk, hb, f1, f2, g1, g2, hf, n1, n2, encE, h1, h2, aheadB]
      repeat (first | exact Same.refl _ | refine Same.bump ?_ _ | refine Same.set ?_ (by omega) _)
    · simp [hi, hk, hb, f1, f2, g1, g2, hf, n1, n2, encE, h1, h2, aheadB]
      repeat (first | exact Same.refl _ | refine Same.bump ?_ _ | refine Same.set ?_ (by omega) _)

/- ---- up, down ---- -/

theorem half (n : Nat) : ((n : Int).tdiv 2) = ((n / 2 : Nat) : Int) := by rw [Int.tdiv_eq_ediv_of_nonneg (by omega)]; omega

theorem aheadD {r : List Ent} {i k : Nat} (hi : i < r.length) (hk : k < r.length) : aheadB (r.getD i default) (r.getD k default) = aheadB r[i] r[k] := by rw [getD_get hi, getD_get hk]

theorem up_spec (b n c : Nat) (j : List SV) (H0 : AH) (hbn : b < H0.next) (r0 : List Ent) (hn : r0.length = n) (hc : n < 4611686018427387904) (i0 : Nat) (hi0 : i0 < n ∨ i0 = 0) (hw : WF H0) (hb : H0.blk b = some (.cells false (flat encE r0 ++ j))) :
    CallP tab noExt F.heap_row_up [slE b n c, i64 i0] H0 fun v H' => v = unit ∧ H'.blk b = some (.cells false (flat encE (upF r0 i0) ++ j)) ∧ But [b] H0 H' := by
  apply heap_row_up_call
  refine loopP_inv (I := fun i T H => T.length = 35 ∧ sl T 0 = slE b n c ∧ sl T 1 = i64 i ∧ ∃ r, r.length = n ∧ upF r i = upF r0 i0 ∧ (i < n ∨ i = 0) ∧ WF H ∧ H.blk b = some (.cells false (flat encE r ++ j)) ∧ But [b] H0 H) ?_ i0 _ _ ?_
  · intro i T H ⟨hT, s0, s1, r, hr, hu, hi, hwf, hbl, hbut⟩
    rw [heap_row_up_l0_at hT]
    have hbn' : b < H.next := Nat.lt_of_lt_of_le hbn hbut.1
    by_cases h0 : 0 < i
    · have hi' : i < r.length := by omega
      have hi2 : i < n := by omega
      have hp' : (i - 1) / 2 < r.length := by omega
      have hp2 : (i - 1) / 2 < n := by omega
      have w1 : IntKind.i64.wrap ((i : Int) - 1) = ((i - 1 : Nat) : Int) := by rw [wrap_i64 (by omega) (by omega)]; omega
      have w2 : IntKind.i64.wrap (((i - 1) / 2 : Nat) : Int) = (((i - 1) / 2 : Nat) : Int) := by rw [wrap_i64 (by omega) (by omega)]
      have w3 := half (i - 1)
      generalize hp : (i - 1) / 2 = p at *
      simp only [s0, s1, andThen_some, binA_gtr, condP_bool]
      simp [h0, w1, w3, w2]
      refine (ahead_spec b n c r hr j i p (H.bump 10) (hwf.bump _) (by simp; omega) hbl hi' hp').mono_wf tab_wf noExt_wf noExt_next (hwf.bump _) ?_
      rintro v H1 hw1 hle ⟨rfl, hs⟩
      have hb1 : H1.blk b = some (.cells false (flat encE r ++ j)) := (hs.2 b (by simp; omega)).trans hbl
      have hbn1 : b < H1.next := by simp at hle; omega
      have hbut1 : But [b] H0 H1 := (hbut.bump 10).trans (hs.but _)
      have f1 : i * 3 + 3 ≤ (flat encE r).length + j.length := by simpa using flat_fit encE_len r j i hi'
      have f2 : p * 3 + 3 ≤ (flat encE r).length + j.length := by simpa using flat_fit encE_len r j p hp'
      have g1 := flat_ldn encE_len r j i hi'
      have g2 := flat_ldn encE_len r j p hp'
      have q1 := flat_splice encE_len r j i hi' r[p]
      have q2 := flat_splice encE_len (r.set i r[p]) j p (by simpa using hp') r[i]
      have f3 : p * 3 + 3 ≤ (flat encE (r.set i r[p])).length + j.length := by simpa using flat_fit encE_len (r.set i r[p]) j p (by simpa using hp')
      cases ha : aheadB r[i] r[p]
      · simp
        have : upF r i = r := by rw [upF, dif_neg]; rw [hp, aheadD hi' hp', ha]; simp
        rw [hb1, ← hu, this]
        exact ⟨rfl, hbut1⟩
      · simp [hb1, hi2, hp2, f1, f2, g1, g2, q1, encE_len, q2, f3]
        refine ⟨p, by omega, rfl, rfl, _, ?_, ?_, Or.inl hp2, ?_, rfl, ?_⟩
        · simpa using hr
        · rw [← hu]
          conv => rhs; rw [upF, dif_pos ⟨h0, by rw [hp, aheadD hi' hp', ha]⟩]
          simp [hp, swapE, hi', hp']
        · (repeat (first | assumption | exact Same.refl _ | exact But.refl _ _ | refine Same.bump ?_ _ | refine Same.set ?_ (by first | omega | (simp <;> omega)) _ | refine But.bump ?_ _ | refine But.set ?_ (by simp) _ | refine But.set ?_ (by first | omega | (simp <;> omega)) _ | refine WF.bump ?_ _ | refine WF.set ?_ (by first | omega | (simp <;> omega)) _))
        · (repeat (first | assumption | exact Same.refl _ | exact But.refl _ _ | refine Same.bump ?_ _ | refine Same.set ?_ (by first | omega | (simp <;> omega)) _ | refine But.bump ?_ _ | refine But.set ?_ (by simp) _ | refine But.set ?_ (by first | omega | (simp <;> omega)) _ | refine WF.bump ?_ _ | refine WF.set ?_ (by first | omega | (simp <;> omega)) _))
    · simp [s0, s1, h0]
      have : upF r i = r := by rw [upF, dif_neg]; simp [h0]
      rw [hbl, ← hu, this]
      exact ⟨rfl, hbut.bump _⟩
  · exact ⟨rfl, rfl, rfl, r0, hn, rfl, hi0, hw, hb, But.refl _ _⟩

theorem down_s0 (b n c : Nat) (j : List SV) (r : List Ent) (hr : r.length = n) (hc : n < 4611686018427387904) (i k : Nat) (hi : i < n) (T : List AV) (H : AH) (hT : T.length = 48) (s0 : sl T 0 = slE b n c) (s1 : sl T 1 = i64 i) (s4 : sl T 4 = i64 k)
    (hwf : WF H) (hbn : b < H.next) (hbl : H.blk b = some (.cells false (flat encE r ++ j))) (K : Ex → List AV → AH → Prop)
    (k1 : ∀ T' H', T'.length = 48 → H'.blk b = some (.cells false (flat encE r ++ j)) → But [b] H H' → ¬ (k < r.length ∧ aheadB (r.getD k default) (r.getD i default) = true) → K .ret T' H')
    (k2 : ∀ T' H', T'.length = 48 → sl T' 0 = slE b n c → sl T' 1 = i64 k → WF H' → H'.blk b = some (.cells false (flat encE (swapE r i k) ++ j)) → But [b] H H' → k < r.length → aheadB (r.getD k default) (r.getD i default) = true → K .norm T' H') :
    wpC tab noExt R.heap_row_down_s0 T H K := by
  rw [heap_row_down_s0_at hT]
  have hi' : i < r.length := by omega
  by_cases hk : k < n
  · have hk' : k < r.length := by omega
    have hk3 : ¬ n ≤ k := by omega
    simp [s0, s1, s4, hk3]
    refine (ahead_spec b n c r hr j k i (H.bump 11) (hwf.bump _) (by simp; omega) hbl hk' hi').mono_wf tab_wf noExt_wf noExt_next (hwf.bump _) ?_
    rintro v H1 hw1 hle ⟨rfl, hs⟩
    have hb1 : H1.blk b = some (.cells false (flat encE r ++ j)) := (hs.2 b (by simp; omega)).trans hbl
    have hbn1 : b < H1.next := by simp at hle; omega
    have hbut1 : But [b] H H1 := ((But.refl _ _).bump 11).trans (hs.but _)
    have f1 : i * 3 + 3 ≤ (flat encE r).length + j.length := by simpa using flat_fit encE_len r j i hi'
    have f2 : k * 3 + 3 ≤ (flat encE r).length + j.length := by simpa using flat_fit encE_len r j k hk'
    have g1 := flat_ldn encE_len r j i hi'
    have g2 := flat_ldn encE_len r j k hk'
    have q1 := flat_splice encE_len r j i hi' r[k]



    have q4 := flat_splice encE_len (r.set i r[k]) j k (by simpa using hk') r[i]
    have f4 : k * 3 + 3 ≤ (flat encE (r.set i r[k])).length + j.length := by simpa using flat_fit encE_len (r.set i r[k]) j k (by simpa using hk')
    cases ha : aheadB r[k] r[i]
    · simp
      refine k1 _ _ rfl hb1 hbut1 ?_
      rw [aheadD hk' hi', ha]; simp
    · simp [hb1, hk, hi, f1, f2, g1, g2, q1, encE_len, q4, f4]
      refine k2 _ _ rfl rfl rfl ?_ ?_ ?_ hk' ?_
      · (repeat (first | assumption | exact Same.refl _ | exact But.refl _ _ | refine Same.bump ?_ _ | refine Same.set ?_ (by first | omega | (simp <;> omega)) _ | refine But.bump ?_ _ | refine But.set ?_ (by simp) _ | refine But.set ?_ (by first | omega | (simp <;> omega)) _ | refine WF.bump ?_ _ | refine WF.set ?_ (by first | omega | (simp <;> omega)) _))
      · simp [swapE, hi', hk']
      · (repeat (first | assumption | exact Same.refl _ | exact But.refl _ _ | refine Same.bump ?_ _ | refine Same.set ?_ (by first | omega | (simp <;> omega)) _ | refine But.bump ?_ _ | refine But.set ?_ (by simp) _ | refine But.set ?_ (by first | omega | (simp <;> omega)) _ | refine WF.bump ?_ _ | refine WF.set ?_ (by first | omega | (simp <;> omega)) _))
      · rw [aheadD hk' hi', ha]
  · have hk3 : n ≤ k := by omega
    simp [s0, s1, s4, hk3]
    refine k1 _ _ rfl hbl ?_ (by omega)
    (repeat (first | assumption | exact Same.refl _ | exact But.refl _ _ | refine Same.bump ?_ _ | refine Same.set ?_ (by first | omega | (simp <;> omega)) _ | refine But.bump ?_ _ | refine But.set ?_ (by simp) _ | refine But.set ?_ (by first | omega | (simp <;> omega)) _ | refine WF.bump ?_ _ | refine WF.set ?_ (by first | omega | (simp <;> omega)) _))

theorem down_spec (b n c : Nat) (j : List SV) (H0 : AH) (hbn : b < H0.next) (r0 : List Ent) (hn : r0.length = n) (hc : n < 2305843009213693952) (i0 : Nat) (hi0 : i0 < n) (hw : WF H0) (hb : H0.blk b = some (.cells false (flat encE r0 ++ j))) :
    CallP tab noExt F.heap_row_down [slE b n c, i64 i0] H0 fun v H' => v = unit ∧ H'.blk b = some (.cells false (flat encE (downF r0 i0) ++ j)) ∧ But [b] H0 H' := by
  apply heap_row_down_call
  refine loopP_inv (I := fun m T H => T.length = 48 ∧ sl T 0 = slE b n c ∧ ∃ i : Nat, sl T 1 = i64 i ∧ m = n - i ∧ ∃ r, r.length = n ∧ downF r i = downF r0 i0 ∧ i < n ∧ WF H ∧ H.blk b = some (.cells false (flat encE r ++ j)) ∧ But [b] H0 H) ?_ (n - i0) _ _ ?_
  · intro m T H ⟨hT, s0, i, s1, hm, r, hr, hu, hi, hwf, hbl, hbut⟩
    rw [heap_row_down_l1_at hT]
    have hbn' : b < H.next := Nat.lt_of_lt_of_le hbn hbut.1
    have w1 : IntKind.i64.wrap (2 * (i : Int)) = ((2 * i : Nat) : Int) := by rw [wrap_i64 (by omega) (by omega)]; omega
    have w2 : IntKind.i64.wrap (((2 * i : Nat) : Int) + 1) = ((2 * i + 1 : Nat) : Int) := by rw [wrap_i64 (by omega) (by omega)]; omega
    have w3 : IntKind.i64.wrap (((2 * i + 1 : Nat) : Int) + 1) = ((2 * i + 2 : Nat) : Int) := by rw [wrap_i64 (by omega) (by omega)]; omega
    have tail : ∀ (T1 : List AV) (H1 : AH), T1.length = 48 → sl T1 0 = slE b n c → sl T1 1 = i64 i → sl T1 4 = i64 (kid r i) → WF H1 → H1.blk b = some (.cells false (flat encE r ++ j)) → But [b] H0 H1 →
        wpC tab noExt R.heap_row_down_s0 T1 H1 (blockK 1 (seqK (fun T' H' => ∃ m', m' < m ∧ T'.length = 48 ∧ sl T' 0 = slE b n c ∧ ∃ i : Nat, sl T' 1 = i64 i ∧ m' = n - i ∧ ∃ r, r.length = n ∧ downF r i = downF r0 i0 ∧ i < n ∧ WF H' ∧ H'.blk b = some (.cells false (flat encE r ++ j)) ∧ But [b] H0 H') (blockK 0 (retK [] fun v H' => v = unit ∧ H'.blk b = some (.cells false (flat encE (downF r0 i0) ++ j)) ∧ But [b] H0 H')))) := by
      intro T1 H1 hT1 t0 t1 t4 hw1 hb1 hbut1
      have hg := kid_gt r i
      refine down_s0 b n c j r hr (by omega) i (kid r i) hi T1 H1 hT1 t0 t1 t4 hw1 (Nat.lt_of_lt_of_le hbn hbut1.1) hb1 _ ?_ ?_
      · intro T' H' hT' hb2 hbut2 hno
        have hd : downF r i = r := by rw [downF, dif_neg hno]
        simp
        exact ⟨by rw [hb2, ← hu, hd], hbut1.trans hbut2⟩
      · intro T' H' hT' u0 u1 hw2 hb2 hbut2 hk ha
        simp only [blockK_norm, seqK_norm]
        refine ⟨n - kid r i, by omega, hT', u0, kid r i, u1, rfl, swapE r i (kid r i), by rw [swapE_len, hr], ?_, by omega, hw2, hb2, hbut1.trans hbut2⟩
        rw [← hu]
        conv => rhs; rw [downF, dif_pos ⟨hk, ha⟩]
    generalize hg1 : 2 * i + 1 = k1 at *
    generalize hg2 : 2 * i + 2 = k2 at *
    generalize hg0 : 2 * i = k0 at *
    by_cases h2 : k2 < n
    · have hk1 : k1 < r.length := by omega
      have hk2 : k2 < r.length := by omega
      simp [s0, s1, w1, w2, w3, h2]
      refine (ahead_spec b n c r hr j k2 k1 (H.bump 16) (hwf.bump _) (by simp; omega) hbl hk2 hk1).mono_wf tab_wf noExt_wf noExt_next (hwf.bump _) ?_
      rintro v H1 hw1 hle ⟨rfl, hs⟩
      have hb1 : H1.blk b = some (.cells false (flat encE r ++ j)) := (hs.2 b (by simp; omega)).trans hbl
      have hbn1 : b < H1.next := by simp at hle; omega
      have hbut1 : But [b] H0 H1 := (hbut.bump 16).trans (hs.but _)
      cases ha : aheadB r[k2] r[k1]
      · simp
        have hkid : kid r i = k1 := by unfold kid; rw [show 2 * i + 2 = k2 by omega, show 2 * i + 1 = k1 by omega, if_neg]; rw [aheadD hk2 hk1, ha]; simp
        refine tail _ _ rfl rfl rfl ?_ hw1 hb1 hbut1
        rw [hkid]; rfl
      · simp [w3]
        have hkid : kid r i = k2 := by unfold kid; rw [show 2 * i + 2 = k2 by omega, show 2 * i + 1 = k1 by omega, if_pos]; rw [aheadD hk2 hk1, ha]; simp [hk2]
        refine tail _ _ rfl rfl rfl ?_ (hw1.bump _) hb1 (hbut1.bump _)
        rw [hkid]; rfl
    · simp [s0, s1, w1, w2, w3, h2]
      have hkid : kid r i = k1 := by unfold kid; rw [show 2 * i + 2 = k2 by omega, show 2 * i + 1 = k1 by omega, if_neg]; omega
      refine tail _ _ rfl rfl rfl ?_ ((hwf.bump _).bump _) hbl ((hbut.bump _).bump _)
      rw [hkid]; rfl
  · exact ⟨rfl, rfl, i0, rfl, rfl, r0, hn, rfl, hi0, hw, hb, But.refl _ _⟩

end Go.AM
