/-
  Those that are ready, and the document's: do they tell the same?
-/
import Derived.Test.YtlkpeondecnhnaaDoorRqO
namespace Go.AM
attribute [local simp] AH.ld AH.ldn Nat.add_assoc resA resA1 fillA buildA slSlA boundsA boundA callvP

/-- What can be read of a slice of numbers. -/
def Reads (A : Asr) (s : SV) (xs : List Int) : Prop := ∀ (ρ : HF) (H : AH) (R : List Asr), Sat ρ H (A :: R) → lenA (.s s) = some (i64 xs.length) ∧ ∀ (i : Nat) (x : Int), xs[i]? = some x → ∃ b c ro l, s = .slice (some (b, 0)) xs.length c 1 ∧ H.blk b = some (.cells ro l) ∧ l[i]? = some (.int .i64 x)

theorem reads_row (s : SV) (xs : List Int) : Reads (Row encI 1 s xs) s xs := fun _ _ _ h =>
  ⟨h.rowLen, fun _ _ hx => let ⟨b, c, ro, l, e1, e2, e3, _⟩ := RowI.get h hx; ⟨b, c, ro, l, e1, e2, e3⟩⟩

theorem reads_nil (e : Nat) : Reads Asr.emp (.slice none 0 0 e) [] := fun _ _ _ _ => ⟨rfl, fun i x h => by simp at h⟩

theorem Sat.mkEmp {ρ : HF} {H : AH} {R : List Asr} (h : Sat ρ H R) : Sat ρ H (Asr.emp :: R) := by
  obtain ⟨hw, S, h1, h2⟩ := h
  exact ⟨hw, [] ++ S, .cons (A := Asr.emp) rfl h1 (by simp), h2⟩

theorem Same2_tri (A B : Asr) (s t : SV) (xs ys : List Int) (ha : Reads A s xs) (hb : Reads B t ys) (hl : xs.length ≤ 1000000) : Tri tab noExt F.detentlaw3_Same [.s s, .s t] [A, B] fun v P' => v = bl (decide (xs = ys)) ∧ P' = [A, B] := by
  refine Tri.intro fun ρ H Rs K hs hk => ?_
  apply detentlaw3_Same_call
  have hs : Sat ρ H (A :: B :: Rs) := hs
  have l1 := (ha _ _ _ hs).1
  have l2 := (hb _ _ _ hs.swap).1
  by_cases hlen : xs.length = ys.length
  · have hli : (xs.length : Int) = (ys.length : Int) := by omega
    have l2' : lenA (.s t) = some (i64 xs.length) := by rw [l2, hli]
    simp [l1, l2']
    refine loopP_invK (I := fun n T H' => T.length = 26 ∧ sl T 0 = .s s ∧ sl T 1 = .s t ∧ ∃ i : Nat, sl T 5 = i64 i ∧ i ≤ xs.length ∧ n = xs.length - i ∧ xs.take i = ys.take i ∧ Sat ρ H' (A :: B :: Rs)) ?_ xs.length _ _ ⟨rfl, rfl, rfl, 0, rfl, Nat.zero_le _, rfl, rfl, by (repeat refine Sat.bump ?_ _); exact hs⟩
    intro n T H' ⟨hT, s0, s1, i, s5, hi, hn, htk, hs⟩ K' kn kr ko
    rw [detentlaw3_Same_l0_at hT]
    by_cases hlt : i < xs.length
    · have hlt' : (i : Int) < (xs.length : Int) := by omega
      have hlt2 : i < ys.length := by omega
      have hlt2' : (i : Int) < (ys.length : Int) := by omega
      obtain ⟨x, hx⟩ := get_ex hlt
      obtain ⟨y, hy⟩ := get_ex hlt2
      obtain ⟨b1, c1, ro1, l1, e1, hb1, hli1⟩ := (ha _ _ _ hs).2 i x hx
      obtain ⟨b2, c2, ro2, l2, e2, hb2, hli2⟩ := (hb _ _ _ hs.swap).2 i y hy
      rw [e1] at s0
      rw [e2] at s1
      have w1 : IntKind.i64.wrap ((i : Int) + 1) = (i : Int) + 1 := wrap_i64 (by omega) (by omega)
      by_cases hxy : x = y
      · simp [s0, s1, s5, hlt, hlt', hlt2, hlt2', hb1, hli1, hb2, hli2, hxy, w1]
        exact kn (xs.length - (i + 1)) _ _ (by omega) ⟨rfl, e1 ▸ rfl, e2 ▸ rfl, i + 1, rfl, hlt, rfl, by rw [List.take_add_one, List.take_add_one, htk, hx, hy, hxy], by (repeat refine Sat.bump ?_ _); exact hs⟩
      · have hne : xs ≠ ys := fun e => by rw [e, hy] at hx; exact hxy (Option.some.inj hx).symm
        simp [s0, s1, s5, hlt, hlt', hlt2, hlt2', hb1, hli1, hb2, hli2, hxy]
        refine kr _ _ ?_
        simp
        rw [decide_eq_false hne] at hk
        exact hk _ _ _ ⟨rfl, rfl⟩ (by (repeat refine Sat.bump ?_ _); exact hs)
    · have hie : i = xs.length := by omega
      have heq : xs = ys := by
        rw [hie, List.take_length, hlen, List.take_length] at htk
        exact htk
      subst hie
      have hl' := (ha _ _ _ hs).1
      simp [s0, s1, s5, hl']
      refine ko _ _ _ ?_
      simp
      rw [detentlaw3_Same_s1_at rfl]
      rw [decide_eq_true heq] at hk
      exact ⟨_, rfl, hk _ _ _ ⟨rfl, rfl⟩ (by (repeat refine Sat.bump ?_ _); exact hs)⟩
  · have hli : ¬ (xs.length : Int) = (ys.length : Int) := by omega
    have hne : xs ≠ ys := fun e => hlen (by rw [e])
    rw [decide_eq_false hne] at hk
    simp [l1, l2, hli]
    exact hk _ _ _ ⟨rfl, rfl⟩ (by (repeat refine Sat.bump ?_ _); exact hs)

theorem same9_s0 {ρ : HF} (a b : Nat) (rows : QRows) (g : GoodQ rows) (p : Nat) (s : SV) (B : Asr) (hB : Reads B s (rowQ rows p)) (L Rs : List Asr) (hc : ∀ H', Sat ρ H' (QA a rows :: B :: L) → Sat ρ H' (QA a rows :: RfQ b rows :: Rs)) (T : List AV) (H : AH) (hT : T.length = 76) (s0 : sl T 0 = ptr a) (s1 : sl T 1 = ptr b) (s7 : sl T 7 = i64 p) (s8 : sl T 8 = .s s)
    (hs : Sat ρ H (QA a rows :: B :: L)) (K : Ex → List AV → AH → Prop)
    (hk : ∀ T' H', T'.length = 76 → sl T' 0 = ptr a → sl T' 1 = ptr b → sl T' 7 = i64 p → Sat ρ H' (QA a rows :: RfQ b rows :: Rs) → K .norm T' H') :
    wpC tab noExt R.detentlaw9_same_s0 T H K := by
  rw [detentlaw9_same_s0_at hT]
  simp only [s0, s1, s7, s8]
  refine (RowQ_tri a rows p).use (hs.bump 6) ?_
  rintro v H2 P' ⟨t, rfl, rfl⟩ hs2
  have hs2 : Sat ρ H2 (Row encI 1 t (rowQ rows p) :: QA a rows :: B :: L) := hs2
  have hs3 : Sat ρ H2 (Row encI 1 t (rowQ rows p) :: B :: QA a rows :: L) := Sat.re hs2 [0, 2, 1] (by simp) (by decide)
  have hlr : (rowQ rows p).length ≤ 1000000 := by
    unfold rowQ
    split
    · have := g.short (p : Int).toNat; omega
    · simp
  refine (Same2_tri _ B t s _ _ (reads_row _ _) hB hlr).use hs3 ?_
  rintro v H3 P' ⟨rfl, rfl⟩ hs4
  rw [decide_eq_true rfl]
  have hs4 : Sat ρ H3 (Row encI 1 t (rowQ rows p) :: B :: QA a rows :: L) := hs4
  have hs5 : Sat ρ H3 (QA a rows :: RfQ b rows :: Rs) := hc _ hs4.drop.swap
  simp
  refine (PriQ a rows p).use (hs5.bump 8) ?_
  rintro v H4 P' ⟨rfl, rfl⟩ hs6
  have hs6 : Sat ρ H4 (RfQ b rows :: QA a rows :: Rs) := Sat.swap hs6
  simp
  refine (RPri_tri b rows p).use (hs6.bump 13) ?_
  rintro v H5 P' ⟨rfl, rfl⟩ hs7
  simp
  refine (RPri_tri b rows p).use hs7 ?_
  rintro v H6 P' ⟨rfl, rfl⟩ hs8
  have hs8 : Sat ρ H6 (RfQ b rows :: QA a rows :: Rs) := hs8
  simp
  exact hk _ _ rfl rfl rfl rfl hs8.swap

theorem same9_s1 {p : Nat} (hp : p ≤ 17) (T : List AV) (H : AH) (hT : T.length = 76) (s7 : sl T 7 = i64 p) (K : Ex → List AV → AH → Prop)
    (hk : ∀ T', T'.length = 76 → sl T' 0 = sl T 0 → sl T' 1 = sl T 1 → sl T' 7 = i64 (p + 1 : Nat) → K .norm T' (H.bump 3)) : wpC tab noExt R.detentlaw9_same_s1 T H K := by
  rw [detentlaw9_same_s1_at hT]
  have w1 : IntKind.i64.wrap ((p : Int) + 1) = (p : Int) + 1 := wrap_i64 (by omega) (by omega)
  simp [s7, w1]
  exact hk _ rfl rfl rfl rfl

theorem same9_tri (a b : Nat) (rows : QRows) : Tri tab noExt F.detentlaw9_same [ptr a, ptr b] [QA a rows, RfQ b rows] fun v P' => v = bl true ∧ P' = [QA a rows, RfQ b rows] := by
  refine Tri.intro fun ρ H Rs K hs hk => ?_
  apply detentlaw9_same_call
  have hs : Sat ρ H (QA a rows :: RfQ b rows :: Rs) := hs
  obtain ⟨_, _, _, g, _, _⟩ := Sat.qOpen hs
  have hfl := g.flat
  have tail : ∀ (T : List AV) (H' : AH), T.length = 76 → sl T 0 = ptr a → sl T 1 = ptr b → sl T 7 = i64 0 → Sat ρ H' (QA a rows :: RfQ b rows :: Rs) → loopP tab noExt R.detentlaw9_same_l2 T H' (blockK 0 (seqK (fun T H => wpC tab noExt R.detentlaw9_same_s3 T H (retK [.tmp 4] K)) (retK [.tmp 4] K))) := by
    intro T H' hT s0 s1 s7 hs
    refine loopP_invK (I := fun n T H' => T.length = 76 ∧ sl T 0 = ptr a ∧ sl T 1 = ptr b ∧ ∃ p : Nat, sl T 7 = i64 p ∧ p ≤ 18 ∧ n = 18 - p ∧ Sat ρ H' (QA a rows :: RfQ b rows :: Rs)) ?_ 18 _ _ ⟨hT, s0, s1, 0, s7, by omega, rfl, hs⟩
    rintro n T H' ⟨hT, s0, s1, p, s7, hp, hn, hs⟩ K' kn kr ko
    rw [detentlaw9_same_l2_at hT]
    by_cases hlt : p ≤ 17
    · have hlt' : (p : Int) ≤ 17 := by omega
      have next : ∀ (T : List AV) (H : AH), T.length = 76 → sl T 0 = ptr a → sl T 1 = ptr b → sl T 7 = i64 p → Sat ρ H (QA a rows :: RfQ b rows :: Rs) → wpC tab noExt R.detentlaw9_same_s1 T H K' := by
        intro T H hT s0 s1 s7 hs
        refine same9_s1 hlt T H hT s7 K' fun T' e1 e2 e3 e4 => ?_
        exact kn (18 - (p + 1)) _ _ (by omega) ⟨e1, e2.trans s0, e3.trans s1, p + 1, e4, by omega, rfl, hs.bump 3⟩
      have goOut : ¬ (1 ≤ (p : Int) ∧ (p : Int) ≤ 16) → ∀ (T : List AV) (H : AH), T.length = 76 → sl T 0 = ptr a → sl T 1 = ptr b → sl T 7 = i64 p → sl T 8 = .s (.slice none 0 0 1) → Sat ρ H (QA a rows :: RfQ b rows :: Rs) → wpC tab noExt R.detentlaw9_same_s0 T H (blockK 1 (seqK (fun T H => wpC tab noExt R.detentlaw9_same_s1 T H K') K')) := by
        intro hno T H hT s0 s1 s7 s8 hs
        have e : rowQ rows p = [] := by unfold rowQ; rw [if_neg hno]
        refine same9_s0 a b rows g p _ Asr.emp (by rw [e]; exact reads_nil 1) (RfQ b rows :: Rs) Rs (fun H' h => (Sat.drop h.swap)) T H hT s0 s1 s7 s8 (Sat.mkEmp hs).swap _ fun T' H' e1 e2 e3 e4 h => ?_
        simp
        exact next _ _ e1 e2 e3 e4 h
      by_cases h1 : 1 ≤ p
      · have h1' : (1 : Int) ≤ (p : Int) := by omega
        by_cases h2 : p ≤ 16
        · have h2' : (p : Int) ≤ 16 := by omega
          have p1 : (p : Int) < 17 := by omega
          have hs2 : Sat ρ H' (RfQ b rows :: QA a rows :: Rs) := hs.swap
          obtain ⟨rs, g, hl, hs3⟩ := Sat.fOpen hs2
          obtain ⟨s, hrp⟩ : ∃ s, rs[p]? = some s := ⟨_, List.getElem?_eq_getElem (by omega)⟩
          have hq := rowAt_get (rows := rows) (p := p) (by rw [g.len]; omega)
          have hb := hs3.cel
          have hs4 := hs3.qOut hrp hq
          have e : rowQ rows p = rowAt rows p := by unfold rowQ; rw [if_pos ⟨h1', h2'⟩, Int.toNat_natCast]
          simp [s0, s1, s7, hlt', hlt, h1', h2', h1, h2, hb, hrp, p1]
          have hs5 : Sat ρ H' (QA a rows :: Row encI 1 s (rowAt rows p) :: (Cel b rs :: (rowsL rs rows).eraseIdx p ++ Rs)) := by
            have h1 : Sat ρ H' ((Row encI 1 s (rowAt rows p) :: Cel b rs :: (rowsL rs rows).eraseIdx p) ++ (QA a rows :: Rs)) := hs4
            exact h1.perm List.perm_middle
          refine same9_s0 a b rows g p s (Row encI 1 s (rowAt rows p)) (by rw [e]; exact reads_row _ _) (Cel b rs :: (rowsL rs rows).eraseIdx p ++ Rs) Rs (fun H2 h => ?_) _ _ rfl rfl rfl rfl rfl ((((hs5.bump 2).bump 1).bump 6).bump 7) _ fun T' H' e1 e2 e3 e4 h => ?_
          · have h3 : Sat ρ H2 (Row encI 1 s (rowAt rows p) :: Cel b rs :: ((rowsL rs rows).eraseIdx p ++ (QA a rows :: Rs))) := by
              have h4 : Sat ρ H2 (QA a rows :: (Row encI 1 s (rowAt rows p) :: Cel b rs :: (rowsL rs rows).eraseIdx p) ++ Rs) := h
              exact h4.perm List.perm_middle.symm
            exact (Sat.fClose (h3.qBack hrp hq) g hl).swap
          · simp
            exact next _ _ e1 e2 e3 e4 h
        · have h2' : ¬ (p : Int) ≤ 16 := by omega
          simp [s0, s1, s7, hlt', hlt, h1', h2', h1, h2]
          exact goOut (fun h => h2' h.2) _ _ rfl rfl rfl rfl rfl (by (repeat refine Sat.bump ?_ _); exact hs)
      · have h1' : ¬ (1 : Int) ≤ (p : Int) := by omega
        simp [s0, s1, s7, hlt', hlt, h1', h1]
        exact goOut (fun h => h1' h.1) _ _ rfl rfl rfl rfl rfl (by (repeat refine Sat.bump ?_ _); exact hs)
    · have hlt' : ¬ (p : Int) ≤ 17 := by omega
      simp [s7, hlt', hlt]
      refine ko _ _ _ ?_
      simp
      rw [detentlaw9_same_s3_at rfl]
      simp
      exact hk _ _ _ ⟨rfl, rfl⟩ ((hs.bump 2).bump 1)
  refine (FirstQ_tri a rows).use ((hs.bump 1).bump 7) ?_
  rintro v H1 P' ⟨rfl, rfl⟩ hs1
  have hs1 : Sat ρ H1 (RfQ b rows :: QA a rows :: Rs) := Sat.swap hs1
  have all : ∀ (H' : AH), Sat ρ H' (RfQ b rows :: QA a rows :: Rs) → ∀ (K2 : AV → AV → AV → AH → Prop), (∀ x y H'', Sat ρ H'' (QA a rows :: RfQ b rows :: Rs) → K2 x y (bl true) H'') →
      CallP tab noExt F.ready_Queue_All [ptr a] H' fun v H2 => CallP tab noExt F.detentref9_Queue_All [ptr b] H2 fun v2 H3 => CallP tab noExt F.detentlaw3_Same [v, v2] H3 (K2 v v2) := by
    intro H' hs K2 hk2
    refine (AllQ_tri a rows).use hs.swap ?_
    rintro v H2 P' ⟨x, rfl, rfl⟩ hs2
    have hs2 : Sat ρ H2 (RfQ b rows :: Row encI 1 x rows.flatten :: QA a rows :: Rs) := Sat.re hs2 [2, 0, 1] (by simp) (by decide)
    refine (RAll b rows).use hs2 ?_
    rintro v H3 P' ⟨y, rfl, rfl⟩ hs3
    have hs3 : Sat ρ H3 (Row encI 1 x rows.flatten :: Row encI 1 y rows.flatten :: QA a rows :: RfQ b rows :: Rs) := Sat.re hs3 [2, 0, 3, 1] (by simp) (by decide)
    refine (Same2_tri _ _ x y _ _ (reads_row _ _) (reads_row _ _) (by omega)).use hs3 ?_
    rintro v H4 P' ⟨rfl, rfl⟩ hs4
    rw [decide_eq_true rfl]
    have hs4 : Sat ρ H4 (Row encI 1 x rows.flatten :: Row encI 1 y rows.flatten :: QA a rows :: RfQ b rows :: Rs) := hs4
    exact hk2 _ _ _ hs4.drop.drop
  cases hf : rows.flatten.head? with
  | none =>
    simp [firstV]
    refine (RFirst b rows).use (hs1.bump 19) ?_
    rintro v H2 P' ⟨rfl, rfl⟩ hs2
    rw [hf]
    simp
    refine (RFirst b rows).use hs2 ?_
    rintro v H3 P' ⟨rfl, rfl⟩ hs3
    rw [hf]
    simp
    refine all H3 hs3 (fun _ _ _ _ => _) fun x y H4 hs4 => ?_
    simp
    exact tail _ _ rfl rfl rfl rfl (hs4.bump 1)
  | some x =>
    have hx0 : ¬ x = 0 := by
      have := List.mem_of_mem_head? hf
      obtain ⟨r, hr, hxr⟩ := List.mem_flatten.1 this
      obtain ⟨p, hp, rfl⟩ := List.mem_iff_getElem.1 hr
      have e := rowAt_get hp
      rw [List.getElem?_eq_getElem hp] at e
      rw [Option.some.inj e] at hxr
      have := g.lim p x hxr
      omega
    simp [firstV]
    refine (RFirst b rows).use (hs1.bump 19) ?_
    rintro v H2 P' ⟨rfl, rfl⟩ hs2
    rw [hf]
    simp
    refine (RFirst b rows).use hs2 ?_
    rintro v H3 P' ⟨rfl, rfl⟩ hs3
    rw [hf]
    simp [hx0]
    refine all H3 hs3 (fun _ _ _ _ => _) fun x y H4 hs4 => ?_
    simp
    exact tail _ _ rfl rfl rfl rfl (hs4.bump 1)
end Go.AM
