/-
  The law TimerOnce, in the abstract machine.
-/
import Derived.Test.YtkhffcbnhleeoaaLwC
import Derived.Test.YtkhffcbnhleeoaaPlC
namespace Go.AM
attribute [local simp] AH.ld AH.ldn AH.stn AH.new Nat.add_assoc resA resA1 fillA buildA slSlA boundsA boundA callvP

/-- A slice of truths. -/
abbrev RoB (ρ : HF) (s : SV) (xs : List Bool) : Prop := At ρ (.slice .bool) xs [s]

theorem ArgsAt.bools {f : HF} {ts : List Ty} {l : List AV} (h : ArgsAt f (.slice .bool :: ts) l) : ∃ (xs : List Bool) (s : SV) (vs : List AV), l = .s s :: vs ∧ RoB f s xs ∧ ArgsAt f ts vs := by
  cases h with | cons h1 h2 => obtain ⟨s, rfl, h⟩ := h1; exact ⟨_, s, _, rfl, h, h2⟩

theorem flatB {f : HF} : ∀ {xs : List Bool} {ls : List (List SV)}, R2 (At f .bool) xs ls → ls.flatten = xs.map SV.bool
  | [], [], _ => rfl
  | _ :: _, _ :: _, h => by
    have h1 : _ = _ := h.1
    subst h1
    simp [flatB h.2]

section
variable {ρ : HF}

theorem RoB.len {s : SV} {xs : List Bool} (h : RoB ρ s xs) : lenA (.s s) = some (i64 xs.length) := by
  obtain ⟨s', h1, h2⟩ := h
  cases h1
  rcases h2 with ⟨o, rfl, rfl⟩ | ⟨b, c, j, ls, rfl, _⟩ <;> rfl

theorem RoB.gets {s : SV} {xs : List Bool} (h : RoB ρ s xs) {i : Nat} (hi : i < xs.length) : ∃ b c l, s = .slice (some (b, 0)) xs.length c 1 ∧ ρ b = some (.cells true l) ∧ l[i]? = some (.bool (xs.getD i false)) := by
  rw [List.getD_eq_getElem?_getD, List.getElem?_eq_getElem hi]
  simp only [Option.getD_some]
  obtain ⟨s', h1, h2⟩ := h
  cases h1
  rcases h2 with ⟨o, rfl, rfl⟩ | ⟨b, c, j, ls, rfl, hb, h3, h4, h5⟩
  · simp at hi
  · refine ⟨b, c, _, rfl, hb, ?_⟩
    rw [flatB h5, List.getElem?_append_left (by simpa using hi)]
    simp [hi]

/-- Who is there. -/
def OnceMem (f : Nat → Int) (p : Nat → Prop) (n : Nat) (L : List Ent) : Prop := ∀ x, x ∈ L ↔ ∃ k, k < n ∧ x = ⟨f k, (k : Int) + 1, k⟩ ∧ p k

theorem once_due {f : Nat → Int} {p : Nat → Prop} {n : Nat} {L : List Ent} {v : Int} (hs : Srt L) (hnd : (L.map Ent.handle).Nodup) (hm : OnceMem f (fun k => p k ∧ v ≤ f k) n L) (D : List Int) (hD : D = (dueL L v).map Ent.arg) :
    (∀ i, i < D.length → ∃ k : Nat, D.getD i 0 = k ∧ k < n ∧ p k ∧ f k = v) ∧ (∀ i j, i < j → j < D.length → D.getD i 0 ≠ D.getD j 0) ∧ (∀ k : Nat, k < n → p k → f k = v → ∃ j, j < D.length ∧ D.getD j 0 = k) ∧
    OnceMem f (fun k => p k ∧ v + 1 ≤ f k) n (toL L v) ∧ D.length ≤ L.length := by
  have hget : ∀ (M : List Ent) i (h : i < M.length), (M.map Ent.arg).getD i 0 = M[i].arg := fun M i h => by
    rw [List.getD_eq_getElem?_getD, List.getElem?_map, List.getElem?_eq_getElem h]; rfl
  have hsub : (dueL L v).Sublist L := List.takeWhile_sublist _
  have hmd : ∀ x, x ∈ dueL L v ↔ ∃ k, k < n ∧ x = ⟨f k, (k : Int) + 1, k⟩ ∧ p k ∧ f k = v := fun x => by
    rw [(due_filter hs v).1, List.mem_filter, hm]
    constructor
    · rintro ⟨⟨k, hk, rfl, hp, hv⟩, h⟩
      simp only [decide_eq_true_eq] at h
      exact ⟨k, hk, rfl, hp, by omega⟩
    · rintro ⟨k, hk, rfl, hp, hv⟩
      exact ⟨⟨k, hk, rfl, hp, by omega⟩, by simp only [decide_eq_true_eq]; omega⟩
  have hmt : OnceMem f (fun k => p k ∧ v + 1 ≤ f k) n (toL L v) := fun x => by
    rw [(due_filter hs v).2, List.mem_filter, hm]
    constructor
    · rintro ⟨⟨k, hk, rfl, hp, hv⟩, h⟩
      simp only [decide_eq_true_eq] at h
      exact ⟨k, hk, rfl, hp, by omega⟩
    · rintro ⟨k, hk, rfl, hp, hv⟩
      exact ⟨⟨k, hk, rfl, hp, by omega⟩, by simp only [decide_eq_true_eq]; omega⟩
  have hnd' : ((dueL L v).map Ent.handle).Nodup := hnd.sublist (hsub.map _)
  have hlen := hsub.length_le
  generalize dueL L v = M at *
  subst hD
  refine ⟨fun i hi => ?_, fun i j hij hj => ?_, fun k hk hp hv => ?_, hmt, by simpa using hlen⟩
  · rw [List.length_map] at hi
    rw [hget M i hi]
    obtain ⟨k, hk, he, h⟩ := (hmd _).1 (List.getElem_mem hi)
    exact ⟨k, by rw [he], hk, h⟩
  · rw [List.length_map] at hj
    rw [hget M i (by omega), hget M j hj]
    obtain ⟨k, hk, he, h⟩ := (hmd _).1 (List.getElem_mem (h := (by omega : i < M.length)))
    obtain ⟨k', hk', he', h'⟩ := (hmd _).1 (List.getElem_mem hj)
    have hne := (List.pairwise_iff_getElem.1 hnd') i j (by simpa using (by omega : i < M.length)) (by simpa using hj) hij
    simp only [List.getElem_map, he, he'] at hne ⊢
    omega
  · obtain ⟨i, hi, he⟩ := List.getElem_of_mem ((hmd ⟨f k, (k : Int) + 1, k⟩).2 ⟨k, hk, rfl, hp, hv⟩)
    exact ⟨i, by simpa using hi, by rw [hget M i hi, he]⟩

section
variable (xs : List Int) (cs : List Bool) (s0' s1' : SV) (hx : RoI ρ .u8 s0' xs) (hc : RoB ρ s1' cs) (hn : xs.length ≤ 100) (hnc : xs.length ≤ cs.length)
include hx hc hn hnc

theorem once_l2 (v : Int) (hv : 0 ≤ v ∧ v < 256) (D : List Int) (s : SV) (b : Nat) (sv : List Bool) (hsl : sv.length = 100) (hD100 : D.length ≤ 256)
    (hD : ∀ i, i < D.length → ∃ k : Nat, D.getD i 0 = k ∧ k < xs.length ∧ cs.getD k false = false ∧ xs.getD k 0 = v) (hne : ∀ i j, i < j → j < D.length → D.getD i 0 ≠ D.getD j 0) (hsv : ∀ k, xs.getD k 0 = v → sv.getD k false = false) (Rs : List Asr)
    (T : List AV) (H : AH) (hT : T.length = 148) (s0 : sl T 0 = .s s0') (s1 : sl T 1 = .s s1') (s10 : sl T 10 = ptr b) (s11 : sl T 11 = u64 v) (s12 : sl T 12 = .s s) (s13 : sl T 13 = i64 0) (hs : Sat ρ H (RowA encI 1 s D :: Cel b (sv.map .bool) :: Rs)) (K : Ex → List AV → AH → Prop)
    (hk : ∀ T' H' (sv' : List Bool), T'.length = 148 → sl T' 0 = sl T 0 → sl T' 1 = sl T 1 → sl T' 5 = sl T 5 → sl T' 10 = sl T 10 → sl T' 11 = sl T 11 → sv'.length = 100 → (∀ k : Nat, sv'.getD k false = true ↔ sv.getD k false = true ∨ ∃ j, j < D.length ∧ D.getD j 0 = k) → Sat ρ H' (RowA encI 1 s D :: Cel b (sv'.map .bool) :: Rs) → K .norm T' H') :
    loopP tab noExt R.detentlaw7_TimerOnce_l2 T H (blockK 6 K) := by
  have hlD := hs.row.1
  have hlx := hx.len
  have hlc := hc.len
  refine loopP_invK (I := fun m T1 H => T1.length = 148 ∧ sl T1 0 = sl T 0 ∧ sl T1 1 = sl T 1 ∧ sl T1 5 = sl T 5 ∧ sl T1 10 = sl T 10 ∧ sl T1 11 = sl T 11 ∧ sl T1 12 = sl T 12 ∧ ∃ i : Nat, sl T1 13 = i64 i ∧ i ≤ D.length ∧ m = D.length - i ∧ ∃ sv' : List Bool, sv'.length = 100 ∧ (∀ k : Nat, sv'.getD k false = true ↔ sv.getD k false = true ∨ ∃ j, j < i ∧ D.getD j 0 = k) ∧ Sat ρ H (RowA encI 1 s D :: Cel b (sv'.map .bool) :: Rs)) ?_ D.length _ _ ⟨hT, rfl, rfl, rfl, rfl, rfl, rfl, 0, s13, Nat.zero_le _, rfl, sv, hsl, fun k => by simp, hs⟩
  intro m T1 H ⟨hT, t0, t1, t5, t10, t11, t12, i, t13, hi, hm, sv', hsl', hsv', hs⟩ K1 kn _ ko
  rw [detentlaw7_TimerOnce_l2_at hT]
  by_cases hlt : i < D.length
  · have hlt' : (i : Int) < (D.length : Int) := by omega
    obtain ⟨bd, c, l, rfl, hb, hl1⟩ := hs.rowI hlt
    obtain ⟨k, d1, d2, d3, d4⟩ := hD i hlt
    obtain ⟨b2, c2, l2, rfl, hρ2, hx1, hw1⟩ := hx.gets (i := k) d2
    obtain ⟨b3, c3, l3, rfl, hρ3, hx3⟩ := hc.gets (i := k) (by omega)
    have hb2 := hs.roOf _ _ hρ2
    have hb3 := hs.roOf _ _ hρ3
    have hb4 := hs.swap.cel
    have w1 : IntKind.i64.wrap ((i : Int) + 1) = (i : Int) + 1 := wrap_i64 (by omega) (by omega)
    rw [d1] at hl1
    rw [d4] at hx1
    rw [d3] at hx3
    have w2 : IntKind.u64.wrap v = v := wrap_u64 (by omega) (by omega)
    have hse : sv'.getD k false = false := by
      cases h : sv'.getD k false with
      | false => rfl
      | true =>
        rcases (hsv' k).1 h with h1 | ⟨j, h1, h2⟩
        · rw [hsv k d4] at h1; cases h1
        · exact absurd (h2.trans d1.symm) (hne j i h1 hlt)
    have hse' : sv'[k]? = some false := by
      rw [List.getD_eq_getElem?_getD] at hse
      rw [List.getElem?_eq_getElem (by omega)] at hse ⊢
      simpa using hse
    have hse2 : sv'[k]'(by omega) = false := by
      have h := hse'
      rw [List.getElem?_eq_getElem (by omega)] at h
      simpa using h
    have n0 : ¬ (k : Int) < 0 := by omega
    have n1 : ¬ xs.length ≤ k := by omega
    have n1' : ¬ (xs.length : Int) ≤ (k : Int) := by omega
    have p1 : k < 100 := by omega
    have p1' : (k : Int) < 100 := by omega
    have p2 : k < cs.length := by omega
    have p3 : k + 1 ≤ sv'.length := by omega
    have hspl : splice (sv'.map SV.bool) k [SV.bool true] = (sv'.set k true).map SV.bool := by
      unfold splice
      rw [List.map_set, List.set_eq_take_append_cons_drop, if_pos (by simp; omega)]
      simp
    have hs5 : Sat ρ _ (RowA encI 1 (.slice (some (bd, 0)) D.length c 1) D :: Cel b ((sv'.set k true).map .bool) :: Rs) := (Sat.set (Sat.bump (Sat.bump (Sat.bump hs.swap 4) 43) 6) ((sv'.set k true).map .bool)).swap
    simp [t0, s0, t1, s1, t10, s10, t11, s11, t12, s12, t13, hlt, hlt', hb, hl1, n0, n1, n1', d2, hb2, hx1, hb3, hx3, hb4, hse', hse2, p1, p1', p2, p3, w1, w2, hspl, hsl']
    refine ⟨by omega, kn (D.length - (i + 1)) _ _ (by omega) ⟨rfl, s0.symm, s1.symm, t5, s10.symm, s11.symm, s12.symm, i + 1, rfl, hlt, rfl, sv'.set k true, by simpa using hsl', fun k' => ?_, by simpa [List.map_set] using hs5.bump 3⟩⟩
    rw [List.getD_eq_getElem?_getD, List.getElem?_set]
    by_cases hkk : k = k'
    · subst hkk
      rw [if_pos rfl, if_pos (by omega)]
      simp only [Option.getD_some, true_iff]
      exact .inr ⟨i, by omega, d1⟩
    · rw [if_neg hkk, ← List.getD_eq_getElem?_getD, hsv' k']
      constructor
      · rintro (h | ⟨j, h1, h2⟩)
        · exact .inl h
        · exact .inr ⟨j, by omega, h2⟩
      · rintro (h | ⟨j, h1, h2⟩)
        · exact .inl h
        · by_cases hj : j = i
          · subst hj; rw [d1] at h2; omega
          · exact .inr ⟨j, by omega, h2⟩
  · have hlt' : ¬ (i : Int) < (D.length : Int) := by omega
    have hie : i = D.length := by omega
    simp [t12, s12, t13, hlD, hlt']
    refine ko _ _ _ ?_
    exact hk _ _ sv' rfl t0 t1 t5 t10 t11 hsl' (by rw [← hie]; exact hsv') (hs.bump _)

omit hx hc hn hnc in
theorem once_s6 (t : Nat) (last : Int) (T : List AV) (H : AH) (hT : T.length = 148) (s5 : sl T 5 = ptr t) (hs : Sat ρ H [TmA t [] last]) :
    wpC tab noExt R.detentlaw7_TimerOnce_s6 T H (retK [.tmp 4] fun v _ => v = bl true) := by
  rw [detentlaw7_TimerOnce_s6_at hT]
  simp [s5]
  refine (Len_tri t [] last).use (hs.bump _) ?_
  rintro v H1 P' ⟨rfl, rfl⟩ hs1
  simp

theorem once_s7 (b : Nat) (sv : List Bool) (hsl : sv.length = 100) (hsv : ∀ k, k < xs.length → sv.getD k false = !cs.getD k false) (t : Nat) (last : Int)
    (T : List AV) (H : AH) (hT : T.length = 148) (s0 : sl T 0 = .s s0') (s1 : sl T 1 = .s s1') (s5 : sl T 5 = ptr t) (s10 : sl T 10 = ptr b) (hs : Sat ρ H [Cel b (sv.map .bool), TmA t [] last]) :
    wpC tab noExt R.detentlaw7_TimerOnce_s7 T H (retK [.tmp 4] fun v _ => v = bl true) := by
  rw [detentlaw7_TimerOnce_s7_at hT]
  have hlx := hx.len
  refine loopP_invK (I := fun m T1 H => T1.length = 148 ∧ sl T1 0 = .s s0' ∧ sl T1 1 = .s s1' ∧ sl T1 5 = ptr t ∧ sl T1 10 = ptr b ∧ ∃ i : Nat, sl T1 14 = i64 i ∧ i ≤ xs.length ∧ m = xs.length - i ∧ Sat ρ H [Cel b (sv.map .bool), TmA t [] last]) ?_ xs.length _ _ ⟨rfl, s0, s1, s5, s10, 0, rfl, Nat.zero_le _, rfl, hs.bump 1⟩
  intro m T1 H ⟨hT, s0, s1, s5, s10, i, t14, hi, hm, hs⟩ K1 kn _ ko
  rw [detentlaw7_TimerOnce_l5_at hT]
  by_cases hlt : i < xs.length
  · have hlt' : (i : Int) < (xs.length : Int) := by omega
    obtain ⟨b2, c2, l2, rfl, hρ2, hx1, hw1⟩ := hx.gets hlt
    obtain ⟨b3, c3, l3, rfl, hρ3, hx3⟩ := hc.gets (i := i) (by omega)
    have hb3 := hs.roOf _ _ hρ3
    have hb4 := hs.cel
    have w1 : IntKind.i64.wrap ((i : Int) + 1) = (i : Int) + 1 := wrap_i64 (by omega) (by omega)
    have hse := hsv i hlt
    have hse' : sv[i]? = some (!cs.getD i false) := by
      rw [List.getD_eq_getElem?_getD] at hse
      rw [List.getElem?_eq_getElem (by omega)] at hse ⊢
      simpa using hse
    generalize cs.getD i false = cb at *
    have p1 : i < 100 := by omega
    have p1' : (i : Int) < 100 := by omega
    have p2 : i < cs.length := by omega
    simp [s0, s1, s5, s10, t14, hlt, hlt', hb3, hx3, hb4, hse', p1, p1', p2, w1]
    refine kn (xs.length - (i + 1)) _ _ (by omega) ⟨rfl, rfl, rfl, rfl, rfl, i + 1, rfl, hlt, rfl, ((hs.bump _).bump _).bump _⟩
  · have hie : i = xs.length := by omega
    subst hie
    simp [s0, s1, s5, s10, t14, hlx]
    refine ko _ _ _ ?_
    simp only [blockK_out, if_true, seqK_norm]
    exact once_s6 t last _ _ rfl rfl ((hs.drop).bump _)

theorem once_s8 (L : List Ent) (last : Int) (hg : Good L last) (hm : OnceMem (fun i => xs.getD i 0) (fun k => cs.getD k false = false) xs.length L) (t : Nat)
    (T : List AV) (H : AH) (hT : T.length = 148) (s0 : sl T 0 = .s s0') (s1 : sl T 1 = .s s1') (s5 : sl T 5 = ptr t) (hs : Sat ρ H [TmA t L last]) :
    wpC tab noExt R.detentlaw7_TimerOnce_s8 T H (retK [.tmp 4] fun v _ => v = bl true) := by
  rw [detentlaw7_TimerOnce_s8_at hT]
  have hr : ∀ i, i < xs.length → 0 ≤ xs.getD i 0 ∧ xs.getD i 0 ≤ 255 := fun i hi => by
    obtain ⟨_, _, _, _, _, _, h⟩ := hx.gets hi
    exact Go.bounds_u8 h
  have hf := hs.free 1 0 (by omega)
  have hf0 := hf.fre
  rw [Nat.add_zero] at hf0
  simp only [AH.new, Nat.add_zero, bump_blk] at hf0 ⊢
  rw [hf0]
  have hs1 := Sat.mk hf ((List.replicate 100 false).map SV.bool)
  simp only [andThen_some]
  refine loopP_invK (I := fun m T1 H1 => T1.length = 148 ∧ sl T1 0 = .s s0' ∧ sl T1 1 = .s s1' ∧ sl T1 5 = ptr t ∧ sl T1 10 = ptr H.next ∧ ∃ v : Nat, sl T1 11 = u64 v ∧ v ≤ 256 ∧ m = 256 - v ∧ ∃ sv : List Bool, sv.length = 100 ∧ (∀ k, sv.getD k false = true ↔ k < xs.length ∧ cs.getD k false = false ∧ xs.getD k 0 < v) ∧ ∃ L, Good L last ∧ OnceMem (fun i => xs.getD i 0) (fun k => cs.getD k false = false ∧ (v : Int) ≤ xs.getD k 0) xs.length L ∧ Sat ρ H1 [Cel H.next (sv.map .bool), TmA t L last]) ?_ 256 _ _ ⟨rfl, s0, s1, s5, rfl, 0, rfl, by omega, rfl, List.replicate 100 false, rfl, fun k => ?_, L, hg, ?_, hs1.bump 1⟩
  · intro m T1 H1 ⟨hT, s0, s1, s5, s10, v, s11, hv, hmm, sv, hsl, hsv, L, hg, hm, hs⟩ K kn _ ko
    rw [detentlaw7_TimerOnce_l4_at hT]
    by_cases hlt : v < 256
    · have hlt' : (v : Int) < 256 := by omega
      simp [s0, s1, s5, s10, s11, hlt']
      refine (Due_tri t L last v).use ((hs.swap.bump _).bump _) ?_
      rintro vv H2 P' ⟨s, rfl, rfl⟩ hs2
      obtain ⟨q1, q2, q3, q4, q5⟩ := once_due hg.srt hg.nod hm _ rfl
      have hg' : Good (toL L v) last := hg.sub (by rw [(due_filter hg.srt _).2]; exact List.filter_sublist)
      have hDl : ((dueL L v).map Ent.arg).length ≤ 256 := Nat.le_trans q5 hg.len
      generalize (dueL L v).map Ent.arg = D at *
      have hs3 : Sat ρ H2 [RowA encI 1 s D, Cel H.next (sv.map .bool), TmA t (toL L v) last] := by
        have h1 : Sat ρ H2 [Cel H.next (sv.map .bool), RowA encI 1 s D, TmA t (toL L v) last] := hs2.front 2 (by simp)
        exact h1.swap
      refine once_l2 xs cs s0' s1' hx hc hn hnc v ⟨by omega, hlt'⟩ D s H.next sv hsl hDl q1 q2 (fun k hk => ?_) _ _ _ rfl rfl rfl rfl rfl rfl rfl (hs3.bump 1) _ ?_
      · cases h : sv.getD k false with
        | false => rfl
        | true => have := (hsv k).1 h; omega
      · intro T' H' sv' hT' t0 t1 t5 t10 t11 hsl' hsv' hs4
        simp only [blockK_norm, seqK_norm]
        rw [detentlaw7_TimerOnce_s3_at hT']
        have t11' : sl T' 11 = u64 v := t11
        have w1 : IntKind.u64.wrap ((v : Int) + 1) = ((v + 1 : Nat) : Int) := by rw [wrap_u64 (by omega) (by omega)]; omega
        simp [t11', w1]
        refine kn (256 - (v + 1)) _ _ (by omega) ⟨rfl, t0, t1, t5, t10, v + 1, rfl, hlt, rfl, sv', hsl', fun k => ?_, toL L v, hg', q4, hs4.drop.bump 3⟩
        rw [hsv' k, hsv k]
        constructor
        · rintro (⟨h1, h2, h3⟩ | ⟨j, h1, h2⟩)
          · exact ⟨h1, h2, by push_cast; omega⟩
          · obtain ⟨k', e1, e2, e3, e4⟩ := q1 j h1
            have : k = k' := by omega
            subst this
            exact ⟨e2, e3, by push_cast; omega⟩
        · rintro ⟨h1, h2, h3⟩
          by_cases h4 : xs.getD k 0 < v
          · exact .inl ⟨h1, h2, h4⟩
          · refine .inr (q3 k h1 h2 ?_)
            push_cast at h3; omega
    · have hie : v = 256 := by omega
      subst hie
      have hnil : L = [] := by
        cases L with
        | nil => rfl
        | cons e L =>
          obtain ⟨k, hk, _, _, h⟩ := (hm e).1 (by simp)
          have := hr k hk
          omega
      subst hnil
      simp [s0, s1, s5, s10, s11]
      refine ko _ _ _ ?_
      refine once_s7 xs cs s0' s1' hx hc hn hnc H.next sv hsl (fun k hk => ?_) t last _ _ rfl rfl rfl rfl rfl (hs.bump 2)
      have h1 := hsv k
      have h2 := hr k hk
      have h3 : xs.getD k 0 < ((256 : Nat) : Int) := by omega
      cases hcb : cs.getD k false with
      | false => rw [h1.2 ⟨hk, hcb, h3⟩]; rfl
      | true =>
        cases h : sv.getD k false with
        | false => rfl
        | true => have := (h1.1 h).2.1; rw [hcb] at this; cases this
  · constructor
    · intro h
      have : (List.replicate 100 false).getD k false = false := by
        rw [List.getD_eq_getElem?_getD, List.getElem?_replicate]
        split <;> rfl
      rw [this] at h; cases h
    · rintro ⟨h1, _, h3⟩
      have := hr k h1
      omega
  · intro x
    rw [hm x]
    constructor
    · rintro ⟨k, hk, he, hp⟩
      exact ⟨k, hk, he, hp, by have := hr k hk; omega⟩
    · rintro ⟨k, hk, he, hp, _⟩
      exact ⟨k, hk, he, hp⟩

theorem once_s9 (L : List Ent) (hg : Good L xs.length) (hm : OnceMem (fun i => xs.getD i 0) (fun _ => True) xs.length L) (t : Nat)
    (T : List AV) (H : AH) (hT : T.length = 148) (s0 : sl T 0 = .s s0') (s1 : sl T 1 = .s s1') (s5 : sl T 5 = ptr t) (hs : Sat ρ H [TmA t L xs.length]) :
    wpC tab noExt R.detentlaw7_TimerOnce_s9 T H (retK [.tmp 4] fun v _ => v = bl true) := by
  rw [detentlaw7_TimerOnce_s9_at hT]
  have hlx := hx.len
  refine loopP_invK (I := fun m T1 H => T1.length = 148 ∧ sl T1 0 = .s s0' ∧ sl T1 1 = .s s1' ∧ sl T1 5 = ptr t ∧ ∃ i : Nat, sl T1 9 = i64 i ∧ i ≤ xs.length ∧ m = xs.length - i ∧ ∃ L, Good L xs.length ∧ OnceMem (fun i => xs.getD i 0) (fun k => k < i → cs.getD k false = false) xs.length L ∧ Sat ρ H [TmA t L xs.length]) ?_ xs.length _ _ ⟨rfl, s0, s1, s5, 0, rfl, Nat.zero_le _, rfl, L, hg, fun x => ?_, hs.bump 1⟩
  · intro m T1 H ⟨hT, s0, s1, s5, i, t9, hi, hmm, L, hg, hm, hs⟩ K1 kn _ ko
    rw [detentlaw7_TimerOnce_l1_at hT]
    by_cases hlt : i < xs.length
    · have hlt' : (i : Int) < (xs.length : Int) := by omega
      obtain ⟨b3, c3, l3, rfl, hρ3, hx3⟩ := hc.gets (i := i) (by omega)
      have hb3 := hs.roOf _ _ hρ3
      have w1 : IntKind.i64.wrap ((i : Int) + 1) = (i : Int) + 1 := wrap_i64 (by omega) (by omega)
      have p2 : i < cs.length := by omega
      cases hcb : cs.getD i false with
      | false =>
        rw [hcb] at hx3
        simp [s0, s1, s5, t9, hlx, hlt', hb3, hx3, p2, w1]
        refine kn (xs.length - (i + 1)) _ _ (by omega) ⟨rfl, rfl, rfl, rfl, i + 1, rfl, hlt, rfl, L, hg, fun x => ?_, by (repeat refine Sat.bump ?_ _); exact hs⟩
        rw [hm x]
        constructor
        · rintro ⟨k, hk, he, hp⟩
          refine ⟨k, hk, he, fun h => ?_⟩
          by_cases hki : k = i
          · subst hki; exact hcb
          · exact hp (by omega)
        · rintro ⟨k, hk, he, hp⟩
          exact ⟨k, hk, he, fun h => hp (by omega)⟩
      | true =>
        rw [hcb] at hx3
        simp [s0, s1, s5, t9, hlx, hlt', hb3, hx3, p2, w1]
        refine (Cancel_tri t L _ _).use ((hs.bump _).bump _) ?_
        rintro v H2 P' ⟨rfl, rfl⟩ hs2
        have hby : byH L ((i : Int) + 1) = some ⟨xs.getD i 0, (i : Int) + 1, i⟩ := byH_some hg.nod ((hm _).2 ⟨i, hlt, rfl, fun h => by omega⟩) rfl
        simp only [hby]
        simp
        refine kn (xs.length - (i + 1)) _ _ (by omega) ⟨rfl, rfl, rfl, rfl, i + 1, rfl, hlt, rfl, _, hg.sub List.filter_sublist, fun x => ?_, by (repeat refine Sat.bump ?_ _); exact hs2⟩
        rw [List.mem_filter, hm x]
        constructor
        · rintro ⟨⟨k, hk, rfl, hp⟩, h⟩
          simp only [decide_eq_true_eq] at h
          exact ⟨k, hk, rfl, fun hk2 => hp (by omega)⟩
        · rintro ⟨k, hk, rfl, hp⟩
          refine ⟨⟨k, hk, rfl, fun h => hp (by omega)⟩, ?_⟩
          simp only [decide_eq_true_eq]
          intro he
          have : k = i := by omega
          subst this
          have := hp (by omega)
          rw [hcb] at this; cases this
    · have hie : i = xs.length := by omega
      subst hie
      simp [s0, s1, s5, t9, hlx]
      refine ko _ _ _ ?_
      refine once_s8 xs cs s0' s1' hx hc hn hnc L _ hg (fun x => ?_) t _ _ rfl rfl rfl rfl (hs.bump _)
      rw [hm x]
      constructor
      · rintro ⟨k, hk, he, hp⟩
        exact ⟨k, hk, he, hp hk⟩
      · rintro ⟨k, hk, he, hp⟩
        exact ⟨k, hk, he, fun _ => hp⟩
  · rw [hm x]
    constructor
    · rintro ⟨k, hk, he, hp⟩
      exact ⟨k, hk, he, fun h => by omega⟩
    · rintro ⟨k, hk, he, hp⟩
      exact ⟨k, hk, he, trivial⟩
end
end

theorem TimerOnce_abs (H : AH) (hw : WF H) (hn : H.next = 2) (avs : List AV) (ha : ArgsAt H.blk [.slice (.int .u8), .slice .bool] avs) :
    CallP tab noExt F.detentlaw7_TimerOnce avs H fun v _ => v = bl true := by
  obtain ⟨xs, s, _, rfl, hx, ha2⟩ := ha.ints
  obtain ⟨cs, s', _, rfl, hc, ha4⟩ := ha2.bools
  obtain rfl := ha4.nil_inv
  have hlen := RoI.len hx
  have hlenc := RoB.len hc
  apply detentlaw7_TimerOnce_call
  refine (known7_at2 ((hw.bump _).bump _) (by simp [hn])).start (ρ := H.blk) ((hw.bump _).bump _) (fun _ _ h => h) ?_
  rintro v H1 hs rfl
  by_cases g7 : (100 : Int) < xs.length
  · simp [g7, hlen]
  by_cases g8 : (cs.length : Int) < xs.length
  · simp [g7, g8, hlen, hlenc]
  simp [g7, g8, hlen, hlenc]
  refine New_tri.use ((hs.bump _).bump _) ?_
  rintro v H2 P' ⟨t, rfl, rfl⟩ hs
  try simp
  refine loopP_invK (I := fun m T H' => T.length = 148 ∧ sl T 0 = .s s ∧ sl T 1 = .s s' ∧ sl T 5 = ptr t ∧ ∃ i : Nat, sl T 6 = i64 i ∧ i ≤ xs.length ∧ m = xs.length - i ∧ ∃ L, L.Perm (entsOf (fun i => xs.getD i 0) i) ∧ Good L i ∧ Sat H.blk H' [TmA t L i]) ?_ xs.length _ _ ⟨rfl, rfl, rfl, rfl, 0, rfl, Nat.zero_le _, rfl, [], List.Perm.refl _, Good.nil, hs.bump _⟩
  intro m T H' ⟨hT, s0, s1, s5, i, s6, hi, hm, L, hp, hg, hs⟩ K kn _ ko
  rw [detentlaw7_TimerOnce_l0_at hT]
  by_cases hlt : i < xs.length
  · have hlt' : (i : Int) < (xs.length : Int) := by omega
    obtain ⟨bb, cp, l, rfl, hρ, hl1, hwf⟩ := hx.gets hlt
    have hb := hs.roOf _ _ hρ
    have hbd := Go.bounds_u8 hwf
    have w1 : IntKind.i64.wrap ((i : Int) + 1) = (i : Int) + 1 := wrap_i64 (by omega) (by omega)
    have hins := ins_perm (f := fun i => xs.getD i 0) hp
    have hll : L.length < 256 := by rw [hp.length_eq, entsOf_len]; omega
    generalize xs.getD i 0 = X at *
    have w2 : IntKind.u64.wrap X = X := wrap_u64 (by omega) (by omega)
    simp [s0, s1, s5, s6, hlt, hlt', hb, hl1, w1, w2]
    refine (Insert_tri t L i X i hll (by omega)).use ((hs.bump _).bump _) ?_
    rintro v H3 P' ⟨rfl, rfl⟩ hs
    simp
    refine kn (xs.length - (i + 1)) _ _ (by omega) ⟨rfl, rfl, rfl, rfl, i + 1, rfl, hlt, rfl, _, hins, hg.ins _ _ hll, by (repeat refine Sat.bump ?_ _); exact hs⟩
  · have hie : i = xs.length := by omega
    subst hie
    simp [s0, s1, s5, s6, hlen]
    refine ko _ _ _ ?_
    refine once_s9 xs cs s s' hx hc (by omega) (by omega) L hg (fun x => ?_) t _ _ rfl rfl rfl rfl (hs.bump _)
    rw [hp.mem_iff, entsOf_mem]
    exact ⟨fun ⟨k, hk, he⟩ => ⟨k, hk, he, trivial⟩, fun ⟨k, hk, he, _⟩ => ⟨k, hk, he⟩⟩

end Go.AM
