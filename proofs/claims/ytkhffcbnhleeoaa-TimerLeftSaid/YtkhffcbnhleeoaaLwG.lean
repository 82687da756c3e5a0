/-
  The laws TimerNext and TimerLeft, in the abstract machine.
-/
import Derived.Test.YtkhffcbnhleeoaaLwC
import Derived.Test.YtkhffcbnhleeoaaPlC
namespace Go.AM
attribute [local simp] AH.ld AH.ldn AH.stn AH.new Nat.add_assoc resA resA1 fillA buildA slSlA boundsA boundA callvP

/- ---- TimerNext ---- -/

/-- How often it is there. -/
def cntEq (f : Nat → Int) (m : Int) (i : Nat) : Nat := ((List.range i).filter fun k => decide (f k = m)).length

theorem cntEq_succ (f : Nat → Int) (m : Int) (i : Nat) : cntEq f m (i + 1) = cntEq f m i + if f i = m then 1 else 0 := by
  unfold cntEq
  rw [List.range_succ, List.filter_append, List.length_append]
  simp only [List.filter_cons, List.filter_nil]
  split <;> simp_all

theorem cntEq_le (f : Nat → Int) (m : Int) (i : Nat) : cntEq f m i ≤ i := by
  have := List.length_filter_le (fun k => decide (f k = m)) (List.range i)
  simpa [cntEq] using this

theorem cntEq_zero {f : Nat → Int} {m : Int} {i : Nat} (h : ∀ k, k < i → f k ≠ m) : cntEq f m i = 0 := by
  unfold cntEq
  rw [List.length_eq_zero_iff, List.filter_eq_nil_iff]
  intro k hk
  simpa using h k (by simpa using hk)

theorem next_plain {f : Nat → Int} {n : Nat} {L : List Ent} {m : Int} (hp : L.Perm (entsOf f n)) (hs : Srt L) (hm : ∀ k, k < n → m ≤ f k) (hex : ∃ k, k < n ∧ f k = m) :
    nextV L = .tup [.s (.int .u64 m), .s (.bool true)] ∧ dueL L (m - 1) = [] ∧ toL L (m - 1) = L ∧ (dueL L m).length = cntEq f m n ∧ (toL L m).length + cntEq f m n = n := by
  have hall : ∀ e ∈ L, m ≤ e.at_ := fun e he => by
    obtain ⟨k, hk, rfl⟩ := entsOf_mem.1 (hp.mem_iff.1 he)
    exact hm k hk
  have hcnt : (dueL L m).length = cntEq f m n := by
    rw [(due_filter hs m).1, count_filter hp (fun x => decide (x ≤ m))]
    unfold cntEq
    congr 1
    apply List.filter_congr
    intro i hi
    have := hm i (by simpa using hi)
    rw [decide_eq_decide]; omega
  have hlen : (dueL L m).length + (toL L m).length = n := by
    rw [← List.length_append, due_to, hp.length_eq, entsOf_len]
  obtain ⟨k, hk, hkm⟩ := hex
  have hmem : (⟨f k, (k : Int) + 1, k⟩ : Ent) ∈ L := hp.mem_iff.2 (entsOf_mem.2 ⟨k, hk, rfl⟩)
  cases L with
  | nil => simp at hmem
  | cons e L =>
    have he : e.at_ = m := by
      have h1 := hall e (by simp)
      rcases List.mem_cons.1 hmem with h | h
      · rw [← h]; exact hkm
      · have := (List.pairwise_cons.1 hs).1 _ h
        rw [ahead_iff] at this
        simp only at this
        omega
    have hd : dueL (e :: L) (m - 1) = [] := by
      have : ¬ e.at_ ≤ m - 1 := by omega
      simp [dueL, this]
    have ht : toL (e :: L) (m - 1) = e :: L := by
      have : ¬ e.at_ ≤ m - 1 := by omega
      simp [toL, this]
    exact ⟨by rw [nextV, he], hd, ht, hcnt, by omega⟩

section
variable {ρ : HF}

theorem next_s1 (xs : List Int) (s0' : SV) (hx : RoI ρ .u64 s0' xs) (hn : xs.length ≤ 100) (L : List Ent) (hp : L.Perm (entsOf (fun i => xs.getD i 0) xs.length)) (hsr : Srt L) (last m : Int) (hm0 : 0 ≤ m ∧ m < 18446744073709551616) (hm : ∀ k, k < xs.length → m ≤ xs.getD k 0) (hex : ∃ k, k < xs.length ∧ xs.getD k 0 = m) (t : Nat)
    (T : List AV) (H : AH) (hT : T.length = 93) (s0 : sl T 0 = .s s0') (s3 : sl T 3 = ptr t) (s4 : sl T 4 = u64 m) (s5 : sl T 5 = i64 (cntEq (fun i => xs.getD i 0) m xs.length)) (hs : Sat ρ H [TmA t L last]) :
    wpC tab noExt R.detentlaw7_TimerNext_s1 T H (retK [.tmp 2] fun v _ => v = bl true) := by
  rw [detentlaw7_TimerNext_s1_at hT]
  have hlen := hx.len
  obtain ⟨p1, p2, p3, p4, p5⟩ := next_plain hp hsr hm hex
  have hc := cntEq_le (fun i => xs.getD i 0) m xs.length
  generalize cntEq (fun i => xs.getD i 0) m xs.length = cn at *
  have w1 : IntKind.i64.wrap ((xs.length : Int) - cn) = (xs.length : Int) - cn := wrap_i64 (by omega) (by omega)
  have e1 : ((toL L m).length : Int) = (xs.length : Int) - cn := by omega
  have fin : ∀ H1, Sat ρ H1 [TmA t L last] → ∀ K : AV → AH → Prop, (∀ s H2, lenA (.s s) = some (i64 cn) → Sat ρ H2 [TmA t (toL L m) last] → K (.s s) H2) → CallP tab noExt F.heap_Timers_Due [ptr t, u64 m] H1 K := by
    intro H1 hs1 K hk
    refine (Due_tri t L last m).use hs1 ?_
    rintro v H2 P' ⟨s, rfl, rfl⟩ hs2
    refine hk s H2 ?_ hs2.drop
    rw [hs2.row.1, List.length_map, p4]
  simp [s0, s3, s4, s5]
  refine (Next_tri t L last).use (hs.bump 7) ?_
  rintro v H1 P' ⟨rfl, rfl⟩ hs1
  by_cases h0 : 0 < m
  · have w2 : IntKind.u64.wrap (m - 1) = m - 1 := wrap_u64 (by omega) (by omega)
    simp [p1, h0, w2]
    refine (Due_tri t L last (m - 1)).use (hs1.bump 19) ?_
    rintro v H2 P' ⟨s, rfl, rfl⟩ hs2
    have hl2 := hs2.row.1
    rw [p2] at hl2
    have hs3 := hs2.drop
    rw [p3] at hs3
    simp at hl2
    simp [hl2]
    refine fin _ (hs3.bump 16) _ ?_
    intro s' H3 hl3 hs4
    simp [hl3]
    refine (Len_tri t (toL L m) last).use hs4 ?_
    rintro v H4 P' ⟨rfl, rfl⟩ hs5
    simp [hlen, w1, e1]
  · simp [p1, h0]
    refine fin _ ((hs1.bump 19).bump 16) _ ?_
    intro s' H3 hl3 hs4
    simp [hl3]
    refine (Len_tri t (toL L m) last).use hs4 ?_
    rintro v H4 P' ⟨rfl, rfl⟩ hs5
    simp [hlen, w1, e1]
end

theorem TimerNext_abs (H : AH) (hw : WF H) (hn : H.next = 2) (avs : List AV) (ha : ArgsAt H.blk [.slice (.int .u64)] avs) :
    CallP tab noExt F.detentlaw7_TimerNext avs H fun v _ => v = bl true := by
  obtain ⟨xs, s, _, rfl, hx, ha4⟩ := ha.ints
  obtain rfl := ha4.nil_inv
  have hlen := RoI.len hx
  have hr : ∀ i, i < xs.length → 0 ≤ xs.getD i 0 ∧ xs.getD i 0 < 18446744073709551616 := fun i hi => by
    obtain ⟨_, _, _, _, _, _, h⟩ := hx.gets hi
    have := Go.bounds_u64 h
    omega
  apply detentlaw7_TimerNext_call
  refine (known7_at2 ((hw.bump _).bump _) (by simp [hn])).start (ρ := H.blk) ((hw.bump _).bump _) (fun _ _ h => h) ?_
  rintro v H1 hs rfl
  by_cases g1 : xs.length = 0
  · simp [hlen, g1]
  have g1' : ¬ xs = [] := fun h => g1 (by rw [h]; rfl)
  by_cases g7 : (100 : Int) < xs.length
  · simp [g1', g7, hlen]
  simp [g1', g7, hlen]
  refine New_tri.use ((hs.bump _).bump _) ?_
  rintro v H2 P' ⟨t, rfl, rfl⟩ hs
  have hpos : 0 < xs.length := by omega
  obtain ⟨bb, cp, l, rfl, hρ, hl1, hwf⟩ := hx.gets hpos
  have hb := hs.roOf _ _ hρ
  simp [hb, hl1, hpos]
  refine loopP_invK (I := fun m T H' => T.length = 93 ∧ sl T 0 = .s (.slice (some (bb, 0)) xs.length cp 1) ∧ sl T 3 = ptr t ∧ ∃ i : Nat, sl T 6 = i64 i ∧ i ≤ xs.length ∧ m = xs.length - i ∧ ∃ least : Int, sl T 4 = u64 least ∧ sl T 5 = i64 (cntEq (fun i => xs.getD i 0) least i) ∧ (∀ k, k < i → least ≤ xs.getD k 0) ∧ (i = 0 → least = xs.getD 0 0) ∧ (0 < i → ∃ k, k < i ∧ xs.getD k 0 = least) ∧ ∃ L, L.Perm (entsOf (fun i => xs.getD i 0) i) ∧ Good L i ∧ Sat H.blk H' [TmA t L i]) ?_ xs.length _ _ ⟨rfl, rfl, rfl, 0, rfl, Nat.zero_le _, rfl, xs.getD 0 0, by rw [List.getD_eq_getElem?_getD, List.getElem?_eq_getElem hpos]; rfl, rfl, by omega, fun _ => rfl, by omega, [], List.Perm.refl _, Good.nil, (hs.bump _).bump _ |>.bump _⟩
  intro m T H' ⟨hT, s0, s3, i, s6, hi, hm, least, s4, s5, q1, q2, q3, L, hp, hg, hs⟩ K kn _ ko
  rw [detentlaw7_TimerNext_l0_at hT]
  by_cases hlt : i < xs.length
  · have hlt' : (i : Int) < (xs.length : Int) := by omega
    obtain ⟨bb', cp', l', he, hρ, hl1, hwf⟩ := hx.gets hlt
    cases he
    have hb := hs.roOf _ _ hρ
    have r := hr i hlt
    have w1 : IntKind.i64.wrap ((i : Int) + 1) = (i : Int) + 1 := wrap_i64 (by omega) (by omega)
    have hins := ins_perm (f := fun i => xs.getD i 0) hp
    have hll : L.length < 256 := by rw [hp.length_eq, entsOf_len]; omega
    have hcs := cntEq_succ (fun i => xs.getD i 0) least i
    have hcs2 := cntEq_succ (fun i => xs.getD i 0) (xs.getD i 0) i
    have hz : xs.getD i 0 < least → cntEq (fun i => xs.getD i 0) (xs.getD i 0) i = 0 := fun h => cntEq_zero fun k hk => by have := q1 k hk; omega
    have hcl := cntEq_le (fun i => xs.getD i 0) least i
    have w3 : IntKind.i64.wrap ((cntEq (fun i => xs.getD i 0) least i : Int) + 1) = (cntEq (fun i => xs.getD i 0) least i : Int) + 1 := wrap_i64 (by omega) (by omega)
    have hmm : xs.length - (i + 1) < m := by clear q3; omega
    have n0 : i = 0 → ¬ xs.getD i 0 < least := fun h => by subst h; rw [q2 rfl]; omega
    have n1 : i = 0 → xs.getD i 0 = least := fun h => by subst h; rw [q2 rfl]
    generalize cntEq (fun i => xs.getD i 0) least i = cn at *
    generalize hX : xs.getD i 0 = X at *
    simp only [hX] at hcs hcs2
    simp [s0, s3, s4, s5, s6, hlt, hlt', hb, hl1, w1]
    refine (Insert_tri t L i X i hll (by omega)).use ((hs.bump _).bump _) ?_
    rintro v H3 P' ⟨rfl, rfl⟩ hs
    have hb2 := hs.roOf _ _ hρ
    by_cases c1 : X < least
    · rw [hz c1] at hcs2
      simp only [if_true, Nat.zero_add] at hcs2
      simp [hb2, hl1, hlt, w1, c1]
      refine kn (xs.length - (i + 1)) _ _ hmm ⟨rfl, rfl, rfl, i + 1, rfl, hlt, rfl, X, rfl, by rw [hcs2]; rfl, fun k hk => ?_, by omega, fun _ => ⟨i, by omega, hX⟩, _, hins, hg.ins _ _ hll, by (repeat refine Sat.bump ?_ _); exact hs⟩
      by_cases hki : k = i
      · subst hki; omega
      · have := q1 k (by omega); omega
    · have qq : ∀ k, k < i + 1 → least ≤ xs.getD k 0 := fun k hk => by
        by_cases hki : k = i
        · subst hki; omega
        · exact q1 k (by omega)
      by_cases c2 : X = least
      · rw [if_pos c2] at hcs
        simp [hb2, hl1, hlt, w1, w3, c1, c2]
        refine kn (xs.length - (i + 1)) _ _ hmm ⟨rfl, rfl, rfl, i + 1, rfl, hlt, rfl, least, rfl, by rw [hcs]; rfl, qq, by omega, fun _ => ⟨i, by omega, by rw [hX, c2]⟩, _, hins, hg.ins _ _ hll, by (repeat refine Sat.bump ?_ _); exact hs⟩
      · rw [if_neg c2] at hcs
        simp [hb2, hl1, hlt, w1, c1, c2]
        refine kn (xs.length - (i + 1)) _ _ hmm ⟨rfl, rfl, rfl, i + 1, rfl, hlt, rfl, least, rfl, by rw [hcs]; rfl, qq, by omega, fun _ => ?_, _, hins, hg.ins _ _ hll, by (repeat refine Sat.bump ?_ _); exact hs⟩
        have : 0 < i := by
          apply Classical.byContradiction
          intro h
          exact c2 (n1 (by omega))
        obtain ⟨k, hk, hk2⟩ := q3 this
        exact ⟨k, by omega, hk2⟩
  · have hie : i = xs.length := by omega
    subst hie
    simp [s0, s3, s4, s5, s6]
    refine ko _ _ _ ?_
    obtain ⟨k, hk, hk2⟩ := q3 hpos
    exact next_s1 xs _ hx (by omega) L hp hg.srt _ least (by have := hr k hk; omega) q1 ⟨k, hk, hk2⟩ t _ _ rfl rfl rfl rfl rfl (hs.bump _)

/- ---- TimerLeft ---- -/

theorem left_plain (a : Int) (L M : List Ent) (hp : L.Perm (⟨a, 1, 1⟩ :: M)) (hM : ∀ e ∈ M, 2 ≤ e.handle) (last : Int) (hg : Good L last) (now : Int) :
    leftV L 1 now = .tup [.s (.int .i64 (IntKind.i64.wrap (IntKind.u64.wrap (a - now)))), .s (.bool true)] ∧ (byH L 1).isSome = true ∧ leftV L (last + 1) now = .tup [.s (.int .i64 0), .s (.bool false)] ∧
    leftV (L.filter fun e => decide (e.handle ≠ 1)) 1 now = .tup [.s (.int .i64 0), .s (.bool false)] ∧ (byH (L.filter fun e => decide (e.handle ≠ 1)) 1).isSome = false ∧
    ((L.filter fun e => decide (e.handle ≠ 1)).filter fun e => decide (e.handle ≠ 1)).length = M.length := by
  have h1 : byH L 1 = some ⟨a, 1, 1⟩ := byH_some hg.nod (hp.mem_iff.2 (by simp)) rfl
  have h2 : byH L (last + 1) = none := byH_none.2 fun e he => by have := hg.bnd e he; omega
  have h3 : byH (L.filter fun e => decide (e.handle ≠ 1)) 1 = none := byH_none.2 fun e he => by simpa using (List.mem_filter.1 he).2
  refine ⟨by simp [leftV, h1], by simp [h1], by simp [leftV, h2], by simp only [leftV, h3], by simp only [h3]; rfl, ?_⟩
  rw [List.filter_filter]
  have h4 := (hp.filter fun e => decide (e.handle ≠ 1) && decide (e.handle ≠ 1)).length_eq
  rw [h4]
  have h5 : (M.filter fun e => decide (e.handle ≠ 1) && decide (e.handle ≠ 1)) = M := by
    rw [List.filter_eq_self]
    intro e he
    have := hM e he
    have hne : e.handle ≠ 1 := by omega
    simp [hne]
  rw [List.filter_cons]
  simp only [h5]
  simp

section
variable {ρ : HF}

theorem left_s1 (a now : Int) (xs : List Int) (s2' : SV) (hx : RoI ρ .u64 s2' xs) (hn : xs.length ≤ 60) (L M : List Ent) (hp : L.Perm (⟨a, 1, 1⟩ :: M)) (hM : ∀ e ∈ M, 2 ≤ e.handle) (hMl : M.length = xs.length) (hg : Good L ((xs.length : Int) + 1)) (t : Nat)
    (T : List AV) (H : AH) (hT : T.length = 107) (s0 : sl T 0 = u64 a) (s1 : sl T 1 = u64 now) (s2 : sl T 2 = .s s2') (s7 : sl T 7 = ptr t) (s8 : sl T 8 = i64 1) (s9 : sl T 9 = i64 0) (hs : Sat ρ H [TmA t L ((xs.length : Int) + 1)]) :
    wpC tab noExt R.detentlaw7_TimerLeft_s1 T H (retK [.tmp 6] fun v _ => v = bl true) := by
  rw [detentlaw7_TimerLeft_s1_at hT]
  have hlen := hx.len
  obtain ⟨p1, p2, p3, p4, p5, p6⟩ := left_plain a L M hp hM _ hg now
  have w1 : IntKind.i64.wrap (1 + (xs.length : Int)) = (xs.length : Int) + 1 := by rw [wrap_i64 (by omega) (by omega)]; omega
  have w2 : IntKind.i64.wrap ((xs.length : Int) + 1 + 1) = (xs.length : Int) + 1 + 1 := wrap_i64 (by omega) (by omega)
  simp [s0, s1, s2, s7, s8, s9, hlen]
  refine (Left_tri t L _ 1 now).use (hs.bump 9) ?_
  rintro v H1 P' ⟨rfl, rfl⟩ hs1
  simp [p1, w1, w2]
  refine (Left_tri t L _ _ now).use (hs1.bump _) ?_
  rintro v H2 P' ⟨rfl, rfl⟩ hs2
  simp [p3]
  refine (Cancel_tri t L _ 1).use (hs2.bump _) ?_
  rintro v H3 P' ⟨rfl, rfl⟩ hs3
  simp [p2]
  refine (Left_tri t _ _ 1 now).use (hs3.bump _) ?_
  rintro v H4 P' ⟨rfl, rfl⟩ hs4
  simp only [p4]
  simp
  refine (Cancel_tri t _ _ 1).use (hs4.bump _) ?_
  rintro v H5 P' ⟨rfl, rfl⟩ hs5
  simp only [p5]
  simp
  refine (Len_tri t _ _).use hs5 ?_
  rintro v H6 P' ⟨rfl, rfl⟩ hs6
  simp only [p6]
  simp [hlen, hMl]
end

theorem TimerLeft_abs (H : AH) (hw : WF H) (hn : H.next = 2) (avs : List AV) (ha : ArgsAt H.blk [.int .u64, .int .u64, .slice (.int .u64)] avs) :
    CallP tab noExt F.detentlaw7_TimerLeft avs H fun v _ => v = bl true := by
  obtain ⟨a, _, rfl, _, ha1⟩ := ha.int
  obtain ⟨now, _, rfl, _, ha2⟩ := ha1.int
  obtain ⟨xs, s, _, rfl, hx, ha4⟩ := ha2.ints
  obtain rfl := ha4.nil_inv
  have hlen := RoI.len hx
  apply detentlaw7_TimerLeft_call
  refine (known7_at2 ((hw.bump _).bump _) (by simp [hn])).start (ρ := H.blk) ((hw.bump _).bump _) (fun _ _ h => h) ?_
  rintro v H1 hs rfl
  by_cases g7 : (60 : Int) < xs.length
  · simp [g7, hlen]
  simp [g7, hlen]
  refine New_tri.use ((hs.bump _).bump _) ?_
  rintro v H2 P' ⟨t, rfl, rfl⟩ hs
  try simp
  refine (Insert_tri t [] 0 a 1 (by simp) (by omega)).use (hs.bump _) ?_
  rintro v H3 P' ⟨rfl, rfl⟩ hs
  try simp
  have hg0 := Good.nil.ins a 1 (by simp)
  refine loopP_invK (I := fun m T H' => T.length = 107 ∧ sl T 0 = u64 a ∧ sl T 1 = u64 now ∧ sl T 2 = .s s ∧ sl T 7 = ptr t ∧ sl T 8 = i64 1 ∧ sl T 9 = i64 0 ∧ ∃ i : Nat, sl T 10 = i64 i ∧ i ≤ xs.length ∧ m = xs.length - i ∧ ∃ L M, L.Perm (⟨a, 1, 1⟩ :: M) ∧ (∀ e ∈ M, 2 ≤ e.handle) ∧ M.length = i ∧ Good L ((i : Int) + 1) ∧ Sat H.blk H' [TmA t L ((i : Int) + 1)]) ?_ xs.length _ _ ⟨rfl, rfl, rfl, rfl, rfl, rfl, rfl, 0, rfl, Nat.zero_le _, rfl, _, [], List.Perm.refl _, by simp, rfl, hg0, hs.bump 1⟩
  intro m T H' ⟨hT, s0, s1, s2, s7, s8, s9, i, s10, hi, hm, L, M, hp, hM, hMl, hg, hs⟩ K kn _ ko
  rw [detentlaw7_TimerLeft_l0_at hT]
  by_cases hlt : i < xs.length
  · have hlt' : (i : Int) < (xs.length : Int) := by omega
    obtain ⟨bb, cp, l, rfl, hρ, hl1, hwf⟩ := hx.gets hlt
    have hb := hs.roOf _ _ hρ
    have w1 : IntKind.i64.wrap ((i : Int) + 1) = (i : Int) + 1 := wrap_i64 (by omega) (by omega)
    have hll : L.length < 256 := by rw [hp.length_eq, List.length_cons]; omega
    generalize xs.getD i 0 = X at *
    simp [s0, s1, s2, s7, s8, s9, s10, hlt, hlt', hb, hl1, w1]
    refine (Insert_tri t L _ X 2 hll (by omega)).use ((hs.bump _).bump _) ?_
    rintro v H3 P' ⟨rfl, rfl⟩ hs
    try simp
    refine kn (xs.length - (i + 1)) _ _ (by omega) ⟨rfl, rfl, rfl, rfl, rfl, rfl, rfl, i + 1, rfl, hlt, rfl, _, ⟨X, (i : Int) + 1 + 1, 2⟩ :: M, ?_, ?_, by simp [hMl], hg.ins _ _ hll, hs.bump 3⟩
    · exact (insE_perm _ _).trans ((hp.cons _).trans (List.Perm.swap _ _ _))
    · intro e he
      rcases List.mem_cons.1 he with rfl | he
      · simp; omega
      · exact hM e he
  · have hie : i = xs.length := by omega
    subst hie
    simp [s0, s1, s2, s7, s8, s9, s10, hlen]
    refine ko _ _ _ ?_
    exact left_s1 a now xs s hx (by omega) L M hp hM hMl hg t _ _ rfl rfl rfl rfl rfl rfl rfl (hs.bump _)

end Go.AM
