/-
  heap: what its methods give, by the list of what is to come.
-/
import Derived.Test.YtkhffcbnhleeoaaHpC
namespace Go.AM
attribute [local simp] AH.ld AH.ldn AH.stn AH.new Nat.add_assoc resA resA1 fillA buildA slSlA boundsA boundA callvP

/-- Timers with what is to come, in its order. -/
def Tm (H : AH) (t : Nat) (L : List Ent) (last : Int) (S : List Nat) : Prop :=
  ∃ r, TmR H t r last S ∧ r.Perm L ∧ Hp r ∧ Good L last

theorem Tm.frame {H H' : AH} {t : Nat} {L : List Ent} {last : Int} {S : List Nat} (h : Tm H t L last S) (hn : H.next ≤ H'.next) (hb : ∀ b ∈ S, H'.blk b = H.blk b) : Tm H' t L last S := by
  obtain ⟨r, h1, h2⟩ := h
  exact ⟨r, h1.frame hn hb, h2⟩
theorem Tm.lt {H : AH} {t : Nat} {L : List Ent} {last : Int} {S : List Nat} (h : Tm H t L last S) : ∀ b ∈ S, b < H.next := by
  obtain ⟨r, h1, h2⟩ := h
  exact h1.lt
theorem Tm.good {H : AH} {t : Nat} {L : List Ent} {last : Int} {S : List Nat} (h : Tm H t L last S) : Good L last := by
  obtain ⟨r, h1, h2, h3, h4⟩ := h
  exact h4
theorem Same.tm {H H' : AH} (h : Same H H') {t : Nat} {L : List Ent} {last : Int} {S : List Nat} (ht : Tm H t L last S) : Tm H' t L last S := ht.frame h.1 fun b hb => h.2 b (ht.lt b hb)

theorem New_spec (H : AH) (hw : WF H) : CallP tab noExt F.heap_New [] H fun v H' => ∃ t S, v = ptr t ∧ Tm H' t [] 0 S ∧ Same H H' ∧ ∀ b ∈ S, H.next ≤ b := by
  apply heap_New_call
  have hf := hw.free
  simp [hf]
  refine ⟨[H.next + 2], ⟨[], ⟨by simp, _, [], by simp, .inl ⟨1, rfl, rfl, rfl⟩, rfl, by simp⟩, List.Perm.refl _, fun k _ hk => by simp at hk, Good.nil⟩, ?_, by simp⟩
  (repeat (first | assumption | exact Same.refl _ | exact But.refl _ _ | refine Same.bump ?_ _ | refine Same.set ?_ (by first | omega | (simp <;> omega)) _ | refine But.bump ?_ _ | refine But.set ?_ (by simp) _ | refine But.set ?_ (by first | omega | (simp <;> omega)) _ | refine WF.bump ?_ _ | refine WF.set ?_ (by first | omega | (simp <;> omega)) _))

theorem Insert_spec (H : AH) (hw : WF H) (t : Nat) (L : List Ent) (last : Int) (S : List Nat) (ht : Tm H t L last S) (a x : Int) (hl : L.length < 256) (hlast : last < 4611686018427387904) :
    CallP tab noExt F.heap_Timers_Insert [ptr t, u64 a, i64 x] H fun v H' => v = .tup [.s (.int .i64 (last + 1)), .s (.int .i64 0)] ∧ ∃ S', Tm H' t (insE ⟨a, last + 1, x⟩ L) (last + 1) S' ∧ Own H H' S S' := by
  obtain ⟨r, h1, hp, hh, hg⟩ := ht
  refine (Insert_raw H hw t r last S h1 a x (by rw [hp.length_eq]; exact hl) ⟨hg.pos, hlast⟩).mono ?_
  rintro v H' ⟨rfl, S', h2, h3⟩
  refine ⟨rfl, S', ⟨_, h2, ?_, snoc_hp _ _ hh, hg.ins a x hl⟩, h3⟩
  exact (upF_perm _ _ (.inl (by simp))).trans ((List.perm_append_singleton _ _).trans ((hp.cons _).trans (insE_perm _ _).symm))

theorem Insert_no (H : AH) (hw : WF H) (t : Nat) (L : List Ent) (last : Int) (S : List Nat) (ht : Tm H t L last S) (a x : Int) (hl : 256 ≤ L.length) :
    CallP tab noExt F.heap_Timers_Insert [ptr t, u64 a, i64 x] H fun v H' => v = .tup [.s (.int .i64 0), .s (.int .i64 (-33))] ∧ Same H H' := by
  obtain ⟨r, h1, hp, hh, hg⟩ := ht
  exact Insert_full H hw t r last S h1 a x (by rw [hp.length_eq]; exact hl)

theorem Len_spec (H : AH) (t : Nat) (L : List Ent) (last : Int) (S : List Nat) (ht : Tm H t L last S) :
    CallP tab noExt F.heap_Timers_Len [ptr t] H fun v H' => v = i64 L.length ∧ Same H H' := by
  obtain ⟨r, ⟨h0, s, Sr, h1, h2, rfl, h4⟩, hp, hh, hg⟩ := ht
  apply heap_Timers_Len_call
  have hlen := h2.len
  rw [hp.length_eq] at hlen
  simp [h1, hlen]
  (repeat (first | assumption | exact Same.refl _ | exact But.refl _ _ | refine Same.bump ?_ _ | refine Same.set ?_ (by first | omega | (simp <;> omega)) _ | refine But.bump ?_ _ | refine But.set ?_ (by simp) _ | refine But.set ?_ (by first | omega | (simp <;> omega)) _ | refine WF.bump ?_ _ | refine WF.set ?_ (by first | omega | (simp <;> omega)) _))

def nextV : List Ent → AV
  | [] => .tup [.s (.int .u64 0), .s (.bool false)]
  | e :: _ => .tup [.s (.int .u64 e.at_), .s (.bool true)]

theorem Next_spec (H : AH) (t : Nat) (L : List Ent) (last : Int) (S : List Nat) (ht : Tm H t L last S) :
    CallP tab noExt F.heap_Timers_Next [ptr t] H fun v H' => v = nextV L ∧ Same H H' := by
  obtain ⟨r, ⟨h0, s, Sr, h1, h2, rfl, h4⟩, hp, hh, hg⟩ := ht
  apply heap_Timers_Next_call
  have hlen := h2.len
  cases L with
  | nil =>
    rw [hp.length_eq] at hlen
    simp at hlen
    simp [h1, hlen]
    exact ⟨rfl, by (repeat (first | assumption | exact Same.refl _ | exact But.refl _ _ | refine Same.bump ?_ _ | refine Same.set ?_ (by first | omega | (simp <;> omega)) _ | refine But.bump ?_ _ | refine But.set ?_ (by simp) _ | refine But.set ?_ (by first | omega | (simp <;> omega)) _ | refine WF.bump ?_ _ | refine WF.set ?_ (by first | omega | (simp <;> omega)) _))⟩
  | cons e L =>
    rcases h2 with ⟨_, _, rfl, _⟩ | ⟨b, c, j, rfl, rfl, h3, hb, h5, h6⟩
    · have := hp.length_eq; simp at this
    have h0r : 0 < r.length := by rw [hp.length_eq]; simp
    have h0r' : ¬ (r.length : Int) = 0 := by omega
    have hrn : ¬ r = [] := fun he => by simp [he] at h0r
    have hhd := head_eq hp hh hg
    have f1 := flat_fit encE_len r j 0 h0r
    have g1 := flat_ldn encE_len r j 0 h0r
    have hl0 : (flat encE r ++ j)[0]? = some (.int .u64 e.at_) := by
      rw [← hhd]
      unfold gE
      rw [getD_get h0r]
      have : ((flat encE r ++ j).take 3)[0]? = (encE r[0])[0]? := by rw [← g1]; simp
      rw [List.getElem?_take] at this
      simpa [encE] using this
    simp [h1, hb, hrn, h0r, h0r', hl0]
    exact ⟨rfl, by (repeat (first | assumption | exact Same.refl _ | exact But.refl _ _ | refine Same.bump ?_ _ | refine Same.set ?_ (by first | omega | (simp <;> omega)) _ | refine But.bump ?_ _ | refine But.set ?_ (by simp) _ | refine But.set ?_ (by first | omega | (simp <;> omega)) _ | refine WF.bump ?_ _ | refine WF.set ?_ (by first | omega | (simp <;> omega)) _))⟩

/-- How long it is. -/
def leftV (L : List Ent) (h now : Int) : AV :=
  match byH L h with
  | none => .tup [.s (.int .i64 0), .s (.bool false)]
  | some e => .tup [.s (.int .i64 (IntKind.i64.wrap (IntKind.u64.wrap (e.at_ - now)))), .s (.bool true)]

theorem cell_at {r : List Ent} {j : List SV} {i : Nat} (hi : i < r.length) (d : Nat) (hd : d < 3) : (flat encE r ++ j)[i * 3 + d]? = (encE r[i])[d]? := by
  have g1 := flat_ldn encE_len r j i hi
  rw [← g1, List.getElem?_take, if_pos hd, List.getElem?_drop]

theorem Left_spec (H : AH) (hw : WF H) (t : Nat) (L : List Ent) (last : Int) (S : List Nat) (ht : Tm H t L last S) (h now : Int) :
    CallP tab noExt F.heap_Timers_Left [ptr t, i64 h, u64 now] H fun v H' => v = leftV L h now ∧ Same H H' := by
  obtain ⟨r, hr, hp, hh, hg⟩ := ht
  apply heap_Timers_Left_call
  have hlr : r.length ≤ 256 := by rw [hp.length_eq]; exact hg.len
  refine (find_raw _ ((hw.bump _).bump _) t r last S (((Same.refl H).bump 2).bump 4 |>.tmR hr) h hlr).mono_wf tab_wf noExt_wf noExt_next ((hw.bump _).bump _) ?_
  rintro v H1 hw1 hle ⟨rfl, hs⟩
  have hs1 : Same H H1 := (((Same.refl H).bump 2).bump 4).trans hs
  have hby := fidx_byH hp hg.nod (h := h)
  obtain ⟨h0, s, Sr, h1, h2, rfl, h4⟩ := hs1.tmR hr
  cases hf : fidx r h with
  | none =>
    rw [hf] at hby
    simp [oidx]
    refine ⟨?_, by (repeat (first | assumption | exact Same.refl _ | exact But.refl _ _ | refine Same.bump ?_ _ | refine Same.set ?_ (by first | omega | (simp <;> omega)) _ | refine But.bump ?_ _ | refine But.set ?_ (by simp) _ | refine But.set ?_ (by first | omega | (simp <;> omega)) _ | refine WF.bump ?_ _ | refine WF.set ?_ (by first | omega | (simp <;> omega)) _))⟩
    simp only [leftV, ← hby]; rfl
  | some i =>
    rw [hf] at hby
    obtain ⟨hi, he⟩ := fidx_some hf
    rcases h2 with ⟨_, _, rfl, _⟩ | ⟨b, c, j, rfl, rfl, h3, hb, h5, h6⟩
    · simp at hi
    have hc := cell_at (j := j) hi 0 (by omega)
    have hneg : ¬ (i : Int) < 0 := by omega
    simp [encE] at hc
    simp [oidx, h1, hb, hi, hneg, hc]
    refine ⟨?_, by (repeat (first | assumption | exact Same.refl _ | exact But.refl _ _ | refine Same.bump ?_ _ | refine Same.set ?_ (by first | omega | (simp <;> omega)) _ | refine But.bump ?_ _ | refine But.set ?_ (by simp) _ | refine But.set ?_ (by first | omega | (simp <;> omega)) _ | refine WF.bump ?_ _ | refine WF.set ?_ (by first | omega | (simp <;> omega)) _))⟩
    simp only [leftV, ← hby, Option.map_some]
    unfold gE
    rw [getD_get hi]

theorem Cancel_spec (H : AH) (hw : WF H) (t : Nat) (L : List Ent) (last : Int) (S : List Nat) (ht : Tm H t L last S) (h : Int) :
    CallP tab noExt F.heap_Timers_Cancel [ptr t, i64 h] H fun v H' => v = bl (byH L h).isSome ∧ Tm H' t (L.filter fun e => decide (e.handle ≠ h)) last S ∧ But S H H' := by
  obtain ⟨r, hr, hp, hh, hg⟩ := ht
  apply heap_Timers_Cancel_call
  have hlr : r.length ≤ 256 := by rw [hp.length_eq]; exact hg.len
  refine (find_raw _ ((hw.bump _).bump _) t r last S (((Same.refl H).bump 1).bump 4 |>.tmR hr) h hlr).mono_wf tab_wf noExt_wf noExt_next ((hw.bump _).bump _) ?_
  rintro v H1 hw1 hle ⟨rfl, hs⟩
  have hs1 : Same H H1 := (((Same.refl H).bump 1).bump 4).trans hs
  have hby := fidx_byH hp hg.nod (h := h)
  have hr1 := hs1.tmR hr
  cases hf : fidx r h with
  | none =>
    rw [hf] at hby
    simp [oidx]
    have hno : L.filter (fun e => decide (e.handle ≠ h)) = L := by
      rw [List.filter_eq_self]
      intro e he
      simpa using byH_none.1 hby.symm e he
    have hb : But S H ((H1.bump 2).bump 3) := ((hs1.but S).bump _).bump _
    rw [← hby]
    have hno' : (L.filter fun e => !decide (e.handle = h)) = L := by simpa using hno
    rw [hno']
    exact ⟨rfl, ⟨r, hr1.frame (by (first | (simp; done) | omega | (simp <;> omega))) (fun _ _ => rfl), hp, hh, hg⟩, hb⟩
  | some i =>
    rw [hf] at hby
    obtain ⟨hi, he⟩ := fidx_some hf
    have hneg : (0 : Int) ≤ i := by omega
    simp [oidx, hneg]
    refine (remove_raw _ ((hw1.bump _).bump _) t r last S (hr1.frame (by (first | (simp; done) | omega | (simp <;> omega))) (fun _ _ => rfl)) i hi hlr).mono_wf tab_wf noExt_wf noExt_next ((hw1.bump _).bump _) ?_
    rintro v H2 hw2 hle2 ⟨rfl, h2, hb2⟩
    have hnx : H1.next ≤ H2.next := by simp at hle2; omega
    try simp [hneg]
    rw [← hby]
    refine ⟨rfl, ⟨remF r i, h2.frame (by (first | (simp; done) | omega | (simp <;> omega))) (fun _ _ => rfl), by simpa using rem_filter hp hg.nod hf, remF_hp r i hi hh, hg.sub (by exact List.filter_sublist)⟩, ?_⟩
    have b1 : But S H H2 := (hs1.but S).trans ((((But.refl S H1).bump _).bump _).trans hb2)
    first | exact b1 | exact b1.bump _

/-- A number as a row's element. -/
def encI (x : Int) : List SV := [.int .i64 x]
theorem encI_len (x : Int) : (encI x).length = 1 := rfl

theorem Due_spec (H0 : AH) (hw : WF H0) (t : Nat) (L0 : List Ent) (last : Int) (S : List Nat) (ht : Tm H0 t L0 last S) (now : Int) :
    CallP tab noExt F.heap_Timers_Due [ptr t, u64 now] H0 fun v H' => ∃ s So, v = .s s ∧ RowAt encI 1 H' s ((dueL L0 now).map Ent.arg) So ∧ Tm H' t (toL L0 now) last S ∧ But S H0 H' ∧ ∀ b ∈ So, H0.next ≤ b := by
  apply heap_Timers_Due_call
  have hlt0 := ht.lt
  refine loopP_inv (I := fun m T H => T.length = 36 ∧ sl T 0 = ptr t ∧ sl T 1 = u64 now ∧ ∃ s So o L, sl T 5 = .s s ∧ L.length = m ∧ RowAt encI 1 H s (o.map Ent.arg) So ∧ Tm H t L last S ∧ But S H0 H ∧ WF H ∧ (∀ b ∈ So, H0.next ≤ b) ∧ o ++ dueL L now = dueL L0 now ∧ toL L now = toL L0 now ∧ o.length + L.length ≤ 256) ?_ L0.length _ _ ?_
  · intro m T H ⟨hT, s0, s1, s, So, o, L, s5, hm, ho, htm, hbut, hwf, hSo, hd1, hd2, hl⟩
    rw [heap_Timers_Due_l0_at hT]
    obtain ⟨r, hr, hp, hh, hg⟩ := htm
    have hrk := hr
    obtain ⟨h0, sr, Sr, h1, h2, rfl, h4⟩ := hr
    have hlen := h2.len
    have hSn : ∀ b, b ∈ t :: Sr → b ∉ So := fun b hb hm => by have := hlt0 b hb; have := hSo b hm; omega
    cases L with
    | nil =>
      rw [hp.length_eq] at hlen
      simp at hlen
      simp [s0, s1, s5, h1, hlen]
      rw [heap_Timers_Due_s1_at rfl]
      simp [sl]
      refine ⟨So, ?_, ⟨r, ?_, ?_, hh, ?_⟩, (hbut.bump _).bump _, hSo⟩
      · rw [← hd1, show dueL [] now = [] from rfl, List.append_nil]; exact ho.frame (by (first | (simp; done) | omega | (simp <;> omega))) (fun _ _ => rfl)
      · exact hrk.frame (by (first | (simp; done) | omega | (simp <;> omega))) (fun _ _ => rfl)
      · rw [← hd2]; exact hp
      · rw [← hd2]; exact hg
    | cons e L =>
      rcases h2 with ⟨_, _, rfl, _⟩ | ⟨b, c, j, rfl, rfl, h3, hb, h5, h6⟩
      · have := hp.length_eq; simp at this
      have h0r : 0 < r.length := by rw [hp.length_eq]; simp
      have h0r' : (0 : Int) < r.length := by omega
      have hrn : ¬ r = [] := fun he => by simp [he] at h0r
      have hhd := head_eq hp hh hg
      unfold gE at hhd
      rw [getD_get h0r] at hhd
      have c0 := cell_at (j := j) h0r 0 (by omega)
      have c2 := cell_at (j := j) h0r 2 (by omega)
      rw [hhd] at c0 c2
      simp [encE] at c0 c2
      by_cases hle : e.at_ ≤ now
      · simp [s0, s1, s5, h1, hb, h0r, h0r', hrn, c0, c2, hle]
        have hf := hwf.free
        have hf25 := hf 25
        simp [hf25]
        generalize hH1 : ((H.bump 17).bump 11).set (H.next + 25) (Blk.cells false [SV.int IntKind.i64 e.arg]) = H1
        have e1 : H1.next = H.next + 28 := by rw [← hH1]; simp [Nat.add_assoc]
        have e2 : ∀ b', H1.blk b' = if b' = H.next + 25 then some (Blk.cells false [SV.int IntKind.i64 e.arg]) else H.blk b' := fun b' => by rw [← hH1]; simp
        have hol := ho.lt
        have hm' : o.length < 256 := by simp at hl; omega
        obtain ⟨s', H2, S2, ap, hr2, hnx, hoth, hsub⟩ := (ho.frame (H' := H1) (by omega) fun b' hb' => by have := hol b' hb'; rw [e2, if_neg (by omega)]).append encI_len e.arg (x := H.next + 25) (id := H.next + 26) (bytes := 8) (ro := false) (by rw [e2, if_pos rfl]; rfl) (fun hx => by have := hol _ hx; omega) (by rw [e2, if_neg (by omega)]; exact hf 26) (by omega) (by simp; omega)
        refine andThen_of ap ?_
        have hS2 : ∀ b' ∈ S2, H0.next ≤ b' := fun b' hb' => by
          rcases hsub b' hb' with h | h
          · exact hSo b' h
          · have := hbut.1; omega
        have hwf2 : WF H2 := fun b' hb' => by rw [hoth b' (fun hx => by have := hol _ hx; omega) (by omega), e2, if_neg (by omega)]; exact hwf b' (by omega)
        have hS1 : ∀ b' ∈ [t, b], H2.blk b' = H.blk b' := fun b' hb' => by
          have := hlt0 b' hb'
          have := hbut.1
          rw [hoth b' (hSn b' hb') (by omega), e2, if_neg (by omega)]
        refine (remove_raw _ (hwf2.bump _) t r last [t, b] (hrk.frame (by simp; omega) (fun b' hb' => by simpa using hS1 b' hb')) 0 h0r (by rw [hp.length_eq]; exact hg.len)).mono_wf tab_wf noExt_wf noExt_next (hwf2.bump _) ?_
        rintro v H3 hw3 hle3 ⟨rfl, hr3, hb3⟩
        simp at hle3
        have hS2n : ∀ b', b' ∈ S2 → b' ∉ [t, b] := fun b' hb' hm' => by have := hlt0 b' hm'; have := hS2 b' hb'; omega
        have hol2 := hr2.lt
        refine ⟨L.length, by rw [← hm]; simp, rfl, rfl, s', rfl, S2, o ++ [e], L, rfl, ?_, ⟨remF r 0, hr3, rem0_perm hp hh hg, remF_hp r 0 h0r hh, hg.sub (List.sublist_cons_self _ _)⟩, ?_, hw3, hS2, ?_, ?_, by simp at hl ⊢; omega⟩
        · rw [List.map_append]
          exact hr2.frame (by omega) fun b' hb' => hb3.2 b' (by simp; have := hol2 b' hb'; omega) (hS2n b' hb')
        · refine ⟨by have := hbut.1; omega, fun b' hb' hn' => ?_⟩
          rw [hb3.2 b' (by simp; have := hbut.1; omega) hn']
          simp only [bump_blk]
          rw [hoth b' (fun hx => by have := hSo b' hx; omega) (by have := hbut.1; omega), e2, if_neg (by have := hbut.1; omega)]
          exact hbut.2 b' hb' hn'
        · rw [← hd1]; simp [dueL, hle]
        · rw [← hd2]; simp [toL, hle]
      · simp [s0, s1, s5, h1, hb, h0r, h0r', hrn, c0, c2, hle]
        rw [heap_Timers_Due_s1_at rfl]
        simp [sl]
        refine ⟨So, ?_, ⟨r, ?_, ?_, hh, ?_⟩, (hbut.bump _).bump _, hSo⟩
        · rw [← hd1, show dueL (e :: L) now = [] by simp [dueL, hle], List.append_nil]; exact ho.frame (by (first | (simp; done) | omega | (simp <;> omega))) (fun _ _ => rfl)
        · exact hrk.frame (by (first | (simp; done) | omega | (simp <;> omega))) (fun _ _ => rfl)
        · rw [← hd2]; simpa [toL, hle] using hp
        · rw [← hd2]; simpa [toL, hle] using hg
  · refine ⟨rfl, rfl, rfl, .slice none 0 0 1, [], [], L0, rfl, rfl, .inl ⟨1, rfl, rfl, rfl⟩, ht.frame (by (first | (simp; done) | omega | (simp <;> omega))) (fun _ _ => rfl), ((But.refl _ _).bump _).bump _, (hw.bump _).bump _, by simp, rfl, rfl, by simpa using ht.good.len⟩

end Go.AM
