/-
  The document's timers: what their methods give, by what is to come.
-/
import Derived.Test.YtkhffcbnhleeoaaRfA
import Derived.Test.YtkhffcbnhleeoaaHpE
namespace Go.AM
attribute [local simp] AH.ld AH.ldn AH.stn AH.new Nat.add_assoc resA resA1 fillA buildA slSlA boundsA boundA callvP

/-- By their handles. -/
def HS (r : List Ent) : Prop := r.Pairwise fun a b => a.handle < b.handle

theorem HS.snoc {r : List Ent} {e : Ent} (h : HS r) (hb : ∀ x ∈ r, x.handle < e.handle) : HS (r ++ [e]) :=
  List.pairwise_append.2 ⟨h, List.pairwise_singleton _ _, fun x hx y hy => by simp at hy; subst hy; exact hb x hx⟩

theorem HS.get {r : List Ent} (h : HS r) {i j : Nat} {a b : Ent} (hij : i < j) (ha : r[i]? = some a) (hb : r[j]? = some b) : a.handle < b.handle := by
  obtain ⟨hi, rfl⟩ := List.getElem?_eq_some_iff.1 ha
  obtain ⟨hj, rfl⟩ := List.getElem?_eq_some_iff.1 hb
  exact List.pairwise_iff_getElem.1 h i j hi hj hij

theorem erase_perm {r : List Ent} {k : Nat} {e : Ent} (h : r[k]? = some e) : r.Perm (e :: r.eraseIdx k) := by
  obtain ⟨hk, rfl⟩ := List.getElem?_eq_some_iff.1 h
  rw [List.eraseIdx_eq_take_drop_succ]
  conv => lhs; rw [show r = r.take k ++ r[k] :: r.drop (k + 1) by simp]
  exact List.perm_middle

theorem least_head {r L : List Ent} {x e : Ent} {last : Int} {k : Nat} (hl : IsLeast r k e) (hp : r.Perm (x :: L)) (hs : HS r) (hg : Good (x :: L) last) : e = x := by
  obtain ⟨h1, h2, h3⟩ := hl
  have hx : x ∈ r := hp.mem_iff.2 (by simp)
  obtain ⟨j, hj⟩ := List.getElem?_of_mem hx
  have he : e ∈ x :: L := hp.mem_iff.1 (List.mem_of_getElem? h1)
  rcases List.mem_cons.1 he with h | h
  · exact h
  · have a1 := (List.pairwise_cons.1 hg.srt).1 e h
    rw [ahead_iff] at a1
    have a2 := h2 j x hj
    by_cases hjk : j < k
    · have := h3 j x hjk hj; omega
    · by_cases hkj : k < j
      · have := hs.get hkj h1 hj; omega
      · have : j = k := by omega
        subst this
        rw [h1] at hj; cases hj; rfl

theorem fidx_get {r : List Ent} {k : Nat} {e : Ent} (h : r[k]? = some e) (hs : HS r) : fidx r e.handle = some k :=
  fidx_of h rfl fun i x hi hx => by have := hs.get hi hx h; omega

theorem fidx_gets {r : List Ent} {h : Int} {i : Nat} (hf : fidx r h = some i) : ∃ e, r[i]? = some e ∧ e.handle = h := by
  obtain ⟨hi, hh⟩ := fidx_some hf
  unfold gE at hh
  rw [getD_get hi] at hh
  exact ⟨r[i], List.getElem?_eq_getElem hi, hh⟩

theorem cancel_plain {r L : List Ent} {last h : Int} (hp : r.Perm L) (hs : HS r) (hg : Good L last) :
    (fidx r h).isSome = (byH L h).isSome ∧ (match fidx r h with | none => r | some i => r.eraseIdx i).Perm (L.filter fun e => decide (e.handle ≠ h)) ∧ HS (match fidx r h with | none => r | some i => r.eraseIdx i) := by
  have hb := fidx_byH hp hg.nod (h := h)
  cases hf : fidx r h with
  | none =>
    rw [hf] at hb
    refine ⟨by rw [← hb]; rfl, ?_, hs⟩
    have : L.filter (fun e => decide (e.handle ≠ h)) = L := by
      rw [List.filter_eq_self]
      intro e he
      simpa using byH_none.1 hb.symm e he
    simp only [this]; exact hp
  | some i =>
    rw [hf] at hb
    refine ⟨by rw [← hb]; rfl, ?_, hs.sublist (List.eraseIdx_sublist _ _)⟩
    obtain ⟨e, he, hh⟩ := fidx_gets hf
    have h1 := erase_perm he
    have h2 := (h1.symm.trans hp).filter (fun e => decide (e.handle ≠ h))
    rw [List.filter_cons, if_neg (by rw [hh]; simp)] at h2
    have h3 : (r.eraseIdx i).filter (fun e => decide (e.handle ≠ h)) = r.eraseIdx i := by
      rw [List.filter_eq_self]
      intro x hx
      have hnd : ((e :: r.eraseIdx i).map Ent.handle).Nodup := ((h1.symm.trans hp).map Ent.handle).nodup_iff.2 hg.nod
      simp only [List.map_cons, List.nodup_cons] at hnd
      simp only [decide_eq_true_eq]
      intro hc
      exact hnd.1 (List.mem_map.2 ⟨x, hx, by rw [hc, hh]⟩)
    rwa [h3] at h2

/-- The document's timers. -/
def RfT (m : Nat) (L : List Ent) (last : Int) : Asr := .ex fun r => .all [RfR m r last, .pure (r.Perm L ∧ HS r ∧ Good L last)]

section
variable {ρ : HF} {H : AH} {Rs : List Asr} {m : Nat} {L : List Ent} {last : Int}
theorem Sat.rtOpen (h : Sat ρ H (RfT m L last :: Rs)) : ∃ r, Sat ρ H (RfR m r last :: Rs) ∧ r.Perm L ∧ HS r ∧ Good L last := by
  obtain ⟨r, h⟩ := h.ex
  obtain ⟨hp, h⟩ := h.all.swap.pure
  exact ⟨r, h, hp⟩
theorem Sat.rtClose {r : List Ent} (h : Sat ρ H (RfR m r last :: Rs)) (hp : r.Perm L ∧ HS r ∧ Good L last) : Sat ρ H (RfT m L last :: Rs) :=
  Sat.mkEx r (Sat.mkAll (Sat.mkPure hp h).swap)
end

section
variable (m : Nat) (L : List Ent) (last : Int)

theorem RtInsert_tri (a x : Int) (hl : L.length < 256) (hlast : last < 4611686018427387904) : Tri tab noExt F.detentref7_Timers_Insert [ptr m, u64 a, i64 x] [RfT m L last] fun v P' => v = .tup [.s (.int .i64 (last + 1)), .s (.int .i64 0)] ∧ P' = [RfT m (insE ⟨a, last + 1, x⟩ L) (last + 1)] := by
  intro ρ H Rs hs
  obtain ⟨r, hs, hp, hh, hg⟩ := Sat.rtOpen hs
  refine (RfInsert_tri m r last a x (by rw [hp.length_eq]; exact hl) ⟨hg.pos, hlast⟩).use hs ?_
  rintro v H' P' ⟨rfl, rfl⟩ hs
  refine ⟨_, ⟨rfl, rfl⟩, Sat.rtClose hs ⟨?_, hh.snoc fun e he => ?_, hg.ins a x hl⟩⟩
  · exact (List.perm_append_singleton _ _).trans ((hp.cons _).trans (insE_perm _ _).symm)
  · have := (hg.bnd e (hp.mem_iff.1 he)).2
    simp only; omega

theorem RtInsert_no_tri (a x : Int) (hl : 256 ≤ L.length) : Tri tab noExt F.detentref7_Timers_Insert [ptr m, u64 a, i64 x] [RfT m L last] fun v P' => v = .tup [.s (.int .i64 0), .s (.int .i64 (-33))] ∧ P' = [RfT m L last] := by
  intro ρ H Rs hs
  obtain ⟨r, hs, hp, hh, hg⟩ := Sat.rtOpen hs
  refine (RfInsert_no_tri m r last a x (by rw [hp.length_eq]; exact hl)).use hs ?_
  rintro v H' P' ⟨rfl, rfl⟩ hs
  exact ⟨_, ⟨rfl, rfl⟩, Sat.rtClose hs ⟨hp, hh, hg⟩⟩

theorem RtCancel_tri (h : Int) : Tri tab noExt F.detentref7_Timers_Cancel [ptr m, i64 h] [RfT m L last] fun v P' => v = bl (byH L h).isSome ∧ P' = [RfT m (L.filter fun e => decide (e.handle ≠ h)) last] := by
  intro ρ H Rs hs
  obtain ⟨r, hs, hp, hh, hg⟩ := Sat.rtOpen hs
  refine (RfCancel_tri m r last h (by rw [hp.length_eq]; exact hg.len)).use hs ?_
  rintro v H' P' ⟨rfl, rfl⟩ hs
  obtain ⟨c1, c2, c3⟩ := cancel_plain (h := h) hp hh hg
  refine ⟨_, ⟨by rw [c1], rfl⟩, Sat.rtClose hs ⟨c2, c3, hg.sub List.filter_sublist⟩⟩

theorem RtNext_tri : Tri tab noExt F.detentref7_Timers_Next [ptr m] [RfT m L last] fun v P' => v = nextV L ∧ P' = [RfT m L last] := by
  intro ρ H Rs hs
  obtain ⟨r, hs, hp, hh, hg⟩ := Sat.rtOpen hs
  apply detentref7_Timers_Next_call
  refine (RfLeast_tri m r last (by rw [hp.length_eq]; exact hg.len)).use ((hs.bump _).bump _) ?_
  rintro v H1 P' ⟨rfl, hv⟩ hs1
  rcases hv with ⟨rfl, rfl⟩ | ⟨k, e, rfl, hl⟩
  · have hL : L = [] := List.length_eq_zero_iff.1 (by rw [← hp.length_eq]; rfl)
    subst hL
    simp
    exact ⟨_, ⟨rfl, rfl⟩, Sat.rtClose (by (repeat refine Sat.bump ?_ _); exact hs1) ⟨hp, hh, hg⟩⟩
  · have hk : k < r.length := (List.getElem?_eq_some_iff.1 hl.1).1
    cases L with
    | nil => have := hp.length_eq; simp at this; rw [this] at hk; simp at hk
    | cons x L =>
      have hex := least_head hl hp hh hg
      subst hex
      obtain ⟨s, hs2⟩ := Sat.rfOpen hs1
      obtain ⟨b, c, j, rfl, hb2, _, _⟩ := hs2.swap.rowBlk (by omega)
      have hb := hs2.cel
      have hc := flat_cell encR_len (j := j) hl.1 1 (by omega)
      simp [encR] at hc
      have n0 : ¬ (k : Int) < 0 := by omega
      have hk' : (k : Int) < (r.length : Int) := by omega
      simp [n0, hb, hb2, hk, hk', hc]
      exact ⟨_, ⟨rfl, rfl⟩, Sat.rtClose (Sat.rfClose (by (repeat refine Sat.bump ?_ _); exact hs2)) ⟨hp, hh, hg⟩⟩

theorem RtLeft_tri (h now : Int) : Tri tab noExt F.detentref7_Timers_Left [ptr m, i64 h, u64 now] [RfT m L last] fun v P' => v = leftV L h now ∧ P' = [RfT m L last] := by
  intro ρ H Rs hs
  obtain ⟨r, hs, hp, hh, hg⟩ := Sat.rtOpen hs
  apply detentref7_Timers_Left_call
  refine (RfFind_tri m r last h (by rw [hp.length_eq]; exact hg.len)).use ((hs.bump _).bump _) ?_
  rintro v H1 P' ⟨rfl, rfl⟩ hs
  have hby := fidx_byH hp hg.nod (h := h)
  cases hf : fidx r h with
  | none =>
    rw [hf] at hby
    simp [oidx']
    refine ⟨_, ⟨?_, rfl⟩, Sat.rtClose (by (repeat refine Sat.bump ?_ _); exact hs) ⟨hp, hh, hg⟩⟩
    simp only [leftV, ← hby]; rfl
  | some i =>
    obtain ⟨e, he, heh⟩ := fidx_gets hf
    have hk : i < r.length := (List.getElem?_eq_some_iff.1 he).1
    rw [hf] at hby
    obtain ⟨s, hs⟩ := Sat.rfOpen hs
    obtain ⟨b, c, j, rfl, hb2, _, _⟩ := hs.swap.rowBlk (by omega)
    have hb := hs.cel
    have hc := flat_cell encR_len (j := j) he 1 (by omega)
    simp [encR] at hc
    have n0 : ¬ (i : Int) < 0 := by omega
    have hk' : (i : Int) < (r.length : Int) := by omega
    simp [oidx', n0, hb, hb2, hk, hk', hc]
    refine ⟨_, ⟨?_, rfl⟩, Sat.rtClose (Sat.rfClose (by (repeat refine Sat.bump ?_ _); exact hs)) ⟨hp, hh, hg⟩⟩
    simp only [leftV, ← hby, Option.map_some]
    have hge : gE r i = e := by
      unfold gE
      rw [getD_get hk]
      rw [List.getElem?_eq_getElem hk] at he
      exact Option.some.inj he
    rw [hge]

theorem RtDue_tri (now : Int) : Tri tab noExt F.detentref7_Timers_Due [ptr m, u64 now] [RfT m L last] fun v P' => ∃ s, v = .s s ∧ P' = [Row encI 1 s ((dueL L now).map Ent.arg), RfT m (toL L now) last] := by
  intro ρ H Rs hs
  apply detentref7_Timers_Due_call
  have hg0 : Good L last := by obtain ⟨_, _, _, _, h⟩ := Sat.rtOpen hs; exact h
  refine loopP_invK (I := fun n T H => T.length = 45 ∧ sl T 0 = ptr m ∧ sl T 1 = u64 now ∧ ∃ s o L', sl T 5 = .s s ∧ n = L'.length ∧ o ++ dueL L' now = dueL L now ∧ toL L' now = toL L now ∧ o.length + L'.length ≤ 256 ∧ Sat ρ H (Row encI 1 s (o.map Ent.arg) :: RfT m L' last :: Rs)) ?_ L.length _ _ ⟨rfl, rfl, rfl, _, [], L, rfl, rfl, rfl, rfl, by simpa using hg0.len, Sat.mkNil ((hs.bump _).bump _) 1⟩
  intro n T H ⟨hT, s0, s1, s, o, L', s5, hn, hd1, hd2, hl, hs⟩ K kn kr ko
  rw [detentref7_Timers_Due_l0_at hT]
  obtain ⟨r, hs1, hp, hh, hg⟩ := Sat.rtOpen hs.swap
  simp [s0, s1, s5]
  refine (RfLeast_tri m r last (by rw [hp.length_eq]; exact hg.len)).use (hs1.bump _) ?_
  rintro v H1 P' ⟨rfl, hv⟩ hs2
  rcases hv with ⟨rfl, rfl⟩ | ⟨k, e, rfl, hle⟩
  · have hL : L' = [] := List.length_eq_zero_iff.1 (by rw [← hp.length_eq]; rfl)
    subst hL
    simp
    refine kr _ _ ?_
    simp [s5]
    have h1 : Sat ρ H1 (RfT m [] last :: Row encI 1 s (o.map Ent.arg) :: Rs) := Sat.rtClose hs2 ⟨hp, hh, hg⟩
    have e1 : dueL L now = o := by rw [← hd1]; simp [dueL]
    have e2 : toL L now = [] := by rw [← hd2]; rfl
    rw [e1, e2]
    exact ((h1.swap.bump _).bump _)
  · have hk : k < r.length := (List.getElem?_eq_some_iff.1 hle.1).1
    cases L' with
    | nil => have := hp.length_eq; simp at this; rw [this] at hk; simp at hk
    | cons x L' =>
      have hex := least_head hle hp hh hg
      subst hex
      obtain ⟨sr, hs3⟩ := Sat.rfOpen hs2
      obtain ⟨b, c, j, rfl, hb2, _, _⟩ := hs3.swap.rowBlk (by omega)
      have hb := hs3.cel
      have hc0 := flat_cell encR_len (j := j) hle.1 0 (by omega)
      have hc1 := flat_cell encR_len (j := j) hle.1 1 (by omega)
      have hc2 := flat_cell encR_len (j := j) hle.1 2 (by omega)
      simp [encR] at hc0 hc1 hc2
      have n0 : ¬ (k : Int) < 0 := by omega
      have hk' : (k : Int) < (r.length : Int) := by omega
      by_cases hnow : e.at_ ≤ now
      · have n1 : ¬ now < e.at_ := by omega
        simp [n0, hb, hb2, hk, hk', hc1, hc2, n1, -AH.new]
        have hs4 := (hs3.bump 14).frees 12 [9, 10] (by decide) (by decide)
        simp only [List.map_cons, List.map_nil, List.cons_append, List.nil_append, bump_next, Nat.add_assoc, Nat.reduceAdd] at hs4
        refine ⟨_, new_of _ hs4.fre, ?_⟩
        have hs5 := Sat.mk hs4 (encI e.arg)
        simp only [encI] at hs5
        generalize ((H1.bump 14).bump 12).set (H1.next + 23) (Blk.cells false [SV.int IntKind.i64 e.arg]) = H5 at *
        have hs6 : Sat ρ H5 (Row encI 1 s (o.map Ent.arg) :: Fre (H1.next + 24) :: Cel (H1.next + 23) [SV.int IntKind.i64 e.arg] :: Cel m [.slice (some (b, 0)) r.length c 3, .int .i64 last] :: Row encR 3 (.slice (some (b, 0)) r.length c 3) r :: Rs) := by
          have h1 : Sat ρ H5 (Row encI 1 s (o.map Ent.arg) :: Cel (H1.next + 23) _ :: Fre (H1.next + 24) :: Cel m _ :: Row encR 3 _ r :: Rs) := hs5.front 4 (by simp)
          have h2 : Sat ρ H5 (Fre (H1.next + 24) :: Row encI 1 s (o.map Ent.arg) :: Cel (H1.next + 23) _ :: Cel m _ :: Row encR 3 _ r :: Rs) := h1.front 2 (by simp)
          exact h2.swap
        have hl2 : o.length < 256 := by simp at hl; omega
        obtain ⟨s', H6, e6, hs7, _⟩ := hs6.append1 encI_len (bytes := 8) (c := 1) (e := e.arg) (o := 0) rfl (by simp) (by simp; omega)
        refine andThen_of' e6 ?_
        have hs8 : Sat ρ H6 (Cel m [.slice (some (b, 0)) r.length c 3, .int .i64 last] :: Row encR 3 (.slice (some (b, 0)) r.length c 3) r :: Row encI 1 s' (o.map Ent.arg ++ [e.arg]) :: Rs) := by
          have h1 : Sat ρ H6 (Cel (H1.next + 23) _ :: Row encI 1 s' (o.map Ent.arg ++ [e.arg]) :: Cel m _ :: Row encR 3 _ r :: Rs) := hs7.swap
          have h2 : Sat ρ H6 (Row encR 3 _ r :: Row encI 1 s' (o.map Ent.arg ++ [e.arg]) :: Cel m _ :: Rs) := h1.drop.front 2 (by simp)
          exact h2.front 2 (by simp)
        have hb8 := hs8.cel
        obtain ⟨b', c', j', he', hb9, _, _⟩ := hs8.swap.rowBlk (by omega)
        cases he'
        have hc9 := flat_cell encR_len (j := j') hle.1 0 (by omega)
        simp [encR] at hc9
        simp [hb8, hb9, hk, hk', hc9]
        refine (RfCancel_tri m r last e.handle (by rw [hp.length_eq]; exact hg.len)).use (Sat.rfClose (hs8.bump 10)) ?_
        rintro v H7 P' ⟨rfl, rfl⟩ hs9
        rw [fidx_get hle.1 hh] at hs9
        have hg' : Good L' last := hg.sub (List.sublist_cons_self _ _)
        have hp' : (r.eraseIdx k).Perm L' := (List.perm_cons _).1 ((erase_perm hle.1).symm.trans hp)
        refine kn L'.length _ _ (by simp at hn; omega) ⟨rfl, rfl, rfl, s', o ++ [e], L', rfl, rfl, ?_, ?_, by simp at hl ⊢; omega, ?_⟩
        · rw [← hd1]; simp [dueL, hnow]
        · rw [← hd2]; simp [toL, hnow]
        · rw [List.map_append]
          exact (Sat.rtClose hs9 ⟨hp', hh.sublist (List.eraseIdx_sublist _ _), hg'⟩).swap
      · have n1 : now < e.at_ := by omega
        simp [n0, hb, hb2, hk, hk', hc1, n1]
        refine kr _ _ ?_
        simp [s5]
        have h1 : Sat ρ H1 (RfT m (e :: L') last :: Row encI 1 s (o.map Ent.arg) :: Rs) := Sat.rtClose hs2 ⟨hp, hh, hg⟩
        have e1 : dueL L now = o := by rw [← hd1]; simp [dueL, hnow]
        have e2 : toL L now = e :: L' := by rw [← hd2]; simp [toL, hnow]
        rw [e1, e2]
        exact ((h1.swap.bump _).bump _)
end

end Go.AM
