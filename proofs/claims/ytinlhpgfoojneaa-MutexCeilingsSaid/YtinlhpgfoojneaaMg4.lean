/-
  mtx: Held, Free, Waiting.
-/
import Derived.Test.YtinlhpgfoojneaaMg3
import Derived.KernelRfl
import Derived.Test.YtinlhpgfoojneaaMg2
import Derived.RowKit3
import Derived.WideKeyArgs
import Derived.ChangeSame
import Derived.Handed
import Derived.Test.YtinlhpgfoojneaaMg1
import Derived.Test.YtinlhpgfoojneaaMg0
import Derived.Shelf.Spec.SlicesInsertGrow
import Derived.Laws.AppendOwn
namespace Go.AM
set_option maxHeartbeats 8000000
attribute [local irreducible] sq bk lpK mdx rt TC RP WK Cel Ro Row Fre RowsA RowsBut
attribute [local irreducible] settleF stF passF unlF tryF lockF muW setO setw setp setb rk muw mow tkw tkb tkp insF standM sbBad setBF dropF

def heldN (ms : List Mu) (n : Int) (k : Nat) : List Int := ((List.range' 1 k).filter fun (m : Nat) => decide (mow ms (m : Int) = n)).map fun (m : Nat) => (m : Int)
def heldF (ms : List Mu) (n : Int) : List Int := if 1 ≤ n ∧ n ≤ 16 then heldN ms n (ms.length - 1) else []
theorem heldN_succ {ms : List Mu} {n : Int} {k : Nat} : heldN ms n (k + 1) = heldN ms n k ++ if mow ms ((k + 1 : Nat) : Int) = n then [((k + 1 : Nat) : Int)] else [] := by
  unfold heldN
  rw [List.range'_concat, List.filter_append, List.map_append, show 1 + 1 * k = k + 1 by omega]
  congr 1
  by_cases h : mow ms ((k + 1 : Nat) : Int) = n
  · rw [if_pos h, List.filter_cons_of_pos (by simpa using h)]; rfl
  · rw [if_neg h, List.filter_cons_of_neg (by simpa using h)]; rfl
theorem heldN_len {ms : List Mu} {n : Int} {k : Nat} : (heldN ms n k).length ≤ k := by
  unfold heldN
  rw [List.length_map]
  exact Nat.le_trans (List.length_filter_le _ _) (by simp)
theorem heldF_len {ms : List Mu} {n : Int} : (heldF ms n).length ≤ ms.length := by
  unfold heldF
  split
  · exact Nat.le_trans heldN_len (by omega)
  · simp
def freeStep (n : Int) (q : MS × List Int) (m : Int) : MS × List Int :=
  ((unlF q.1.1 q.1.2 m n).2, if (unlF q.1.1 q.1.2 m n).1.2 = 0 ∧ (unlF q.1.1 q.1.2 m n).1.1 > 0 then q.2 ++ [(unlF q.1.1 q.1.2 m n).1.1] else q.2)
def freeF (ms : List Mu) (ts : List Tk) (n : Int) : MS × List Int := (heldF ms n).foldl (freeStep n) ((ms, ts), [])
theorem MuI.unl {ms : List Mu} {ts : List Tk} (h : MuI ms ts) (m n : Int) : MuI (unlF ms ts m n).2.1 (unlF ms ts m n).2.2 := by
  unfold unlF
  split
  · exact h
  · split
    · exact h
    · simp only [stF]
      exact (h.pass m).settle

section
variable {a : Nat} {ms : List Mu} {ts : List Tk} {sm : SV} {ws : List SV} {L : List Asr}

theorem held_tri (hi : MuV ms) (n : Int) : Tri tab mext F.mtx_All_Held [ptr a, i64 n] [MxA a ms ts] fun v P' => ∃ s, v = .s s ∧ P' = [Row encI 1 s (heldF ms n), MxA a ms ts] := by
  refine Tri.go tab_mtx_All_Held rfl ?_
  have h9 := hi.l1
  have h0 := hi.l0
  refine TC.mx fun sm ws hl ht => ?_
  have hz : (ms.zip ws).length = ms.length := by rw [List.length_zip]; omega
  refine RUNM ?_
  refine TC.midb (α := SV) (fun _ => True) (fun s => [(5, .s s)]) (fun s => [Row encI 1 s (heldF ms n), MxB a ms ts sm ws]) ?_ ?_
  · refine TC.loop (fun q : Nat × SV => ms.length - q.1) (fun q => 1 ≤ q.1 ∧ q.1 ≤ ms.length ∧ (¬ (1 ≤ n ∧ n ≤ 16) → q.1 = 1)) (fun q => [(0, ptr a), (1, i64 n), (5, .s q.2), (6, i64 q.1)]) (fun q => [Row encI 1 q.2 (heldN ms n (q.1 - 1)), MxB a ms ts sm ws]) (1, .slice none 0 0 1) ⟨by omega, by omega, fun _ => rfl⟩ ⟨rfl, rfl, rfl, rfl, trivial⟩ (show LEnt _ [Row encI 1 (.slice none 0 0 1) [], MxB a ms ts sm ws] from row_nil 1 _) ?_
    rintro ⟨m, s⟩ ⟨h1, h2, h3⟩
    dsimp only at h1 h2 h3 ⊢
    refine RUNM ?_
    refine RP.c rfl (mIs_tri n) .e rfl ?_
    rintro v P' ⟨rfl, rfl⟩
    refine RUNM ?_
    refine RP.gp rfl (fun h4 => ?_) fun h4 => ?_
    · refine RUNM ?_
      refine TC.cP rfl (fun h5 => ?_) fun h5 => ?_
      · obtain ⟨k, hk, μ, s2, hμ, hs⟩ := msGet (ms := ms) (ws := ws) (m := (m : Int)) (by omega) hl
        obtain rfl : m = k := by omega
        have hm := mow_some (cast_get hμ)
        have hsucc := heldN_succ (ms := ms) (n := n) (k := m - 1)
        rw [show m - 1 + 1 = m by omega, hm] at hsucc
        have hlen := heldN_len (ms := ms) (n := n) (k := m - 1)
        refine RUNM ?_
        refine TC.cP rfl (fun h6 => ?_) fun h6 => ?_
        · have h6 : μ.ow = n := h6
          rw [if_pos h6] at hsucc
          refine RUNM ?_
          refine RP.bs rfl rfl rfl fun b => ?_
          refine RP.ap rfl rfl rfl (ap_one (e := (m : Int)) encI_len (.c (.n .h) (.c .h .e)) (by omega)) fun s' => ?_
          refine RUNM ?_
          refine lp_n (m + 1, s') ⟨by simp only; omega, by simp only; omega, fun hc => absurd h4 hc⟩ (by simp only; omega) ⟨rfl, rfl, rfl, rfl, trivial⟩ ?_
          simp only [Nat.add_sub_cancel]
          rw [hsucc]
          exact LEnt.refl _
        · have h6 : ¬ μ.ow = n := h6
          rw [if_neg h6, List.append_nil] at hsucc
          refine RUNM ?_
          refine lp_n (m + 1, s) ⟨by simp only; omega, by simp only; omega, fun hc => absurd h4 hc⟩ (by simp only; omega) ⟨rfl, rfl, rfl, rfl, trivial⟩ ?_
          simp only [Nat.add_sub_cancel]
          rw [hsucc]
          exact LEnt.refl _
      · have : m = ms.length := by omega
        subst this
        refine RUNM ?_
        refine md_n s trivial ⟨rfl, trivial⟩ ?_
        rw [heldF, if_pos h4]
        exact LEnt.refl _
    · refine RUNM ?_
      refine md_n s trivial ⟨rfl, trivial⟩ ?_
      have := h3 h4
      subst this
      rw [heldF, if_neg h4]
      exact LEnt.refl _
  · intro s _
    have := heldF_len (ms := ms) (n := n)
    refine RUNM ?_
    refine RP.c rfl (xClip_tri s _) (.c .h .e) rfl ?_
    rintro v P' ⟨s', rfl, rfl⟩
    refine RUNM ?_
    refine rt_r rfl ⟨s', rfl, rfl⟩ ?_
    exact (LEnt.of (.c (.n .h) (.c .h .e))).trans (mx_hide.trans (LEnt.of (.c (.n .h) (.c .h .e))))

theorem free_tri (hi : MuI ms ts) (n : Int) : Tri tab mext F.mtx_All_Free [ptr a, i64 n] [MxA a ms ts] fun v P' => ∃ s, v = .s s ∧ P' = [Row encI 1 s (freeF ms ts n).2, MxA a (freeF ms ts n).1.1 (freeF ms ts n).1.2] := by
  refine Tri.go tab_mtx_All_Free rfl ?_
  have h9 := hi.v.l1
  refine RUN ?_
  refine RP.c rfl (held_tri hi.v n) (.c .h .e) rfl ?_
  rintro v P' ⟨sh, rfl, rfl⟩
  have hhl := heldF_len (ms := ms) (n := n)
  have hfree : freeF ms ts n = (heldF ms n).foldl (freeStep n) ((ms, ts), []) := by unfold freeF; rfl
  generalize freeF ms ts n = FR at *
  generalize heldF ms n = hs at *
  refine RUN ?_
  refine TC.midb (α := SV) (fun _ => True) (fun s => [(5, .s s)]) (fun s => [Row encI 1 s FR.2, MxA a FR.1.1 FR.1.2]) ?_ ?_
  · have hI : ∀ i, MuI ((hs.take i).foldl (freeStep n) ((ms, ts), [])).1.1 ((hs.take i).foldl (freeStep n) ((ms, ts), [])).1.2 ∧ ((hs.take i).foldl (freeStep n) ((ms, ts), [])).2.length ≤ i := by
      intro i
      induction i with
      | zero => exact ⟨hi, by simp⟩
      | succ i ih =>
        rw [List.take_add_one]
        cases hm : hs[i]? with
        | none => simp only [Option.toList_none, List.append_nil]; exact ⟨ih.1, by omega⟩
        | some m =>
          rw [List.foldl_append]
          simp only [Option.toList_some, List.foldl_cons, List.foldl_nil]
          refine ⟨ih.1.unl m n, ?_⟩
          simp only [freeStep]
          split
          · rw [List.length_append]; simp; exact ih.2
          · omega
    refine TC.loop (fun q : Nat × SV => hs.length - q.1) (fun q => q.1 ≤ hs.length) (fun q => [(0, ptr a), (1, i64 n), (5, .s q.2), (12, .s sh), (13, i64 hs.length), (14, i64 q.1)]) (fun q => [Row encI 1 q.2 ((hs.take q.1).foldl (freeStep n) ((ms, ts), [])).2, Row encI 1 sh hs, MxA a ((hs.take q.1).foldl (freeStep n) ((ms, ts), [])).1.1 ((hs.take q.1).foldl (freeStep n) ((ms, ts), [])).1.2]) (0, .slice none 0 0 1) (by simp) ⟨rfl, rfl, rfl, rfl, rfl, rfl, trivial⟩ (row_nil _ _) ?_
    rintro ⟨i, s⟩ h1
    dsimp only at h1 ⊢
    obtain ⟨hq, hql⟩ := hI i
    have hstep : ∀ m, hs[i]? = some m → freeStep n ((hs.take i).foldl (freeStep n) ((ms, ts), [])) m = (hs.take (i + 1)).foldl (freeStep n) ((ms, ts), []) := fun m hm => by rw [foldl_take_succ hm]
    generalize hQ : (hs.take i).foldl (freeStep n) ((ms, ts), []) = Q at *
    replace hQ := hQ.symm
    obtain ⟨⟨ms1, ts1⟩, out⟩ := Q
    dsimp only at hq hql ⊢
    refine RUN ?_
    refine TC.cP rfl (fun h3 => ?_) fun h3 => ?_
    · obtain ⟨m, hm⟩ : ∃ m, hs[i]? = some m := ⟨_, List.getElem?_eq_getElem (by omega)⟩
      have hstep := hstep m hm
      refine RUN ?_
      refine RP.c rfl (unl_tri hq m n) (.c (.n (.n .h)) .e) rfl ?_
      rintro v P' ⟨rfl, rfl⟩
      have e0 : freeStep n ((ms1, ts1), out) m = ((unlF ms1 ts1 m n).2, if (unlF ms1 ts1 m n).1.2 = 0 ∧ (unlF ms1 ts1 m n).1.1 > 0 then out ++ [(unlF ms1 ts1 m n).1.1] else out) := rfl
      rw [e0] at hstep
      clear e0
      generalize unlF ms1 ts1 m n = r at *
      obtain ⟨⟨w, c⟩, ms2, ts2⟩ := r
      dsimp only at hstep ⊢
      have big : out.length + 1 ≤ 100 := by omega
      refine RUN ?_
      refine RP.gp rfl (fun h4 => ?_) fun h4 => ?_
      · have h4 : c = 0 := h4
        refine RUN ?_
        refine TC.cP rfl (fun h5 => ?_) fun h5 => ?_
        · rw [if_pos ⟨h4, h5⟩] at hstep
          refine RUN ?_
          refine RP.bs rfl rfl rfl fun b => ?_
          refine RP.ap rfl rfl rfl (ap_one (e := w) encI_len (.c (.n (.n .h)) (.c .h .e)) (by omega)) fun s' => ?_
          refine RUN ?_
          refine lp_n (i + 1, s') (by simp only; omega) (by simp only; omega) ⟨rfl, rfl, rfl, rfl, rfl, rfl, trivial⟩ ?_
          simp only
          rw [← hstep]
          exact LEnt.of (.c .h (.c (.n .h) (.c .h .e)))
        · rw [if_neg (fun hc => h5 hc.2)] at hstep
          refine RUN ?_
          refine lp_n (i + 1, s) (by simp only; omega) (by simp only; omega) ⟨rfl, rfl, rfl, rfl, rfl, rfl, trivial⟩ ?_
          simp only
          rw [← hstep]
          exact LEnt.of (.c (.n .h) (.c (.n .h) (.c .h .e)))
      · have h4 : ¬ c = 0 := h4
        rw [if_neg (fun hc => h4 hc.1)] at hstep
        refine RUN ?_
        refine lp_n (i + 1, s) (by simp only; omega) (by simp only; omega) ⟨rfl, rfl, rfl, rfl, rfl, rfl, trivial⟩ ?_
        simp only
        rw [← hstep]
        exact LEnt.of (.c (.n .h) (.c (.n .h) (.c .h .e)))
    · have : i = hs.length := by omega
      subst this
      rw [List.take_length] at hQ
      refine RUN ?_
      refine md_n s trivial ⟨rfl, trivial⟩ ?_
      rw [hfree, ← hQ]
      exact LEnt.of (.c .h (.c (.n .h) .e))
  · intro s _
    refine RUN ?_
    refine RP.c rfl (xClip_tri s _) (.c .h .e) rfl ?_
    rintro v P' ⟨s', rfl, rfl⟩
    refine RUN ?_
    exact rt_r rfl ⟨s', rfl, rfl⟩ (LEnt.refl _)
end
end Go.AM

/-
  mtx: the laws' first question.
-/
namespace Go.AM
set_option maxHeartbeats 8000000
attribute [local irreducible] sq bk lpK mdx rt TC RP WK Cel Ro Row Fre RowsA RowsBut

def muIB (S : MS) : Bool := decide (1 ≤ S.1.length) && decide (S.1.length ≤ 9) && (S.1.all fun μ => (μ.w.all fun w => decide (1 ≤ w ∧ w ≤ 16)) && decide μ.w.Nodup && decide (0 ≤ μ.ow ∧ μ.ow ≤ 16)) && S.2.all fun τ => decide (0 ≤ τ.w ∧ τ.w < S.1.length)
theorem muIB_ok {S : MS} (h : muIB S = true) : MuI S.1 S.2 := by
  simp only [muIB, Bool.and_eq_true, decide_eq_true_eq, List.all_eq_true] at h
  obtain ⟨⟨⟨h1, h2⟩, h3⟩, h4⟩ := h
  exact ⟨⟨h1, h2, fun μ hμ => (h3 μ hμ).1.1, fun μ hμ => (h3 μ hμ).1.2⟩, fun μ hμ => (h3 μ hμ).2, h4⟩
theorem no_row {S : MS} {m : Nat} {n : Int} (h : (muw S.1 m).contains n = false) : ∀ μ, S.1[m]? = some μ → n ∉ μ.w := by
  intro μ hμ hn
  rw [muw_some hμ] at h
  have : μ.w.contains n = true := by simpa using hn
  rw [this] at h; cases h

def kS0 : MS := ([mu0, ⟨2, 0, 0, []⟩, ⟨3, 2, 0, []⟩], List.replicate 17 tk0)
def kS1 : MS := (setBF kS0.1 kS0.2 1 9).2
def kS2 : MS := (setBF kS1.1 kS1.2 2 4).2
def kS3 : MS := (lockF kS2.1 kS2.2 1 1).2
def kS4 : MS := (lockF kS3.1 kS3.2 1 2).2
def kS5 : MS := (unlF kS4.1 kS4.2 1 1).2
def kS6 : MS := (unlF kS5.1 kS5.2 1 1).2
def kS7 : MS := (tryF kS6.1 kS6.2 2 1).2
abbrev MxS (a : Nat) (S : MS) : Asr := MxA a S.1 S.2

theorem known15_tri : Tri tab mext F.detentlaw15_known [] [] fun v P' => v = bl true ∧ P' = [] := by
  refine Tri.go tab_detentlaw15_known rfl ?_
  refine RUN ?_
  refine RP.bs rfl rfl rfl fun b => ?_
  refine RP.ent (row_made (enc := encK) (k := 2) (c := 2) (r := [(2, 0), (3, 2)]) rfl (by simp) (by simp)) ?_
  refine RP.c rfl (new_tri _ [(2, 0), (3, 2)]) (.c .h .e) rfl ?_
  rintro v P' (⟨h, _⟩ | ⟨_, a, rfl, rfl⟩)
  · rcases h with h | h
    · simp at h
    · exact absurd (by decide) h
  refine RUN ?_
  refine RP.ent (L' := [MxS a kS0]) (LEnt.of (.c .h .e)) ?_
  refine RP.c rfl (setB_tri (muIB_ok (S := kS0) (by kernel_rfl)) 1 9) (.c .h .e) rfl ?_
  rintro v P' ⟨rfl, rfl⟩
  rw [show (setBF kS0.1 kS0.2 1 9).1 = 0 by kernel_rfl, show (setBF kS0.1 kS0.2 1 9).2 = kS1 from rfl]
  refine RUN ?_
  refine RP.c rfl (setB_tri (muIB_ok (S := kS1) (by kernel_rfl)) 2 4) (.c .h .e) rfl ?_
  rintro v P' ⟨rfl, rfl⟩
  rw [show (setBF kS1.1 kS1.2 2 4).1 = 0 by kernel_rfl, show (setBF kS1.1 kS1.2 2 4).2 = kS2 from rfl]
  refine RUN ?_
  refine RP.c rfl (lock_tri (muIB_ok (S := kS2) (by kernel_rfl)) 1 1 (fun _ => no_row (S := kS2) (m := 1) (by kernel_rfl))) (.c .h .e) rfl ?_
  rintro v P' ⟨rfl, rfl⟩
  rw [show (lockF kS2.1 kS2.2 1 1).1 = (true, 0) by kernel_rfl, show (lockF kS2.1 kS2.2 1 1).2 = kS3 from rfl]
  refine RUN ?_
  refine RP.c rfl (lock_tri (muIB_ok (S := kS3) (by kernel_rfl)) 1 2 (fun _ => no_row (S := kS3) (m := 1) (by kernel_rfl))) (.c .h .e) rfl ?_
  rintro v P' ⟨rfl, rfl⟩
  rw [show (lockF kS3.1 kS3.2 1 2).1 = (false, 0) by kernel_rfl, show (lockF kS3.1 kS3.2 1 2).2 = kS4 from rfl]
  refine RUN ?_
  refine RP.c rfl (Pri_tri 1) (.c .h .e) rfl ?_
  rintro v P' ⟨rfl, rfl⟩
  rw [show (if (1 : Int) ≤ 1 ∧ (1 : Int) ≤ 16 then tkp kS4.2 1 else 0) = 4 by kernel_rfl]
  refine RUN ?_
  refine RP.c rfl (unl_tri (muIB_ok (S := kS4) (by kernel_rfl)) 1 1) (.c .h .e) rfl ?_
  rintro v P' ⟨rfl, rfl⟩
  rw [show (unlF kS4.1 kS4.2 1 1).1 = (2, 0) by kernel_rfl, show (unlF kS4.1 kS4.2 1 1).2 = kS5 from rfl]
  refine RUN ?_
  refine RP.c rfl (unl_tri (muIB_ok (S := kS5) (by kernel_rfl)) 1 1) (.c .h .e) rfl ?_
  rintro v P' ⟨rfl, rfl⟩
  rw [show (unlF kS5.1 kS5.2 1 1).1 = (0, -28) by kernel_rfl, show (unlF kS5.1 kS5.2 1 1).2 = kS6 from rfl]
  refine RUN ?_
  refine RP.c rfl (try_tri (muIB_ok (S := kS6) (by kernel_rfl)) 2 1) (.c .h .e) rfl ?_
  rintro v P' ⟨rfl, rfl⟩
  rw [show (tryF kS6.1 kS6.2 2 1).1 = (true, 0) by kernel_rfl, show (tryF kS6.1 kS6.2 2 1).2 = kS7 from rfl]
  refine RUN ?_
  refine RP.c rfl (Pri_tri 1) (.c .h .e) rfl ?_
  rintro v P' ⟨rfl, rfl⟩
  rw [show (if (1 : Int) ≤ 1 ∧ (1 : Int) ≤ 16 then tkp kS7.2 1 else 0) = 2 by kernel_rfl]
  refine RUN ?_
  refine RP.c rfl (Base_tri 1) (.c .h .e) rfl ?_
  rintro v P' ⟨rfl, rfl⟩
  rw [show (if (1 : Int) ≤ 1 ∧ (1 : Int) ≤ 16 then tkb kS7.2 1 else 0) = 9 by kernel_rfl]
  refine RUN ?_
  refine RP.c rfl (Owner_tri 1) (.c .h .e) rfl ?_
  rintro v P' ⟨rfl, rfl⟩
  rw [show (if (1 : Int) ≤ 1 ∧ (1 : Int) < kS7.1.length then mow kS7.1 1 else 0) = 2 by kernel_rfl]
  refine RUN ?_
  refine RP.c rfl (held_tri (muIB_ok (S := kS7) (by kernel_rfl)).v 1) (.c .h .e) rfl ?_
  rintro v P' ⟨s, rfl, rfl⟩
  rw [show heldF kS7.1 1 = [2] by kernel_rfl]
  refine RUN ?_
  exact rt_r rfl ⟨rfl, rfl⟩ (LEnt.of .e)
end Go.AM

/-
  MutexCeilings: one task, ceilings; the plain law.
-/
namespace Go.AM

/-- Mutexes with a ceiling that task 1 has, or nobody. -/
structure CeZ (ms : List Mu) : Prop where
  h0 : ms[0]? = some mu0
  h : ∀ μ ∈ ms.drop 1, μ.at_ = 3 ∧ μ.w = [] ∧ (μ.ow = 0 ∨ μ.ow = 1)
def tsS (b p : Int) : List Tk := tk0 :: ⟨b, p, 0⟩ :: List.replicate 15 tk0
def pf (ms : List Mu) (b : Int) : Int := (ms.drop 1).foldl (fun p x => if x.ow ≠ 1 then p else mn p x.ce) b

theorem CeZ.at {ms : List Mu} (h : CeZ ms) {m : Nat} {μ : Mu} (hm : ms[m]? = some μ) : μ.w = [] ∧ (1 ≤ m → μ.at_ = 3 ∧ (μ.ow = 0 ∨ μ.ow = 1)) := by
  cases m with
  | zero => rw [h.h0] at hm; cases hm; exact ⟨rfl, fun h => absurd h (by omega)⟩
  | succ m =>
    have : μ ∈ ms.drop 1 := List.mem_of_getElem? (i := m) (by rw [List.getElem?_drop, Nat.add_comm]; exact hm)
    have h1 := h.h μ this
    exact ⟨h1.2.1, fun _ => ⟨h1.1, h1.2.2⟩⟩

theorem CeZ.muw {ms : List Mu} (h : CeZ ms) (m : Nat) : muw ms m = [] := by
  unfold Go.AM.muw
  cases hm : ms[m]? with
  | none => rfl
  | some μ => exact (h.at hm).1

theorem foldl_same {α β : Type} {f : β → α → β} {b : β} : ∀ (l : List α), (∀ x ∈ l, f b x = b) → l.foldl f b = b
  | [], _ => rfl
  | x :: l, h => by rw [List.foldl_cons, h x (by simp)]; exact foldl_same l fun y hy => h y (by simp [hy])

theorem CeZ.rk1 {ms : List Mu} (h : CeZ ms) {ts : List Tk} {f : Nat} : rk ms ts (f + 1) 1 = pf ms (tkb ts 1) := by
  have : ∀ (l : List Mu) (p : Int), (∀ μ ∈ l, μ.at_ = 3 ∧ μ.w = [] ∧ (μ.ow = 0 ∨ μ.ow = 1)) → l.foldl (fun p x => if x.ow ≠ 1 then p else if x.at_ = 3 then mn p x.ce else if x.at_ = 2 then x.w.foldl (fun p w => mn p (rk ms ts f w)) p else p) p = l.foldl (fun p x => if x.ow ≠ 1 then p else mn p x.ce) p := by
    intro l
    induction l with
    | nil => intro p _; rfl
    | cons x l ih =>
      intro p hl
      simp only [List.foldl_cons]
      rw [if_pos (hl x (by simp)).1]
      exact ih _ fun μ hμ => hl μ (by simp [hμ])
  exact this _ _ h.h
theorem CeZ.rkn {ms : List Mu} (h : CeZ ms) {ts : List Tk} {f : Nat} {n : Int} (h2 : 2 ≤ n) : rk ms ts (f + 1) n = tkb ts n := by
  rw [rk]
  refine foldl_same _ fun x hx => ?_
  have := (h.h x hx).2.2
  rw [if_pos (by rcases this with h | h <;> omega)]

theorem setps_get (pri : Int → Int) (ts : List Tk) : ∀ (k i : Nat), ((List.range' 1 k).foldl (fun t (j : Nat) => setp t j (pri j)) ts)[i]? = (if 1 ≤ i ∧ i ≤ k then (ts[i]?).map (fun τ => { τ with p := pri i }) else ts[i]?)
  | 0, i => by
    rw [if_neg (by omega)]; rfl
  | k + 1, i => by
    have ih := setps_get pri ts k
    rw [List.range'_concat, List.foldl_append, List.foldl_cons, List.foldl_nil]
    generalize (List.range' 1 k).foldl (fun t (j : Nat) => setp t j (pri j)) ts = t at ih
    have e : 1 + 1 * k = k + 1 := by omega
    rw [e]
    unfold setp
    rw [show (((k + 1 : Nat) : Int)).toNat = k + 1 from rfl]
    have h1 := ih (k + 1)
    rw [if_neg (by omega)] at h1
    by_cases hi : i = k + 1
    · subst hi
      rw [if_pos (by omega), h1]
      cases h2 : ts[k + 1]? with
      | none => rw [h2] at h1; exact h1
      | some τ =>
        rw [h2] at h1
        show (t.set (k + 1) _)[k + 1]? = _
        rw [List.getElem?_set_self (List.getElem?_eq_some_iff.1 h1).1]; rfl
    · have h3 := ih i
      have h5 : (if 1 ≤ i ∧ i ≤ k + 1 then (ts[i]?).map (fun τ => { τ with p := pri i }) else ts[i]?) = t[i]? := by
        rw [h3]
        by_cases h4 : 1 ≤ i ∧ i ≤ k
        · rw [if_pos h4, if_pos (by omega)]
        · rw [if_neg h4, if_neg (by omega)]
      rw [h5]
      cases t[k + 1]? with
      | none => rfl
      | some τ => exact List.getElem?_set_ne (Ne.symm hi)
theorem setpsZ (pri : Int → Int) (b p P : Int) (h1 : pri 1 = P) (hn : ∀ n : Nat, 2 ≤ n → n ≤ 16 → pri n = 16) : (List.range' 1 16).foldl (fun t (j : Nat) => setp t j (pri j)) (tsS b p) = tsS b P := by
  refine List.ext_getElem? fun i => ?_
  rw [setps_get]
  match i with
  | 0 => rfl
  | 1 => rw [if_pos (by omega)]; subst h1; rfl
  | i + 2 =>
    by_cases hi : i + 2 ≤ 16
    · rw [if_pos ⟨by omega, hi⟩, hn (i + 2) (by omega) hi]
      have : (tsS b p)[i + 2]? = some tk0 := by
        show (List.replicate 15 tk0)[i]? = _
        rw [List.getElem?_replicate, if_pos (by omega)]
      rw [this]
      have : (tsS b P)[i + 2]? = some tk0 := by
        show (List.replicate 15 tk0)[i]? = _
        rw [List.getElem?_replicate, if_pos (by omega)]
      rw [this]; rfl
    · rw [if_neg (by omega)]
      rfl
theorem tkbZ (b p : Int) (n : Nat) (h1 : 2 ≤ n) (h2 : n ≤ 16) : tkb (tsS b p) n = 16 := by
  obtain ⟨i, rfl⟩ : ∃ i, n = i + 2 := ⟨n - 2, by omega⟩
  have : (tsS b p)[i + 2]? = some tk0 := by
    show (List.replicate 15 tk0)[i]? = _
    rw [List.getElem?_replicate, if_pos (by omega)]
  unfold tkb
  rw [show (((i + 2 : Nat) : Int)).toNat = i + 2 from rfl, this]; rfl
theorem settleZ {ms : List Mu} (h : CeZ ms) (b p : Int) : settleF ms (tsS b p) = (ms, tsS b (pf ms b)) := by
  have e1 : (List.range' 1 (ms.length - 1)).foldl (stlM (rk ms (tsS b p) 17)) (ms, tsS b p) = (ms, tsS b p) := by
    refine foldl_same _ fun m _ => ?_
    unfold stlM
    rw [h.muw m]; rfl
  have e2 : rk ms (tsS b p) 17 1 = pf ms b := h.rk1
  have e3 : ∀ n : Int, 2 ≤ n → rk ms (tsS b p) 17 n = tkb (tsS b p) n := fun n hn => h.rkn hn
  unfold settleF
  simp only [e1]
  generalize rk ms (tsS b p) 17 = pri at e2 e3
  rw [setpsZ pri b p _ e2 fun n h1 h2 => by rw [e3 n (by omega)]; exact tkbZ b p n h1 h2]
end Go.AM

/-
  MutexCeilings: what the calls do.
-/
namespace Go.AM

theorem CeZ.muI {ms : List Mu} (h : CeZ ms) (hl : ms.length ≤ 9) (b p : Int) : MuI ms (tsS b p) := by
  have hmem : ∀ μ ∈ ms, μ.w = [] ∧ (0 ≤ μ.ow ∧ μ.ow ≤ 16) := by
    intro μ hμ
    obtain ⟨m, hm⟩ := List.mem_iff_getElem?.1 hμ
    refine ⟨(h.at hm).1, ?_⟩
    cases m with
    | zero => rw [h.h0] at hm; cases hm; exact ⟨by decide, by decide⟩
    | succ m => have := ((h.at hm).2 (by omega)).2; omega
  have h1 : 1 ≤ ms.length := by
    have := (List.getElem?_eq_some_iff.1 h.h0).1; omega
  refine ⟨⟨h1, hl, fun μ hμ => ?_, fun μ hμ => ?_⟩, fun μ hμ => (hmem μ hμ).2, fun τ hτ => ?_⟩
  · rw [(hmem μ hμ).1]; intro w hw; cases hw
  · rw [(hmem μ hμ).1]; exact List.nodup_nil
  · have : τ.w = 0 := by
      rcases List.mem_cons.1 hτ with rfl | hτ
      · rfl
      rcases List.mem_cons.1 hτ with rfl | hτ
      · rfl
      rw [(List.mem_replicate.1 hτ).2]; rfl
    omega
theorem CeZ.setO {ms : List Mu} (h : CeZ ms) {m : Nat} (hm : 1 ≤ m) {o : Int} (ho : o = 0 ∨ o = 1) : CeZ (setO ms m o) where
  h0 := by
    unfold Go.AM.setO
    cases h1 : ms[((m : Nat) : Int).toNat]? with
    | none => exact h.h0
    | some μ =>
      show (ms.set m _)[0]? = _
      rw [List.getElem?_set_ne (by omega)]; exact h.h0
  h := by
    unfold Go.AM.setO
    cases h1 : ms[((m : Nat) : Int).toNat]? with
    | none => exact h.h
    | some μ =>
      show ∀ x ∈ (ms.set m _).drop 1, _
      intro x hx
      obtain ⟨i, hi⟩ := List.mem_iff_getElem?.1 hx
      rw [List.getElem?_drop, List.getElem?_set] at hi
      split at hi
      · split at hi
        · cases hi
          have h2 := h.at (m := m) h1
          exact ⟨(h2.2 hm).1, h2.1, ho⟩
        · cases hi
      · exact h.h x (List.mem_of_getElem? (i := i) (by rw [List.getElem?_drop]; exact hi))
theorem tsS16 : List.replicate 17 tk0 = tsS 16 16 := rfl
theorem setbZ (b p c : Int) : setb (tsS b p) 1 c = tsS c p := rfl
theorem tkpZ (b p : Int) : tkp (tsS b p) 1 = p := rfl
theorem tkbZ1 (b p : Int) : tkb (tsS b p) 1 = b := rfl
theorem tkwZ1 (b p : Int) : tkw (tsS b p) 1 = 0 := rfl

def pfL (cs : List Int) (b : Int) : Int := cs.foldl (fun p c => if c ≤ b then mn p c else p) b
theorem pfL0 {cs : List Int} {b : Int} : pfL (cs.take 0) b = b := rfl
def zM (b : Int) (cs : List Int) (i : Nat) : List Mu := mu0 :: cs.mapIdx fun j c => ⟨3, c, if j < i ∧ c ≤ b then 1 else 0, []⟩
theorem zM_ce (b : Int) (cs : List Int) (i : Nat) : CeZ (zM b cs i) where
  h0 := rfl
  h := by
    intro μ hμ
    obtain ⟨j, hj⟩ := List.mem_iff_getElem?.1 hμ
    rw [show (zM b cs i).drop 1 = cs.mapIdx fun j c => (⟨3, c, if j < i ∧ c ≤ b then 1 else 0, []⟩ : Mu) from rfl, List.getElem?_mapIdx] at hj
    cases hc : cs[j]? with
    | none => rw [hc] at hj; cases hj
    | some c =>
      rw [hc] at hj
      cases hj
      refine ⟨rfl, rfl, ?_⟩
      have : ∀ (P : Prop) [Decidable P], (if P then (1 : Int) else 0) = 0 ∨ (if P then (1 : Int) else 0) = 1 := by
        intro P _
        split
        · exact .inr rfl
        · exact .inl rfl
      exact this _
theorem zM_at {b : Int} {cs : List Int} {i j : Nat} {c : Int} (h : cs[j]? = some c) : (zM b cs i)[j + 1]? = some ⟨3, c, if j < i ∧ c ≤ b then 1 else 0, []⟩ := by
  rw [show (zM b cs i)[j + 1]? = (cs.mapIdx fun j c => (⟨3, c, if j < i ∧ c ≤ b then 1 else 0, []⟩ : Mu))[j]? from rfl, List.getElem?_mapIdx, h]; rfl
theorem zM_len {b : Int} {cs : List Int} {i : Nat} : (zM b cs i).length = cs.length + 1 := by simp [zM]
theorem zM_pf {b : Int} : ∀ {cs : List Int} {i : Nat}, pf (zM b cs i) b = pfL (cs.take i) b := by
  have : ∀ (cs : List Int) (i : Nat) (p : Int), (cs.mapIdx fun j c => (⟨3, c, if j < i ∧ c ≤ b then 1 else 0, []⟩ : Mu)).foldl (fun p x => if x.ow ≠ 1 then p else mn p x.ce) p = (cs.take i).foldl (fun p c => if c ≤ b then mn p c else p) p := by
    intro cs
    induction cs with
    | nil => intro i p; simp
    | cons c cs ih =>
      intro i p
      rw [List.mapIdx_cons, List.foldl_cons]
      cases i with
      | zero =>
        have := ih 0 p
        simp only [Nat.not_lt_zero, false_and, if_false, List.take_zero, List.foldl_nil] at this ⊢
        exact this
      | succ i =>
        rw [List.take_succ_cons, List.foldl_cons]
        have e : (fun (j : Nat) (c : Int) => (⟨3, c, if j + 1 < i + 1 ∧ c ≤ b then 1 else 0, []⟩ : Mu)) = fun j c => ⟨3, c, if j < i ∧ c ≤ b then 1 else 0, []⟩ := by
          funext j c; simp
        rw [e, ih i]
        congr 1
        by_cases hc : c ≤ b
        · simp [hc]
        · simp [hc]
  intro cs i
  exact this cs i b
theorem zM_out {b : Int} {cs : List Int} {i : Nat} {c : Int} (h : cs[i]? = some c) (hc : ¬ c ≤ b) : zM b cs (i + 1) = zM b cs i := by
  refine List.ext_getElem? fun j => ?_
  cases j with
  | zero => rfl
  | succ j =>
    cases hj : cs[j]? with
    | none =>
      have := List.getElem?_eq_none_iff.1 hj
      rw [List.getElem?_eq_none_iff.2 (by rw [zM_len]; omega), List.getElem?_eq_none_iff.2 (by rw [zM_len]; omega)]
    | some d =>
      rw [zM_at hj, zM_at hj]
      have : (j < i + 1 ∧ d ≤ b) ↔ (j < i ∧ d ≤ b) := by
        constructor
        · rintro ⟨h1, h2⟩
          refine ⟨?_, h2⟩
          by_cases h3 : j = i
          · subst h3; rw [h] at hj; cases hj; exact absurd h2 hc
          · omega
        · rintro ⟨h1, h2⟩; exact ⟨by omega, h2⟩
      simp only [this]
theorem zM_in {b : Int} {cs : List Int} {i : Nat} {c : Int} (h : cs[i]? = some c) (hc : c ≤ b) : setO (zM b cs i) ((i + 1 : Nat) : Int) 1 = zM b cs (i + 1) := by
  rw [setO_some (m := ((i + 1 : Nat) : Int)) (μ := ⟨3, c, 0, []⟩) (by
    have := zM_at (b := b) (i := i) h
    rw [if_neg (by omega)] at this
    exact this)]
  show (zM b cs i).set (i + 1) _ = _
  refine List.ext_getElem? fun j => ?_
  cases j with
  | zero => rw [List.getElem?_set_ne (by omega)]; rfl
  | succ j =>
    by_cases h3 : j = i
    · subst h3
      rw [zM_at h, List.getElem?_set_self (by rw [zM_len]; have := (List.getElem?_eq_some_iff.1 h).1; omega), if_pos ⟨by omega, hc⟩]
    · rw [List.getElem?_set_ne (by omega)]
      cases hj : cs[j]? with
      | none =>
        have := List.getElem?_eq_none_iff.1 hj
        rw [List.getElem?_eq_none_iff.2 (by rw [zM_len]; omega), List.getElem?_eq_none_iff.2 (by rw [zM_len]; omega)]
      | some d =>
        rw [zM_at hj, zM_at hj]
        have : (j < i + 1 ∧ d ≤ b) ↔ (j < i ∧ d ≤ b) := by
          constructor <;> rintro ⟨h1, h2⟩ <;> exact ⟨by omega, h2⟩
        simp only [this]

theorem lockZ {b p : Int} {cs : List Int} {i : Nat} {c : Int} (h : cs[i]? = some c) (hp : p = pfL (cs.take i) b) :
    lockF (zM b cs i) (tsS b p) ((i : Nat) + 1 : Int) 1 = ((decide (c ≤ b), if c ≤ b then 0 else -28), (zM b cs (i + 1), tsS b (pfL (cs.take (i + 1)) b))) := by
  have hi := (List.getElem?_eq_some_iff.1 h).1
  have hat := zM_at (b := b) (i := i) h
  rw [if_neg (by omega)] at hat
  have e1 : mow (zM b cs i) ((i : Nat) + 1 : Int) = 0 := mow_some (m := ((i : Nat) + 1 : Int)) (μ := ⟨3, c, 0, []⟩) hat
  have e2 : mat (zM b cs i) ((i : Nat) + 1 : Int) = 3 := by simp only [mat]; rw [show ((i : Nat) + 1 : Int).toNat = i + 1 from rfl, hat]; rfl
  have e3 : mce (zM b cs i) ((i : Nat) + 1 : Int) = c := by simp only [mce]; rw [show ((i : Nat) + 1 : Int).toNat = i + 1 from rfl, hat]; rfl
  have et : tryF (zM b cs i) (tsS b p) ((i : Nat) + 1 : Int) 1 = ((decide (c ≤ b), if c ≤ b then 0 else -28), (zM b cs (i + 1), tsS b (pfL (cs.take (i + 1)) b))) := by
    unfold tryF
    rw [if_neg (by rw [zM_len]; omega), e1, e2, e3, tkbZ1, tkwZ1]
    by_cases hc : c ≤ b
    · rw [if_neg (by omega), if_neg (by omega), if_pos rfl, if_pos hc]
      have := zM_in h hc
      rw [show (((i + 1 : Nat)) : Int) = (i : Nat) + 1 from rfl] at this
      rw [this, settleZ (zM_ce b cs (i + 1)), zM_pf]
      simp [hc]
    · rw [if_pos (.inr ⟨rfl, by omega⟩), if_neg hc, zM_out h hc, List.take_add_one, h]
      have : pfL (cs.take i ++ [c]) b = pfL (cs.take i) b := by
        unfold pfL
        rw [List.foldl_append, List.foldl_cons, List.foldl_nil, if_neg hc]
      rw [show (some c).toList = [c] from rfl, this, hp]
      simp [hc]
  unfold lockF
  rw [et]
  by_cases hc : c ≤ b
  · rw [if_pos (.inl (by simpa using hc))]
  · rw [if_pos (.inr (by simp [hc]))]

theorem setBZ {b : Int} (cs : List Int) (hb : 1 ≤ b ∧ b ≤ 16) : setBF (zM b cs 0) (tsS 16 16) 1 b = (0, (zM b cs 0, tsS b b)) := by
  unfold setBF
  rw [if_neg (by omega), if_neg (by omega)]
  have : sbBad (zM b cs 0) (tsS 16 16) 1 b ((zM b cs 0).length - 1) = false := by
    unfold sbBad
    rw [List.any_eq_false]
    intro m hm
    have hm := List.mem_range'_1.1 hm
    rw [zM_len] at hm
    obtain ⟨j, rfl⟩ : ∃ j, m = j + 1 := ⟨m - 1, by omega⟩
    have hj : cs[j]? = some cs[j] := List.getElem?_eq_getElem (by omega)
    have hat := zM_at (b := b) (i := 0) hj
    rw [if_neg (by omega)] at hat
    have e1 : mow (zM b cs 0) ((j + 1 : Nat) : Int) = 0 := mow_some (m := ((j + 1 : Nat) : Int)) (μ := ⟨3, cs[j], 0, []⟩) hat
    rw [e1, tkwZ1]
    simp
    omega
  rw [this, if_neg (by simp), setbZ, settleZ (zM_ce b cs 0), zM_pf]
  rfl

theorem unlZ {ms : List Mu} (h : CeZ ms) {b p : Int} {m : Nat} (h1 : 1 ≤ m) (h2 : m < ms.length) (ho : mow ms m = 1) : unlF ms (tsS b p) m 1 = ((0, 0), (setO ms m 0, tsS b (pf (setO ms m 0) b))) := by
  have hc := h.setO h1 (o := 0) (.inl rfl)
  have hpass : passF ms (tsS b p) m = (setO ms m 0, tsS b p) := by
    unfold passF
    have : muw ms ((m : Int)).toNat = [] := h.muw m
    rw [this]
  unfold unlF
  rw [if_neg (by omega), if_neg (by rw [ho]; simp), hpass]
  simp only [stF]
  rw [settleZ hc]
  have : mow (setO ms m 0) m = 0 := by
    obtain ⟨μ, hμ⟩ : ∃ μ, ms[m]? = some μ := ⟨_, List.getElem?_eq_getElem h2⟩
    rw [setO_some (m := (m : Int)) hμ]
    refine mow_some (μ := { μ with ow := 0 }) ?_
    exact List.getElem?_set_self h2
  rw [this]
theorem freeZ {b : Int} : ∀ (l : List Int) (ms : List Mu) (r : List Int), CeZ ms → (∀ m ∈ l, 1 ≤ m ∧ m < ms.length ∧ mow ms m = 1) → l.Nodup → (∀ m : Nat, 1 ≤ m → m < ms.length → mow ms m = 1 → (m : Int) ∈ l) →
    ∃ ms', CeZ ms' ∧ ms'.length = ms.length ∧ l.foldl (freeStep 1) ((ms, tsS b (pf ms b)), r) = ((ms', tsS b (pf ms' b)), r) ∧ ∀ m : Nat, 1 ≤ m → m < ms.length → mow ms' m ≠ 1
  | [], ms, r, h, _, _, h2 => ⟨ms, h, rfl, rfl, fun m h3 h4 h5 => by cases h2 m h3 h4 h5⟩
  | x :: l, ms, r, h, h1, hnd, h2 => by
    obtain ⟨hx1, hx2, hx3⟩ := h1 x (by simp)
    obtain ⟨m, rfl⟩ : ∃ m : Nat, x = m := ⟨x.toNat, by omega⟩
    have hu := unlZ h (b := b) (p := pf ms b) (m := m) (by omega) (by omega) hx3
    have hget : ∀ k : Nat, k ≠ m → mow (setO ms m 0) k = mow ms k := by
      intro k hk
      unfold mow setO
      cases ms[((m : Int)).toNat]? with
      | none => rfl
      | some μ =>
        show Option.getD (((ms.set m _)[k]?).map _) 0 = Option.getD ((ms[k]?).map _) 0
        rw [List.getElem?_set_ne (Ne.symm hk)]
    have hself : mow (setO ms m 0) m = 0 := by
      obtain ⟨μ, hμ⟩ : ∃ μ, ms[m]? = some μ := ⟨_, List.getElem?_eq_getElem (by omega)⟩
      rw [setO_some (m := (m : Int)) hμ]
      refine mow_some (μ := { μ with ow := 0 }) ?_
      exact List.getElem?_set_self (by omega)
    have hnd := List.nodup_cons.1 hnd
    obtain ⟨ms', k1, k2, k3, k4⟩ := freeZ l (setO ms m 0) r (h.setO (by omega) (.inl rfl)) (fun y hy => by
      obtain ⟨y1, y2, y3⟩ := h1 y (by simp [hy])
      obtain ⟨k, rfl⟩ : ∃ k : Nat, y = k := ⟨y.toNat, by omega⟩
      refine ⟨y1, by rw [setO_len]; exact y2, ?_⟩
      rw [hget k (by rintro rfl; exact hnd.1 hy)]; exact y3) hnd.2 (fun k hk1 hk2 hk3 => by
        by_cases hkm : k = m
        · subst hkm; rw [hself] at hk3; cases hk3
        · rw [hget k hkm] at hk3
          rw [setO_len] at hk2
          rcases List.mem_cons.1 (h2 k hk1 hk2 hk3) with h | h
          · omega
          · exact h)
    refine ⟨ms', k1, by rw [k2, setO_len], ?_, fun k hk1 hk2 => k4 k hk1 (by rw [setO_len]; exact hk2)⟩
    rw [List.foldl_cons, freeStep, hu]
    exact k3
theorem freeZZ {b : Int} {ms : List Mu} (h : CeZ ms) : ∃ ms' r, CeZ ms' ∧ ms'.length = ms.length ∧ freeF ms (tsS b (pf ms b)) 1 = ((ms', tsS b b), r) ∧ heldF ms' 1 = [] := by
  have hl : heldF ms 1 = heldN ms 1 (ms.length - 1) := by rw [heldF, if_pos (by omega)]
  obtain ⟨ms', k1, k2, k3, k4⟩ := freeZ (b := b) (heldF ms 1) ms [] h (fun m hm => by
    rw [hl] at hm
    obtain ⟨k, hk, rfl⟩ := List.mem_map.1 hm
    obtain ⟨h1, h2⟩ := List.mem_filter.1 hk
    have h1 := List.mem_range'_1.1 h1
    refine ⟨by omega, by omega, by simpa using h2⟩) (by
    rw [hl]
    unfold heldN
    rw [List.Nodup, List.pairwise_map]
    refine ((List.nodup_range' (s := 1) (n := ms.length - 1)).filter _).imp ?_
    intro a b hab he
    exact hab (by omega)) (fun m h1 h2 h3 => by
    rw [hl]
    exact List.mem_map.2 ⟨m, List.mem_filter.2 ⟨List.mem_range'_1.2 (by omega), by simpa using h3⟩, rfl⟩)
  refine ⟨ms', [], k1, k2, ?_, ?_⟩
  · unfold freeF
    rw [k3]
    have : pf ms' b = b := by
      unfold pf
      refine foldl_same _ fun μ hμ => ?_
      obtain ⟨j, hj⟩ := List.mem_iff_getElem?.1 hμ
      rw [List.getElem?_drop] at hj
      have hlt := (List.getElem?_eq_some_iff.1 hj).1
      have := k4 (1 + j) (by omega) (by omega)
      rw [mow_some (m := ((1 + j : Nat) : Int)) hj] at this
      rw [if_pos this]
    rw [this]
  · rw [heldF, if_pos (by omega)]
    unfold heldN
    rw [List.filter_eq_nil_iff.2]
    · rfl
    · intro m hm
      have hm := List.mem_range'_1.1 hm
      have := k4 m (by omega) (by omega)
      simpa using this
end Go.AM

/-
  MutexCeilings: the walk.
-/
namespace Go.AM
set_option maxHeartbeats 8000000
attribute [local irreducible] sq bk lpK mdx rt TC RP WK Cel Ro Row Fre RowsA RowsBut
attribute [local irreducible] settleF stF passF unlF tryF lockF muW setO setw setp setb rk muw mow tkw tkb tkp insF standM sbBad setBF dropF freeF heldF zM tsS pfL

def ceK (xs : List Int) : List (Int × Int) := xs.map fun x => (3, 1 + x % 16)
def cel (xs : List Int) : List Int := xs.map fun x => 1 + x % 16
theorem ceZ0 (b : Int) (xs : List Int) : mu0 :: (ceK xs).map muK = zM b (cel xs) 0 := by
  unfold zM ceK cel
  congr 1
  refine List.ext_getElem? fun j => ?_
  rw [List.getElem?_mapIdx, List.getElem?_map, List.getElem?_map, List.getElem?_map]
  cases xs[j]? with
  | none => rfl
  | some x => simp [muK]
theorem pfL_in {cs : List Int} {b c : Int} {i : Nat} (h : cs[i]? = some c) (hc : c ≤ b) : pfL (cs.take (i + 1)) b = if c < pfL (cs.take i) b then c else pfL (cs.take i) b := by
  unfold pfL
  rw [List.take_add_one, h, show (some c).toList = [c] from rfl, List.foldl_append, List.foldl_cons, List.foldl_nil, if_pos hc]; rfl
theorem pfL_out {cs : List Int} {b c : Int} {i : Nat} (h : cs[i]? = some c) (hc : ¬ c ≤ b) : pfL (cs.take (i + 1)) b = pfL (cs.take i) b := by
  unfold pfL
  rw [List.take_add_one, h, show (some c).toList = [c] from rfl, List.foldl_append, List.foldl_cons, List.foldl_nil, if_neg hc]
theorem encK_len (k : Int × Int) : (encK k).length = 2 := rfl
theorem MutexCeilings_tri (b : Int) (xs : List Int) (s : SV) (hx : ∀ x ∈ xs, 0 ≤ x ∧ x ≤ 255) : Tri tab mext F.detentlaw15_MutexCeilings [i64 b, .s s] [ArgS (.int .u8) xs s] fun v _ => v = bl true := by
  refine Tri.go tab_detentlaw15_MutexCeilings rfl ?_
  refine RUN ?_
  refine RP.c rfl known15_tri .e rfl ?_
  rintro v P' ⟨rfl, rfl⟩
  refine RUN ?_
  refine RP.gq rfl (fun h1 => ?_) fun h1 => ?_
  · refine RUN ?_
    refine RP.gq rfl (fun h2 => ?_) fun h2 => ?_
    · refine RUN ?_
      refine TC.cP rfl (fun h3 => ?_) fun h3 => ?_
      · refine RUN ?_
        exact rt_r rfl rfl (LEnt.refl _)
      · refine RUN ?_
        refine TC.midb (α := SV) (fun _ => True) (fun q => [(0, i64 b), (4, bl false), (5, .s q)]) (fun q => [Row encK 2 q (ceK xs)]) ?_ ?_
        · refine TC.loop (fun q : Nat × SV => xs.length - q.1) (fun q => q.1 ≤ xs.length) (fun q => [(0, i64 b), (1, .s s), (4, bl false), (5, .s q.2), (6, i64 q.1)]) (fun q => [Row encK 2 q.2 (ceK (xs.take q.1)), ArgS (.int .u8) xs s]) (0, .slice none 0 0 1) (by omega) ⟨rfl, rfl, rfl, rfl, rfl, trivial⟩ (row_nil 1 _) ?_
          rintro ⟨i, q⟩ hi
          dsimp only at hi ⊢
          refine RUN ?_
          refine TC.cP rfl (fun h4 => ?_) fun h4 => ?_
          · obtain ⟨x, hxi⟩ : ∃ x, xs[i]? = some x := ⟨_, List.getElem?_eq_getElem (by omega)⟩
            have hx2 := hx x (List.mem_of_getElem? hxi)
            have hmod : x.tmod 16 = x % 16 := Int.tmod_eq_emod_of_nonneg hx2.1
            refine RUN ?_
            rw [hmod, wrap_i64 (by omega) (by omega)]
            refine RUN ?_
            refine RP.bs rfl rfl rfl fun c2 => ?_
            refine RP.ap rfl rfl rfl (ap_one (e := ((3, 1 + x % 16) : Int × Int)) encK_len (.c (.n .h) (.c .h .e)) (by simp [ceK]; omega)) fun q' => ?_
            refine RUN ?_
            refine lp_n (i + 1, q') (by simp only; omega) (by simp only; omega) ⟨rfl, rfl, rfl, rfl, rfl, trivial⟩ ?_
            have e : ceK (xs.take (i + 1)) = ceK (xs.take i) ++ [(3, 1 + x % 16)] := by
              rw [List.take_add_one, hxi]; simp [ceK]
            simp only
            rw [e]
            exact LEnt.of (.c .h (.c .h .e))
          · have : i = xs.length := by omega
            subst this
            refine RUN ?_
            rw [List.take_length]
            exact md_n q trivial ⟨rfl, rfl, rfl, trivial⟩ (LEnt.of (.c .h .e))
        · intro q _
          refine RUN ?_
          refine RP.c rfl (new_tri _ (ceK xs)) (.c .h .e) rfl ?_
          rintro v P' (⟨h, _⟩ | ⟨_, a, rfl, rfl⟩)
          · exfalso
            rcases h with h | h
            · simp [ceK] at h; omega
            · refine h fun k hk => ?_
              obtain ⟨x, hx1, rfl⟩ := List.mem_map.1 hk
              simp [rightF]; omega
          refine RUN ?_
          rw [ceZ0 b xs, tsS16]
          have hl8 : (zM b (cel xs) 0).length ≤ 9 := by rw [zM_len]; simp [cel]; omega
          refine RP.c rfl (setB_tri ((zM_ce b (cel xs) 0).muI hl8 16 16) 1 b) (.c .h .e) rfl ?_
          rintro v P' ⟨rfl, rfl⟩
          rw [setBZ (cel xs) (by omega)]
          refine RUN ?_
          refine TC.loop (fun i : Nat => xs.length - i) (fun i => i ≤ xs.length) (fun i => [(0, i64 b), (5, .s q), (7, ptr a), (9, i64 (pfL ((cel xs).take i) b)), (10, i64 i)]) (fun i => [MxA a (zM b (cel xs) i) (tsS b (pfL ((cel xs).take i) b)), Row encK 2 q (ceK xs)]) 0 (by omega) ⟨rfl, rfl, rfl, by rw [pfL0]; rfl, rfl, trivial⟩ (by rw [pfL0]; exact LEnt.refl _) ?_
          intro i hi
          refine RUN ?_
          refine TC.cP rfl (fun h4 => ?_) fun h4 => ?_
          · obtain ⟨x, hxi⟩ : ∃ x, xs[i]? = some x := ⟨_, List.getElem?_eq_getElem (by simp [ceK] at h4; omega)⟩
            have hci : (cel xs)[i]? = some (1 + x % 16) := by simp [cel, hxi]
            have hil : i < xs.length := (List.getElem?_eq_some_iff.1 hxi).1
            have hki : (ceK xs)[i]? = some (3, 1 + x % 16) := by simp [ceK, hxi]
            have hli : (zM b (cel xs) i).length ≤ 9 := by rw [zM_len]; simp [cel]; omega
            have hlk := lockZ (b := b) hci rfl
            rw [show ((i : Nat) + 1 : Int) = ((i + 1 : Nat) : Int) from rfl] at hlk
            refine RUN ?_
            refine RP.c rfl (lock_tri ((zM_ce b (cel xs) i).muI hli b _) ((i + 1 : Nat) : Int) 1 (fun _ μ hμ hn => by rw [((zM_ce b (cel xs) i).at hμ).1] at hn; cases hn)) (.c .h .e) rfl ?_
            rintro v P' ⟨rfl, rfl⟩
            rw [hlk]
            clear hlk
            by_cases hc : 1 + x % 16 ≤ b
            · rw [if_pos hc, decide_eq_true hc]
              dsimp only
              refine RUN ?_
              rw [show decide (b ≥ ((3 : Int), 1 + x % 16).snd) = true from decide_eq_true hc]
              refine RUN ?_
              have ep : pfL ((cel xs).take (i + 1)) b = if 1 + x % 16 < pfL ((cel xs).take i) b then 1 + x % 16 else pfL ((cel xs).take i) b := pfL_in hci hc
              refine TC.cP rfl (fun h5 => ?_) fun h5 => ?_
              · rw [if_pos h5] at ep
                refine RUN ?_
                refine RP.c rfl (Pri_tri 1) (.c .h .e) rfl ?_
                rintro v P' ⟨rfl, rfl⟩
                rw [if_pos (show (1 : Int) ≤ 1 ∧ (1 : Int) ≤ 16 by omega), tkpZ]
                refine RUN ?_
                refine TC.cP rfl (fun h6 => ?_) fun h6 => ?_
                · exact absurd ep h6
                refine RUN ?_
                exact lp_n (i + 1) (by omega) (by omega) ⟨rfl, rfl, rfl, by rw [ep]; rfl, rfl, trivial⟩ (LEnt.refl _)
              · rw [if_neg h5] at ep
                refine RUN ?_
                refine RP.c rfl (Pri_tri 1) (.c .h .e) rfl ?_
                rintro v P' ⟨rfl, rfl⟩
                rw [if_pos (show (1 : Int) ≤ 1 ∧ (1 : Int) ≤ 16 by omega), tkpZ]
                refine RUN ?_
                refine TC.cP rfl (fun h6 => ?_) fun h6 => ?_
                · exact absurd ep h6
                refine RUN ?_
                exact lp_n (i + 1) (by omega) (by omega) ⟨rfl, rfl, rfl, by rw [ep]; rfl, rfl, trivial⟩ (LEnt.refl _)
            · rw [if_neg hc, decide_eq_false hc]
              dsimp only
              refine RUN ?_
              rw [show decide (b ≥ ((3 : Int), 1 + x % 16).snd) = false from decide_eq_false hc]
              refine RUN ?_
              have ep : pfL ((cel xs).take (i + 1)) b = pfL ((cel xs).take i) b := pfL_out hci hc
              refine RP.c rfl (Pri_tri 1) (.c .h .e) rfl ?_
              rintro v P' ⟨rfl, rfl⟩
              rw [if_pos (show (1 : Int) ≤ 1 ∧ (1 : Int) ≤ 16 by omega), tkpZ]
              refine RUN ?_
              refine TC.cP rfl (fun h6 => ?_) fun h6 => ?_
              · exact absurd ep h6
              refine RUN ?_
              exact lp_n (i + 1) (by omega) (by omega) ⟨rfl, rfl, rfl, by rw [ep]; rfl, rfl, trivial⟩ (LEnt.refl _)
          · refine RUN ?_
            obtain ⟨ms', r, hce, hlen, hfr, hh⟩ := freeZZ (b := b) (zM_ce b (cel xs) i)
            rw [zM_pf] at hfr
            have hli : (zM b (cel xs) i).length ≤ 9 := by rw [zM_len]; simp [cel]; omega
            refine RP.c rfl (free_tri ((zM_ce b (cel xs) i).muI hli b _) 1) (.c .h .e) rfl ?_
            rintro v P' ⟨sr, rfl, rfl⟩
            rw [hfr]
            clear hfr
            dsimp only
            refine RUN ?_
            refine RP.c rfl (Pri_tri 1) (.c (.n .h) .e) rfl ?_
            rintro v P' ⟨rfl, rfl⟩
            rw [if_pos (show (1 : Int) ≤ 1 ∧ (1 : Int) ≤ 16 by omega), tkpZ]
            refine RUN ?_
            refine RP.gp rfl (fun _ => ?_) fun h => ?_
            · refine RUN ?_
              refine RP.c rfl (held_tri (hce.muI (by omega) b b).v 1) (.c .h .e) rfl ?_
              rintro v P' ⟨s2, rfl, rfl⟩
              rw [hh]
              refine RUN ?_
              exact rt_r rfl rfl (LEnt.refl _)
            · exact absurd rfl h
    · refine RUN ?_
      exact rt_r rfl rfl (LEnt.refl _)
  · refine RUN ?_
    exact rt_r rfl rfl (LEnt.refl _)
end Go.AM

/-
  FROM A LAW IN THE ABSTRACT MACHINE TO ITS STATEMENT's ROW, whatever its arguments are.
-/
namespace Go.AM
open Go.RowKit Go.ChangeShapes Go.WideShapes

theorem R2_of_all {α β : Type} {R : α → β → Prop} {f : α → β → Bool} (h : ∀ a b, f a b = true → R a b) : ∀ {ya : List α} {bs : List β}, ya.length = bs.length → ((ya.zip bs).all fun p => f p.1 p.2) = true → R2 R ya bs
  | [], [], _, _ => trivial
  | a :: ya, b :: bs, hl, hx => by
    simp only [List.zip_cons_cons, List.all_cons, Bool.and_eq_true] at hx
    exact ⟨h a b hx.1, R2_of_all h (by simpa using hl) hx.2⟩
  | [], _ :: _, hl, _ => by simp at hl
  | _ :: _, [], hl, _ => by simp at hl

theorem trodAll_stays {H : Type} {enc : TypeId × Value → H} {P : Program} (hl : laidOutB P = true) {W W' : World} {sp : Nat → Bool} : ∀ {ts : List TypeId} {vs : List Value} {ds : List (DataW H)} {ps : List MemPlace}, (ts.all fun t => P.readableRec t && decide (t < P.types.size)) = true → DataW.TrodAll enc P W 0 (fun _ => true) true ts vs ds ps → (∀ p ∈ ps, W.sameAt W' p) → (∀ p ∈ ps, sp p.block = true) → DataW.TrodAll enc P W' 0 sp true ts vs ds ps
  | [], vs, ds, ps, _, hA, _, _ => by
    obtain ⟨rfl, rfl, rfl⟩ := trodAll_nil hA
    exact trodAll_mk0
  | t :: ts, vs, ds, ps, hr, hA, hs, hsp => by
    simp only [List.all_cons, Bool.and_eq_true, decide_eq_true_eq] at hr
    obtain ⟨v, vs, d, ds, p, q, rfl, rfl, rfl, h0, h1⟩ := trodAll_cons hA
    exact trodAll_cons_mk (WideElems.Trod_stays hl hr.1.1 hr.1.2 h0 (fun x hx => hs x (by simp [hx])) fun x hx => hsp x (by simp [hx])) (trodAll_stays hl hr.2 h1 (fun x hx => hs x (by simp [hx])) fun x hx => hsp x (by simp [hx]))

/-- A law's run and its call; what was, is. -/
theorem law_walk2 {P : Program} {tab : Nat → Option RFunc} {ext : Nat → List AV → AH → Option (AV × AH)} (hext : ∀ B w0, CallsOk P [] B w0 ext) (hfr : FrmOk ext) (hnx : NextOk ext) (htab : TabOk P [] tab) (hmix : P.follows .mixedOrders = true) {f : Nat} {args : List AV} {H0 : AH} {φ0 : Phi} {w : World} {cargs : Array Value}
    (hH : HRel w.heap.size w φ0 H0 w) (hargs : R2 (AVRel φ0) args cargs.toList) (h : CallP tab ext f args H0 fun v _ => v = .s (.bool true)) :
    Calls P f cargs w fun e w' => e = .returned (.bool true) ∧ Grown w w' ∧ ∀ k, k < w.heap.size → w'.heap[k]? = w.heap[k]? := by
  obtain ⟨n, v, H', h1, rfl⟩ := h
  have hs := run_sound (G := []) (B := w.heap.size) (w0 := w) htab (hext _ _) hfr hnx hmix n
  refine (hs f args H0 _ H' h1 φ0 w cargs hH (fun _ hn => by cases hn) hargs).2.mono ?_
  rintro e w' ⟨φ', cv, rfl, _, h2, h3⟩
  have : cv = .bool true := h3
  subst this
  exact ⟨rfl, h2.grown, h2.old⟩

theorem lit_bounds {k : IntKind} {n : Int} (h : (Lit.int k n).wf = true) : k.min ≤ n ∧ n ≤ k.max := by
  simpa [Lit.wf] using h

section
variable {C : Checked} {tab : Nat → Option RFunc} {f : FuncId} {fn : Func} {s : ChangeSpec}

/-- The row's step. -/
theorem law_liftedX {ext : Nat → List AV → AH → Option (AV × AH)} (hext : ∀ B w0, CallsOk C.prog [] B w0 ext) (hfr : FrmOk ext) (hnx : NextOk ext) (tys : List Ty) (N : Nat) (bt : TypeId)
    (own : ownKnob C.prog.godebug = none) (htab : TabOk C.prog [] tab) (hmix : C.prog.follows .mixedOrders = true) (hlaid : laidOutB C.prog = true)
    (noInit : C.prog.inits.idxOf? f = none) (hfn : C.prog.funcs[f]? = some fn)
    (hread : (fn.params.toList.all fun t => C.prog.readableRec t && decide (t < C.prog.types.size)) = true)
    (hlen : tys.length = fn.params.toList.length) (hfit : ((tys.zip fn.params.toList).all fun p => fits C.prog p.1 p.2) = true)
    (hN : (tys.all Ty.good && decide ((tys.map Ty.cnt).sum ≤ N)) = true)
    (hres : fn.resultTypes = #[bt]) (hbt : C.prog.underlying bt = some .bool)
    (hvars : s.vars = []) (hspec : ∀ (H : Type) (ds : List (DataW H)), ds.length = tys.length → s.fn H ds = { results := [.lit (.bool true)], args := ds })
    (walk : ∀ H avs, WF H → H.next = N → ArgsAt H.blk tys avs → CallP tab ext f avs H fun v _ => v = .s (.bool true))
    (os : Os) (started : os.Started) (H : Type) (enc : TypeId × Value → H)
    (witness : ∃ (w : World) (tape : Tape) (i : Input), w.os = os ∧ (w.forCall tape i).Shaped C.prog ∧ i.vars = [] ∧ Input.okWide C.prog (w.forCall tape i) .any w.heap.size f i ∧
      s.pre6 enc C.prog fn [] false (w.forCall tape i).memory i.args ∧ ({} : Assume).holds C.prog (lone (Frame.enter C.prog f i.args .normal) [] (w.forCall tape i))) :
    ReturnsInHanded {} C os f .any (s.pre6 enc C.prog fn [] false) (s.post enc C.prog fn false true false false) := by
  refine returnsInHanded_of_change (C := C) own started noInit hfn witness ?_
  intro W base args ds gs before hval hW hcnd _
  have hW' := hW
  obtain ⟨p, q, hA, hV, rfl, hfz, hnd⟩ := hW
  rw [hvars] at hV
  obtain ⟨rfl, rfl⟩ := trodVars_none hV
  simp only [List.append_nil] at hW' hfz hnd
  have hfit' : R2 (fun ty t => fits C.prog ty t = true) tys fn.params.toList := R2_of_all (fun _ _ h => h) hlen hfit
  obtain ⟨M, avs, h1, h2, h3, h4⟩ := opens_args (L := []) hfit' (fun j t v ht hv => hval j t v (by simpa using ht) (by simpa using hv)) hA (fun e he => by cases he)
  simp only [List.nil_append] at h1 h2 h3
  simp only [Bool.and_eq_true, decide_eq_true_eq] at hN
  have hML : M.length ≤ N := Nat.le_trans (h4 hN.1) hN.2
  have hrel := roH_rel h1
  have hrel' : HRel W.heap.size W (roPhi M) ⟨roF M, N⟩ W := { hrel with lt := fun b hb => hrel.lt b (Nat.le_trans hML hb) }
  have hwf : WF ⟨roF M, N⟩ := fun b hb => hrel.lt b (Nat.le_trans hML hb)
  have hdl : ds.length = tys.length := by
    have key : ∀ {ts : List TypeId} {vs : List Value} {ds : List (DataW H)} {ps : List MemPlace}, DataW.TrodAll enc C.prog W 0 (fun _ => true) true ts vs ds ps → ds.length = ts.length := by
      intro ts
      induction ts with
      | nil => intro vs ds ps h; obtain ⟨_, rfl, _⟩ := trodAll_nil h; rfl
      | cons t ts ih => intro vs ds ps h; obtain ⟨v, vs, d, ds, p, q, rfl, rfl, rfl, _, hr⟩ := trodAll_cons h; simp [ih hr]
    rw [key hA, hlen]
  have hsp : s.fn H (ds ++ []) = { results := [.lit (.bool true)], args := ds } := by rw [List.append_nil]; exact hspec H ds hdl
  refine (law_walk2 hext hfr hnx htab hmix hrel' h2 (walk _ avs hwf rfl h3)).mono fun e W' ⟨he, hg, hold⟩ => ?_
  subst he
  have hlt : ∀ x ∈ p, x.block < W.heap.size := fun x hx => hW'.lt x hx
  have hsame : ∀ x ∈ p, W.sameAt W' x := fun x hx => by
    cases x with
    | cell b o => exact World.cell?_of_block (w := W) (hold b (hlt _ hx))
    | map b => exact hold b (hlt _ hx)
  refine ⟨_, rfl, post_of_same (pa := p) (pv := []) hW' (fun b sp hd => ?_) (fun sp hsp' => ?_) (fun _ _ => ?_) (by simp) (hg.frame _) hg.2.1 (ok_one hres rfl (okWide_bool_mk hbt _))⟩
  · rw [hsp, hres]
    exact trodAll_cons_mk (shut_bool hbt _) trodAll_mk0
  · rw [hsp]
    exact trodAll_stays hlaid hread hA hsame hsp'
  · rw [hvars, hsp]
    rfl
theorem law_lifted (tys : List Ty) (N : Nat) (bt : TypeId)
    (own : ownKnob C.prog.godebug = none) (htab : TabOk C.prog [] tab) (hmix : C.prog.follows .mixedOrders = true) (hlaid : laidOutB C.prog = true)
    (noInit : C.prog.inits.idxOf? f = none) (hfn : C.prog.funcs[f]? = some fn)
    (hread : (fn.params.toList.all fun t => C.prog.readableRec t && decide (t < C.prog.types.size)) = true)
    (hlen : tys.length = fn.params.toList.length) (hfit : ((tys.zip fn.params.toList).all fun p => fits C.prog p.1 p.2) = true)
    (hN : (tys.all Ty.good && decide ((tys.map Ty.cnt).sum ≤ N)) = true)
    (hres : fn.resultTypes = #[bt]) (hbt : C.prog.underlying bt = some .bool)
    (hvars : s.vars = []) (hspec : ∀ (H : Type) (ds : List (DataW H)), ds.length = tys.length → s.fn H ds = { results := [.lit (.bool true)], args := ds })
    (walk : ∀ H avs, WF H → H.next = N → ArgsAt H.blk tys avs → CallP tab noExt f avs H fun v _ => v = .s (.bool true))
    (os : Os) (started : os.Started) (H : Type) (enc : TypeId × Value → H)
    (witness : ∃ (w : World) (tape : Tape) (i : Input), w.os = os ∧ (w.forCall tape i).Shaped C.prog ∧ i.vars = [] ∧ Input.okWide C.prog (w.forCall tape i) .any w.heap.size f i ∧
      s.pre6 enc C.prog fn [] false (w.forCall tape i).memory i.args ∧ ({} : Assume).holds C.prog (lone (Frame.enter C.prog f i.args .normal) [] (w.forCall tape i))) :
    ReturnsInHanded {} C os f .any (s.pre6 enc C.prog fn [] false) (s.post enc C.prog fn false true false false) :=
  law_liftedX (fun _ _ => noExt_calls) noExt_frame noExt_next tys N bt own htab hmix hlaid noInit hfn hread hlen hfit hN hres hbt hvars hspec walk os started H enc witness
end

end Go.AM

/-
  slices.Insert of one number: what the abstract machine takes it for is what the model's does.
-/
namespace Go.AM
open Go.Proofs Go.Shelf Go.RowKit

variable {P : Program} {G : List Nat} {B : Nat} {w0 : World} {φ : Phi} {H H' : AH} {w : World}

/-- A row goes on under another name, in another form. -/
theorem HRel.row (hH : HRel B w0 φ H w) {b id : Nat} {l new : List SV} (hb : H.blk b = some (.cells false l)) {cb sh cs : Nat} (hφ : φ b = some (cb, sh, cs)) (hid : id < H.next)
    (hn : (H.set b .dead).new id (.cells false new) = some H') {o : Nat} {w' : World} {c2 : Array Value} {e2 : TypeId} (h2 : w'.heap[cb]? = some (.cells c2 e2 (0, 0))) (hs : c2.size = cs) (hfit : sh + o + new.length ≤ cs)
    (hr : ∀ (i : Nat) (x : SV), new[i]? = some x → ∃ v, c2[sh + o + i]? = some v ∧ SVRel φ x v) (hget : ∀ x, x ≠ cb → w'.heap[x]? = w.heap[x]?) (hsz : w'.heap.size = w.heap.size) (hos : w'.os = w.os) (hout : w'.output = w.output) :
    ∃ φ', Ext φ φ' ∧ φ' id = some (cb, sh + o, cs) ∧ HRel B w0 φ' H' w' := by
  obtain ⟨cb', sh', cs', c, e, fr, h1, _, _, _, _, h6⟩ := hH.cells b false l hb
  rw [hφ] at h1
  cases h1
  obtain ⟨_, hB⟩ := h6 rfl
  have hk := hH.kill (b := b) (by rw [hb]; simp)
  unfold AH.new at hn
  split at hn
  · rename_i hidn
    cases hn
    have hφid : φ id = none := hk.dom id hidn
    have hne : id ≠ b := by intro hc; subst hc; rw [hφ] at hφid; cases hφid
    have hext : Ext φ (fun x => if x = id then some (cb, sh + o, cs) else φ x) := by
      intro x y hx
      by_cases hxi : x = id
      · subst hxi; rw [hφid] at hx; cases hx
      · simp [hxi, hx]
    refine ⟨fun x => if x = id then some (cb, sh + o, cs) else φ x, hext, by simp, ?_⟩
    have hoth : ∀ b', b' ≠ b → H.blk b' ≠ some .dead → ∀ x, φ b' = some x → x.1 ≠ cb := by
      intro b' hne' hd x hx heq
      rcases hH.inj b' b x _ hx hφ hd (by rw [hb]; simp) heq with h | ⟨_, _, _, hy⟩
      · exact hne' h
      · rw [hb] at hy; cases hy
    refine { dom := ?_, lt := ?_, cells := ?_, maps := ?_, inj := ?_, old := ?_, bound := by rw [hsz]; exact hH.bound, os := hos.trans hH.os, out := hout.trans hH.out, nf := ?_ }
    · intro b' hb'
      simp only [AH.set, upd] at hb'
      split at hb'
      · cases hb'
      · rename_i hne'
        split at hb'
        · cases hb'
        · simp [hne', hH.dom b' hb']
    · intro b' hb'
      simp only [AH.set, upd] at hb' ⊢
      rw [if_neg (by omega)]
      split
      · rename_i hc; subst hc; rw [hH.lt _ hb'] at hb; cases hb
      · exact hH.lt b' hb'
    · intro b' ro' l'' hb'
      simp only [AH.set, upd] at hb'
      split at hb'
      · rename_i heq
        cases hb'
        exact ⟨cb, sh + o, cs, c2, e2, (0, 0), by simp [heq], h2, hs, hfit, fun i x hx => by obtain ⟨v, hv, hrv⟩ := hr i x hx; exact ⟨v, hv, hrv.mono hext⟩, fun _ => ⟨rfl, hB⟩⟩
      · rename_i hne'
        split at hb'
        · cases hb'
        · rename_i hneb
          obtain ⟨cb', sh', cs', c', e', fr', g1, g2, g3, g4, g5, g6⟩ := hH.cells b' ro' l'' hb'
          have hcb : cb' ≠ cb := hoth b' hneb (by rw [hb']; simp) _ g1
          exact ⟨cb', sh', cs', c', e', fr', by simp [hne', g1], by rw [hget _ hcb]; exact g2, g3, g4, fun i x hx => by obtain ⟨v, hv, hrv⟩ := g5 i x hx; exact ⟨v, hv, hrv.mono hext⟩, g6⟩
    · intro b' es hb'
      simp only [AH.set, upd] at hb'
      split at hb'
      · cases hb'
      · rename_i hne'
        split at hb'
        · cases hb'
        · rename_i hneb
          obtain ⟨cb', sh', cs', ces, clk, g1, g2, g3, g4⟩ := hH.maps b' es hb'
          have hcb : cb' ≠ cb := hoth b' hneb (by rw [hb']; simp) _ g1
          exact ⟨cb', sh', cs', ces, clk, by simp [hne', g1], by rw [hget _ hcb]; exact g2, R2.mono (fun _ _ hp => ⟨hp.1.mono hext, hp.2.mono hext⟩) g3, g4⟩
    · intro b1 b2 x1 x2 hx1 hx2 hd1 hd2 hxe
      simp only [AH.set, upd] at hd1 hd2 ⊢
      by_cases e1 : b1 = id
      · by_cases e2 : b2 = id
        · exact .inl (e1.trans e2.symm)
        · simp only [e1, if_true] at hx1
          simp only [e2, if_false] at hx2
          cases hx1
          exfalso
          rw [if_neg e2] at hd2
          split at hd2
          · exact hd2 rfl
          · rename_i hneb
            exact hoth b2 hneb hd2 _ hx2 hxe.symm
      · by_cases e2 : b2 = id
        · simp only [e2, if_true] at hx2
          simp only [e1, if_false] at hx1
          cases hx2
          exfalso
          rw [if_neg e1] at hd1
          split at hd1
          · exact hd1 rfl
          · rename_i hneb
            exact hoth b1 hneb hd1 _ hx1 hxe
        · simp only [e1, e2, if_false] at hx1 hx2 hd1 hd2 ⊢
          split at hd1
          · exact absurd rfl hd1
          · rename_i n1
            split at hd2
            · exact absurd rfl hd2
            · rename_i n2
              simp only [if_neg n1, if_neg n2]
              exact hH.inj b1 b2 x1 x2 hx1 hx2 hd1 hd2 hxe
    · intro c' hc'
      rw [hget _ (by omega)]
      exact hH.old c' hc'
    · intro k c e fr hk hc
      by_cases hkc : k = cb
      · subst hkc
        rw [h2] at hc; cases hc; rfl
      · rw [hget _ hkc] at hc
        exact hH.nf k c e fr hk hc
  · cases hn

/- ---- cells that are set ---- -/
def setN (c : Array Value) : Nat → List Value → Array Value
  | _, [] => c
  | o, v :: vs => setN (c.setIfInBounds o v) (o + 1) vs
theorem setN_size : ∀ (vs : List Value) (o : Nat) (c : Array Value), (setN c o vs).size = c.size
  | [], _, _ => rfl
  | v :: vs, o, c => by rw [setN, setN_size vs]; simp
theorem setN_get : ∀ (vs : List Value) (o : Nat) (c : Array Value) (j : Nat), o + vs.length ≤ c.size → (setN c o vs)[j]? = if o ≤ j ∧ j < o + vs.length then vs[j - o]? else c[j]?
  | [], o, c, j, _ => by rw [setN, if_neg (by simp)]
  | v :: vs, o, c, j, h => by
    rw [List.length_cons] at h
    rw [setN, setN_get vs (o + 1) _ j (by simp; omega), Array.getElem?_setIfInBounds]
    by_cases h1 : o + 1 ≤ j ∧ j < o + 1 + vs.length
    · rw [if_pos h1, if_pos (by rw [List.length_cons]; omega), show j - o = (j - (o + 1)) + 1 by omega, List.getElem?_cons_succ]
    · rw [if_neg h1]
      by_cases h2 : o = j
      · subst h2
        rw [if_pos rfl, if_pos (by omega), if_pos (by rw [List.length_cons]; omega), Nat.sub_self]; rfl
      · rw [if_neg h2, if_neg (by rw [List.length_cons]; omega)]
theorem setCells_heap (b : Nat) {e : TypeId} {fr : Nat × Nat} : ∀ (vs : List Value) (o : Nat) (w : World) (c : Array Value), w.heap[b]? = some (.cells c e fr) →
    (w.setCells b o vs).heap[b]? = some (.cells (setN c o vs) e fr) ∧ (∀ x, x ≠ b → (w.setCells b o vs).heap[x]? = w.heap[x]?) ∧ (w.setCells b o vs).heap.size = w.heap.size ∧ (w.setCells b o vs).os = w.os ∧ (w.setCells b o vs).output = w.output
  | [], o, w, c, h => ⟨h, fun _ _ => rfl, rfl, rfl, rfl⟩
  | v :: vs, o, w, c, h => by
    have h1 : (w.setCell ⟨b, o, none⟩ v).heap[b]? = some (.cells (c.setIfInBounds o v) e fr) := by
      simp [World.setCell, Array.getElem?_modify, h]
    obtain ⟨g1, g2, g3, g4, g5⟩ := setCells_heap b vs (o + 1) (w.setCell ⟨b, o, none⟩ v) _ h1
    refine ⟨g1, fun x hx => ?_, ?_, g4, g5⟩
    · rw [World.setCells, g2 x hx]
      simp [World.setCell, Array.getElem?_modify, Ne.symm hx]
    · rw [World.setCells, g3]
      simp [World.setCell]

/- ---- the framing ---- -/
theorem setXY {H : AH} {x y : Nat} (h : x ≠ y) (X Y : Blk) : (H.set x X).set y Y = (H.set y Y).set x X := by
  unfold AH.set
  congr 1
  funext c
  simp only [upd]
  by_cases h1 : c = y
  · rw [if_pos h1, if_neg (fun hc => h (hc.symm.trans h1)), if_pos h1]
  · rw [if_neg h1]
    by_cases h2 : c = x
    · rw [if_pos h2, if_pos h2]
    · rw [if_neg h2, if_neg h2, if_neg h1]

theorem insI_cases {args : List AV} {v : AV} (h : insI args H = some (v, H')) : ∃ a len c e i xb xo xc lx x, args = [.s (.slice a len c e), .s (.int .i64 i), .s (.slice (some (xb, xo)) 1 xc 1)] ∧ H.blk xb = some (.cells false lx) ∧ lx[xo]? = some x ∧
    ((a = none ∧ i = 0 ∧ v = .s (.slice (some (H.next, 0)) 1 1 1) ∧ (H.bump 1).new H.next (.cells false [x]) = some H') ∨
     ∃ b o l, a = some (b, o) ∧ H.blk b = some (.cells false l) ∧ (xb ≠ b ∧ e = 1 ∧ 0 ≤ i ∧ i ≤ (len : Int) ∧ o + len ≤ l.length ∧ (len + 1) * 8 ≤ 70368744177664) ∧ v = .s (.slice (some (H.next, 0)) (len + 1) (len + 1) 1) ∧
       ((H.bump 1).set b .dead).new H.next (.cells false ((l.drop o).take i.toNat ++ (x :: ((l.drop o).take len).drop i.toNat))) = some H') := by
  unfold insI at h
  split at h
  · rename_i a len c e i xb xo xc
    split at h
    · rename_i lx hx
      simp only [Option.bind_eq_some_iff] at h
      obtain ⟨x, hxo, h⟩ := h
      refine ⟨a, len, c, e, i, xb, xo, xc, lx, x, rfl, hx, hxo, ?_⟩
      split at h
      · split at h
        · rename_i h0
          simp only [Option.map_eq_some_iff, Prod.mk.injEq] at h
          obtain ⟨H1, h1, rfl, rfl⟩ := h
          exact .inl ⟨rfl, h0, rfl, h1⟩
        · cases h
      · rename_i b o
        split at h
        · rename_i l hb
          split at h
          · rename_i hc
            simp only [Option.map_eq_some_iff, Prod.mk.injEq] at h
            obtain ⟨H1, h1, rfl, rfl⟩ := h
            exact .inr ⟨b, o, l, rfl, hb, hc, rfl, h1⟩
          · cases h
        · cases h
    · cases h
  · cases h

theorem new_set {id x : Nat} {X Y : Blk} (hne : id ≠ x) (h : H.new id Y = some H') : (H.set x X).new id Y = some (H'.set x X) := by
  unfold AH.new at *
  split at h
  · rename_i hn
    cases h
    have : (H.set x X).blk id = none := by rw [set_blk, if_neg hne]; exact hn
    rw [this]
    exact congrArg some (setXY (Ne.symm hne) X Y)
  · cases h

theorem mext_next : NextOk mext := fun f args H v H' h => by
  unfold mext at h
  split at h
  · obtain ⟨a, len, c, e, i, xb, xo, xc, lx, x, rfl, hx, hxo, h⟩ := insI_cases h
    rcases h with ⟨_, _, _, h⟩ | ⟨b, o, l, _, _, _, _, h⟩
    · rw [new_next h]; simp
    · rw [new_next h]; simp
  · cases h
theorem mext_wf : WFrec mext := fun f args H v H' h hw => by
  unfold mext at h
  split at h
  · obtain ⟨a, len, c, e, i, xb, xo, xc, lx, x, rfl, hx, hxo, h⟩ := insI_cases h
    rcases h with ⟨_, _, _, h⟩ | ⟨b, o, l, _, hb, _, _, h⟩
    · exact new_wf (hw.bump 1) (by simp) h
    · refine new_wf ((hw.bump 1).set ?_ _) (by simp) h
      apply Classical.byContradiction
      intro hn
      rw [hw b (by simp at hn; omega)] at hb; cases hb
  · cases h
theorem mext_ro : ROrec mext := fun ρ f args H v H' h hw => by
  unfold mext at h
  split at h
  · obtain ⟨a, len, c, e, i, xb, xo, xc, lx, x, rfl, hx, hxo, h⟩ := insI_cases h
    rcases h with ⟨_, _, _, h⟩ | ⟨b, o, l, _, hb, _, _, h⟩
    · exact new_ro (hw.bump 1) h
    · refine new_ro (RoOf.set (H := H.bump 1) (hw.bump 1) ?_ _) h
      intro l' hl'
      have hb' : (H.bump 1).blk b = some (.cells false l) := hb
      rw [hb'] at hl'; cases hl'
  · cases h
theorem mext_frame : FrmOk mext := fun f args H v H' y X h hy hlt => by
  unfold mext at *
  split at h
  · rename_i hf
    rw [if_pos hf]
    obtain ⟨a, len, c, e, i, xb, xo, xc, lx, x, rfl, hx, hxo, hq⟩ := insI_cases h
    have hxy : xb ≠ y := fun hc => by rw [hc, hy] at hx; cases hx
    have hx' : (H.set y X).blk xb = some (.cells false lx) := by rw [set_blk, if_neg hxy]; exact hx
    have hnid : H.next ≠ y := by omega
    clear h
    rcases hq with ⟨rfl, h0, rfl, h⟩ | ⟨b, o, l, rfl, hb, hc, rfl, h⟩
    · have h2 := new_set (X := X) hnid h
      refine ⟨?_, ?_⟩
      · simp only [insI, hx', hxo, Option.bind_some]
        rw [if_pos h0]
        show Option.map _ (((H.bump 1).set y X).new H.next _) = _
        rw [h2]; rfl
      · unfold AH.new at h
        split at h
        · cases h; simp only [set_blk]; rw [if_neg (Ne.symm hnid)]; exact hy
        · cases h
    · have hby : b ≠ y := fun hc => by rw [hc, hy] at hb; cases hb
      have hb' : (H.set y X).blk b = some (.cells false l) := by rw [set_blk, if_neg hby]; exact hb
      have h2 := new_set (X := X) hnid h
      refine ⟨?_, ?_⟩
      · simp only [insI, hx', hxo, Option.bind_some, hb']
        rw [if_pos hc]
        show Option.map _ ((((H.bump 1).set y X).set b .dead).new H.next _) = _
        rw [setXY (Ne.symm hby) X .dead, h2]; rfl
      · unfold AH.new at h
        split at h
        · cases h; simp only [set_blk]; rw [if_neg (Ne.symm hnid), if_neg (Ne.symm hby)]; exact hy
        · cases h
  · cases h

/- ---- the model's call ---- -/
theorem cellAt {b : Nat} {l : List SV} {ro : Bool} (hH : HRel B w0 φ H w) (hb : H.blk b = some (.cells ro l)) : ∃ cb sh cs c e fr, φ b = some (cb, sh, cs) ∧ w.heap[cb]? = some (.cells c e fr) ∧ c.size = cs ∧ sh + l.length ≤ cs ∧ (∀ i x, l[i]? = some x → ∃ v, c[sh + i]? = some v ∧ SVRel φ x v) ∧ (ro = false → fr = (0, 0) ∧ B ≤ cb) := hH.cells b ro l hb

theorem frozenAt {cb i : Nat} {c : Array Value} {e : TypeId} (h : w.heap[cb]? = some (.cells c e (0, 0))) : w.frozen? ⟨cb, i, none⟩ = false := by
  unfold World.frozen?; rw [h]; simp

theorem mext_calls {ρ : Ren} (L : Lays2.n21 P ρ) (hρ : ρ.f 21 = F.slices_Insert__int_int) : CallsOk P G B w0 mext := by
  intro f args H v H' h φ w cargs hH _ hargs
  unfold mext at h
  split at h
  · rename_i hf
    subst hf
    refine ⟨⟨_, hρ ▸ L.f21, by kernel_rfl, by kernel_rfl⟩, ?_⟩
    obtain ⟨a, len, c, e, i, xb, xo, xc, lx, x, rfl, hx, hxo, hq⟩ := insI_cases h
    clear h
    obtain ⟨ca, hca⟩ : ∃ ca, cargs = ca := ⟨_, rfl⟩
    match hl : cargs.toList, hargs with
    | [v0, v1, v2], hargs =>
      have hcargs : cargs = #[v0, v1, v2] := by apply Array.ext'; simpa using hl
      subst hcargs
      obtain ⟨h0, h1, h2, _⟩ := hargs
      have h1 : v1 = .int .i64 i := h1
      subst h1
      obtain ⟨_, hxc, xcb, xsh, xcs, z2, c2, k1, k2, k3, k4⟩ := h2
      obtain ⟨xcb', xsh', xcs', cx, ex, frx, j1, j2, j3, j4, j5, j6⟩ := cellAt hH hx
      rw [k1] at j1
      cases j1
      obtain ⟨hfrx, hBx⟩ := j6 rfl
      subst hfrx
      obtain ⟨hz2, hfit2, _⟩ := k4 (by omega)
      have hz2 : z2 = ⟨xcb, xsh + xo, none⟩ := hz2
      subst hz2
      subst k3
      obtain ⟨xv, hxv, hxr⟩ := j5 xo x hxo
      have hxcell : w.cell? ⟨xcb, xsh + xo, none⟩ = some xv := by rw [cell?_of j2]; exact hxv
      have hxvs : ∀ j u, [xv][j]? = some u → w.cell? ⟨xcb, xsh + xo + j, none⟩ = some u := by
        intro j u hj
        cases j with
        | zero => simp at hj; subst hj; simpa using hxcell
        | succ j => simp at hj
      have hx1 := hxr.oneCell
      have hx1' : ∀ u ∈ [xv], u.oneCell' = true := by intro u hu; simp at hu; subst hu; exact hx1
      have zc : ∀ n, (Builtin.zeroCells (Value.int .i64 0).cells n).size = n := by intro n; simp [Builtin.zeroCells, Value.cells]
      have hge : ∀ n c, n ≤ grownCap w n c (ρ.t 3) := fun n c => grownCap_ge w n c _
      have hle : ∀ n c, n ≤ 70368744177664 → grownCap w n c (ρ.t 3) ≤ 9223372036854775807 := fun n c hn => by
        have := grownCap_le_maxLen w n c (ρ.t 3) (by simp only [maxLen]; omega)
        simpa [maxLen] using this
      rcases hq with ⟨rfl, rfl, rfl, hnew⟩ | ⟨b, o, l, rfl, hb, ⟨hne, rfl, hi0, hil, hol, hbig⟩, rfl, hnew⟩
      · obtain ⟨rfl, rfl, rfl⟩ := slice_none h0
        have hcall := Any2.slices_Insert_int_end_grow L none 0 0 xcb (xsh + xo) 1 c2 [] [xv] w (by omega) (by omega) (by omega) (by omega) rfl rfl (fun _ => rfl) (fun a ha => by cases ha) hxvs hx1'
        rw [hρ] at hcall
        refine hcall.mono ?_
        rintro e' w' ⟨rfl, rfl⟩
        obtain ⟨φ', g1, g2, g3⟩ := (hH.bump 1).new hnew (by simp) (c := ([] ++ [xv]).toArray ++ Builtin.zeroCells (Value.int .i64 0).cells (grownCap w (0 + 1) 0 (ρ.t 3) - (0 + 1))) (by simp)
          (fun j y hy => by
            cases j with
            | zero => simp at hy; subst hy; exact ⟨xv, by rw [Array.getElem?_append_left (by simp)]; rfl, hxr⟩
            | succ j => simp at hy) (ρ.t 3) (w.drew.alloc (.cells (([] ++ [xv]).toArray ++ Builtin.zeroCells (Value.int .i64 0).cells (grownCap w (0 + 1) 0 (ρ.t 3) - (0 + 1))) (ρ.t 3))) rfl rfl rfl
        have hg := hge (0 + 1) 0
        refine ⟨φ', _, rfl, g1, g3, ⟨by omega, Nat.le_refl _, w.heap.size, 0, _, _, _, g2, by omega, rfl, fun _ => ⟨rfl, ?_, hle _ _ (by omega)⟩⟩⟩
        simp only [Array.size_append, List.size_toArray, zc, List.nil_append, List.length_singleton]
        omega
      · obtain ⟨_, hlc, cb, sh, cs, z, c', q3, q4, q5, q6⟩ := slice_of h0
        subst q5
        obtain ⟨cb', sh', cs', c0, e0, fr0, p1, p2, p3, p4, p5, p6⟩ := cellAt hH hb
        rw [q3] at p1
        cases p1
        obtain ⟨hfr0, hB0⟩ := p6 rfl
        subst hfr0
        obtain ⟨k, rfl⟩ : ∃ k : Nat, i = k := ⟨i.toNat, by omega⟩
        have hk : k ≤ len := by omega
        rw [Int.toNat_natCast] at hnew
        obtain ⟨csl, hcsl⟩ : ∃ csl, csl = (c0.toList.drop (sh + o)).take len := ⟨_, rfl⟩
        have hcl : csl.length = len := by rw [hcsl]; simp; omega
        have hcg : ∀ j, j < len → csl[j]? = c0[sh + o + j]? := by
          intro j hj
          rw [hcsl, List.getElem?_take, if_pos hj, List.getElem?_drop, Array.getElem?_toList]
        have hR : R2 (SVRel φ) ((l.drop o).take len) csl := by
          refine R2.of_get (by rw [hcl, List.length_take, List.length_drop]; omega) fun j y u hy hu => ?_
          have hj : j < len := by have := (List.getElem?_eq_some_iff.1 hu).1; omega
          rw [List.getElem?_take, if_pos hj, List.getElem?_drop] at hy
          obtain ⟨u', g1, g2⟩ := p5 (o + j) y hy
          rw [hcg j hj, Nat.add_assoc, g1] at hu
          cases hu; exact g2
        have h1c : ∀ u ∈ csl, u.oneCell' = true := hR.oneCell
        have hN : R2 (SVRel φ) ((l.drop o).take k ++ (x :: ((l.drop o).take len).drop k)) (csl.take k ++ (xv :: csl.drop k)) := by
          have h3 := R2.take k hR
          rw [List.take_take, Nat.min_eq_left hk] at h3
          exact R2.append h3 ⟨hxr, R2.drop k hR⟩
        have hNl : ((l.drop o).take k ++ (x :: ((l.drop o).take len).drop k)).length = len + 1 := by
          rw [hN.length]; simp [hcl]; omega
        have hvals : ∀ j, j < len + 1 → (csl.take k ++ (xv :: csl.drop k))[j]? = if j < k then csl[j]? else if j = k then some xv else csl[j - 1]? := by
          intro j hj
          rw [List.getElem?_append, List.length_take, Nat.min_eq_left (by omega)]
          split
          · rename_i h3; rw [List.getElem?_take, if_pos h3]
          · rename_i h3
            split
            · rename_i h4; subst h4; simp
            · rename_i h4
              rw [show j - k = (j - k - 1) + 1 by omega, List.getElem?_cons_succ, List.getElem?_drop, show k + (j - k - 1) = j - 1 by omega]
        have hneb : xcb ≠ cb := by
          intro hc
          rcases hH.inj xb b _ _ k1 q3 (by rw [hx]; simp) (by rw [hb]; simp) hc with h3 | ⟨_, _, h3, _⟩
          · exact hne h3
          · rw [hx] at h3; cases h3
        by_cases room : len + 1 ≤ c'
        · obtain ⟨hz, hfit, hcm⟩ := q6 (by omega)
          subst hz
          have fin : ∀ (w' : World) (c3 : Array Value), w'.heap[cb]? = some (.cells c3 e0 (0, 0)) → c3.size = c0.size → (∀ j, j < len + 1 → c3[sh + o + j]? = (csl.take k ++ (xv :: csl.drop k))[j]?) → (∀ y, y ≠ cb → w'.heap[y]? = w.heap[y]?) → w'.heap.size = w.heap.size → w'.os = w.os → w'.output = w.output →
              ∃ φ' cv, Ending.returned (Value.slice (some ⟨cb, sh + o, none⟩) (len + 1) c') = .returned cv ∧ Ext φ φ' ∧ HRel B w0 φ' H' w' ∧ AVRel φ' (.s (.slice (some (H.next, 0)) (len + 1) (len + 1) 1)) cv := by
            intro w' c3 r1 r2 r3 r4 r5 r6 r7
            obtain ⟨φ', g1, g2, g3⟩ := (hH.bump 1).row (id := H.next) hb q3 (by simp) hnew (o := o) r1 (by rw [r2, p3]) (by rw [hNl]; omega) (fun j y hy => by
              have hj : j < len + 1 := by have := (List.getElem?_eq_some_iff.1 hy).1; omega
              obtain ⟨u, g1, g2⟩ := hN.get j y hy
              exact ⟨u, by rw [r3 j hj]; exact g1, g2⟩) r4 r5 r6 r7
            exact ⟨φ', _, rfl, g1, g3, by omega, Nat.le_refl _, cb, sh + o, cs, _, c', g2, room, rfl, fun _ => ⟨rfl, by omega, hcm⟩⟩
          by_cases hkl : k < len
          · have hcall := Any2.slices_Insert_int_shift L cb (sh + o) len c' k xcb (xsh + xo) 1 c2 csl [xv] w hkl (by omega) room hcm hneb hcl rfl
              (fun j u hj => by
                have hj' : j < len := by have := (List.getElem?_eq_some_iff.1 hj).1; omega
                rw [cell?_of p2, ← hcg j hj']; exact hj)
              (fun j hj => by rw [cell?_of p2, Array.getElem?_eq_getElem (by omega)]; rfl) (fun j hj => frozenAt p2) hxvs h1c hx1' ex e0 cx.size c0.size
              (by unfold World.shape?; rw [j2]) (by unfold World.shape?; rw [p2]) (by omega) (frozenAt j2) (frozenAt j2)
            rw [hρ] at hcall
            refine hcall.mono ?_
            rintro e' w' ⟨rfl, rfl⟩
            obtain ⟨a1, a2, a3, a4, a5⟩ := setCells_heap cb (csl.drop k) (sh + o + (k + 1)) w.drew c0 p2
            obtain ⟨b1, b2, b3, b4, b5⟩ := setCells_heap cb [xv] (sh + o + k) _ _ a1
            refine fin _ _ b1 (by rw [setN_size, setN_size]) (fun j hj => ?_) (fun y hy => (b2 y hy).trans (a2 y hy)) (b3.trans a3) (b4.trans a4) (b5.trans a5)
            have hdl : (csl.drop k).length = len - k := by rw [List.length_drop, hcl]
            rw [setN_get _ _ _ _ (by rw [setN_size]; simp; omega), setN_get _ _ _ _ (by rw [hdl]; omega), hvals j hj]
            by_cases g1 : j < k
            · rw [if_neg (by simp; omega), if_neg (by rw [hdl]; omega), if_pos g1, hcg j (by omega)]
            · rw [if_neg g1]
              by_cases g2 : j = k
              · subst g2
                rw [if_pos (by simp), if_pos rfl]; simp
              · rw [if_neg (by simp; omega), if_neg g2, if_pos (by rw [hdl]; omega), List.getElem?_drop]
                congr 1; omega
          · have hke : k = len := by omega
            subst hke
            have hcall := Any2.slices_Insert_int_end_room L cb (sh + o) k c' xcb (xsh + xo) 1 c2 [xv] w (by omega) room hcm rfl
              (fun j hj => by rw [cell?_of p2, Array.getElem?_eq_getElem (by omega)]; rfl) (fun j hj => frozenAt p2) hxvs hx1'
            rw [hρ] at hcall
            refine hcall.mono ?_
            rintro e' w' ⟨rfl, rfl⟩
            obtain ⟨b1, b2, b3, b4, b5⟩ := setCells_heap cb [xv] (sh + o + k) w c0 p2
            refine fin _ _ b1 (by rw [setN_size]) (fun j hj => ?_) b2 b3 b4 b5
            rw [setN_get _ _ _ _ (by simp; omega), hvals j hj]
            by_cases g1 : j < k
            · rw [if_neg (by simp; omega), if_pos g1, hcg j g1]
            · rw [if_neg g1, if_pos (by simp; omega), if_pos (by omega), show sh + o + j - (sh + o + k) = 0 by omega]; rfl
        · have hcl' : c' = len := by omega
          subst hcl'
          have hk2 := (hH.kill (b := b) (by rw [hb]; simp)).bump 1
          have hnew' : ((H.set b .dead).bump 1).new H.next (.cells false ((l.drop o).take k ++ (x :: ((l.drop o).take c').drop k))) = some H' := hnew
          have fin : ∀ (w' : World) (gc : Nat) (c3 : Array Value) (e3 : TypeId), w'.heap = w.heap.push (.cells c3 e3 (0, 0)) → c3.size = gc → c' + 1 ≤ gc → gc ≤ 9223372036854775807 → (∀ j, j < c' + 1 → c3[j]? = (csl.take k ++ (xv :: csl.drop k))[j]?) → w'.os = w.os → w'.output = w.output →
              ∃ φ' cv, Ending.returned (Value.slice (some ⟨w.heap.size, 0, none⟩) (c' + 1) gc) = .returned cv ∧ Ext φ φ' ∧ HRel B w0 φ' H' w' ∧ AVRel φ' (.s (.slice (some (H.next, 0)) (c' + 1) (c' + 1) 1)) cv := by
            intro w' gc c3 e3 r1 r2 r3 r4 r5 r6 r7
            obtain ⟨φ', g1, g2, g3⟩ := hk2.new hnew' (by simp [AH.set]) (c := c3) (by rw [hNl]; omega) (fun j y hy => by
              have hj : j < c' + 1 := by have := (List.getElem?_eq_some_iff.1 hy).1; omega
              obtain ⟨u, g1, g2⟩ := hN.get j y hy
              exact ⟨u, by rw [r5 j hj]; exact g1, g2⟩) e3 w' r1 r6 r7
            exact ⟨φ', _, rfl, g1, g3, by omega, Nat.le_refl _, w.heap.size, 0, _, _, gc, g2, r3, rfl, fun _ => ⟨rfl, by omega, r4⟩⟩
          have hg := hge (c' + 1) c'
          have hl2 := hle (c' + 1) c' (by omega)
          by_cases hkl : k < c'
          · obtain ⟨hz, hfit, hcm⟩ := q6 (by omega)
            subst hz
            have hcall := Any2.slices_Insert_int_grow L cb (sh + o) c' c' k xcb (xsh + xo) 1 c2 csl [xv] w hkl (by omega) (Nat.le_refl _) (by omega) (by omega) hcl rfl
              (fun j u hj => by
                have hj' : j < c' := by have := (List.getElem?_eq_some_iff.1 hj).1; omega
                rw [cell?_of p2, ← hcg j hj']; exact hj) hxvs h1c hx1'
            rw [hρ] at hcall
            refine hcall.mono ?_
            rintro e' w' ⟨rfl, rfl⟩
            obtain ⟨A, hA⟩ : ∃ A, A = (csl.take k).toArray ++ Builtin.zeroCells (Value.int .i64 0).cells (c' + 1 - k) ++ Builtin.zeroCells (Value.int .i64 0).cells (grownCap w (c' + 1) c' (ρ.t 3) - (c' + 1)) := ⟨_, rfl⟩
            have hAs : A.size = grownCap w (c' + 1) c' (ρ.t 3) := by
              rw [hA]; simp only [Array.size_append, List.size_toArray, List.length_take, hcl, zc]; omega
            have hAg : ∀ j, j < k → A[j]? = csl[j]? := by
              intro j hj
              rw [hA, Array.append_assoc, Array.getElem?_append_left (by simp [hcl]; omega)]
              simp [hj]
            rw [← hA]
            have hW : (w.alloc (.cells A (ρ.t 3))).drew.heap[w.heap.size]? = some (.cells A (ρ.t 3) (0, 0)) := by
              show (w.heap.push _)[w.heap.size]? = _
              simp
            obtain ⟨a1, a2, a3, a4, a5⟩ := setCells_heap w.heap.size [xv] k _ _ hW
            obtain ⟨b1, b2, b3, b4, b5⟩ := setCells_heap w.heap.size (csl.drop k) (k + 1) ((w.alloc (.cells A (ρ.t 3))).drew.setCells w.heap.size k [xv]).drew _ a1
            have hdl : (csl.drop k).length = c' - k := by rw [List.length_drop, hcl]
            refine fin _ _ (setN (setN A k [xv]) (k + 1) (csl.drop k)) (ρ.t 3) ?_ (by rw [setN_size, setN_size, hAs]) hg hl2 (fun j hj => ?_) (b4.trans a4) (b5.trans a5)
            · apply Array.ext_getElem?
              intro y
              by_cases h3 : y = w.heap.size
              · subst h3
                rw [b1]; simp
              · rw [b2 y h3]
                have e9 := a2 y h3
                show ((w.alloc (.cells A (ρ.t 3))).drew.setCells w.heap.size k [xv]).heap[y]? = _
                rw [e9]
                show (w.heap.push _)[y]? = _
                rw [Array.getElem?_push, Array.getElem?_push, if_neg h3, if_neg h3]
            · rw [setN_get _ _ _ _ (by rw [setN_size, hdl, hAs]; omega), setN_get _ _ _ _ (by rw [hAs]; simp; omega), hvals j hj]
              by_cases g1 : j < k
              · rw [if_neg (by omega), if_neg (by simp; omega), if_pos g1, hAg j g1]
              · rw [if_neg g1]
                by_cases g2 : j = k
                · subst g2
                  rw [if_neg (by omega), if_pos (by simp), if_pos rfl]; simp
                · rw [if_neg g2, if_pos (by rw [hdl]; omega), List.getElem?_drop]
                  congr 1; omega
          · have hke : k = c' := by omega
            subst hke
            have hcall := Any2.slices_Insert_int_end_grow L (some z) k k xcb (xsh + xo) 1 c2 csl [xv] w (by omega) (Nat.le_refl _) (by omega) (by omega) hcl rfl (fun hc => by cases hc)
              (fun a ha j u hj => by
                cases ha
                have hj' : j < k := by have := (List.getElem?_eq_some_iff.1 hj).1; omega
                obtain ⟨hz, _, _⟩ := q6 (by omega)
                rw [hz, add_eq, cell?_of p2, ← Nat.add_assoc, ← hcg j hj']; exact hj) hxvs hx1'
            rw [hρ] at hcall
            refine hcall.mono ?_
            rintro e' w' ⟨rfl, rfl⟩
            refine fin _ _ ((csl ++ [xv]).toArray ++ Builtin.zeroCells (Value.int .i64 0).cells (grownCap w (k + 1) k (ρ.t 3) - (k + 1))) (ρ.t 3) rfl ?_ hg hl2 (fun j hj => ?_) rfl rfl
            · simp only [Array.size_append, List.size_toArray, List.length_append, hcl, zc, List.length_singleton]; omega
            · rw [Array.getElem?_append_left (by simp [hcl]; omega), List.take_of_length_le (by omega), List.drop_eq_nil_of_le (by omega)]
              simp
    | [], hargs => exact hargs.elim
    | [_], hargs => exact hargs.2.elim
    | [_, _], hargs => exact hargs.2.2.elim
    | _ :: _ :: _ :: _ :: _, hargs => exact hargs.2.2.2.elim
  · cases h
end Go.AM

/-
  slices.Insert stands in this program.
-/
namespace Go.AM
open Go.Proofs Go.Shelf

def insRen : Ren := ⟨fun x => if x = 21 then 63 else if x = 27 then 71 else if x = 28 then 72 else if x = 35 then 73 else if x = 39 then 74 else x, fun t => if t = 22 then 39 else t, fun x => x⟩

theorem laysIns : Lays2.n21 Try.prog insRen where
  mixed := by kernel_rfl
  f21 := by kernel_rfl
  f27 := by kernel_rfl
  f28 := by kernel_rfl
  f35 := by kernel_rfl
  f39 := by kernel_rfl
  t0 := by kernel_rfl
  a0 := Try.isAgg0
  z0 := Try.sizeOf0
  v0 := Try.zeroValue0
  t3 := by kernel_rfl
  a3 := Try.isAgg3
  z3 := Try.sizeOf3
  v3 := Try.zeroValue3
  t4 := by kernel_rfl
  a4 := Try.isAgg4
  z4 := Try.sizeOf4
  v4 := Try.zeroValue4
  t22 := by kernel_rfl
  a22 := Try.isAgg39
  z22 := Try.sizeOf39
  v22 := Try.zeroValue39
  i3 := by kernel_rfl

theorem mext_ok (B : Nat) (w0 : World) : CallsOk Try.prog [] B w0 mext := mext_calls laysIns rfl
end Go.AM

/-
  MutexCeilings in the abstract machine.
-/
namespace Go.AM
theorem MutexCeilings_abs (H : AH) (hw : WF H) (_hn : H.next = 1) (avs : List AV) (ha : ArgsAt H.blk [.int .i64, .slice (.int .u8)] avs) : CallP tab mext F.detentlaw15_MutexCeilings avs H fun v _ => v = bl true := by
  obtain ⟨b, vs, rfl, _, ha1⟩ := ha.int'
  obtain ⟨xs, s, vs2, rfl, hs, ha2⟩ := ha1.slice
  obtain rfl := ha2.nil'
  refine (MutexCeilings_tri b xs s fun x hx => ?_).use (ρ := H.blk) (R := []) (Sat.mkArg hs (Sat.nil hw fun _ _ h => h)) fun v H' P' h _ => h
  obtain ⟨i, hi⟩ := List.mem_iff_getElem?.1 hx
  have hlt := (List.getElem?_eq_some_iff.1 hi).1
  obtain ⟨_, _, _, y, li, _, _, h1, h2, _⟩ := At.slGet hs hlt
  have hy : y = x := by rw [hi] at h1; cases h1; rfl
  subst hy
  exact lit_bounds h2.2
end Go.AM
