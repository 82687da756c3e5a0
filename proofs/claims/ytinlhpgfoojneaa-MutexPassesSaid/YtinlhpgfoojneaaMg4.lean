/-
  mtx: Held, Free, Waiting.
-/
import Derived.Test.YtinlhpgfoojneaaMg3
import Derived.KernelRfl
import Derived.Test.YtinlhpgfoojneaaMg2
import Derived.RowKit3
import Derived.WideKeyArgs
import Derived.ChangeSame
import Derived.Handed
import Derived.Test.YtinlhpgfoojneaaMg1
import Derived.Test.YtinlhpgfoojneaaMg0
import Derived.Shelf.Spec.SlicesInsertGrow
import Derived.Laws.AppendOwn
namespace Go.AM
set_option maxHeartbeats 8000000
attribute [local irreducible] sq bk lpK mdx rt TC RP WK Cel Ro Row Fre RowsA RowsBut
attribute [local irreducible] settleF stF passF unlF tryF lockF muW setO setw setp setb rk muw mow tkw tkb tkp insF standM sbBad setBF dropF

def heldN (ms : List Mu) (n : Int) (k : Nat) : List Int := ((List.range' 1 k).filter fun (m : Nat) => decide (mow ms (m : Int) = n)).map fun (m : Nat) => (m : Int)
def heldF (ms : List Mu) (n : Int) : List Int := if 1 ≤ n ∧ n ≤ 16 then heldN ms n (ms.length - 1) else []
theorem heldN_succ {ms : List Mu} {n : Int} {k : Nat} : heldN ms n (k + 1) = heldN ms n k ++ if mow ms ((k + 1 : Nat) : Int) = n then [((k + 1 : Nat) : Int)] else [] := by
  unfold heldN
  rw [List.range'_concat, List.filter_append, List.map_append, show 1 + 1 * k = k + 1 by omega]
  congr 1
  by_cases h : mow ms ((k + 1 : Nat) : Int) = n
  · rw [if_pos h, List.filter_cons_of_pos (by simpa using h)]; rfl
  · rw [if_neg h, List.filter_cons_of_neg (by simpa using h)]; rfl
theorem heldN_len {ms : List Mu} {n : Int} {k : Nat} : (heldN ms n k).length ≤ k := by
  unfold heldN
  rw [List.length_map]
  exact Nat.le_trans (List.length_filter_le _ _) (by simp)
theorem heldF_len {ms : List Mu} {n : Int} : (heldF ms n).length ≤ ms.length := by
  unfold heldF
  split
  · exact Nat.le_trans heldN_len (by omega)
  · simp
def freeStep (n : Int) (q : MS × List Int) (m : Int) : MS × List Int :=
  ((unlF q.1.1 q.1.2 m n).2, if (unlF q.1.1 q.1.2 m n).1.2 = 0 ∧ (unlF q.1.1 q.1.2 m n).1.1 > 0 then q.2 ++ [(unlF q.1.1 q.1.2 m n).1.1] else q.2)
def freeF (ms : List Mu) (ts : List Tk) (n : Int) : MS × List Int := (heldF ms n).foldl (freeStep n) ((ms, ts), [])
theorem MuI.unl {ms : List Mu} {ts : List Tk} (h : MuI ms ts) (m n : Int) : MuI (unlF ms ts m n).2.1 (unlF ms ts m n).2.2 := by
  unfold unlF
  split
  · exact h
  · split
    · exact h
    · simp only [stF]
      exact (h.pass m).settle

section
variable {a : Nat} {ms : List Mu} {ts : List Tk} {sm : SV} {ws : List SV} {L : List Asr}

theorem held_tri (hi : MuV ms) (n : Int) : Tri tab mext F.mtx_All_Held [ptr a, i64 n] [MxA a ms ts] fun v P' => ∃ s, v = .s s ∧ P' = [Row encI 1 s (heldF ms n), MxA a ms ts] := by
  refine Tri.go tab_mtx_All_Held rfl ?_
  have h9 := hi.l1
  have h0 := hi.l0
  refine TC.mx fun sm ws hl ht => ?_
  have hz : (ms.zip ws).length = ms.length := by rw [List.length_zip]; omega
  refine RUNM ?_
  refine TC.midb (α := SV) (fun _ => True) (fun s => [(5, .s s)]) (fun s => [Row encI 1 s (heldF ms n), MxB a ms ts sm ws]) ?_ ?_
  · refine TC.loop (fun q : Nat × SV => ms.length - q.1) (fun q => 1 ≤ q.1 ∧ q.1 ≤ ms.length ∧ (¬ (1 ≤ n ∧ n ≤ 16) → q.1 = 1)) (fun q => [(0, ptr a), (1, i64 n), (5, .s q.2), (6, i64 q.1)]) (fun q => [Row encI 1 q.2 (heldN ms n (q.1 - 1)), MxB a ms ts sm ws]) (1, .slice none 0 0 1) ⟨by omega, by omega, fun _ => rfl⟩ ⟨rfl, rfl, rfl, rfl, trivial⟩ (show LEnt _ [Row encI 1 (.slice none 0 0 1) [], MxB a ms ts sm ws] from row_nil 1 _) ?_
    rintro ⟨m, s⟩ ⟨h1, h2, h3⟩
    dsimp only at h1 h2 h3 ⊢
    refine RUNM ?_
    refine RP.c rfl (mIs_tri n) .e rfl ?_
    rintro v P' ⟨rfl, rfl⟩
    refine RUNM ?_
    refine RP.gp rfl (fun h4 => ?_) fun h4 => ?_
    · refine RUNM ?_
      refine TC.cP rfl (fun h5 => ?_) fun h5 => ?_
      · obtain ⟨k, hk, μ, s2, hμ, hs⟩ := msGet (ms := ms) (ws := ws) (m := (m : Int)) (by omega) hl
        obtain rfl : m = k := by omega
        have hm := mow_some (cast_get hμ)
        have hsucc := heldN_succ (ms := ms) (n := n) (k := m - 1)
        rw [show m - 1 + 1 = m by omega, hm] at hsucc
        have hlen := heldN_len (ms := ms) (n := n) (k := m - 1)
        refine RUNM ?_
        refine TC.cP rfl (fun h6 => ?_) fun h6 => ?_
        · have h6 : μ.ow = n := h6
          rw [if_pos h6] at hsucc
          refine RUNM ?_
          refine RP.bs rfl rfl rfl fun b => ?_
          refine RP.ap rfl rfl rfl (ap_one (e := (m : Int)) encI_len (.c (.n .h) (.c .h .e)) (by omega)) fun s' => ?_
          refine RUNM ?_
          refine lp_n (m + 1, s') ⟨by simp only; omega, by simp only; omega, fun hc => absurd h4 hc⟩ (by simp only; omega) ⟨rfl, rfl, rfl, rfl, trivial⟩ ?_
          simp only [Nat.add_sub_cancel]
          rw [hsucc]
          exact LEnt.refl _
        · have h6 : ¬ μ.ow = n := h6
          rw [if_neg h6, List.append_nil] at hsucc
          refine RUNM ?_
          refine lp_n (m + 1, s) ⟨by simp only; omega, by simp only; omega, fun hc => absurd h4 hc⟩ (by simp only; omega) ⟨rfl, rfl, rfl, rfl, trivial⟩ ?_
          simp only [Nat.add_sub_cancel]
          rw [hsucc]
          exact LEnt.refl _
      · have : m = ms.length := by omega
        subst this
        refine RUNM ?_
        refine md_n s trivial ⟨rfl, trivial⟩ ?_
        rw [heldF, if_pos h4]
        exact LEnt.refl _
    · refine RUNM ?_
      refine md_n s trivial ⟨rfl, trivial⟩ ?_
      have := h3 h4
      subst this
      rw [heldF, if_neg h4]
      exact LEnt.refl _
  · intro s _
    have := heldF_len (ms := ms) (n := n)
    refine RUNM ?_
    refine RP.c rfl (xClip_tri s _) (.c .h .e) rfl ?_
    rintro v P' ⟨s', rfl, rfl⟩
    refine RUNM ?_
    refine rt_r rfl ⟨s', rfl, rfl⟩ ?_
    exact (LEnt.of (.c (.n .h) (.c .h .e))).trans (mx_hide.trans (LEnt.of (.c (.n .h) (.c .h .e))))

theorem free_tri (hi : MuI ms ts) (n : Int) : Tri tab mext F.mtx_All_Free [ptr a, i64 n] [MxA a ms ts] fun v P' => ∃ s, v = .s s ∧ P' = [Row encI 1 s (freeF ms ts n).2, MxA a (freeF ms ts n).1.1 (freeF ms ts n).1.2] := by
  refine Tri.go tab_mtx_All_Free rfl ?_
  have h9 := hi.v.l1
  refine RUN ?_
  refine RP.c rfl (held_tri hi.v n) (.c .h .e) rfl ?_
  rintro v P' ⟨sh, rfl, rfl⟩
  have hhl := heldF_len (ms := ms) (n := n)
  have hfree : freeF ms ts n = (heldF ms n).foldl (freeStep n) ((ms, ts), []) := by unfold freeF; rfl
  generalize freeF ms ts n = FR at *
  generalize heldF ms n = hs at *
  refine RUN ?_
  refine TC.midb (α := SV) (fun _ => True) (fun s => [(5, .s s)]) (fun s => [Row encI 1 s FR.2, MxA a FR.1.1 FR.1.2]) ?_ ?_
  · have hI : ∀ i, MuI ((hs.take i).foldl (freeStep n) ((ms, ts), [])).1.1 ((hs.take i).foldl (freeStep n) ((ms, ts), [])).1.2 ∧ ((hs.take i).foldl (freeStep n) ((ms, ts), [])).2.length ≤ i := by
      intro i
      induction i with
      | zero => exact ⟨hi, by simp⟩
      | succ i ih =>
        rw [List.take_add_one]
        cases hm : hs[i]? with
        | none => simp only [Option.toList_none, List.append_nil]; exact ⟨ih.1, by omega⟩
        | some m =>
          rw [List.foldl_append]
          simp only [Option.toList_some, List.foldl_cons, List.foldl_nil]
          refine ⟨ih.1.unl m n, ?_⟩
          simp only [freeStep]
          split
          · rw [List.length_append]; simp; exact ih.2
          · omega
    refine TC.loop (fun q : Nat × SV => hs.length - q.1) (fun q => q.1 ≤ hs.length) (fun q => [(0, ptr a), (1, i64 n), (5, .s q.2), (12, .s sh), (13, i64 hs.length), (14, i64 q.1)]) (fun q => [Row encI 1 q.2 ((hs.take q.1).foldl (freeStep n) ((ms, ts), [])).2, Row encI 1 sh hs, MxA a ((hs.take q.1).foldl (freeStep n) ((ms, ts), [])).1.1 ((hs.take q.1).foldl (freeStep n) ((ms, ts), [])).1.2]) (0, .slice none 0 0 1) (by simp) ⟨rfl, rfl, rfl, rfl, rfl, rfl, trivial⟩ (row_nil _ _) ?_
    rintro ⟨i, s⟩ h1
    dsimp only at h1 ⊢
    obtain ⟨hq, hql⟩ := hI i
    have hstep : ∀ m, hs[i]? = some m → freeStep n ((hs.take i).foldl (freeStep n) ((ms, ts), [])) m = (hs.take (i + 1)).foldl (freeStep n) ((ms, ts), []) := fun m hm => by rw [foldl_take_succ hm]
    generalize hQ : (hs.take i).foldl (freeStep n) ((ms, ts), []) = Q at *
    replace hQ := hQ.symm
    obtain ⟨⟨ms1, ts1⟩, out⟩ := Q
    dsimp only at hq hql ⊢
    refine RUN ?_
    refine TC.cP rfl (fun h3 => ?_) fun h3 => ?_
    · obtain ⟨m, hm⟩ : ∃ m, hs[i]? = some m := ⟨_, List.getElem?_eq_getElem (by omega)⟩
      have hstep := hstep m hm
      refine RUN ?_
      refine RP.c rfl (unl_tri hq m n) (.c (.n (.n .h)) .e) rfl ?_
      rintro v P' ⟨rfl, rfl⟩
      have e0 : freeStep n ((ms1, ts1), out) m = ((unlF ms1 ts1 m n).2, if (unlF ms1 ts1 m n).1.2 = 0 ∧ (unlF ms1 ts1 m n).1.1 > 0 then out ++ [(unlF ms1 ts1 m n).1.1] else out) := rfl
      rw [e0] at hstep
      clear e0
      generalize unlF ms1 ts1 m n = r at *
      obtain ⟨⟨w, c⟩, ms2, ts2⟩ := r
      dsimp only at hstep ⊢
      have big : out.length + 1 ≤ 100 := by omega
      refine RUN ?_
      refine RP.gp rfl (fun h4 => ?_) fun h4 => ?_
      · have h4 : c = 0 := h4
        refine RUN ?_
        refine TC.cP rfl (fun h5 => ?_) fun h5 => ?_
        · rw [if_pos ⟨h4, h5⟩] at hstep
          refine RUN ?_
          refine RP.bs rfl rfl rfl fun b => ?_
          refine RP.ap rfl rfl rfl (ap_one (e := w) encI_len (.c (.n (.n .h)) (.c .h .e)) (by omega)) fun s' => ?_
          refine RUN ?_
          refine lp_n (i + 1, s') (by simp only; omega) (by simp only; omega) ⟨rfl, rfl, rfl, rfl, rfl, rfl, trivial⟩ ?_
          simp only
          rw [← hstep]
          exact LEnt.of (.c .h (.c (.n .h) (.c .h .e)))
        · rw [if_neg (fun hc => h5 hc.2)] at hstep
          refine RUN ?_
          refine lp_n (i + 1, s) (by simp only; omega) (by simp only; omega) ⟨rfl, rfl, rfl, rfl, rfl, rfl, trivial⟩ ?_
          simp only
          rw [← hstep]
          exact LEnt.of (.c (.n .h) (.c (.n .h) (.c .h .e)))
      · have h4 : ¬ c = 0 := h4
        rw [if_neg (fun hc => h4 hc.1)] at hstep
        refine RUN ?_
        refine lp_n (i + 1, s) (by simp only; omega) (by simp only; omega) ⟨rfl, rfl, rfl, rfl, rfl, rfl, trivial⟩ ?_
        simp only
        rw [← hstep]
        exact LEnt.of (.c (.n .h) (.c (.n .h) (.c .h .e)))
    · have : i = hs.length := by omega
      subst this
      rw [List.take_length] at hQ
      refine RUN ?_
      refine md_n s trivial ⟨rfl, trivial⟩ ?_
      rw [hfree, ← hQ]
      exact LEnt.of (.c .h (.c (.n .h) .e))
  · intro s _
    refine RUN ?_
    refine RP.c rfl (xClip_tri s _) (.c .h .e) rfl ?_
    rintro v P' ⟨s', rfl, rfl⟩
    refine RUN ?_
    exact rt_r rfl ⟨s', rfl, rfl⟩ (LEnt.refl _)
end
end Go.AM

/-
  mtx: the laws' first question.
-/
namespace Go.AM
set_option maxHeartbeats 8000000
attribute [local irreducible] sq bk lpK mdx rt TC RP WK Cel Ro Row Fre RowsA RowsBut

def muIB (S : MS) : Bool := decide (1 ≤ S.1.length) && decide (S.1.length ≤ 9) && (S.1.all fun μ => (μ.w.all fun w => decide (1 ≤ w ∧ w ≤ 16)) && decide μ.w.Nodup && decide (0 ≤ μ.ow ∧ μ.ow ≤ 16)) && S.2.all fun τ => decide (0 ≤ τ.w ∧ τ.w < S.1.length)
theorem muIB_ok {S : MS} (h : muIB S = true) : MuI S.1 S.2 := by
  simp only [muIB, Bool.and_eq_true, decide_eq_true_eq, List.all_eq_true] at h
  obtain ⟨⟨⟨h1, h2⟩, h3⟩, h4⟩ := h
  exact ⟨⟨h1, h2, fun μ hμ => (h3 μ hμ).1.1, fun μ hμ => (h3 μ hμ).1.2⟩, fun μ hμ => (h3 μ hμ).2, h4⟩
theorem no_row {S : MS} {m : Nat} {n : Int} (h : (muw S.1 m).contains n = false) : ∀ μ, S.1[m]? = some μ → n ∉ μ.w := by
  intro μ hμ hn
  rw [muw_some hμ] at h
  have : μ.w.contains n = true := by simpa using hn
  rw [this] at h; cases h

def kS0 : MS := ([mu0, ⟨2, 0, 0, []⟩, ⟨3, 2, 0, []⟩], List.replicate 17 tk0)
def kS1 : MS := (setBF kS0.1 kS0.2 1 9).2
def kS2 : MS := (setBF kS1.1 kS1.2 2 4).2
def kS3 : MS := (lockF kS2.1 kS2.2 1 1).2
def kS4 : MS := (lockF kS3.1 kS3.2 1 2).2
def kS5 : MS := (unlF kS4.1 kS4.2 1 1).2
def kS6 : MS := (unlF kS5.1 kS5.2 1 1).2
def kS7 : MS := (tryF kS6.1 kS6.2 2 1).2
abbrev MxS (a : Nat) (S : MS) : Asr := MxA a S.1 S.2

theorem known15_tri : Tri tab mext F.detentlaw15_known [] [] fun v P' => v = bl true ∧ P' = [] := by
  refine Tri.go tab_detentlaw15_known rfl ?_
  refine RUN ?_
  refine RP.bs rfl rfl rfl fun b => ?_
  refine RP.ent (row_made (enc := encK) (k := 2) (c := 2) (r := [(2, 0), (3, 2)]) rfl (by simp) (by simp)) ?_
  refine RP.c rfl (new_tri _ [(2, 0), (3, 2)]) (.c .h .e) rfl ?_
  rintro v P' (⟨h, _⟩ | ⟨_, a, rfl, rfl⟩)
  · rcases h with h | h
    · simp at h
    · exact absurd (by decide) h
  refine RUN ?_
  refine RP.ent (L' := [MxS a kS0]) (LEnt.of (.c .h .e)) ?_
  refine RP.c rfl (setB_tri (muIB_ok (S := kS0) (by kernel_rfl)) 1 9) (.c .h .e) rfl ?_
  rintro v P' ⟨rfl, rfl⟩
  rw [show (setBF kS0.1 kS0.2 1 9).1 = 0 by kernel_rfl, show (setBF kS0.1 kS0.2 1 9).2 = kS1 from rfl]
  refine RUN ?_
  refine RP.c rfl (setB_tri (muIB_ok (S := kS1) (by kernel_rfl)) 2 4) (.c .h .e) rfl ?_
  rintro v P' ⟨rfl, rfl⟩
  rw [show (setBF kS1.1 kS1.2 2 4).1 = 0 by kernel_rfl, show (setBF kS1.1 kS1.2 2 4).2 = kS2 from rfl]
  refine RUN ?_
  refine RP.c rfl (lock_tri (muIB_ok (S := kS2) (by kernel_rfl)) 1 1 (fun _ => no_row (S := kS2) (m := 1) (by kernel_rfl))) (.c .h .e) rfl ?_
  rintro v P' ⟨rfl, rfl⟩
  rw [show (lockF kS2.1 kS2.2 1 1).1 = (true, 0) by kernel_rfl, show (lockF kS2.1 kS2.2 1 1).2 = kS3 from rfl]
  refine RUN ?_
  refine RP.c rfl (lock_tri (muIB_ok (S := kS3) (by kernel_rfl)) 1 2 (fun _ => no_row (S := kS3) (m := 1) (by kernel_rfl))) (.c .h .e) rfl ?_
  rintro v P' ⟨rfl, rfl⟩
  rw [show (lockF kS3.1 kS3.2 1 2).1 = (false, 0) by kernel_rfl, show (lockF kS3.1 kS3.2 1 2).2 = kS4 from rfl]
  refine RUN ?_
  refine RP.c rfl (Pri_tri 1) (.c .h .e) rfl ?_
  rintro v P' ⟨rfl, rfl⟩
  rw [show (if (1 : Int) ≤ 1 ∧ (1 : Int) ≤ 16 then tkp kS4.2 1 else 0) = 4 by kernel_rfl]
  refine RUN ?_
  refine RP.c rfl (unl_tri (muIB_ok (S := kS4) (by kernel_rfl)) 1 1) (.c .h .e) rfl ?_
  rintro v P' ⟨rfl, rfl⟩
  rw [show (unlF kS4.1 kS4.2 1 1).1 = (2, 0) by kernel_rfl, show (unlF kS4.1 kS4.2 1 1).2 = kS5 from rfl]
  refine RUN ?_
  refine RP.c rfl (unl_tri (muIB_ok (S := kS5) (by kernel_rfl)) 1 1) (.c .h .e) rfl ?_
  rintro v P' ⟨rfl, rfl⟩
  rw [show (unlF kS5.1 kS5.2 1 1).1 = (0, -28) by kernel_rfl, show (unlF kS5.1 kS5.2 1 1).2 = kS6 from rfl]
  refine RUN ?_
  refine RP.c rfl (try_tri (muIB_ok (S := kS6) (by kernel_rfl)) 2 1) (.c .h .e) rfl ?_
  rintro v P' ⟨rfl, rfl⟩
  rw [show (tryF kS6.1 kS6.2 2 1).1 = (true, 0) by kernel_rfl, show (tryF kS6.1 kS6.2 2 1).2 = kS7 from rfl]
  refine RUN ?_
  refine RP.c rfl (Pri_tri 1) (.c .h .e) rfl ?_
  rintro v P' ⟨rfl, rfl⟩
  rw [show (if (1 : Int) ≤ 1 ∧ (1 : Int) ≤ 16 then tkp kS7.2 1 else 0) = 2 by kernel_rfl]
  refine RUN ?_
  refine RP.c rfl (Base_tri 1) (.c .h .e) rfl ?_
  rintro v P' ⟨rfl, rfl⟩
  rw [show (if (1 : Int) ≤ 1 ∧ (1 : Int) ≤ 16 then tkb kS7.2 1 else 0) = 9 by kernel_rfl]
  refine RUN ?_
  refine RP.c rfl (Owner_tri 1) (.c .h .e) rfl ?_
  rintro v P' ⟨rfl, rfl⟩
  rw [show (if (1 : Int) ≤ 1 ∧ (1 : Int) < kS7.1.length then mow kS7.1 1 else 0) = 2 by kernel_rfl]
  refine RUN ?_
  refine RP.c rfl (held_tri (muIB_ok (S := kS7) (by kernel_rfl)).v 1) (.c .h .e) rfl ?_
  rintro v P' ⟨s, rfl, rfl⟩
  rw [show heldF kS7.1 1 = [2] by kernel_rfl]
  refine RUN ?_
  exact rt_r rfl ⟨rfl, rfl⟩ (LEnt.of .e)
end Go.AM

/-
  MutexCeilings: one task, ceilings; the plain law.
-/
namespace Go.AM

/-- Mutexes with a ceiling that task 1 has, or nobody. -/
structure CeZ (ms : List Mu) : Prop where
  h0 : ms[0]? = some mu0
  h : ∀ μ ∈ ms.drop 1, μ.at_ = 3 ∧ μ.w = [] ∧ (μ.ow = 0 ∨ μ.ow = 1)
def tsS (b p : Int) : List Tk := tk0 :: ⟨b, p, 0⟩ :: List.replicate 15 tk0
def pf (ms : List Mu) (b : Int) : Int := (ms.drop 1).foldl (fun p x => if x.ow ≠ 1 then p else mn p x.ce) b

theorem CeZ.at {ms : List Mu} (h : CeZ ms) {m : Nat} {μ : Mu} (hm : ms[m]? = some μ) : μ.w = [] ∧ (1 ≤ m → μ.at_ = 3 ∧ (μ.ow = 0 ∨ μ.ow = 1)) := by
  cases m with
  | zero => rw [h.h0] at hm; cases hm; exact ⟨rfl, fun h => absurd h (by omega)⟩
  | succ m =>
    have : μ ∈ ms.drop 1 := List.mem_of_getElem? (i := m) (by rw [List.getElem?_drop, Nat.add_comm]; exact hm)
    have h1 := h.h μ this
    exact ⟨h1.2.1, fun _ => ⟨h1.1, h1.2.2⟩⟩

theorem CeZ.muw {ms : List Mu} (h : CeZ ms) (m : Nat) : muw ms m = [] := by
  unfold Go.AM.muw
  cases hm : ms[m]? with
  | none => rfl
  | some μ => exact (h.at hm).1

theorem foldl_same {α β : Type} {f : β → α → β} {b : β} : ∀ (l : List α), (∀ x ∈ l, f b x = b) → l.foldl f b = b
  | [], _ => rfl
  | x :: l, h => by rw [List.foldl_cons, h x (by simp)]; exact foldl_same l fun y hy => h y (by simp [hy])

theorem CeZ.rk1 {ms : List Mu} (h : CeZ ms) {ts : List Tk} {f : Nat} : rk ms ts (f + 1) 1 = pf ms (tkb ts 1) := by
  have : ∀ (l : List Mu) (p : Int), (∀ μ ∈ l, μ.at_ = 3 ∧ μ.w = [] ∧ (μ.ow = 0 ∨ μ.ow = 1)) → l.foldl (fun p x => if x.ow ≠ 1 then p else if x.at_ = 3 then mn p x.ce else if x.at_ = 2 then x.w.foldl (fun p w => mn p (rk ms ts f w)) p else p) p = l.foldl (fun p x => if x.ow ≠ 1 then p else mn p x.ce) p := by
    intro l
    induction l with
    | nil => intro p _; rfl
    | cons x l ih =>
      intro p hl
      simp only [List.foldl_cons]
      rw [if_pos (hl x (by simp)).1]
      exact ih _ fun μ hμ => hl μ (by simp [hμ])
  exact this _ _ h.h
theorem CeZ.rkn {ms : List Mu} (h : CeZ ms) {ts : List Tk} {f : Nat} {n : Int} (h2 : 2 ≤ n) : rk ms ts (f + 1) n = tkb ts n := by
  rw [rk]
  refine foldl_same _ fun x hx => ?_
  have := (h.h x hx).2.2
  rw [if_pos (by rcases this with h | h <;> omega)]

theorem setps_get (pri : Int → Int) (ts : List Tk) : ∀ (k i : Nat), ((List.range' 1 k).foldl (fun t (j : Nat) => setp t j (pri j)) ts)[i]? = (if 1 ≤ i ∧ i ≤ k then (ts[i]?).map (fun τ => { τ with p := pri i }) else ts[i]?)
  | 0, i => by
    rw [if_neg (by omega)]; rfl
  | k + 1, i => by
    have ih := setps_get pri ts k
    rw [List.range'_concat, List.foldl_append, List.foldl_cons, List.foldl_nil]
    generalize (List.range' 1 k).foldl (fun t (j : Nat) => setp t j (pri j)) ts = t at ih
    have e : 1 + 1 * k = k + 1 := by omega
    rw [e]
    unfold setp
    rw [show (((k + 1 : Nat) : Int)).toNat = k + 1 from rfl]
    have h1 := ih (k + 1)
    rw [if_neg (by omega)] at h1
    by_cases hi : i = k + 1
    · subst hi
      rw [if_pos (by omega), h1]
      cases h2 : ts[k + 1]? with
      | none => rw [h2] at h1; exact h1
      | some τ =>
        rw [h2] at h1
        show (t.set (k + 1) _)[k + 1]? = _
        rw [List.getElem?_set_self (List.getElem?_eq_some_iff.1 h1).1]; rfl
    · have h3 := ih i
      have h5 : (if 1 ≤ i ∧ i ≤ k + 1 then (ts[i]?).map (fun τ => { τ with p := pri i }) else ts[i]?) = t[i]? := by
        rw [h3]
        by_cases h4 : 1 ≤ i ∧ i ≤ k
        · rw [if_pos h4, if_pos (by omega)]
        · rw [if_neg h4, if_neg (by omega)]
      rw [h5]
      cases t[k + 1]? with
      | none => rfl
      | some τ => exact List.getElem?_set_ne (Ne.symm hi)
theorem setpsZ (pri : Int → Int) (b p P : Int) (h1 : pri 1 = P) (hn : ∀ n : Nat, 2 ≤ n → n ≤ 16 → pri n = 16) : (List.range' 1 16).foldl (fun t (j : Nat) => setp t j (pri j)) (tsS b p) = tsS b P := by
  refine List.ext_getElem? fun i => ?_
  rw [setps_get]
  match i with
  | 0 => rfl
  | 1 => rw [if_pos (by omega)]; subst h1; rfl
  | i + 2 =>
    by_cases hi : i + 2 ≤ 16
    · rw [if_pos ⟨by omega, hi⟩, hn (i + 2) (by omega) hi]
      have : (tsS b p)[i + 2]? = some tk0 := by
        show (List.replicate 15 tk0)[i]? = _
        rw [List.getElem?_replicate, if_pos (by omega)]
      rw [this]
      have : (tsS b P)[i + 2]? = some tk0 := by
        show (List.replicate 15 tk0)[i]? = _
        rw [List.getElem?_replicate, if_pos (by omega)]
      rw [this]; rfl
    · rw [if_neg (by omega)]
      rfl
theorem tkbZ (b p : Int) (n : Nat) (h1 : 2 ≤ n) (h2 : n ≤ 16) : tkb (tsS b p) n = 16 := by
  obtain ⟨i, rfl⟩ : ∃ i, n = i + 2 := ⟨n - 2, by omega⟩
  have : (tsS b p)[i + 2]? = some tk0 := by
    show (List.replicate 15 tk0)[i]? = _
    rw [List.getElem?_replicate, if_pos (by omega)]
  unfold tkb
  rw [show (((i + 2 : Nat) : Int)).toNat = i + 2 from rfl, this]; rfl
theorem settleZ {ms : List Mu} (h : CeZ ms) (b p : Int) : settleF ms (tsS b p) = (ms, tsS b (pf ms b)) := by
  have e1 : (List.range' 1 (ms.length - 1)).foldl (stlM (rk ms (tsS b p) 17)) (ms, tsS b p) = (ms, tsS b p) := by
    refine foldl_same _ fun m _ => ?_
    unfold stlM
    rw [h.muw m]; rfl
  have e2 : rk ms (tsS b p) 17 1 = pf ms b := h.rk1
  have e3 : ∀ n : Int, 2 ≤ n → rk ms (tsS b p) 17 n = tkb (tsS b p) n := fun n hn => h.rkn hn
  unfold settleF
  simp only [e1]
  generalize rk ms (tsS b p) 17 = pri at e2 e3
  rw [setpsZ pri b p _ e2 fun n h1 h2 => by rw [e3 n (by omega)]; exact tkbZ b p n h1 h2]
end Go.AM

/-
  Mutexes: tasks as functions; rows that stay as they are.
-/
namespace Go.AM

def ud {α : Type} (f : Nat → α) (n : Nat) (x : α) : Nat → α := fun k => if k = n then x else f k
theorem ud_same {α : Type} (f : Nat → α) (n : Nat) : ud f n (f n) = f := funext fun k => by unfold ud; split <;> simp_all
theorem ud_at {α : Type} (f : Nat → α) (n : Nat) (x : α) : ud f n x n = x := if_pos rfl
theorem ud_ne {α : Type} (f : Nat → α) {n k : Nat} (x : α) (h : k ≠ n) : ud f n x k = f k := if_neg h
def tsF (b p w : Nat → Int) : List Tk := (List.range 17).map fun k => ⟨b k, p k, w k⟩

section
variable {b p w : Nat → Int}
theorem tsF_get {k : Nat} (h : k < 17) : (tsF b p w)[k]? = some ⟨b k, p k, w k⟩ := by
  unfold tsF; rw [List.getElem?_map, List.getElem?_range h]; rfl
theorem tsF_no {k : Nat} (h : ¬ k < 17) : (tsF b p w)[k]? = none := by
  unfold tsF; rw [List.getElem?_map, List.getElem?_eq_none (by simp; omega)]; rfl
theorem tsF_ext {t : List Tk} (h1 : ∀ k, k < 17 → t[k]? = some ⟨b k, p k, w k⟩) (h2 : ∀ k, ¬ k < 17 → t[k]? = none) : t = tsF b p w := by
  refine List.ext_getElem? fun k => ?_
  by_cases h : k < 17
  · rw [h1 k h, tsF_get h]
  · rw [h2 k h, tsF_no h]
theorem tsF_len : (tsF b p w).length = 17 := by simp [tsF]
theorem tsF_set {n : Nat} (h : n < 17) (x y z : Int) : (tsF b p w).set n ⟨x, y, z⟩ = tsF (ud b n x) (ud p n y) (ud w n z) := by
  refine tsF_ext (fun k hk => ?_) fun k hk => ?_
  · by_cases e : k = n
    · subst e
      rw [List.getElem?_set_self (by rw [tsF_len]; exact hk), ud_at, ud_at, ud_at]
    · rw [List.getElem?_set_ne (Ne.symm e), tsF_get hk, ud_ne _ _ e, ud_ne _ _ e, ud_ne _ _ e]
  · rw [List.getElem?_eq_none (by rw [List.length_set, tsF_len]; omega)]
theorem tkb_F {n : Nat} (h : n < 17) : tkb (tsF b p w) n = b n := by unfold tkb; rw [Int.toNat_natCast, tsF_get h]; rfl
theorem tkp_F {n : Nat} (h : n < 17) : tkp (tsF b p w) n = p n := by unfold tkp; rw [Int.toNat_natCast, tsF_get h]; rfl
theorem tkw_F {n : Nat} (h : n < 17) : tkw (tsF b p w) n = w n := by unfold tkw; rw [Int.toNat_natCast, tsF_get h]; rfl
theorem setb_F {n : Nat} (h : n < 17) (x : Int) : setb (tsF b p w) n x = tsF (ud b n x) p w := by
  unfold setb
  rw [Int.toNat_natCast, tsF_get h]
  show (tsF b p w).set n ⟨x, p n, w n⟩ = _
  rw [tsF_set h, ud_same, ud_same]
theorem setp_F {n : Nat} (h : n < 17) (x : Int) : setp (tsF b p w) n x = tsF b (ud p n x) w := by
  unfold setp
  rw [Int.toNat_natCast, tsF_get h]
  show (tsF b p w).set n ⟨b n, x, w n⟩ = _
  rw [tsF_set h, ud_same, ud_same]
theorem setw_F {n : Nat} (h : n < 17) (x : Int) : setw (tsF b p w) n x = tsF b p (ud w n x) := by
  unfold setw
  rw [Int.toNat_natCast, tsF_get h]
  show (tsF b p w).set n ⟨b n, p n, x⟩ = _
  rw [tsF_set h, ud_same, ud_same]
end

/-- A priority looks at the bases only. -/
theorem rk_base {ms : List Mu} {t t' : List Tk} (h : ∀ n, tkb t n = tkb t' n) : ∀ (f : Nat) (n : Int), rk ms t f n = rk ms t' f n
  | 0, n => h n
  | f + 1, n => by
    have ih := rk_base (ms := ms) h f
    have e : rk ms t f = rk ms t' f := funext ih
    simp only [rk, e, h n]
def rkB (ms : List Mu) (b : Nat → Int) (f : Nat) (n : Int) : Int := rk ms (tsF b (fun _ => 0) (fun _ => 0)) f n
theorem tkb_any {b p w p' w' : Nat → Int} (n : Int) : tkb (tsF b p w) n = tkb (tsF b p' w') n := by
  unfold tkb
  by_cases h : n.toNat < 17
  · rw [tsF_get h, tsF_get h]
    rfl
  · rw [tsF_no h, tsF_no h]
theorem rk_F (ms : List Mu) (b p w : Nat → Int) (f : Nat) (n : Int) : rk ms (tsF b p w) f n = rkB ms b f n := rk_base (fun n => tkb_any n) f n

/-- All priorities are told anew. -/
def priF (ms : List Mu) (b p : Nat → Int) : Nat → Int := fun k => if 1 ≤ k ∧ k ≤ 16 then rkB ms b 17 k else p k
theorem setps_F (pri : Int → Int) (b p w : Nat → Int) : (List.range' 1 16).foldl (fun t (k : Nat) => setp t k (pri k)) (tsF b p w) = tsF b (fun k => if 1 ≤ k ∧ k ≤ 16 then pri k else p k) w := by
  refine tsF_ext (fun k hk => ?_) fun k hk => ?_
  · rw [setps_get]
    by_cases h : 1 ≤ k ∧ k ≤ 16
    · rw [if_pos h, if_pos h, tsF_get hk]; rfl
    · rw [if_neg h, if_neg h, tsF_get hk]
  · rw [setps_get, if_neg (by omega), tsF_no hk]

/-- A row that stays: of one at most, or of tasks whose priorities stay. -/
def RowStays (ms : List Mu) (b p : Nat → Int) (μ : Mu) : Prop := (∀ x ∈ μ.w, 1 ≤ x ∧ x ≤ 16) ∧ (μ.w = [] ∨ (∃ x, μ.w = [x]) ∨ ∀ x ∈ μ.w, rkB ms b 17 x = p x.toNat)
def Pq (ms : List Mu) (b p p' : Nat → Int) : Prop := ∀ k : Nat, p' k = p k ∨ (1 ≤ k ∧ k ≤ 16 ∧ p' k = rkB ms b 17 k)

theorem leave_rejoin1 {ms : List Mu} {m : Nat} {μ : Mu} {x : Int} {t : List Tk} (hm : ms[m]? = some μ) (hx : μ.w = [x]) : rejoinF (leaveF ms m x) t m x = ms := by
  unfold leaveF
  rw [muW_some hm]
  unfold rejoinF
  have h1 : (ms.set m { μ with w := if μ.at_ = 0 then μ.w else μ.w.filter (fun w => decide (w ≠ x)) })[m]? = some { μ with w := if μ.at_ = 0 then μ.w else μ.w.filter (fun w => decide (w ≠ x)) } := by
    rw [List.getElem?_set_self (List.getElem?_eq_some_iff.1 hm).1]
  rw [muW_some h1, List.set_set]
  have e : (if μ.at_ = 0 then (if μ.at_ = 0 then μ.w else μ.w.filter (fun w => decide (w ≠ x))) else insF t μ.at_ x (if μ.at_ = 0 then μ.w else μ.w.filter (fun w => decide (w ≠ x)))) = μ.w := by
    by_cases h0 : μ.at_ = 0
    · rw [if_pos h0, if_pos h0]
    · rw [if_neg h0, if_neg h0, hx]
      have : [x].filter (fun w => decide (w ≠ x)) = [] := by simp
      rw [this]
      unfold insF
      rw [List.take_nil, List.drop_nil]; rfl
  show ms.set m { μ with w := _ } = ms
  simp only
  rw [e]
  exact set_same hm
theorem stlM_F {ms : List Mu} {b p w : Nat → Int} {m : Nat} (hr : ∀ μ, ms[m]? = some μ → RowStays ms b p μ) {p' : Nat → Int} (hp : Pq ms b p p') : ∃ p2, Pq ms b p p2 ∧ stlM (rkB ms b 17) (ms, tsF b p' w) m = (ms, tsF b p2 w) := by
  unfold stlM
  cases hm : ms[m]? with
  | none =>
    have : muw ms m = [] := by unfold muw; rw [hm]; rfl
    simp only [this]
    exact ⟨p', hp, rfl⟩
  | some μ =>
    simp only [muw_some hm]
    obtain ⟨h1, h2⟩ := hr μ hm
    rcases h2 with h2 | ⟨x, h2⟩ | h2
    · rw [h2]; exact ⟨p', hp, rfl⟩
    · have hx := h1 x (by rw [h2]; simp)
      rw [h2]
      simp only [List.foldl_cons, List.foldl_nil]
      unfold stlN
      split
      · exact ⟨p', hp, rfl⟩
      · simp only
        rw [leave_rejoin1 hm h2]
        obtain ⟨k, rfl⟩ : ∃ k : Nat, x = k := ⟨x.toNat, by omega⟩
        rw [setp_F (by omega)]
        refine ⟨_, fun j => ?_, rfl⟩
        by_cases e : j = k
        · subst e; right; exact ⟨by omega, by omega, ud_at _ _ _⟩
        · rw [ud_ne _ _ e]; exact hp j
    · refine ⟨p', hp, foldl_same _ fun x hx => ?_⟩
      have hx1 := h1 x hx
      have hx2 := h2 x hx
      obtain ⟨k, rfl⟩ : ∃ k : Nat, x = k := ⟨x.toNat, by omega⟩
      unfold stlN
      rw [if_pos]
      show rkB ms b 17 k = tkp (tsF b p' w) k
      rw [tkp_F (by omega), hx2, Int.toNat_natCast]
      rcases hp k with h | h
      · exact h.symm
      · rw [h.2.2, hx2, Int.toNat_natCast]
theorem settle_F {ms : List Mu} {b p w : Nat → Int} (hr : ∀ (m : Nat) (μ : Mu), ms[m]? = some μ → RowStays ms b p μ) : settleF ms (tsF b p w) = (ms, tsF b (priF ms b p) w) := by
  have e : rk ms (tsF b p w) 17 = rkB ms b 17 := funext fun n => rk_F ms b p w 17 n
  have h1 : ∀ (l : List Nat) (p' : Nat → Int), Pq ms b p p' → ∃ p2, Pq ms b p p2 ∧ l.foldl (stlM (rkB ms b 17)) (ms, tsF b p' w) = (ms, tsF b p2 w) := by
    intro l
    induction l with
    | nil => exact fun p' h => ⟨p', h, rfl⟩
    | cons m l ih =>
      intro p' h
      obtain ⟨p2, h2, e2⟩ := stlM_F (w := w) (hr m) h
      obtain ⟨p3, h3, e3⟩ := ih p2 h2
      exact ⟨p3, h3, by rw [List.foldl_cons, e2, e3]⟩
  obtain ⟨p2, h2, e2⟩ := h1 (List.range' 1 (ms.length - 1)) p (fun _ => .inl rfl)
  unfold settleF
  simp only [e]
  rw [e2]
  simp only
  rw [setps_F]
  congr 2
  funext k
  unfold priF
  by_cases h : 1 ≤ k ∧ k ≤ 16
  · rw [if_pos h, if_pos h]
  · rw [if_neg h, if_neg h]
    rcases h2 k with h3 | h3
    · exact h3
    · exact absurd ⟨h3.1, h3.2.1⟩ h
end Go.AM

/-
  MutexPasses: the plain law.
-/
namespace Go.AM

attribute [local irreducible] settleF tsF ovF insF

def msP (at_ o : Int) (row : List Int) : List Mu := [mu0, ⟨at_, 0, o, row⟩]
structure PI (o : Int) (row : List Int) (b p w : Nat → Int) : Prop where
  r : ∀ x ∈ row, (1 ≤ x ∧ x ≤ 16) ∧ x ≠ o
  nd : row.Nodup
  p : ∀ k : Nat, 1 ≤ k ∧ k ≤ 16 → (k : Int) ≠ o → p k = b k
  w : ∀ k : Nat, k < 17 → w k = if (k : Int) ∈ row then 1 else 0
  o : 0 ≤ o ∧ o ≤ 16

section
variable {at_ o : Int} {row : List Int} {b p w : Nat → Int}
theorem rk_P {k : Nat} (hk : k < 17) (ho : (k : Int) ≠ o) : rkB (msP at_ o row) b 17 k = b k := by
  unfold rkB
  rw [rk]
  show (if o ≠ (k : Int) then tkb _ k else _) = _
  rw [if_pos (Ne.symm ho), tkb_F hk]
theorem msP_mem {m : Nat} {μ : Mu} (h : (msP at_ o row)[m]? = some μ) : (m = 0 ∧ μ = mu0) ∨ (m = 1 ∧ μ = ⟨at_, 0, o, row⟩) := by
  match m, h with
  | 0, h => cases h; exact .inl ⟨rfl, rfl⟩
  | 1, h => cases h; exact .inr ⟨rfl, rfl⟩
  | m + 2, h => cases h
theorem PI.muI (h : PI o row b p w) : MuI (msP at_ o row) (tsF b p w) where
  v := {
    l0 := by show 1 ≤ 2; omega
    l1 := by show 2 ≤ 9; omega
    w := fun μ hμ => by
      obtain ⟨m, hm⟩ := List.mem_iff_getElem?.1 hμ
      rcases msP_mem hm with ⟨_, rfl⟩ | ⟨_, rfl⟩
      · exact fun x hx => nomatch hx
      · exact fun x hx => (h.r x hx).1
    nd := fun μ hμ => by
      obtain ⟨m, hm⟩ := List.mem_iff_getElem?.1 hμ
      rcases msP_mem hm with ⟨_, rfl⟩ | ⟨_, rfl⟩
      · exact List.nodup_nil
      · exact h.nd }
  o := fun μ hμ => by
    obtain ⟨m, hm⟩ := List.mem_iff_getElem?.1 hμ
    rcases msP_mem hm with ⟨_, rfl⟩ | ⟨_, rfl⟩
    · exact ⟨Int.le_refl _, by decide⟩
    · exact h.o
  t := fun τ hτ => by
    obtain ⟨m, hm⟩ := List.mem_iff_getElem?.1 hτ
    by_cases h17 : m < 17
    · rw [tsF_get h17] at hm
      cases hm
      show 0 ≤ w m ∧ w m < 2
      rw [h.w m h17]
      split <;> omega
    · rw [tsF_no h17] at hm
      cases hm
theorem settle_P (h : PI o row b p w) : ∃ p', settleF (msP at_ o row) (tsF b p w) = (msP at_ o row, tsF b p' w) ∧ PI o row b p' w := by
  refine ⟨_, settle_F fun m μ hm => ?_, ?_⟩
  · rcases msP_mem hm with ⟨_, rfl⟩ | ⟨_, rfl⟩
    · exact ⟨(fun x hx => nomatch hx), Or.inl rfl⟩
    · refine ⟨fun x hx => (h.r x hx).1, .inr (.inr fun x hx => ?_)⟩
      obtain ⟨h1, h2⟩ := h.r x hx
      obtain ⟨k, rfl⟩ : ∃ k : Nat, x = k := ⟨x.toNat, by omega⟩
      rw [rk_P (by omega) h2, Int.toNat_natCast, h.p k (by omega) h2]
  · refine ⟨h.r, h.nd, fun k hk ho => ?_, h.w, h.o⟩
    unfold priF
    rw [if_pos hk, rk_P (by omega) ho]

/-- Who comes ahead of whom. -/
def RP2 (at_ : Int) (b : Nat → Int) (x y : Int) : Prop := if at_ = 0 then x < y else b x.toNat < b y.toNat ∨ (b x.toNat = b y.toNat ∧ x < y)

theorem setB_P (h : PI o row b p w) (ha : at_ = 0 ∨ at_ = 1 ∨ at_ = 2) {t : Nat} (ht : 1 ≤ t ∧ t ≤ 16) (hto : (t : Int) ≠ o) (htr : (t : Int) ∉ row) {x : Int} (hx : 1 ≤ x ∧ x ≤ 16) :
    ∃ p', setBF (msP at_ o row) (tsF b p w) t x = (0, (msP at_ o row, tsF (ud b t x) p' w)) ∧ PI o row (ud b t x) p' w := by
  have h0 : PI o row (ud b t x) (ud p t x) w := ⟨h.r, h.nd, fun k hk ho => by
    unfold ud
    split
    · rfl
    · exact h.p k hk ho, h.w, h.o⟩
  have h1 : ∃ p', settleF (msP at_ o row) (tsF (ud b t x) p w) = (msP at_ o row, tsF (ud b t x) p' w) ∧ PI o row (ud b t x) p' w := by
    refine ⟨_, settle_F fun m μ hm => ?_, ?_⟩
    · rcases msP_mem hm with ⟨_, rfl⟩ | ⟨_, rfl⟩
      · exact ⟨(fun x hx => nomatch hx), Or.inl rfl⟩
      · refine ⟨fun x hx => (h.r x hx).1, .inr (.inr fun z hz => ?_)⟩
        obtain ⟨h1, h2⟩ := h.r z hz
        obtain ⟨k, rfl⟩ : ∃ k : Nat, z = k := ⟨z.toNat, by omega⟩
        have hkt : k ≠ t := fun e => htr (by rw [← e]; exact hz)
        rw [rk_P (by omega) h2, Int.toNat_natCast, ud_ne _ _ hkt, h.p k (by omega) h2]
    · refine ⟨h.r, h.nd, fun k hk ho => ?_, h.w, h.o⟩
      unfold priF
      rw [if_pos hk, rk_P (by omega) ho]
  obtain ⟨p', h2, h3⟩ := h1
  refine ⟨p', ?_, h3⟩
  unfold setBF
  rw [if_neg (by omega), if_neg (by omega)]
  have hb : sbBad (msP at_ o row) (tsF b p w) t x ((msP at_ o row).length - 1) = false := by
    show (decide _ || false) = false
    rw [Bool.or_false]
    refine decide_eq_false fun hh => ?_
    have : mat (msP at_ o row) ((1 : Nat) : Int) = at_ := rfl
    have h3 := hh.1
    rw [this] at h3
    omega
  rw [hb, if_neg (by decide), setb_F (by omega), h2]

theorem posW_spec (ts : List Tk) (pn : Int) (r : List Int) : ∀ i, (∀ j, posW ts pn r i ≤ j → j < i → tkp ts ((r[j]?).getD 0) > pn) ∧ (posW ts pn r i = 0 ∨ ¬ tkp ts ((r[posW ts pn r i - 1]?).getD 0) > pn)
  | 0 => ⟨fun j _ h => absurd h (by omega), .inl rfl⟩
  | i + 1 => by
    obtain ⟨h1, h2⟩ := posW_spec ts pn r i
    simp only [posW]
    split
    · rename_i h
      refine ⟨fun j hj hl => ?_, h2⟩
      by_cases e : j = i
      · subst e; exact h
      · exact h1 j hj (by omega)
    · rename_i h
      exact ⟨fun j hj hl => absurd hl (by omega), .inr (by rw [Nat.add_sub_cancel]; exact h)⟩

/-- Put in: the row is in its order still. -/
theorem ins_sorted (h : PI o row b p w) (_ : at_ = 0 ∨ at_ = 1 ∨ at_ = 2) {t : Nat} (ht : 1 ≤ t ∧ t ≤ 16) (hto : (t : Int) ≠ o) (hlt : ∀ x ∈ row, x < (t : Int)) (hs : row.Pairwise (RP2 at_ b)) : (insF (tsF b p w) at_ t row).Pairwise (RP2 at_ b) := by
  have hpx : ∀ x ∈ row, tkp (tsF b p w) x = b x.toNat := fun x hx => by
    obtain ⟨h1, h2⟩ := h.r x hx
    obtain ⟨k, rfl⟩ : ∃ k : Nat, x = k := ⟨x.toNat, by omega⟩
    rw [tkp_F (by omega), Int.toNat_natCast, h.p k (by omega) h2]
  have hpt : tkp (tsF b p w) (t : Int) = b t := by rw [tkp_F (by omega), h.p t ht hto]
  unfold insF posF
  by_cases h0 : at_ = 0
  · rw [if_pos h0, List.take_length, List.drop_length]
    refine List.pairwise_append.2 ⟨hs, List.pairwise_singleton _ _, fun x hx y hy => ?_⟩
    rw [List.mem_singleton.1 hy]
    unfold RP2
    rw [if_pos h0]; exact hlt x hx
  · rw [if_neg h0, hpt]
    obtain ⟨g1, g2⟩ := posW_spec (tsF b p w) (b t) row row.length
    have g3 := posW_le (tsF b p w) (b t) row row.length
    generalize posW (tsF b p w) (b t) row row.length = k at g1 g2 g3
    have hin : ∀ j x, row[j]? = some x → k ≤ j → b t < b x.toNat := fun j x hj hk => by
      have := g1 j hk (List.getElem?_eq_some_iff.1 hj).1
      rw [hj] at this
      rw [← hpx x (List.mem_of_getElem? hj)]
      exact this
    have hle : ∀ j x, row[j]? = some x → j < k → b x.toNat ≤ b t := fun j x hj hk => by
      rcases g2 with g2 | g2
      · omega
      · have hk1 : k - 1 < row.length := by omega
        have e : row[k - 1]? = some row[k - 1] := List.getElem?_eq_getElem hk1
        rw [e] at g2
        have g4 : b (row[k - 1]).toNat ≤ b t := by
          rw [← hpx _ (List.getElem_mem hk1)]
          exact Int.not_lt.1 g2
        by_cases ej : j = k - 1
        · subst ej
          rw [e] at hj
          cases hj
          exact g4
        · have hjl := (List.getElem?_eq_some_iff.1 hj)
          obtain ⟨hjl, hjx⟩ := hjl
          have := List.pairwise_iff_getElem.1 hs j (k - 1) hjl hk1 (by omega)
          rw [hjx] at this
          unfold RP2 at this
          rw [if_neg h0] at this
          omega
    refine List.pairwise_append.2 ⟨hs.sublist (List.take_sublist _ _), List.pairwise_cons.2 ⟨fun y hy => ?_, hs.sublist (List.drop_sublist _ _)⟩, fun x hx y hy => ?_⟩
    · unfold RP2
      rw [if_neg h0]
      obtain ⟨j, hj⟩ := List.mem_iff_getElem?.1 hy
      rw [List.getElem?_drop] at hj
      exact .inl (hin _ y hj (by omega))
    · rcases List.mem_cons.1 hy with rfl | hy
      · unfold RP2
        rw [if_neg h0, Int.toNat_natCast]
        obtain ⟨j, hj⟩ := List.mem_iff_getElem?.1 hx
        rw [List.getElem?_take] at hj
        split at hj
        · rename_i hjk
          have h1 := hle j x hj hjk
          have h2 := hlt x (List.mem_of_getElem? hj)
          omega
        · cases hj
      · have := List.pairwise_append.1 (show (row.take k ++ row.drop k).Pairwise (RP2 at_ b) by rw [List.take_append_drop]; exact hs)
        exact this.2.2 x hx y hy

theorem lock_P (h : PI o row b p w) (ha : at_ = 0 ∨ at_ = 1 ∨ at_ = 2) {t : Nat} (ht : 1 ≤ t ∧ t ≤ 16) (hto : (t : Int) ≠ o) (htr : (t : Int) ∉ row) (ho : o ≠ 0) (hor : o ∉ row) :
    ∃ p' w', lockF (msP at_ o row) (tsF b p w) 1 t = ((false, 0), (msP at_ o (insF (tsF b p w) at_ t row), tsF b p' w')) ∧ PI o (insF (tsF b p w) at_ t row) b p' w' := by
  have hoo := h.o
  have hT : tryF (msP at_ o row) (tsF b p w) 1 t = ((false, 0), (msP at_ o row, tsF b p w)) := by
    unfold tryF
    have e1 : mow (msP at_ o row) 1 = o := rfl
    have e2 : mat (msP at_ o row) 1 = at_ := rfl
    have e3 : (msP at_ o row).length = 2 := rfl
    rw [e1, e2, e3, if_neg (by omega), if_neg (by omega), tkw_F (by omega), h.w t (by omega), if_neg htr, if_neg (by omega), if_neg ho]
  have h1 : PI o (insF (tsF b p w) at_ t row) b p (ud w t 1) := by
    refine ⟨fun x hx => ?_, insF_nodup h.nd htr, h.p, fun k hk => ?_, h.o⟩
    · rcases insF_mem.1 hx with rfl | hx
      · exact ⟨by omega, hto⟩
      · exact h.r x hx
    · unfold ud
      split
      · rename_i e; subst e
        rw [if_pos (insF_mem.2 (.inl rfl))]
      · rename_i e
        rw [h.w k hk]
        by_cases hr : (k : Int) ∈ row
        · rw [if_pos hr, if_pos (insF_mem.2 (.inr hr))]
        · rw [if_neg hr, if_neg]
          intro hh
          rcases insF_mem.1 hh with hh | hh
          · exact e (by omega)
          · exact hr hh
  obtain ⟨p', h2, h3⟩ := settle_P (at_ := at_) h1
  refine ⟨p', ud w t 1, ?_, h3⟩
  have hov : ovF (msP at_ o row) (tsF b p w) t 17 (mow (msP at_ o row) 1) = false := by
    have e1 : mow (msP at_ o row) 1 = o := rfl
    rw [e1, ovF, if_pos]
    obtain ⟨k, rfl⟩ : ∃ k : Nat, o = k := ⟨o.toNat, by omega⟩
    rw [tkw_F (by omega), h.w k (by omega), if_neg hor]
  unfold lockF
  rw [hT, if_neg (by simp), hov, if_neg (by decide)]
  congr 1
  rw [setw_F (by omega)]
  exact h2
theorem unl_P {x : Int} (h : PI o (x :: row) b p w) (ho : 1 ≤ o) : ∃ p' w', unlF (msP at_ o (x :: row)) (tsF b p w) 1 o = ((x, 0), (msP at_ x row, tsF b p' w')) ∧ PI x row b p' w' := by
  have hx := h.r x (by simp)
  have hnd := List.nodup_cons.1 h.nd
  have hoo := h.o
  obtain ⟨k, rfl⟩ : ∃ k : Nat, x = k := ⟨x.toNat, by omega⟩
  have hst : ∃ p', settleF (msP at_ k row) (tsF b p (ud w k 0)) = (msP at_ k row, tsF b p' (ud w k 0)) ∧ PI k row b p' (ud w k 0) := by
    refine ⟨_, settle_F fun m μ hm => ?_, ?_⟩
    · rcases msP_mem hm with ⟨_, rfl⟩ | ⟨_, rfl⟩
      · exact ⟨(fun x hx => nomatch hx), Or.inl rfl⟩
      · refine ⟨fun z hz => (h.r z (List.mem_cons_of_mem _ hz)).1, .inr (.inr fun z hz => ?_)⟩
        obtain ⟨h1, h2⟩ := h.r z (List.mem_cons_of_mem _ hz)
        have h4 : z ≠ (k : Int) := fun e => hnd.1 (by rw [← e]; exact hz)
        obtain ⟨j, rfl⟩ : ∃ j : Nat, z = j := ⟨z.toNat, by omega⟩
        rw [rk_P (by omega) h4, Int.toNat_natCast, h.p j (by omega) h2]
    · refine ⟨fun z hz => ⟨(h.r z (List.mem_cons_of_mem _ hz)).1, fun e => hnd.1 (by rw [← e]; exact hz)⟩, hnd.2, fun j hj hjo => ?_, fun j hj => ?_, by omega⟩
      · unfold priF
        rw [if_pos hj, rk_P (by omega) hjo]
      · unfold ud
        split
        · rename_i e; subst e
          rw [if_neg hnd.1]
        · rename_i e
          rw [h.w j hj]
          by_cases hr : (j : Int) ∈ row
          · rw [if_pos hr, if_pos (List.mem_cons_of_mem _ hr)]
          · rw [if_neg hr, if_neg]
            intro hh
            rcases List.mem_cons.1 hh with hh | hh
            · exact e (by omega)
            · exact hr hh
  obtain ⟨p', h2, h3⟩ := hst
  refine ⟨p', ud w k 0, ?_, h3⟩
  have hp : stF (passF (msP at_ o (k :: row)) (tsF b p w) 1) = (msP at_ k row, tsF b p' (ud w k 0)) := by
    show settleF (msP at_ k row) (setw (tsF b p w) k 0) = _
    rw [setw_F (by omega)]
    exact h2
  have e1 : mow (msP at_ o (k :: row)) 1 = o := rfl
  have e3 : (msP at_ o (k :: row)).length = 2 := rfl
  unfold unlF
  rw [hp, e1, e3, if_neg (by omega), if_neg (fun hh => hh rfl)]
  rfl
theorem unl_P0 (h : PI o [] b p w) (ho : 1 ≤ o) : ∃ p', unlF (msP at_ o []) (tsF b p w) 1 o = ((0, 0), (msP at_ 0 [], tsF b p' w)) := by
  have h1 := settle_F (ms := msP at_ 0 []) (b := b) (p := p) (w := w) fun m μ hm => by
    rcases msP_mem hm with ⟨_, rfl⟩ | ⟨_, rfl⟩
    · exact ⟨(fun x hx => nomatch hx), Or.inl rfl⟩
    · exact ⟨(fun x hx => nomatch hx), Or.inl rfl⟩
  have hp : stF (passF (msP at_ o []) (tsF b p w) 1) = (msP at_ 0 [], tsF b (priF (msP at_ 0 []) b p) w) := h1
  have hoo := h.o
  have e1 : mow (msP at_ o []) 1 = o := rfl
  have e3 : (msP at_ o []).length = 2 := rfl
  refine ⟨priF (msP at_ 0 []) b p, ?_⟩
  unfold unlF
  rw [hp, e1, e3, if_neg (by omega), if_neg (fun hh => hh rfl)]
  rfl
end
/-- In the beginning: task 16 has it. -/
theorem begin_P (at_ : Int) (ha : at_ = 0 ∨ at_ = 1 ∨ at_ = 2) : ∃ p w, lockF (msP at_ 0 []) (List.replicate 17 tk0) 1 16 = ((true, 0), (msP at_ 16 [], tsF (fun _ => 16) p w)) ∧ PI 16 [] (fun _ => 16) p w := by
  have e : List.replicate 17 tk0 = tsF (fun _ => 16) (fun _ => 16) (fun _ => 0) := by unfold tsF; rfl
  have h0 : PI 16 [] (fun _ => 16) (fun _ => 16) (fun _ => 0) := ⟨(fun x hx => nomatch hx), List.nodup_nil, fun _ _ _ => rfl, fun k _ => (if_neg fun h => nomatch h).symm, by omega⟩
  obtain ⟨p', h1, h2⟩ := settle_P (at_ := at_) h0
  refine ⟨p', _, ?_, h2⟩
  have hT : tryF (msP at_ 0 []) (tsF (fun _ => 16) (fun _ => 16) (fun _ => 0)) 1 16 = ((true, 0), (msP at_ 16 [], tsF (fun _ => 16) p' (fun _ => 0))) := by
    unfold tryF
    have e1 : mow (msP at_ 0 []) 1 = 0 := rfl
    have e2 : mat (msP at_ 0 []) 1 = at_ := rfl
    have e3 : (msP at_ 0 []).length = 2 := rfl
    have e4 : tkw (tsF (fun _ => 16) (fun _ => 16) (fun _ => 0)) 16 = 0 := by unfold tsF; rfl
    rw [e1, e2, e3, e4, if_neg (by omega), if_neg (by omega), if_neg (by omega), if_pos rfl]
    congr 1
  rw [e]
  unfold lockF
  rw [hT, if_pos (.inl rfl)]
end Go.AM

/-
  MutexPasses: the walk.
-/
namespace Go.AM
set_option maxHeartbeats 8000000
attribute [local irreducible] sq bk lpK mdx rt TC RP WK Cel Ro Row Fre RowsA RowsBut
attribute [local irreducible] settleF stF passF unlF tryF lockF muW setO setw setp setb rk muw mow tkw tkb tkp insF standM sbBad setBF dropF freeF heldF msP tsF

theorem encKp_len (k : Int × Int) : (encK k).length = 2 := rfl
theorem row_none {at_ o t : Int} : ∀ μ, (msP at_ o [])[(1 : Int).toNat]? = some μ → t ∉ μ.w := by
  intro μ h
  rcases msP_mem h with ⟨_, rfl⟩ | ⟨_, rfl⟩
  · exact fun h => nomatch h
  · exact fun h => nomatch h
theorem begin_muI (at_ : Int) : MuI (msP at_ 0 []) (List.replicate 17 tk0) := by
  have h0 : PI 0 [] (fun _ => 16) (fun _ => 16) (fun _ => 0) := ⟨(fun x hx => nomatch hx), List.nodup_nil, fun _ _ _ => rfl, fun k _ => (if_neg fun h => nomatch h).symm, by omega⟩
  have := h0.muI (at_ := at_)
  rw [show tsF (fun _ => 16) (fun _ => 16) (fun _ => 0) = List.replicate 17 tk0 by unfold tsF; rfl] at this
  exact this
theorem row_out {at_ o t : Int} {row : List Int} (h : t ∉ row) : ∀ μ, (msP at_ o row)[(1 : Int).toNat]? = some μ → t ∉ μ.w := by
  intro μ hm
  rcases msP_mem hm with ⟨_, rfl⟩ | ⟨_, rfl⟩
  · exact fun h => nomatch h
  · exact h
theorem begin_ms (at_ : Int) : mu0 :: [(at_, 0)].map muK = msP at_ 0 [] := by unfold msP; rfl
/-- So many wait. -/
structure PQ where
  i : Nat
  row : List Int
  b : Nat → Int
  p : Nat → Int
  w : Nat → Int
structure PL (at_ : Int) (xs : List Int) (q : PQ) : Prop where
  l : q.i ≤ xs.length
  pi : PI 16 q.row q.b q.p q.w
  n : q.row.length = q.i
  le : ∀ x ∈ q.row, x ≤ q.i
  so : q.row.Pairwise (RP2 at_ q.b)
  b : ∀ (k : Nat) (x : Int), k < q.i → xs[k]? = some x → q.b (k + 1) = 1 + x % 4
theorem PL.start {at_ : Int} {xs : List Int} {p w : Nat → Int} (h : PI 16 [] (fun _ => 16) p w) : PL at_ xs ⟨0, [], fun _ => 16, p, w⟩ := ⟨Nat.zero_le _, h, rfl, fun _ hx => (nomatch hx), List.Pairwise.nil, fun k _ h _ => absurd h (Nat.not_lt_zero k)⟩
theorem PL.out {at_ : Int} {xs : List Int} {i : Nat} {row : List Int} {b p w : Nat → Int} (h : PL at_ xs ⟨i, row, b, p, w⟩) : ((i + 1 : Nat) : Int) ∉ row := fun hh => by
  have := h.le _ hh
  dsimp only at this
  omega
theorem PL.setB {at_ : Int} {xs : List Int} {i : Nat} {row : List Int} {b p w : Nat → Int} (h : PL at_ xs ⟨i, row, b, p, w⟩) (ha : at_ = 0 ∨ at_ = 1 ∨ at_ = 2) {x : Int} (hi : i + 1 < 16) :
    ∃ p', setBF (msP at_ 16 row) (tsF b p w) ((i + 1 : Nat) : Int) (1 + x % 4) = (0, (msP at_ 16 row, tsF (ud b (i + 1) (1 + x % 4)) p' w)) ∧ PI 16 row (ud b (i + 1) (1 + x % 4)) p' w :=
  setB_P h.pi ha (by omega) (by omega) h.out (by omega)
theorem PL.lock {at_ : Int} {xs : List Int} {i : Nat} {row : List Int} {b p w p1 : Nat → Int} {x : Int} (h : PL at_ xs ⟨i, row, b, p, w⟩) (ha : at_ = 0 ∨ at_ = 1 ∨ at_ = 2) (hx : xs[i]? = some x) (h1 : PI 16 row (ud b (i + 1) (1 + x % 4)) p1 w) (hi : i + 1 < 16) :
    ∃ p2 w2, lockF (msP at_ 16 row) (tsF (ud b (i + 1) (1 + x % 4)) p1 w) 1 ((i + 1 : Nat) : Int) = ((false, 0), (msP at_ 16 (insF (tsF (ud b (i + 1) (1 + x % 4)) p1 w) at_ ((i + 1 : Nat) : Int) row), tsF (ud b (i + 1) (1 + x % 4)) p2 w2)) ∧ PL at_ xs ⟨i + 1, insF (tsF (ud b (i + 1) (1 + x % 4)) p1 w) at_ ((i + 1 : Nat) : Int) row, ud b (i + 1) (1 + x % 4), p2, w2⟩ := by
  have hle : ∀ z ∈ row, z ≤ (i : Int) := h.le
  have h16 : (16 : Int) ∉ row := fun hh => (h.pi.r _ hh).2 rfl
  obtain ⟨p2, w2, e1, e2⟩ := lock_P h1 ha (t := i + 1) (by omega) (by omega) h.out (by omega) h16
  have hso : row.Pairwise (RP2 at_ (ud b (i + 1) (1 + x % 4))) := by
    refine h.so.imp_of_mem fun {y z} hy hz hr => ?_
    have hy1 := h.pi.r y hy
    have hz1 := h.pi.r z hz
    have hy2 := hle y hy
    have hz2 := hle z hz
    unfold RP2 at hr ⊢
    rw [ud_ne _ _ (by omega), ud_ne _ _ (by omega)]
    exact hr
  refine ⟨p2, w2, e1, ?_, e2, ?_, fun z hz => ?_, ?_, fun k y hk hy => ?_⟩
  · have := (List.getElem?_eq_some_iff.1 hx).1
    exact this
  · rw [insF_perm.length_eq]
    have := h.n
    simpa using this
  · dsimp only at hz ⊢
    rcases insF_mem.1 hz with rfl | hz
    · omega
    · have := hle z hz
      omega
  · exact ins_sorted h1 ha (by omega) (by omega) (fun z hz => by have := hle z hz; omega) hso
  · dsimp only at hk ⊢
    by_cases e : k = i
    · subst e
      rw [ud_at]
      rw [hx] at hy
      cases hy; rfl
    · rw [ud_ne _ _ (by omega)]
      exact h.b k y (by dsimp only; omega) hy
/-- So many had it. -/
structure PZ where
  i : Nat
  o : Int
  p : Nat → Int
  w : Nat → Int
structure PY (row : List Int) (b : Nat → Int) (n : Nat) (q : PZ) : Prop where
  l : q.i ≤ n
  pi : PI q.o (row.drop q.i) b q.p q.w
  o : 1 ≤ q.o ∧ q.o ≤ 16
  at_ : q.i ≠ 0 → row[q.i - 1]? = some q.o
theorem drop_p {α : Type} {l : List α} {i : Nat} {x : α} (h : l[i]? = some x) : l.drop i = x :: l.drop (i + 1) := by
  obtain ⟨h1, rfl⟩ := List.getElem?_eq_some_iff.1 h
  exact List.drop_eq_getElem_cons h1
theorem ownP {at_ o : Int} {row : List Int} : (if 1 ≤ (1 : Int) ∧ (1 : Int) < (msP at_ o row).length then mow (msP at_ o row) 1 else 0) = o := by
  have e3 : (msP at_ o row).length = 2 := by unfold msP; rfl
  rw [e3, if_pos (by omega)]
  unfold mow msP; rfl
theorem MutexPasses_tri (at_ : Int) (xs : List Int) (s : SV) (hx : ∀ x ∈ xs, 0 ≤ x ∧ x ≤ 255) : Tri tab mext F.detentlaw15_MutexPasses [i64 at_, .s s] [ArgS (.int .u8) xs s] fun v _ => v = bl true := by
  refine Tri.go tab_detentlaw15_MutexPasses rfl ?_
  refine RUN ?_
  refine RP.c rfl known15_tri .e rfl ?_
  rintro v P' ⟨rfl, rfl⟩
  refine RUN ?_
  refine RP.gq rfl (fun h1 => ?_) fun h1 => ?_
  · refine RUN ?_
    refine RP.gq rfl (fun h2 => ?_) fun h2 => ?_
    · refine RUN ?_
      refine TC.cP rfl (fun h3 => ?_) fun h3 => ?_
      · refine RUN ?_
        exact rt_r rfl rfl (LEnt.refl _)
      · have hat : at_ = 0 ∨ at_ = 1 ∨ at_ = 2 := by omega
        refine RUN ?_
        refine RP.bs rfl rfl rfl fun c => ?_
        refine RP.ent (row_made (enc := encK) (k := 2) (c := 1) (r := [(at_, 0)]) rfl (by simp) (by simp)) ?_
        refine RP.c rfl (new_tri _ [(at_, 0)]) (.c .h .e) rfl ?_
        rintro v P' (⟨h, _⟩ | ⟨_, a, rfl, rfl⟩)
        · exfalso
          rcases h with h | h
          · simp at h
          · refine h fun k hk => ?_
            rw [List.mem_singleton.1 hk]
            rcases hat with h | h | h <;> (subst h; rfl)
        rw [begin_ms]
        have hMI0 : MuI (msP at_ 0 []) (List.replicate 17 tk0) := begin_muI at_
        obtain ⟨p0, w0, hb1, hb2⟩ := begin_P at_ hat
        generalize List.replicate 17 tk0 = tsI at *
        refine RUN ?_
        refine RP.c rfl (lock_tri hMI0 1 16 (fun _ => row_none)) (.c .h .e) rfl ?_
        rintro v P' ⟨rfl, rfl⟩
        rw [hb1]
        have hg : ∀ j, j < xs.length → ∃ x, xs[j]? = some x ∧ 0 ≤ x ∧ x ≤ 255 := fun j hj => ⟨xs[j], List.getElem?_eq_getElem hj, hx _ (List.getElem_mem hj)⟩
        refine RUN ?_
        refine TC.loop (fun q : PQ => xs.length - q.i) (fun q => PL at_ xs q) (fun q => [(0, i64 at_), (1, .s s), (4, bl false), (5, ptr a), (7, i64 q.i)]) (fun q => [MxA a (msP at_ 16 q.row) (tsF q.b q.p q.w), ArgS (.int .u8) xs s]) ⟨0, [], fun _ => 16, p0, w0⟩ (PL.start hb2) ⟨rfl, rfl, rfl, rfl, rfl, trivial⟩ (LEnt.of (.c .h (.c (.n .h) .e))) ?_
        rintro ⟨i, row, b, p, w⟩ hi
        have hil := hi.l
        dsimp only at hil ⊢
        refine RUN ?_
        refine TC.cP rfl (fun h4 => ?_) fun h4 => ?_
        · obtain ⟨x, hxi, hx0, hx1⟩ := hg i (by omega)
          have hmod : x.tmod 4 = x % 4 := Int.tmod_eq_emod_of_nonneg hx0
          obtain ⟨p1, hs1, hs2⟩ := hi.setB hat (x := x) (by omega)
          obtain ⟨p2, w2, hl1, hl2⟩ := hi.lock hat hxi hs2 (by omega)
          refine RUN ?_
          rw [hmod, wrap_i64 (by omega) (by omega)]
          refine RUN ?_
          refine RP.c rfl (setB_tri hi.pi.muI ((i + 1 : Nat) : Int) (1 + x % 4)) (.c .h .e) rfl ?_
          rintro v P' ⟨rfl, rfl⟩
          rw [hs1]
          refine RUN ?_
          refine RP.c rfl (lock_tri hs2.muI 1 ((i + 1 : Nat) : Int) (fun _ => row_out hi.out)) (.c .h .e) rfl ?_
          rintro v P' ⟨rfl, rfl⟩
          rw [hl1]
          dsimp only
          refine RUN ?_
          exact lp_n ⟨i + 1, _, _, p2, w2⟩ hl2 (by dsimp only; omega) ⟨rfl, rfl, rfl, rfl, rfl, trivial⟩ (LEnt.refl _)
        · have hie : i = xs.length := by omega
          subst hie
          have hn16 : (16 : Int) ∉ row := fun hh => (hi.pi.r _ hh).2 rfl
          refine RUN ?_
          refine TC.loop (fun q : PZ => xs.length - q.i) (fun q => PY row b xs.length q) (fun q => [(0, i64 at_), (1, .s s), (4, bl false), (5, ptr a), (10, i64 q.o), (11, i64 q.i)]) (fun q => [MxA a (msP at_ q.o (row.drop q.i)) (tsF b q.p q.w), ArgS (.int .u8) xs s]) ⟨0, 16, p, w⟩ ⟨Nat.zero_le _, hi.pi, by dsimp only; omega, fun h => absurd rfl h⟩ ⟨rfl, rfl, rfl, rfl, rfl, rfl, trivial⟩ (LEnt.refl _) ?_
          rintro ⟨i, o, p1, w1⟩ hz
          have hzl := hz.l
          have hzo := hz.o
          dsimp only at hzl hzo ⊢
          refine RUN ?_
          refine TC.cP rfl (fun h5 => ?_) fun h5 => ?_
          · have hrn := hi.n
            dsimp only at hrn
            obtain ⟨v, hv⟩ : ∃ v, row[i]? = some v := ⟨row[i], List.getElem?_eq_getElem (by omega)⟩
            have hvm := List.mem_of_getElem? hv
            have hv1 := (hi.pi.r v hvm).1
            have hv2 := hi.le v hvm
            dsimp only at hv2
            have hzp := hz.pi
            dsimp only at hzp
            rw [drop_p hv] at hzp ⊢
            obtain ⟨p2, w2, hu, hq⟩ := unl_P (at_ := at_) hzp hzo.1
            obtain ⟨m, rfl⟩ : ∃ m : Nat, v = ((m + 1 : Nat) : Int) := ⟨v.toNat - 1, by omega⟩
            refine RUN ?_
            refine RP.c rfl (unl_tri hzp.muI 1 o) (.c .h .e) rfl ?_
            rintro v P' ⟨rfl, rfl⟩
            rw [hu]
            dsimp only
            refine RUN ?_
            refine RP.gq rfl (fun h6 => ?_) fun h6 => absurd (show ((m + 1 : Nat) : Int) > xs.length from h6) (by omega)
            refine RUN ?_
            refine RP.c rfl (Owner_tri 1) (.c .h .e) rfl ?_
            rintro v P' ⟨rfl, rfl⟩
            rw [ownP]
            refine RUN ?_
            rw [decide_eq_false (show ¬ ¬ ((m + 1 : Nat) : Int) = ((m + 1 : Nat) : Int) from fun h => h rfl)]
            refine RUN ?_
            have hnx : PY row b xs.length ⟨i + 1, ((m + 1 : Nat) : Int), p2, w2⟩ := ⟨by dsimp only; omega, hq, hv1, fun _ => by dsimp only; rw [Nat.add_sub_cancel]; exact hv⟩
            refine TC.cP rfl (fun h7 => ?_) fun h7 => ?_
            · have hza := hz.at_ (by dsimp only; omega)
              dsimp only at hza
              have hom := List.mem_of_getElem? hza
              have ho2 := hi.le o hom
              dsimp only at ho2
              have hR : RP2 at_ b o ((m + 1 : Nat) : Int) := by
                obtain ⟨k1, k2⟩ := List.getElem?_eq_some_iff.1 hza
                obtain ⟨k3, k4⟩ := List.getElem?_eq_some_iff.1 hv
                have := List.pairwise_iff_getElem.1 hi.so (i - 1) i k1 k3 (by omega)
                dsimp only at this
                rw [k2, k4] at this
                exact this
              obtain ⟨k, rfl⟩ : ∃ k : Nat, o = ((k + 1 : Nat) : Int) := ⟨o.toNat - 1, by omega⟩
              obtain ⟨x, hxk, hx0, hx1⟩ := hg k (by omega)
              obtain ⟨y, hym, hy0, hy1⟩ := hg m (by omega)
              have hbx := hi.b k x (by dsimp only; omega) hxk
              have hby := hi.b m y (by dsimp only; omega) hym
              dsimp only at hbx hby
              have hmx : x.tmod 4 = x % 4 := Int.tmod_eq_emod_of_nonneg hx0
              have hmy : y.tmod 4 = y % 4 := Int.tmod_eq_emod_of_nonneg hy0
              unfold RP2 at hR
              rw [Int.toNat_natCast, Int.toNat_natCast, hbx, hby] at hR
              by_cases h0 : at_ = 0
              · rw [if_pos h0] at hR
                have hgt : ¬ ((k + 1 : Nat) : Int) > ((m + 1 : Nat) : Int) := by omega
                refine RUN ?_
                rw [hmx, hmy, decide_eq_true h0]
                refine RUN ?_
                rw [decide_eq_false hgt]
                refine RUN ?_
                rw [decide_eq_false (show ¬ at_ > 0 by omega)]
                refine RUN ?_
                exact lp_n ⟨i + 1, ((m + 1 : Nat) : Int), p2, w2⟩ hnx (by dsimp only; omega) ⟨rfl, rfl, rfl, rfl, rfl, rfl, trivial⟩ (LEnt.refl _)
              · rw [if_neg h0] at hR
                have hgt : ¬ x % 4 > y % 4 := by omega
                refine RUN ?_
                rw [hmx, hmy, decide_eq_false h0]
                refine RUN ?_
                rw [decide_eq_true (show at_ > 0 by omega)]
                refine RUN ?_
                rw [decide_eq_false hgt]
                refine RUN ?_
                by_cases he : x % 4 = y % 4
                · have hlt : ¬ ((k + 1 : Nat) : Int) > ((m + 1 : Nat) : Int) := by omega
                  rw [decide_eq_true he]
                  refine RUN ?_
                  rw [decide_eq_false hlt]
                  refine RUN ?_
                  exact lp_n ⟨i + 1, ((m + 1 : Nat) : Int), p2, w2⟩ hnx (by dsimp only; omega) ⟨rfl, rfl, rfl, rfl, rfl, rfl, trivial⟩ (LEnt.refl _)
                · rw [decide_eq_false he]
                  refine RUN ?_
                  exact lp_n ⟨i + 1, ((m + 1 : Nat) : Int), p2, w2⟩ hnx (by dsimp only; omega) ⟨rfl, rfl, rfl, rfl, rfl, rfl, trivial⟩ (LEnt.refl _)
            · have hi0 : i = 0 := by omega
              subst hi0
              refine RUN ?_
              exact lp_n ⟨0 + 1, ((m + 1 : Nat) : Int), p2, w2⟩ hnx (by dsimp only; omega) ⟨rfl, rfl, rfl, rfl, rfl, rfl, trivial⟩ (LEnt.refl _)
          · have hie : i = xs.length := by omega
            subst hie
            have hzp := hz.pi
            dsimp only at hzp
            have hdr : row.drop xs.length = [] := List.drop_eq_nil_of_le (by have := hi.n; dsimp only at this; omega)
            rw [hdr] at hzp ⊢
            obtain ⟨p2, hu⟩ := unl_P0 (at_ := at_) hzp hzo.1
            refine RUN ?_
            refine RP.c rfl (unl_tri hzp.muI 1 o) (.c .h .e) rfl ?_
            rintro v P' ⟨rfl, rfl⟩
            rw [hu]
            dsimp only
            refine RUN ?_
            refine RP.c rfl (Owner_tri 1) (.c .h .e) rfl ?_
            rintro v P' ⟨rfl, rfl⟩
            rw [ownP]
            refine RUN ?_
            exact rt_r rfl rfl (LEnt.refl _)
    · refine RUN ?_
      exact rt_r rfl rfl (LEnt.refl _)
  · refine RUN ?_
    exact rt_r rfl rfl (LEnt.refl _)
end Go.AM

/-
  FROM A LAW IN THE ABSTRACT MACHINE TO ITS STATEMENT's ROW, whatever its arguments are.
-/
namespace Go.AM
open Go.RowKit Go.ChangeShapes Go.WideShapes

theorem R2_of_all {α β : Type} {R : α → β → Prop} {f : α → β → Bool} (h : ∀ a b, f a b = true → R a b) : ∀ {ya : List α} {bs : List β}, ya.length = bs.length → ((ya.zip bs).all fun p => f p.1 p.2) = true → R2 R ya bs
  | [], [], _, _ => trivial
  | a :: ya, b :: bs, hl, hx => by
    simp only [List.zip_cons_cons, List.all_cons, Bool.and_eq_true] at hx
    exact ⟨h a b hx.1, R2_of_all h (by simpa using hl) hx.2⟩
  | [], _ :: _, hl, _ => by simp at hl
  | _ :: _, [], hl, _ => by simp at hl

theorem trodAll_stays {H : Type} {enc : TypeId × Value → H} {P : Program} (hl : laidOutB P = true) {W W' : World} {sp : Nat → Bool} : ∀ {ts : List TypeId} {vs : List Value} {ds : List (DataW H)} {ps : List MemPlace}, (ts.all fun t => P.readableRec t && decide (t < P.types.size)) = true → DataW.TrodAll enc P W 0 (fun _ => true) true ts vs ds ps → (∀ p ∈ ps, W.sameAt W' p) → (∀ p ∈ ps, sp p.block = true) → DataW.TrodAll enc P W' 0 sp true ts vs ds ps
  | [], vs, ds, ps, _, hA, _, _ => by
    obtain ⟨rfl, rfl, rfl⟩ := trodAll_nil hA
    exact trodAll_mk0
  | t :: ts, vs, ds, ps, hr, hA, hs, hsp => by
    simp only [List.all_cons, Bool.and_eq_true, decide_eq_true_eq] at hr
    obtain ⟨v, vs, d, ds, p, q, rfl, rfl, rfl, h0, h1⟩ := trodAll_cons hA
    exact trodAll_cons_mk (WideElems.Trod_stays hl hr.1.1 hr.1.2 h0 (fun x hx => hs x (by simp [hx])) fun x hx => hsp x (by simp [hx])) (trodAll_stays hl hr.2 h1 (fun x hx => hs x (by simp [hx])) fun x hx => hsp x (by simp [hx]))

/-- A law's run and its call; what was, is. -/
theorem law_walk2 {P : Program} {tab : Nat → Option RFunc} {ext : Nat → List AV → AH → Option (AV × AH)} (hext : ∀ B w0, CallsOk P [] B w0 ext) (hfr : FrmOk ext) (hnx : NextOk ext) (htab : TabOk P [] tab) (hmix : P.follows .mixedOrders = true) {f : Nat} {args : List AV} {H0 : AH} {φ0 : Phi} {w : World} {cargs : Array Value}
    (hH : HRel w.heap.size w φ0 H0 w) (hargs : R2 (AVRel φ0) args cargs.toList) (h : CallP tab ext f args H0 fun v _ => v = .s (.bool true)) :
    Calls P f cargs w fun e w' => e = .returned (.bool true) ∧ Grown w w' ∧ ∀ k, k < w.heap.size → w'.heap[k]? = w.heap[k]? := by
  obtain ⟨n, v, H', h1, rfl⟩ := h
  have hs := run_sound (G := []) (B := w.heap.size) (w0 := w) htab (hext _ _) hfr hnx hmix n
  refine (hs f args H0 _ H' h1 φ0 w cargs hH (fun _ hn => by cases hn) hargs).2.mono ?_
  rintro e w' ⟨φ', cv, rfl, _, h2, h3⟩
  have : cv = .bool true := h3
  subst this
  exact ⟨rfl, h2.grown, h2.old⟩

theorem lit_bounds {k : IntKind} {n : Int} (h : (Lit.int k n).wf = true) : k.min ≤ n ∧ n ≤ k.max := by
  simpa [Lit.wf] using h

section
variable {C : Checked} {tab : Nat → Option RFunc} {f : FuncId} {fn : Func} {s : ChangeSpec}

/-- The row's step. -/
theorem law_liftedX {ext : Nat → List AV → AH → Option (AV × AH)} (hext : ∀ B w0, CallsOk C.prog [] B w0 ext) (hfr : FrmOk ext) (hnx : NextOk ext) (tys : List Ty) (N : Nat) (bt : TypeId)
    (own : ownKnob C.prog.godebug = none) (htab : TabOk C.prog [] tab) (hmix : C.prog.follows .mixedOrders = true) (hlaid : laidOutB C.prog = true)
    (noInit : C.prog.inits.idxOf? f = none) (hfn : C.prog.funcs[f]? = some fn)
    (hread : (fn.params.toList.all fun t => C.prog.readableRec t && decide (t < C.prog.types.size)) = true)
    (hlen : tys.length = fn.params.toList.length) (hfit : ((tys.zip fn.params.toList).all fun p => fits C.prog p.1 p.2) = true)
    (hN : (tys.all Ty.good && decide ((tys.map Ty.cnt).sum ≤ N)) = true)
    (hres : fn.resultTypes = #[bt]) (hbt : C.prog.underlying bt = some .bool)
    (hvars : s.vars = []) (hspec : ∀ (H : Type) (ds : List (DataW H)), ds.length = tys.length → s.fn H ds = { results := [.lit (.bool true)], args := ds })
    (walk : ∀ H avs, WF H → H.next = N → ArgsAt H.blk tys avs → CallP tab ext f avs H fun v _ => v = .s (.bool true))
    (os : Os) (started : os.Started) (H : Type) (enc : TypeId × Value → H)
    (witness : ∃ (w : World) (tape : Tape) (i : Input), w.os = os ∧ (w.forCall tape i).Shaped C.prog ∧ i.vars = [] ∧ Input.okWide C.prog (w.forCall tape i) .any w.heap.size f i ∧
      s.pre6 enc C.prog fn [] false (w.forCall tape i).memory i.args ∧ ({} : Assume).holds C.prog (lone (Frame.enter C.prog f i.args .normal) [] (w.forCall tape i))) :
    ReturnsInHanded {} C os f .any (s.pre6 enc C.prog fn [] false) (s.post enc C.prog fn false true false false) := by
  refine returnsInHanded_of_change (C := C) own started noInit hfn witness ?_
  intro W base args ds gs before hval hW hcnd _
  have hW' := hW
  obtain ⟨p, q, hA, hV, rfl, hfz, hnd⟩ := hW
  rw [hvars] at hV
  obtain ⟨rfl, rfl⟩ := trodVars_none hV
  simp only [List.append_nil] at hW' hfz hnd
  have hfit' : R2 (fun ty t => fits C.prog ty t = true) tys fn.params.toList := R2_of_all (fun _ _ h => h) hlen hfit
  obtain ⟨M, avs, h1, h2, h3, h4⟩ := opens_args (L := []) hfit' (fun j t v ht hv => hval j t v (by simpa using ht) (by simpa using hv)) hA (fun e he => by cases he)
  simp only [List.nil_append] at h1 h2 h3
  simp only [Bool.and_eq_true, decide_eq_true_eq] at hN
  have hML : M.length ≤ N := Nat.le_trans (h4 hN.1) hN.2
  have hrel := roH_rel h1
  have hrel' : HRel W.heap.size W (roPhi M) ⟨roF M, N⟩ W := { hrel with lt := fun b hb => hrel.lt b (Nat.le_trans hML hb) }
  have hwf : WF ⟨roF M, N⟩ := fun b hb => hrel.lt b (Nat.le_trans hML hb)
  have hdl : ds.length = tys.length := by
    have key : ∀ {ts : List TypeId} {vs : List Value} {ds : List (DataW H)} {ps : List MemPlace}, DataW.TrodAll enc C.prog W 0 (fun _ => true) true ts vs ds ps → ds.length = ts.length := by
      intro ts
      induction ts with
      | nil => intro vs ds ps h; obtain ⟨_, rfl, _⟩ := trodAll_nil h; rfl
      | cons t ts ih => intro vs ds ps h; obtain ⟨v, vs, d, ds, p, q, rfl, rfl, rfl, _, hr⟩ := trodAll_cons h; simp [ih hr]
    rw [key hA, hlen]
  have hsp : s.fn H (ds ++ []) = { results := [.lit (.bool true)], args := ds } := by rw [List.append_nil]; exact hspec H ds hdl
  refine (law_walk2 hext hfr hnx htab hmix hrel' h2 (walk _ avs hwf rfl h3)).mono fun e W' ⟨he, hg, hold⟩ => ?_
  subst he
  have hlt : ∀ x ∈ p, x.block < W.heap.size := fun x hx => hW'.lt x hx
  have hsame : ∀ x ∈ p, W.sameAt W' x := fun x hx => by
    cases x with
    | cell b o => exact World.cell?_of_block (w := W) (hold b (hlt _ hx))
    | map b => exact hold b (hlt _ hx)
  refine ⟨_, rfl, post_of_same (pa := p) (pv := []) hW' (fun b sp hd => ?_) (fun sp hsp' => ?_) (fun _ _ => ?_) (by simp) (hg.frame _) hg.2.1 (ok_one hres rfl (okWide_bool_mk hbt _))⟩
  · rw [hsp, hres]
    exact trodAll_cons_mk (shut_bool hbt _) trodAll_mk0
  · rw [hsp]
    exact trodAll_stays hlaid hread hA hsame hsp'
  · rw [hvars, hsp]
    rfl
theorem law_lifted (tys : List Ty) (N : Nat) (bt : TypeId)
    (own : ownKnob C.prog.godebug = none) (htab : TabOk C.prog [] tab) (hmix : C.prog.follows .mixedOrders = true) (hlaid : laidOutB C.prog = true)
    (noInit : C.prog.inits.idxOf? f = none) (hfn : C.prog.funcs[f]? = some fn)
    (hread : (fn.params.toList.all fun t => C.prog.readableRec t && decide (t < C.prog.types.size)) = true)
    (hlen : tys.length = fn.params.toList.length) (hfit : ((tys.zip fn.params.toList).all fun p => fits C.prog p.1 p.2) = true)
    (hN : (tys.all Ty.good && decide ((tys.map Ty.cnt).sum ≤ N)) = true)
    (hres : fn.resultTypes = #[bt]) (hbt : C.prog.underlying bt = some .bool)
    (hvars : s.vars = []) (hspec : ∀ (H : Type) (ds : List (DataW H)), ds.length = tys.length → s.fn H ds = { results := [.lit (.bool true)], args := ds })
    (walk : ∀ H avs, WF H → H.next = N → ArgsAt H.blk tys avs → CallP tab noExt f avs H fun v _ => v = .s (.bool true))
    (os : Os) (started : os.Started) (H : Type) (enc : TypeId × Value → H)
    (witness : ∃ (w : World) (tape : Tape) (i : Input), w.os = os ∧ (w.forCall tape i).Shaped C.prog ∧ i.vars = [] ∧ Input.okWide C.prog (w.forCall tape i) .any w.heap.size f i ∧
      s.pre6 enc C.prog fn [] false (w.forCall tape i).memory i.args ∧ ({} : Assume).holds C.prog (lone (Frame.enter C.prog f i.args .normal) [] (w.forCall tape i))) :
    ReturnsInHanded {} C os f .any (s.pre6 enc C.prog fn [] false) (s.post enc C.prog fn false true false false) :=
  law_liftedX (fun _ _ => noExt_calls) noExt_frame noExt_next tys N bt own htab hmix hlaid noInit hfn hread hlen hfit hN hres hbt hvars hspec walk os started H enc witness
end

end Go.AM

/-
  slices.Insert of one number: what the abstract machine takes it for is what the model's does.
-/
namespace Go.AM
open Go.Proofs Go.Shelf Go.RowKit

variable {P : Program} {G : List Nat} {B : Nat} {w0 : World} {φ : Phi} {H H' : AH} {w : World}

/-- A row goes on under another name, in another form. -/
theorem HRel.row (hH : HRel B w0 φ H w) {b id : Nat} {l new : List SV} (hb : H.blk b = some (.cells false l)) {cb sh cs : Nat} (hφ : φ b = some (cb, sh, cs)) (hid : id < H.next)
    (hn : (H.set b .dead).new id (.cells false new) = some H') {o : Nat} {w' : World} {c2 : Array Value} {e2 : TypeId} (h2 : w'.heap[cb]? = some (.cells c2 e2 (0, 0))) (hs : c2.size = cs) (hfit : sh + o + new.length ≤ cs)
    (hr : ∀ (i : Nat) (x : SV), new[i]? = some x → ∃ v, c2[sh + o + i]? = some v ∧ SVRel φ x v) (hget : ∀ x, x ≠ cb → w'.heap[x]? = w.heap[x]?) (hsz : w'.heap.size = w.heap.size) (hos : w'.os = w.os) (hout : w'.output = w.output) :
    ∃ φ', Ext φ φ' ∧ φ' id = some (cb, sh + o, cs) ∧ HRel B w0 φ' H' w' := by
  obtain ⟨cb', sh', cs', c, e, fr, h1, _, _, _, _, h6⟩ := hH.cells b false l hb
  rw [hφ] at h1
  cases h1
  obtain ⟨_, hB⟩ := h6 rfl
  have hk := hH.kill (b := b) (by rw [hb]; simp)
  unfold AH.new at hn
  split at hn
  · rename_i hidn
    cases hn
    have hφid : φ id = none := hk.dom id hidn
    have hne : id ≠ b := by intro hc; subst hc; rw [hφ] at hφid; cases hφid
    have hext : Ext φ (fun x => if x = id then some (cb, sh + o, cs) else φ x) := by
      intro x y hx
      by_cases hxi : x = id
      · subst hxi; rw [hφid] at hx; cases hx
      · simp [hxi, hx]
    refine ⟨fun x => if x = id then some (cb, sh + o, cs) else φ x, hext, by simp, ?_⟩
    have hoth : ∀ b', b' ≠ b → H.blk b' ≠ some .dead → ∀ x, φ b' = some x → x.1 ≠ cb := by
      intro b' hne' hd x hx heq
      rcases hH.inj b' b x _ hx hφ hd (by rw [hb]; simp) heq with h | ⟨_, _, _, hy⟩
      · exact hne' h
      · rw [hb] at hy; cases hy
    refine { dom := ?_, lt := ?_, cells := ?_, maps := ?_, inj := ?_, old := ?_, bound := by rw [hsz]; exact hH.bound, os := hos.trans hH.os, out := hout.trans hH.out, nf := ?_ }
    · intro b' hb'
      simp only [AH.set, upd] at hb'
      split at hb'
      · cases hb'
      · rename_i hne'
        split at hb'
        · cases hb'
        · simp [hne', hH.dom b' hb']
    · intro b' hb'
      simp only [AH.set, upd] at hb' ⊢
      rw [if_neg (by omega)]
      split
      · rename_i hc; subst hc; rw [hH.lt _ hb'] at hb; cases hb
      · exact hH.lt b' hb'
    · intro b' ro' l'' hb'
      simp only [AH.set, upd] at hb'
      split at hb'
      · rename_i heq
        cases hb'
        exact ⟨cb, sh + o, cs, c2, e2, (0, 0), by simp [heq], h2, hs, hfit, fun i x hx => by obtain ⟨v, hv, hrv⟩ := hr i x hx; exact ⟨v, hv, hrv.mono hext⟩, fun _ => ⟨rfl, hB⟩⟩
      · rename_i hne'
        split at hb'
        · cases hb'
        · rename_i hneb
          obtain ⟨cb', sh', cs', c', e', fr', g1, g2, g3, g4, g5, g6⟩ := hH.cells b' ro' l'' hb'
          have hcb : cb' ≠ cb := hoth b' hneb (by rw [hb']; simp) _ g1
          exact ⟨cb', sh', cs', c', e', fr', by simp [hne', g1], by rw [hget _ hcb]; exact g2, g3, g4, fun i x hx => by obtain ⟨v, hv, hrv⟩ := g5 i x hx; exact ⟨v, hv, hrv.mono hext⟩, g6⟩
    · intro b' es hb'
      simp only [AH.set, upd] at hb'
      split at hb'
      · cases hb'
      · rename_i hne'
        split at hb'
        · cases hb'
        · rename_i hneb
          obtain ⟨cb', sh', cs', ces, clk, g1, g2, g3, g4⟩ := hH.maps b' es hb'
          have hcb : cb' ≠ cb := hoth b' hneb (by rw [hb']; simp) _ g1
          exact ⟨cb', sh', cs', ces, clk, by simp [hne', g1], by rw [hget _ hcb]; exact g2, R2.mono (fun _ _ hp => ⟨hp.1.mono hext, hp.2.mono hext⟩) g3, g4⟩
    · intro b1 b2 x1 x2 hx1 hx2 hd1 hd2 hxe
      simp only [AH.set, upd] at hd1 hd2 ⊢
      by_cases e1 : b1 = id
      · by_cases e2 : b2 = id
        · exact .inl (e1.trans e2.symm)
        · simp only [e1, if_true] at hx1
          simp only [e2, if_false] at hx2
          cases hx1
          exfalso
          rw [if_neg e2] at hd2
          split at hd2
          · exact hd2 rfl
          · rename_i hneb
            exact hoth b2 hneb hd2 _ hx2 hxe.symm
      · by_cases e2 : b2 = id
        · simp only [e2, if_true] at hx2
          simp only [e1, if_false] at hx1
          cases hx2
          exfalso
          rw [if_neg e1] at hd1
          split at hd1
          · exact hd1 rfl
          · rename_i hneb
            exact hoth b1 hneb hd1 _ hx1 hxe
        · simp only [e1, e2, if_false] at hx1 hx2 hd1 hd2 ⊢
          split at hd1
          · exact absurd rfl hd1
          · rename_i n1
            split at hd2
            · exact absurd rfl hd2
            · rename_i n2
              simp only [if_neg n1, if_neg n2]
              exact hH.inj b1 b2 x1 x2 hx1 hx2 hd1 hd2 hxe
    · intro c' hc'
      rw [hget _ (by omega)]
      exact hH.old c' hc'
    · intro k c e fr hk hc
      by_cases hkc : k = cb
      · subst hkc
        rw [h2] at hc; cases hc; rfl
      · rw [hget _ hkc] at hc
        exact hH.nf k c e fr hk hc
  · cases hn

/- ---- cells that are set ---- -/
def setN (c : Array Value) : Nat → List Value → Array Value
  | _, [] => c
  | o, v :: vs => setN (c.setIfInBounds o v) (o + 1) vs
theorem setN_size : ∀ (vs : List Value) (o : Nat) (c : Array Value), (setN c o vs).size = c.size
  | [], _, _ => rfl
  | v :: vs, o, c => by rw [setN, setN_size vs]; simp
theorem setN_get : ∀ (vs : List Value) (o : Nat) (c : Array Value) (j : Nat), o + vs.length ≤ c.size → (setN c o vs)[j]? = if o ≤ j ∧ j < o + vs.length then vs[j - o]? else c[j]?
  | [], o, c, j, _ => by rw [setN, if_neg (by simp)]
  | v :: vs, o, c, j, h => by
    rw [List.length_cons] at h
    rw [setN, setN_get vs (o + 1) _ j (by simp; omega), Array.getElem?_setIfInBounds]
    by_cases h1 : o + 1 ≤ j ∧ j < o + 1 + vs.length
    · rw [if_pos h1, if_pos (by rw [List.length_cons]; omega), show j - o = (j - (o + 1)) + 1 by omega, List.getElem?_cons_succ]
    · rw [if_neg h1]
      by_cases h2 : o = j
      · subst h2
        rw [if_pos rfl, if_pos (by omega), if_pos (by rw [List.length_cons]; omega), Nat.sub_self]; rfl
      · rw [if_neg h2, if_neg (by rw [List.length_cons]; omega)]
theorem setCells_heap (b : Nat) {e : TypeId} {fr : Nat × Nat} : ∀ (vs : List Value) (o : Nat) (w : World) (c : Array Value), w.heap[b]? = some (.cells c e fr) →
    (w.setCells b o vs).heap[b]? = some (.cells (setN c o vs) e fr) ∧ (∀ x, x ≠ b → (w.setCells b o vs).heap[x]? = w.heap[x]?) ∧ (w.setCells b o vs).heap.size = w.heap.size ∧ (w.setCells b o vs).os = w.os ∧ (w.setCells b o vs).output = w.output
  | [], o, w, c, h => ⟨h, fun _ _ => rfl, rfl, rfl, rfl⟩
  | v :: vs, o, w, c, h => by
    have h1 : (w.setCell ⟨b, o, none⟩ v).heap[b]? = some (.cells (c.setIfInBounds o v) e fr) := by
      simp [World.setCell, Array.getElem?_modify, h]
    obtain ⟨g1, g2, g3, g4, g5⟩ := setCells_heap b vs (o + 1) (w.setCell ⟨b, o, none⟩ v) _ h1
    refine ⟨g1, fun x hx => ?_, ?_, g4, g5⟩
    · rw [World.setCells, g2 x hx]
      simp [World.setCell, Array.getElem?_modify, Ne.symm hx]
    · rw [World.setCells, g3]
      simp [World.setCell]

/- ---- the framing ---- -/
theorem setXY {H : AH} {x y : Nat} (h : x ≠ y) (X Y : Blk) : (H.set x X).set y Y = (H.set y Y).set x X := by
  unfold AH.set
  congr 1
  funext c
  simp only [upd]
  by_cases h1 : c = y
  · rw [if_pos h1, if_neg (fun hc => h (hc.symm.trans h1)), if_pos h1]
  · rw [if_neg h1]
    by_cases h2 : c = x
    · rw [if_pos h2, if_pos h2]
    · rw [if_neg h2, if_neg h2, if_neg h1]

theorem insI_cases {args : List AV} {v : AV} (h : insI args H = some (v, H')) : ∃ a len c e i xb xo xc lx x, args = [.s (.slice a len c e), .s (.int .i64 i), .s (.slice (some (xb, xo)) 1 xc 1)] ∧ H.blk xb = some (.cells false lx) ∧ lx[xo]? = some x ∧
    ((a = none ∧ i = 0 ∧ v = .s (.slice (some (H.next, 0)) 1 1 1) ∧ (H.bump 1).new H.next (.cells false [x]) = some H') ∨
     ∃ b o l, a = some (b, o) ∧ H.blk b = some (.cells false l) ∧ (xb ≠ b ∧ e = 1 ∧ 0 ≤ i ∧ i ≤ (len : Int) ∧ o + len ≤ l.length ∧ (len + 1) * 8 ≤ 70368744177664) ∧ v = .s (.slice (some (H.next, 0)) (len + 1) (len + 1) 1) ∧
       ((H.bump 1).set b .dead).new H.next (.cells false ((l.drop o).take i.toNat ++ (x :: ((l.drop o).take len).drop i.toNat))) = some H') := by
  unfold insI at h
  split at h
  · rename_i a len c e i xb xo xc
    split at h
    · rename_i lx hx
      simp only [Option.bind_eq_some_iff] at h
      obtain ⟨x, hxo, h⟩ := h
      refine ⟨a, len, c, e, i, xb, xo, xc, lx, x, rfl, hx, hxo, ?_⟩
      split at h
      · split at h
        · rename_i h0
          simp only [Option.map_eq_some_iff, Prod.mk.injEq] at h
          obtain ⟨H1, h1, rfl, rfl⟩ := h
          exact .inl ⟨rfl, h0, rfl, h1⟩
        · cases h
      · rename_i b o
        split at h
        · rename_i l hb
          split at h
          · rename_i hc
            simp only [Option.map_eq_some_iff, Prod.mk.injEq] at h
            obtain ⟨H1, h1, rfl, rfl⟩ := h
            exact .inr ⟨b, o, l, rfl, hb, hc, rfl, h1⟩
          · cases h
        · cases h
    · cases h
  · cases h

theorem new_set {id x : Nat} {X Y : Blk} (hne : id ≠ x) (h : H.new id Y = some H') : (H.set x X).new id Y = some (H'.set x X) := by
  unfold AH.new at *
  split at h
  · rename_i hn
    cases h
    have : (H.set x X).blk id = none := by rw [set_blk, if_neg hne]; exact hn
    rw [this]
    exact congrArg some (setXY (Ne.symm hne) X Y)
  · cases h

theorem mext_next : NextOk mext := fun f args H v H' h => by
  unfold mext at h
  split at h
  · obtain ⟨a, len, c, e, i, xb, xo, xc, lx, x, rfl, hx, hxo, h⟩ := insI_cases h
    rcases h with ⟨_, _, _, h⟩ | ⟨b, o, l, _, _, _, _, h⟩
    · rw [new_next h]; simp
    · rw [new_next h]; simp
  · cases h
theorem mext_wf : WFrec mext := fun f args H v H' h hw => by
  unfold mext at h
  split at h
  · obtain ⟨a, len, c, e, i, xb, xo, xc, lx, x, rfl, hx, hxo, h⟩ := insI_cases h
    rcases h with ⟨_, _, _, h⟩ | ⟨b, o, l, _, hb, _, _, h⟩
    · exact new_wf (hw.bump 1) (by simp) h
    · refine new_wf ((hw.bump 1).set ?_ _) (by simp) h
      apply Classical.byContradiction
      intro hn
      rw [hw b (by simp at hn; omega)] at hb; cases hb
  · cases h
theorem mext_ro : ROrec mext := fun ρ f args H v H' h hw => by
  unfold mext at h
  split at h
  · obtain ⟨a, len, c, e, i, xb, xo, xc, lx, x, rfl, hx, hxo, h⟩ := insI_cases h
    rcases h with ⟨_, _, _, h⟩ | ⟨b, o, l, _, hb, _, _, h⟩
    · exact new_ro (hw.bump 1) h
    · refine new_ro (RoOf.set (H := H.bump 1) (hw.bump 1) ?_ _) h
      intro l' hl'
      have hb' : (H.bump 1).blk b = some (.cells false l) := hb
      rw [hb'] at hl'; cases hl'
  · cases h
theorem mext_frame : FrmOk mext := fun f args H v H' y X h hy hlt => by
  unfold mext at *
  split at h
  · rename_i hf
    rw [if_pos hf]
    obtain ⟨a, len, c, e, i, xb, xo, xc, lx, x, rfl, hx, hxo, hq⟩ := insI_cases h
    have hxy : xb ≠ y := fun hc => by rw [hc, hy] at hx; cases hx
    have hx' : (H.set y X).blk xb = some (.cells false lx) := by rw [set_blk, if_neg hxy]; exact hx
    have hnid : H.next ≠ y := by omega
    clear h
    rcases hq with ⟨rfl, h0, rfl, h⟩ | ⟨b, o, l, rfl, hb, hc, rfl, h⟩
    · have h2 := new_set (X := X) hnid h
      refine ⟨?_, ?_⟩
      · simp only [insI, hx', hxo, Option.bind_some]
        rw [if_pos h0]
        show Option.map _ (((H.bump 1).set y X).new H.next _) = _
        rw [h2]; rfl
      · unfold AH.new at h
        split at h
        · cases h; simp only [set_blk]; rw [if_neg (Ne.symm hnid)]; exact hy
        · cases h
    · have hby : b ≠ y := fun hc => by rw [hc, hy] at hb; cases hb
      have hb' : (H.set y X).blk b = some (.cells false l) := by rw [set_blk, if_neg hby]; exact hb
      have h2 := new_set (X := X) hnid h
      refine ⟨?_, ?_⟩
      · simp only [insI, hx', hxo, Option.bind_some, hb']
        rw [if_pos hc]
        show Option.map _ ((((H.bump 1).set y X).set b .dead).new H.next _) = _
        rw [setXY (Ne.symm hby) X .dead, h2]; rfl
      · unfold AH.new at h
        split at h
        · cases h; simp only [set_blk]; rw [if_neg (Ne.symm hnid), if_neg (Ne.symm hby)]; exact hy
        · cases h
  · cases h

/- ---- the model's call ---- -/
theorem cellAt {b : Nat} {l : List SV} {ro : Bool} (hH : HRel B w0 φ H w) (hb : H.blk b = some (.cells ro l)) : ∃ cb sh cs c e fr, φ b = some (cb, sh, cs) ∧ w.heap[cb]? = some (.cells c e fr) ∧ c.size = cs ∧ sh + l.length ≤ cs ∧ (∀ i x, l[i]? = some x → ∃ v, c[sh + i]? = some v ∧ SVRel φ x v) ∧ (ro = false → fr = (0, 0) ∧ B ≤ cb) := hH.cells b ro l hb

theorem frozenAt {cb i : Nat} {c : Array Value} {e : TypeId} (h : w.heap[cb]? = some (.cells c e (0, 0))) : w.frozen? ⟨cb, i, none⟩ = false := by
  unfold World.frozen?; rw [h]; simp

theorem mext_calls {ρ : Ren} (L : Lays2.n21 P ρ) (hρ : ρ.f 21 = F.slices_Insert__int_int) : CallsOk P G B w0 mext := by
  intro f args H v H' h φ w cargs hH _ hargs
  unfold mext at h
  split at h
  · rename_i hf
    subst hf
    refine ⟨⟨_, hρ ▸ L.f21, by kernel_rfl, by kernel_rfl⟩, ?_⟩
    obtain ⟨a, len, c, e, i, xb, xo, xc, lx, x, rfl, hx, hxo, hq⟩ := insI_cases h
    clear h
    obtain ⟨ca, hca⟩ : ∃ ca, cargs = ca := ⟨_, rfl⟩
    match hl : cargs.toList, hargs with
    | [v0, v1, v2], hargs =>
      have hcargs : cargs = #[v0, v1, v2] := by apply Array.ext'; simpa using hl
      subst hcargs
      obtain ⟨h0, h1, h2, _⟩ := hargs
      have h1 : v1 = .int .i64 i := h1
      subst h1
      obtain ⟨_, hxc, xcb, xsh, xcs, z2, c2, k1, k2, k3, k4⟩ := h2
      obtain ⟨xcb', xsh', xcs', cx, ex, frx, j1, j2, j3, j4, j5, j6⟩ := cellAt hH hx
      rw [k1] at j1
      cases j1
      obtain ⟨hfrx, hBx⟩ := j6 rfl
      subst hfrx
      obtain ⟨hz2, hfit2, _⟩ := k4 (by omega)
      have hz2 : z2 = ⟨xcb, xsh + xo, none⟩ := hz2
      subst hz2
      subst k3
      obtain ⟨xv, hxv, hxr⟩ := j5 xo x hxo
      have hxcell : w.cell? ⟨xcb, xsh + xo, none⟩ = some xv := by rw [cell?_of j2]; exact hxv
      have hxvs : ∀ j u, [xv][j]? = some u → w.cell? ⟨xcb, xsh + xo + j, none⟩ = some u := by
        intro j u hj
        cases j with
        | zero => simp at hj; subst hj; simpa using hxcell
        | succ j => simp at hj
      have hx1 := hxr.oneCell
      have hx1' : ∀ u ∈ [xv], u.oneCell' = true := by intro u hu; simp at hu; subst hu; exact hx1
      have zc : ∀ n, (Builtin.zeroCells (Value.int .i64 0).cells n).size = n := by intro n; simp [Builtin.zeroCells, Value.cells]
      have hge : ∀ n c, n ≤ grownCap w n c (ρ.t 3) := fun n c => grownCap_ge w n c _
      have hle : ∀ n c, n ≤ 70368744177664 → grownCap w n c (ρ.t 3) ≤ 9223372036854775807 := fun n c hn => by
        have := grownCap_le_maxLen w n c (ρ.t 3) (by simp only [maxLen]; omega)
        simpa [maxLen] using this
      rcases hq with ⟨rfl, rfl, rfl, hnew⟩ | ⟨b, o, l, rfl, hb, ⟨hne, rfl, hi0, hil, hol, hbig⟩, rfl, hnew⟩
      · obtain ⟨rfl, rfl, rfl⟩ := slice_none h0
        have hcall := Any2.slices_Insert_int_end_grow L none 0 0 xcb (xsh + xo) 1 c2 [] [xv] w (by omega) (by omega) (by omega) (by omega) rfl rfl (fun _ => rfl) (fun a ha => by cases ha) hxvs hx1'
        rw [hρ] at hcall
        refine hcall.mono ?_
        rintro e' w' ⟨rfl, rfl⟩
        obtain ⟨φ', g1, g2, g3⟩ := (hH.bump 1).new hnew (by simp) (c := ([] ++ [xv]).toArray ++ Builtin.zeroCells (Value.int .i64 0).cells (grownCap w (0 + 1) 0 (ρ.t 3) - (0 + 1))) (by simp)
          (fun j y hy => by
            cases j with
            | zero => simp at hy; subst hy; exact ⟨xv, by rw [Array.getElem?_append_left (by simp)]; rfl, hxr⟩
            | succ j => simp at hy) (ρ.t 3) (w.drew.alloc (.cells (([] ++ [xv]).toArray ++ Builtin.zeroCells (Value.int .i64 0).cells (grownCap w (0 + 1) 0 (ρ.t 3) - (0 + 1))) (ρ.t 3))) rfl rfl rfl
        have hg := hge (0 + 1) 0
        refine ⟨φ', _, rfl, g1, g3, ⟨by omega, Nat.le_refl _, w.heap.size, 0, _, _, _, g2, by omega, rfl, fun _ => ⟨rfl, ?_, hle _ _ (by omega)⟩⟩⟩
        simp only [Array.size_append, List.size_toArray, zc, List.nil_append, List.length_singleton]
        omega
      · obtain ⟨_, hlc, cb, sh, cs, z, c', q3, q4, q5, q6⟩ := slice_of h0
        subst q5
        obtain ⟨cb', sh', cs', c0, e0, fr0, p1, p2, p3, p4, p5, p6⟩ := cellAt hH hb
        rw [q3] at p1
        cases p1
        obtain ⟨hfr0, hB0⟩ := p6 rfl
        subst hfr0
        obtain ⟨k, rfl⟩ : ∃ k : Nat, i = k := ⟨i.toNat, by omega⟩
        have hk : k ≤ len := by omega
        rw [Int.toNat_natCast] at hnew
        obtain ⟨csl, hcsl⟩ : ∃ csl, csl = (c0.toList.drop (sh + o)).take len := ⟨_, rfl⟩
        have hcl : csl.length = len := by rw [hcsl]; simp; omega
        have hcg : ∀ j, j < len → csl[j]? = c0[sh + o + j]? := by
          intro j hj
          rw [hcsl, List.getElem?_take, if_pos hj, List.getElem?_drop, Array.getElem?_toList]
        have hR : R2 (SVRel φ) ((l.drop o).take len) csl := by
          refine R2.of_get (by rw [hcl, List.length_take, List.length_drop]; omega) fun j y u hy hu => ?_
          have hj : j < len := by have := (List.getElem?_eq_some_iff.1 hu).1; omega
          rw [List.getElem?_take, if_pos hj, List.getElem?_drop] at hy
          obtain ⟨u', g1, g2⟩ := p5 (o + j) y hy
          rw [hcg j hj, Nat.add_assoc, g1] at hu
          cases hu; exact g2
        have h1c : ∀ u ∈ csl, u.oneCell' = true := hR.oneCell
        have hN : R2 (SVRel φ) ((l.drop o).take k ++ (x :: ((l.drop o).take len).drop k)) (csl.take k ++ (xv :: csl.drop k)) := by
          have h3 := R2.take k hR
          rw [List.take_take, Nat.min_eq_left hk] at h3
          exact R2.append h3 ⟨hxr, R2.drop k hR⟩
        have hNl : ((l.drop o).take k ++ (x :: ((l.drop o).take len).drop k)).length = len + 1 := by
          rw [hN.length]; simp [hcl]; omega
        have hvals : ∀ j, j < len + 1 → (csl.take k ++ (xv :: csl.drop k))[j]? = if j < k then csl[j]? else if j = k then some xv else csl[j - 1]? := by
          intro j hj
          rw [List.getElem?_append, List.length_take, Nat.min_eq_left (by omega)]
          split
          · rename_i h3; rw [List.getElem?_take, if_pos h3]
          · rename_i h3
            split
            · rename_i h4; subst h4; simp
            · rename_i h4
              rw [show j - k = (j - k - 1) + 1 by omega, List.getElem?_cons_succ, List.getElem?_drop, show k + (j - k - 1) = j - 1 by omega]
        have hneb : xcb ≠ cb := by
          intro hc
          rcases hH.inj xb b _ _ k1 q3 (by rw [hx]; simp) (by rw [hb]; simp) hc with h3 | ⟨_, _, h3, _⟩
          · exact hne h3
          · rw [hx] at h3; cases h3
        by_cases room : len + 1 ≤ c'
        · obtain ⟨hz, hfit, hcm⟩ := q6 (by omega)
          subst hz
          have fin : ∀ (w' : World) (c3 : Array Value), w'.heap[cb]? = some (.cells c3 e0 (0, 0)) → c3.size = c0.size → (∀ j, j < len + 1 → c3[sh + o + j]? = (csl.take k ++ (xv :: csl.drop k))[j]?) → (∀ y, y ≠ cb → w'.heap[y]? = w.heap[y]?) → w'.heap.size = w.heap.size → w'.os = w.os → w'.output = w.output →
              ∃ φ' cv, Ending.returned (Value.slice (some ⟨cb, sh + o, none⟩) (len + 1) c') = .returned cv ∧ Ext φ φ' ∧ HRel B w0 φ' H' w' ∧ AVRel φ' (.s (.slice (some (H.next, 0)) (len + 1) (len + 1) 1)) cv := by
            intro w' c3 r1 r2 r3 r4 r5 r6 r7
            obtain ⟨φ', g1, g2, g3⟩ := (hH.bump 1).row (id := H.next) hb q3 (by simp) hnew (o := o) r1 (by rw [r2, p3]) (by rw [hNl]; omega) (fun j y hy => by
              have hj : j < len + 1 := by have := (List.getElem?_eq_some_iff.1 hy).1; omega
              obtain ⟨u, g1, g2⟩ := hN.get j y hy
              exact ⟨u, by rw [r3 j hj]; exact g1, g2⟩) r4 r5 r6 r7
            exact ⟨φ', _, rfl, g1, g3, by omega, Nat.le_refl _, cb, sh + o, cs, _, c', g2, room, rfl, fun _ => ⟨rfl, by omega, hcm⟩⟩
          by_cases hkl : k < len
          · have hcall := Any2.slices_Insert_int_shift L cb (sh + o) len c' k xcb (xsh + xo) 1 c2 csl [xv] w hkl (by omega) room hcm hneb hcl rfl
              (fun j u hj => by
                have hj' : j < len := by have := (List.getElem?_eq_some_iff.1 hj).1; omega
                rw [cell?_of p2, ← hcg j hj']; exact hj)
              (fun j hj => by rw [cell?_of p2, Array.getElem?_eq_getElem (by omega)]; rfl) (fun j hj => frozenAt p2) hxvs h1c hx1' ex e0 cx.size c0.size
              (by unfold World.shape?; rw [j2]) (by unfold World.shape?; rw [p2]) (by omega) (frozenAt j2) (frozenAt j2)
            rw [hρ] at hcall
            refine hcall.mono ?_
            rintro e' w' ⟨rfl, rfl⟩
            obtain ⟨a1, a2, a3, a4, a5⟩ := setCells_heap cb (csl.drop k) (sh + o + (k + 1)) w.drew c0 p2
            obtain ⟨b1, b2, b3, b4, b5⟩ := setCells_heap cb [xv] (sh + o + k) _ _ a1
            refine fin _ _ b1 (by rw [setN_size, setN_size]) (fun j hj => ?_) (fun y hy => (b2 y hy).trans (a2 y hy)) (b3.trans a3) (b4.trans a4) (b5.trans a5)
            have hdl : (csl.drop k).length = len - k := by rw [List.length_drop, hcl]
            rw [setN_get _ _ _ _ (by rw [setN_size]; simp; omega), setN_get _ _ _ _ (by rw [hdl]; omega), hvals j hj]
            by_cases g1 : j < k
            · rw [if_neg (by simp; omega), if_neg (by rw [hdl]; omega), if_pos g1, hcg j (by omega)]
            · rw [if_neg g1]
              by_cases g2 : j = k
              · subst g2
                rw [if_pos (by simp), if_pos rfl]; simp
              · rw [if_neg (by simp; omega), if_neg g2, if_pos (by rw [hdl]; omega), List.getElem?_drop]
                congr 1; omega
          · have hke : k = len := by omega
            subst hke
            have hcall := Any2.slices_Insert_int_end_room L cb (sh + o) k c' xcb (xsh + xo) 1 c2 [xv] w (by omega) room hcm rfl
              (fun j hj => by rw [cell?_of p2, Array.getElem?_eq_getElem (by omega)]; rfl) (fun j hj => frozenAt p2) hxvs hx1'
            rw [hρ] at hcall
            refine hcall.mono ?_
            rintro e' w' ⟨rfl, rfl⟩
            obtain ⟨b1, b2, b3, b4, b5⟩ := setCells_heap cb [xv] (sh + o + k) w c0 p2
            refine fin _ _ b1 (by rw [setN_size]) (fun j hj => ?_) b2 b3 b4 b5
            rw [setN_get _ _ _ _ (by simp; omega), hvals j hj]
            by_cases g1 : j < k
            · rw [if_neg (by simp; omega), if_pos g1, hcg j g1]
            · rw [if_neg g1, if_pos (by simp; omega), if_pos (by omega), show sh + o + j - (sh + o + k) = 0 by omega]; rfl
        · have hcl' : c' = len := by omega
          subst hcl'
          have hk2 := (hH.kill (b := b) (by rw [hb]; simp)).bump 1
          have hnew' : ((H.set b .dead).bump 1).new H.next (.cells false ((l.drop o).take k ++ (x :: ((l.drop o).take c').drop k))) = some H' := hnew
          have fin : ∀ (w' : World) (gc : Nat) (c3 : Array Value) (e3 : TypeId), w'.heap = w.heap.push (.cells c3 e3 (0, 0)) → c3.size = gc → c' + 1 ≤ gc → gc ≤ 9223372036854775807 → (∀ j, j < c' + 1 → c3[j]? = (csl.take k ++ (xv :: csl.drop k))[j]?) → w'.os = w.os → w'.output = w.output →
              ∃ φ' cv, Ending.returned (Value.slice (some ⟨w.heap.size, 0, none⟩) (c' + 1) gc) = .returned cv ∧ Ext φ φ' ∧ HRel B w0 φ' H' w' ∧ AVRel φ' (.s (.slice (some (H.next, 0)) (c' + 1) (c' + 1) 1)) cv := by
            intro w' gc c3 e3 r1 r2 r3 r4 r5 r6 r7
            obtain ⟨φ', g1, g2, g3⟩ := hk2.new hnew' (by simp [AH.set]) (c := c3) (by rw [hNl]; omega) (fun j y hy => by
              have hj : j < c' + 1 := by have := (List.getElem?_eq_some_iff.1 hy).1; omega
              obtain ⟨u, g1, g2⟩ := hN.get j y hy
              exact ⟨u, by rw [r5 j hj]; exact g1, g2⟩) e3 w' r1 r6 r7
            exact ⟨φ', _, rfl, g1, g3, by omega, Nat.le_refl _, w.heap.size, 0, _, _, gc, g2, r3, rfl, fun _ => ⟨rfl, by omega, r4⟩⟩
          have hg := hge (c' + 1) c'
          have hl2 := hle (c' + 1) c' (by omega)
          by_cases hkl : k < c'
          · obtain ⟨hz, hfit, hcm⟩ := q6 (by omega)
            subst hz
            have hcall := Any2.slices_Insert_int_grow L cb (sh + o) c' c' k xcb (xsh + xo) 1 c2 csl [xv] w hkl (by omega) (Nat.le_refl _) (by omega) (by omega) hcl rfl
              (fun j u hj => by
                have hj' : j < c' := by have := (List.getElem?_eq_some_iff.1 hj).1; omega
                rw [cell?_of p2, ← hcg j hj']; exact hj) hxvs h1c hx1'
            rw [hρ] at hcall
            refine hcall.mono ?_
            rintro e' w' ⟨rfl, rfl⟩
            obtain ⟨A, hA⟩ : ∃ A, A = (csl.take k).toArray ++ Builtin.zeroCells (Value.int .i64 0).cells (c' + 1 - k) ++ Builtin.zeroCells (Value.int .i64 0).cells (grownCap w (c' + 1) c' (ρ.t 3) - (c' + 1)) := ⟨_, rfl⟩
            have hAs : A.size = grownCap w (c' + 1) c' (ρ.t 3) := by
              rw [hA]; simp only [Array.size_append, List.size_toArray, List.length_take, hcl, zc]; omega
            have hAg : ∀ j, j < k → A[j]? = csl[j]? := by
              intro j hj
              rw [hA, Array.append_assoc, Array.getElem?_append_left (by simp [hcl]; omega)]
              simp [hj]
            rw [← hA]
            have hW : (w.alloc (.cells A (ρ.t 3))).drew.heap[w.heap.size]? = some (.cells A (ρ.t 3) (0, 0)) := by
              show (w.heap.push _)[w.heap.size]? = _
              simp
            obtain ⟨a1, a2, a3, a4, a5⟩ := setCells_heap w.heap.size [xv] k _ _ hW
            obtain ⟨b1, b2, b3, b4, b5⟩ := setCells_heap w.heap.size (csl.drop k) (k + 1) ((w.alloc (.cells A (ρ.t 3))).drew.setCells w.heap.size k [xv]).drew _ a1
            have hdl : (csl.drop k).length = c' - k := by rw [List.length_drop, hcl]
            refine fin _ _ (setN (setN A k [xv]) (k + 1) (csl.drop k)) (ρ.t 3) ?_ (by rw [setN_size, setN_size, hAs]) hg hl2 (fun j hj => ?_) (b4.trans a4) (b5.trans a5)
            · apply Array.ext_getElem?
              intro y
              by_cases h3 : y = w.heap.size
              · subst h3
                rw [b1]; simp
              · rw [b2 y h3]
                have e9 := a2 y h3
                show ((w.alloc (.cells A (ρ.t 3))).drew.setCells w.heap.size k [xv]).heap[y]? = _
                rw [e9]
                show (w.heap.push _)[y]? = _
                rw [Array.getElem?_push, Array.getElem?_push, if_neg h3, if_neg h3]
            · rw [setN_get _ _ _ _ (by rw [setN_size, hdl, hAs]; omega), setN_get _ _ _ _ (by rw [hAs]; simp; omega), hvals j hj]
              by_cases g1 : j < k
              · rw [if_neg (by omega), if_neg (by simp; omega), if_pos g1, hAg j g1]
              · rw [if_neg g1]
                by_cases g2 : j = k
                · subst g2
                  rw [if_neg (by omega), if_pos (by simp), if_pos rfl]; simp
                · rw [if_neg g2, if_pos (by rw [hdl]; omega), List.getElem?_drop]
                  congr 1; omega
          · have hke : k = c' := by omega
            subst hke
            have hcall := Any2.slices_Insert_int_end_grow L (some z) k k xcb (xsh + xo) 1 c2 csl [xv] w (by omega) (Nat.le_refl _) (by omega) (by omega) hcl rfl (fun hc => by cases hc)
              (fun a ha j u hj => by
                cases ha
                have hj' : j < k := by have := (List.getElem?_eq_some_iff.1 hj).1; omega
                obtain ⟨hz, _, _⟩ := q6 (by omega)
                rw [hz, add_eq, cell?_of p2, ← Nat.add_assoc, ← hcg j hj']; exact hj) hxvs hx1'
            rw [hρ] at hcall
            refine hcall.mono ?_
            rintro e' w' ⟨rfl, rfl⟩
            refine fin _ _ ((csl ++ [xv]).toArray ++ Builtin.zeroCells (Value.int .i64 0).cells (grownCap w (k + 1) k (ρ.t 3) - (k + 1))) (ρ.t 3) rfl ?_ hg hl2 (fun j hj => ?_) rfl rfl
            · simp only [Array.size_append, List.size_toArray, List.length_append, hcl, zc, List.length_singleton]; omega
            · rw [Array.getElem?_append_left (by simp [hcl]; omega), List.take_of_length_le (by omega), List.drop_eq_nil_of_le (by omega)]
              simp
    | [], hargs => exact hargs.elim
    | [_], hargs => exact hargs.2.elim
    | [_, _], hargs => exact hargs.2.2.elim
    | _ :: _ :: _ :: _ :: _, hargs => exact hargs.2.2.2.elim
  · cases h
end Go.AM

/-
  slices.Insert stands in this program.
-/
namespace Go.AM
open Go.Proofs Go.Shelf

def insRen : Ren := ⟨fun x => if x = 21 then 63 else if x = 27 then 71 else if x = 28 then 72 else if x = 35 then 73 else if x = 39 then 74 else x, fun t => if t = 22 then 39 else t, fun x => x⟩

theorem laysIns : Lays2.n21 Try.prog insRen where
  mixed := by kernel_rfl
  f21 := by kernel_rfl
  f27 := by kernel_rfl
  f28 := by kernel_rfl
  f35 := by kernel_rfl
  f39 := by kernel_rfl
  t0 := by kernel_rfl
  a0 := Try.isAgg0
  z0 := Try.sizeOf0
  v0 := Try.zeroValue0
  t3 := by kernel_rfl
  a3 := Try.isAgg3
  z3 := Try.sizeOf3
  v3 := Try.zeroValue3
  t4 := by kernel_rfl
  a4 := Try.isAgg4
  z4 := Try.sizeOf4
  v4 := Try.zeroValue4
  t22 := by kernel_rfl
  a22 := Try.isAgg39
  z22 := Try.sizeOf39
  v22 := Try.zeroValue39
  i3 := by kernel_rfl

theorem mext_ok (B : Nat) (w0 : World) : CallsOk Try.prog [] B w0 mext := mext_calls laysIns rfl
end Go.AM

/-
  MutexPasses in the abstract machine.
-/
namespace Go.AM
theorem MutexPasses_abs (H : AH) (hw : WF H) (_hn : H.next = 1) (avs : List AV) (ha : ArgsAt H.blk [.int .i64, .slice (.int .u8)] avs) : CallP tab mext F.detentlaw15_MutexPasses avs H fun v _ => v = bl true := by
  obtain ⟨b, vs, rfl, _, ha1⟩ := ha.int'
  obtain ⟨xs, s, vs2, rfl, hs, ha2⟩ := ha1.slice
  obtain rfl := ha2.nil'
  refine (MutexPasses_tri b xs s fun x hx => ?_).use (ρ := H.blk) (R := []) (Sat.mkArg hs (Sat.nil hw fun _ _ h => h)) fun v H' P' h _ => h
  obtain ⟨i, hi⟩ := List.mem_iff_getElem?.1 hx
  have hlt := (List.getElem?_eq_some_iff.1 hi).1
  obtain ⟨_, _, _, y, li, _, _, h1, h2, _⟩ := At.slGet hs hlt
  have hy : y = x := by rw [hi] at h1; cases h1; rfl
  subst hy
  exact lit_bounds h2.2
end Go.AM
