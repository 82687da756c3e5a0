/-
  mtx: Held, Free, Waiting.
-/
import Derived.Test.YtinlhpgfoojneaaMg3
import Derived.KernelRfl
import Derived.Test.YtinlhpgfoojneaaMg2
import Derived.RowKit3
import Derived.WideKeyArgs
import Derived.ChangeSame
import Derived.Handed
import Derived.Test.YtinlhpgfoojneaaMg1
import Derived.Test.YtinlhpgfoojneaaMg0
import Derived.Shelf.Spec.SlicesInsertGrow
import Derived.Laws.AppendOwn
namespace Go.AM
set_option maxHeartbeats 8000000
attribute [local irreducible] sq bk lpK mdx rt TC RP WK Cel Ro Row Fre RowsA RowsBut
attribute [local irreducible] settleF stF passF unlF tryF lockF muW setO setw setp setb rk muw mow tkw tkb tkp insF standM sbBad setBF dropF

def heldN (ms : List Mu) (n : Int) (k : Nat) : List Int := ((List.range' 1 k).filter fun (m : Nat) => decide (mow ms (m : Int) = n)).map fun (m : Nat) => (m : Int)
def heldF (ms : List Mu) (n : Int) : List Int := if 1 ≤ n ∧ n ≤ 16 then heldN ms n (ms.length - 1) else []
theorem heldN_succ {ms : List Mu} {n : Int} {k : Nat} : heldN ms n (k + 1) = heldN ms n k ++ if mow ms ((k + 1 : Nat) : Int) = n then [((k + 1 : Nat) : Int)] else [] := by
  unfold heldN
  rw [List.range'_concat, List.filter_append, List.map_append, show 1 + 1 * k = k + 1 by omega]
  congr 1
  by_cases h : mow ms ((k + 1 : Nat) : Int) = n
  · rw [if_pos h, List.filter_cons_of_pos (by simpa using h)]; rfl
  · rw [if_neg h, List.filter_cons_of_neg (by simpa using h)]; rfl
theorem heldN_len {ms : List Mu} {n : Int} {k : Nat} : (heldN ms n k).length ≤ k := by
  unfold heldN
  rw [List.length_map]
  exact Nat.le_trans (List.length_filter_le _ _) (by simp)
theorem heldF_len {ms : List Mu} {n : Int} : (heldF ms n).length ≤ ms.length := by
  unfold heldF
  split
  · exact Nat.le_trans heldN_len (by omega)
  · simp
def freeStep (n : Int) (q : MS × List Int) (m : Int) : MS × List Int :=
  ((unlF q.1.1 q.1.2 m n).2, if (unlF q.1.1 q.1.2 m n).1.2 = 0 ∧ (unlF q.1.1 q.1.2 m n).1.1 > 0 then q.2 ++ [(unlF q.1.1 q.1.2 m n).1.1] else q.2)
def freeF (ms : List Mu) (ts : List Tk) (n : Int) : MS × List Int := (heldF ms n).foldl (freeStep n) ((ms, ts), [])
theorem MuI.unl {ms : List Mu} {ts : List Tk} (h : MuI ms ts) (m n : Int) : MuI (unlF ms ts m n).2.1 (unlF ms ts m n).2.2 := by
  unfold unlF
  split
  · exact h
  · split
    · exact h
    · simp only [stF]
      exact (h.pass m).settle

section
variable {a : Nat} {ms : List Mu} {ts : List Tk} {sm : SV} {ws : List SV} {L : List Asr}

theorem held_tri (hi : MuV ms) (n : Int) : Tri tab mext F.mtx_All_Held [ptr a, i64 n] [MxA a ms ts] fun v P' => ∃ s, v = .s s ∧ P' = [Row encI 1 s (heldF ms n), MxA a ms ts] := by
  refine Tri.go tab_mtx_All_Held rfl ?_
  have h9 := hi.l1
  have h0 := hi.l0
  refine TC.mx fun sm ws hl ht => ?_
  have hz : (ms.zip ws).length = ms.length := by rw [List.length_zip]; omega
  refine RUNM ?_
  refine TC.midb (α := SV) (fun _ => True) (fun s => [(5, .s s)]) (fun s => [Row encI 1 s (heldF ms n), MxB a ms ts sm ws]) ?_ ?_
  · refine TC.loop (fun q : Nat × SV => ms.length - q.1) (fun q => 1 ≤ q.1 ∧ q.1 ≤ ms.length ∧ (¬ (1 ≤ n ∧ n ≤ 16) → q.1 = 1)) (fun q => [(0, ptr a), (1, i64 n), (5, .s q.2), (6, i64 q.1)]) (fun q => [Row encI 1 q.2 (heldN ms n (q.1 - 1)), MxB a ms ts sm ws]) (1, .slice none 0 0 1) ⟨by omega, by omega, fun _ => rfl⟩ ⟨rfl, rfl, rfl, rfl, trivial⟩ (show LEnt _ [Row encI 1 (.slice none 0 0 1) [], MxB a ms ts sm ws] from row_nil 1 _) ?_
    rintro ⟨m, s⟩ ⟨h1, h2, h3⟩
    dsimp only at h1 h2 h3 ⊢
    refine RUNM ?_
    refine RP.c rfl (mIs_tri n) .e rfl ?_
    rintro v P' ⟨rfl, rfl⟩
    refine RUNM ?_
    refine RP.gp rfl (fun h4 => ?_) fun h4 => ?_
    · refine RUNM ?_
      refine TC.cP rfl (fun h5 => ?_) fun h5 => ?_
      · obtain ⟨k, hk, μ, s2, hμ, hs⟩ := msGet (ms := ms) (ws := ws) (m := (m : Int)) (by omega) hl
        obtain rfl : m = k := by omega
        have hm := mow_some (cast_get hμ)
        have hsucc := heldN_succ (ms := ms) (n := n) (k := m - 1)
        rw [show m - 1 + 1 = m by omega, hm] at hsucc
        have hlen := heldN_len (ms := ms) (n := n) (k := m - 1)
        refine RUNM ?_
        refine TC.cP rfl (fun h6 => ?_) fun h6 => ?_
        · have h6 : μ.ow = n := h6
          rw [if_pos h6] at hsucc
          refine RUNM ?_
          refine RP.bs rfl rfl rfl fun b => ?_
          refine RP.ap rfl rfl rfl (ap_one (e := (m : Int)) encI_len (.c (.n .h) (.c .h .e)) (by omega)) fun s' => ?_
          refine RUNM ?_
          refine lp_n (m + 1, s') ⟨by simp only; omega, by simp only; omega, fun hc => absurd h4 hc⟩ (by simp only; omega) ⟨rfl, rfl, rfl, rfl, trivial⟩ ?_
          simp only [Nat.add_sub_cancel]
          rw [hsucc]
          exact LEnt.refl _
        · have h6 : ¬ μ.ow = n := h6
          rw [if_neg h6, List.append_nil] at hsucc
          refine RUNM ?_
          refine lp_n (m + 1, s) ⟨by simp only; omega, by simp only; omega, fun hc => absurd h4 hc⟩ (by simp only; omega) ⟨rfl, rfl, rfl, rfl, trivial⟩ ?_
          simp only [Nat.add_sub_cancel]
          rw [hsucc]
          exact LEnt.refl _
      · have : m = ms.length := by omega
        subst this
        refine RUNM ?_
        refine md_n s trivial ⟨rfl, trivial⟩ ?_
        rw [heldF, if_pos h4]
        exact LEnt.refl _
    · refine RUNM ?_
      refine md_n s trivial ⟨rfl, trivial⟩ ?_
      have := h3 h4
      subst this
      rw [heldF, if_neg h4]
      exact LEnt.refl _
  · intro s _
    have := heldF_len (ms := ms) (n := n)
    refine RUNM ?_
    refine RP.c rfl (xClip_tri s _) (.c .h .e) rfl ?_
    rintro v P' ⟨s', rfl, rfl⟩
    refine RUNM ?_
    refine rt_r rfl ⟨s', rfl, rfl⟩ ?_
    exact (LEnt.of (.c (.n .h) (.c .h .e))).trans (mx_hide.trans (LEnt.of (.c (.n .h) (.c .h .e))))

theorem free_tri (hi : MuI ms ts) (n : Int) : Tri tab mext F.mtx_All_Free [ptr a, i64 n] [MxA a ms ts] fun v P' => ∃ s, v = .s s ∧ P' = [Row encI 1 s (freeF ms ts n).2, MxA a (freeF ms ts n).1.1 (freeF ms ts n).1.2] := by
  refine Tri.go tab_mtx_All_Free rfl ?_
  have h9 := hi.v.l1
  refine RUN ?_
  refine RP.c rfl (held_tri hi.v n) (.c .h .e) rfl ?_
  rintro v P' ⟨sh, rfl, rfl⟩
  have hhl := heldF_len (ms := ms) (n := n)
  have hfree : freeF ms ts n = (heldF ms n).foldl (freeStep n) ((ms, ts), []) := by unfold freeF; rfl
  generalize freeF ms ts n = FR at *
  generalize heldF ms n = hs at *
  refine RUN ?_
  refine TC.midb (α := SV) (fun _ => True) (fun s => [(5, .s s)]) (fun s => [Row encI 1 s FR.2, MxA a FR.1.1 FR.1.2]) ?_ ?_
  · have hI : ∀ i, MuI ((hs.take i).foldl (freeStep n) ((ms, ts), [])).1.1 ((hs.take i).foldl (freeStep n) ((ms, ts), [])).1.2 ∧ ((hs.take i).foldl (freeStep n) ((ms, ts), [])).2.length ≤ i := by
      intro i
      induction i with
      | zero => exact ⟨hi, by simp⟩
      | succ i ih =>
        rw [List.take_add_one]
        cases hm : hs[i]? with
        | none => simp only [Option.toList_none, List.append_nil]; exact ⟨ih.1, by omega⟩
        | some m =>
          rw [List.foldl_append]
          simp only [Option.toList_some, List.foldl_cons, List.foldl_nil]
          refine ⟨ih.1.unl m n, ?_⟩
          simp only [freeStep]
          split
          · rw [List.length_append]; simp; exact ih.2
          · omega
    refine TC.loop (fun q : Nat × SV => hs.length - q.1) (fun q => q.1 ≤ hs.length) (fun q => [(0, ptr a), (1, i64 n), (5, .s q.2), (12, .s sh), (13, i64 hs.length), (14, i64 q.1)]) (fun q => [Row encI 1 q.2 ((hs.take q.1).foldl (freeStep n) ((ms, ts), [])).2, Row encI 1 sh hs, MxA a ((hs.take q.1).foldl (freeStep n) ((ms, ts), [])).1.1 ((hs.take q.1).foldl (freeStep n) ((ms, ts), [])).1.2]) (0, .slice none 0 0 1) (by simp) ⟨rfl, rfl, rfl, rfl, rfl, rfl, trivial⟩ (row_nil _ _) ?_
    rintro ⟨i, s⟩ h1
    dsimp only at h1 ⊢
    obtain ⟨hq, hql⟩ := hI i
    have hstep : ∀ m, hs[i]? = some m → freeStep n ((hs.take i).foldl (freeStep n) ((ms, ts), [])) m = (hs.take (i + 1)).foldl (freeStep n) ((ms, ts), []) := fun m hm => by rw [foldl_take_succ hm]
    generalize hQ : (hs.take i).foldl (freeStep n) ((ms, ts), []) = Q at *
    replace hQ := hQ.symm
    obtain ⟨⟨ms1, ts1⟩, out⟩ := Q
    dsimp only at hq hql ⊢
    refine RUN ?_
    refine TC.cP rfl (fun h3 => ?_) fun h3 => ?_
    · obtain ⟨m, hm⟩ : ∃ m, hs[i]? = some m := ⟨_, List.getElem?_eq_getElem (by omega)⟩
      have hstep := hstep m hm
      refine RUN ?_
      refine RP.c rfl (unl_tri hq m n) (.c (.n (.n .h)) .e) rfl ?_
      rintro v P' ⟨rfl, rfl⟩
      have e0 : freeStep n ((ms1, ts1), out) m = ((unlF ms1 ts1 m n).2, if (unlF ms1 ts1 m n).1.2 = 0 ∧ (unlF ms1 ts1 m n).1.1 > 0 then out ++ [(unlF ms1 ts1 m n).1.1] else out) := rfl
      rw [e0] at hstep
      clear e0
      generalize unlF ms1 ts1 m n = r at *
      obtain ⟨⟨w, c⟩, ms2, ts2⟩ := r
      dsimp only at hstep ⊢
      have big : out.length + 1 ≤ 100 := by omega
      refine RUN ?_
      refine RP.gp rfl (fun h4 => ?_) fun h4 => ?_
      · have h4 : c = 0 := h4
        refine RUN ?_
        refine TC.cP rfl (fun h5 => ?_) fun h5 => ?_
        · rw [if_pos ⟨h4, h5⟩] at hstep
          refine RUN ?_
          refine RP.bs rfl rfl rfl fun b => ?_
          refine RP.ap rfl rfl rfl (ap_one (e := w) encI_len (.c (.n (.n .h)) (.c .h .e)) (by omega)) fun s' => ?_
          refine RUN ?_
          refine lp_n (i + 1, s') (by simp only; omega) (by simp only; omega) ⟨rfl, rfl, rfl, rfl, rfl, rfl, trivial⟩ ?_
          simp only
          rw [← hstep]
          exact LEnt.of (.c .h (.c (.n .h) (.c .h .e)))
        · rw [if_neg (fun hc => h5 hc.2)] at hstep
          refine RUN ?_
          refine lp_n (i + 1, s) (by simp only; omega) (by simp only; omega) ⟨rfl, rfl, rfl, rfl, rfl, rfl, trivial⟩ ?_
          simp only
          rw [← hstep]
          exact LEnt.of (.c (.n .h) (.c (.n .h) (.c .h .e)))
      · have h4 : ¬ c = 0 := h4
        rw [if_neg (fun hc => h4 hc.1)] at hstep
        refine RUN ?_
        refine lp_n (i + 1, s) (by simp only; omega) (by simp only; omega) ⟨rfl, rfl, rfl, rfl, rfl, rfl, trivial⟩ ?_
        simp only
        rw [← hstep]
        exact LEnt.of (.c (.n .h) (.c (.n .h) (.c .h .e)))
    · have : i = hs.length := by omega
      subst this
      rw [List.take_length] at hQ
      refine RUN ?_
      refine md_n s trivial ⟨rfl, trivial⟩ ?_
      rw [hfree, ← hQ]
      exact LEnt.of (.c .h (.c (.n .h) .e))
  · intro s _
    refine RUN ?_
    refine RP.c rfl (xClip_tri s _) (.c .h .e) rfl ?_
    rintro v P' ⟨s', rfl, rfl⟩
    refine RUN ?_
    exact rt_r rfl ⟨s', rfl, rfl⟩ (LEnt.refl _)
end
end Go.AM

/-
  mtx: the laws' first question.
-/
namespace Go.AM
set_option maxHeartbeats 8000000
attribute [local irreducible] sq bk lpK mdx rt TC RP WK Cel Ro Row Fre RowsA RowsBut

def muIB (S : MS) : Bool := decide (1 ≤ S.1.length) && decide (S.1.length ≤ 9) && (S.1.all fun μ => (μ.w.all fun w => decide (1 ≤ w ∧ w ≤ 16)) && decide μ.w.Nodup && decide (0 ≤ μ.ow ∧ μ.ow ≤ 16)) && S.2.all fun τ => decide (0 ≤ τ.w ∧ τ.w < S.1.length)
theorem muIB_ok {S : MS} (h : muIB S = true) : MuI S.1 S.2 := by
  simp only [muIB, Bool.and_eq_true, decide_eq_true_eq, List.all_eq_true] at h
  obtain ⟨⟨⟨h1, h2⟩, h3⟩, h4⟩ := h
  exact ⟨⟨h1, h2, fun μ hμ => (h3 μ hμ).1.1, fun μ hμ => (h3 μ hμ).1.2⟩, fun μ hμ => (h3 μ hμ).2, h4⟩
theorem no_row {S : MS} {m : Nat} {n : Int} (h : (muw S.1 m).contains n = false) : ∀ μ, S.1[m]? = some μ → n ∉ μ.w := by
  intro μ hμ hn
  rw [muw_some hμ] at h
  have : μ.w.contains n = true := by simpa using hn
  rw [this] at h; cases h

def kS0 : MS := ([mu0, ⟨2, 0, 0, []⟩, ⟨3, 2, 0, []⟩], List.replicate 17 tk0)
def kS1 : MS := (setBF kS0.1 kS0.2 1 9).2
def kS2 : MS := (setBF kS1.1 kS1.2 2 4).2
def kS3 : MS := (lockF kS2.1 kS2.2 1 1).2
def kS4 : MS := (lockF kS3.1 kS3.2 1 2).2
def kS5 : MS := (unlF kS4.1 kS4.2 1 1).2
def kS6 : MS := (unlF kS5.1 kS5.2 1 1).2
def kS7 : MS := (tryF kS6.1 kS6.2 2 1).2
abbrev MxS (a : Nat) (S : MS) : Asr := MxA a S.1 S.2

theorem known15_tri : Tri tab mext F.detentlaw15_known [] [] fun v P' => v = bl true ∧ P' = [] := by
  refine Tri.go tab_detentlaw15_known rfl ?_
  refine RUN ?_
  refine RP.bs rfl rfl rfl fun b => ?_
  refine RP.ent (row_made (enc := encK) (k := 2) (c := 2) (r := [(2, 0), (3, 2)]) rfl (by simp) (by simp)) ?_
  refine RP.c rfl (new_tri _ [(2, 0), (3, 2)]) (.c .h .e) rfl ?_
  rintro v P' (⟨h, _⟩ | ⟨_, a, rfl, rfl⟩)
  · rcases h with h | h
    · simp at h
    · exact absurd (by decide) h
  refine RUN ?_
  refine RP.ent (L' := [MxS a kS0]) (LEnt.of (.c .h .e)) ?_
  refine RP.c rfl (setB_tri (muIB_ok (S := kS0) (by kernel_rfl)) 1 9) (.c .h .e) rfl ?_
  rintro v P' ⟨rfl, rfl⟩
  rw [show (setBF kS0.1 kS0.2 1 9).1 = 0 by kernel_rfl, show (setBF kS0.1 kS0.2 1 9).2 = kS1 from rfl]
  refine RUN ?_
  refine RP.c rfl (setB_tri (muIB_ok (S := kS1) (by kernel_rfl)) 2 4) (.c .h .e) rfl ?_
  rintro v P' ⟨rfl, rfl⟩
  rw [show (setBF kS1.1 kS1.2 2 4).1 = 0 by kernel_rfl, show (setBF kS1.1 kS1.2 2 4).2 = kS2 from rfl]
  refine RUN ?_
  refine RP.c rfl (lock_tri (muIB_ok (S := kS2) (by kernel_rfl)) 1 1 (fun _ => no_row (S := kS2) (m := 1) (by kernel_rfl))) (.c .h .e) rfl ?_
  rintro v P' ⟨rfl, rfl⟩
  rw [show (lockF kS2.1 kS2.2 1 1).1 = (true, 0) by kernel_rfl, show (lockF kS2.1 kS2.2 1 1).2 = kS3 from rfl]
  refine RUN ?_
  refine RP.c rfl (lock_tri (muIB_ok (S := kS3) (by kernel_rfl)) 1 2 (fun _ => no_row (S := kS3) (m := 1) (by kernel_rfl))) (.c .h .e) rfl ?_
  rintro v P' ⟨rfl, rfl⟩
  rw [show (lockF kS3.1 kS3.2 1 2).1 = (false, 0) by kernel_rfl, show (lockF kS3.1 kS3.2 1 2).2 = kS4 from rfl]
  refine RUN ?_
  refine RP.c rfl (Pri_tri 1) (.c .h .e) rfl ?_
  rintro v P' ⟨rfl, rfl⟩
  rw [show (if (1 : Int) ≤ 1 ∧ (1 : Int) ≤ 16 then tkp kS4.2 1 else 0) = 4 by kernel_rfl]
  refine RUN ?_
  refine RP.c rfl (unl_tri (muIB_ok (S := kS4) (by kernel_rfl)) 1 1) (.c .h .e) rfl ?_
  rintro v P' ⟨rfl, rfl⟩
  rw [show (unlF kS4.1 kS4.2 1 1).1 = (2, 0) by kernel_rfl, show (unlF kS4.1 kS4.2 1 1).2 = kS5 from rfl]
  refine RUN ?_
  refine RP.c rfl (unl_tri (muIB_ok (S := kS5) (by kernel_rfl)) 1 1) (.c .h .e) rfl ?_
  rintro v P' ⟨rfl, rfl⟩
  rw [show (unlF kS5.1 kS5.2 1 1).1 = (0, -28) by kernel_rfl, show (unlF kS5.1 kS5.2 1 1).2 = kS6 from rfl]
  refine RUN ?_
  refine RP.c rfl (try_tri (muIB_ok (S := kS6) (by kernel_rfl)) 2 1) (.c .h .e) rfl ?_
  rintro v P' ⟨rfl, rfl⟩
  rw [show (tryF kS6.1 kS6.2 2 1).1 = (true, 0) by kernel_rfl, show (tryF kS6.1 kS6.2 2 1).2 = kS7 from rfl]
  refine RUN ?_
  refine RP.c rfl (Pri_tri 1) (.c .h .e) rfl ?_
  rintro v P' ⟨rfl, rfl⟩
  rw [show (if (1 : Int) ≤ 1 ∧ (1 : Int) ≤ 16 then tkp kS7.2 1 else 0) = 2 by kernel_rfl]
  refine RUN ?_
  refine RP.c rfl (Base_tri 1) (.c .h .e) rfl ?_
  rintro v P' ⟨rfl, rfl⟩
  rw [show (if (1 : Int) ≤ 1 ∧ (1 : Int) ≤ 16 then tkb kS7.2 1 else 0) = 9 by kernel_rfl]
  refine RUN ?_
  refine RP.c rfl (Owner_tri 1) (.c .h .e) rfl ?_
  rintro v P' ⟨rfl, rfl⟩
  rw [show (if (1 : Int) ≤ 1 ∧ (1 : Int) < kS7.1.length then mow kS7.1 1 else 0) = 2 by kernel_rfl]
  refine RUN ?_
  refine RP.c rfl (held_tri (muIB_ok (S := kS7) (by kernel_rfl)).v 1) (.c .h .e) rfl ?_
  rintro v P' ⟨s, rfl, rfl⟩
  rw [show heldF kS7.1 1 = [2] by kernel_rfl]
  refine RUN ?_
  exact rt_r rfl ⟨rfl, rfl⟩ (LEnt.of .e)
end Go.AM

/-
  MutexFrees: all ways, looked at once.
-/
namespace Go.AM

def frS0 (n : Nat) : MS := (mu0 :: List.replicate n ⟨2, 0, 0, []⟩, List.replicate 17 tk0)
def frA (S : MS) (i : Nat) : MS := (lockF S.1 S.2 ((i + 1 : Nat) : Int) 16).2
def frB (S : MS) (i : Nat) : MS := (setBF (frA S i).1 (frA S i).2 ((i + 1 : Nat) : Int) ((i + 1 : Nat) : Int)).2
def frC (S : MS) (i : Nat) : MS := (lockF (frB S i).1 (frB S i).2 ((i + 1 : Nat) : Int) ((i + 1 : Nat) : Int)).2
def frStep (S : MS) (i : Nat) (w : Bool) : MS := if w then frC S i else frA S i
/-- What the calls ask for. -/
def frOk1 (S : MS) (i : Nat) (w : Bool) : Bool :=
  muIB S && !(muw S.1 (i + 1)).contains 16 && (!w || (muIB (frA S i) && muIB (frB S i) && !(muw (frB S i).1 (i + 1)).contains ((i + 1 : Nat) : Int)))
/-- The law's end: from task i on, k told so far. -/
def frTell (l : List Int) (ms : List Mu) : List Bool → Nat → Nat → Bool
  | [], _, _ => true
  | true :: r, i, k => decide (l[k]? = some ((i + 1 : Nat) : Int)) && decide (mow ms ((i + 1 : Nat) : Int) = ((i + 1 : Nat) : Int)) && frTell l ms r (i + 1) (k + 1)
  | false :: r, i, k => decide (mow ms ((i + 1 : Nat) : Int) = 0) && frTell l ms r (i + 1) k
def frEnd (S : MS) (ws : List Bool) : Bool :=
  let Fq := freeF S.1 S.2 16
  muIB S && muIB Fq.1 && decide (Fq.2.length = (ws.filter id).length) && decide (tkp Fq.1.2 16 = 16) && (heldF Fq.1.1 16).isEmpty && frTell Fq.2 Fq.1.1 ws 0 0
def frAll : Nat → Nat → MS → List Bool → Bool
  | 0, _, S, acc => frEnd S acc
  | k + 1, i, S, acc => frOk1 S i false && frOk1 S i true && frAll k (i + 1) (frStep S i false) (acc ++ [false]) && frAll k (i + 1) (frStep S i true) (acc ++ [true])
theorem fr0 : frAll 0 0 (frS0 0) [] = true := by kernel_rfl
theorem fr1 : frAll 1 0 (frS0 1) [] = true := by kernel_rfl
theorem fr2 : frAll 2 0 (frS0 2) [] = true := by kernel_rfl
theorem fr3 : frAll 3 0 (frS0 3) [] = true := by kernel_rfl
theorem fr4 : frAll 4 0 (frS0 4) [] = true := by kernel_rfl
theorem fr5 : frAll 5 0 (frS0 5) [] = true := by kernel_rfl
theorem fr6 : frAll 6 0 (frS0 6) [] = true := by kernel_rfl
end Go.AM

/-
  MutexFrees: what the look at all ways says of one.
-/
namespace Go.AM

def frRun : MS → Nat → List Bool → MS
  | S, _, [] => S
  | S, i, w :: r => frRun (frStep S i w) (i + 1) r
theorem frRun_snoc : ∀ (l : List Bool) (S : MS) (i : Nat) (w : Bool), frRun S i (l ++ [w]) = frStep (frRun S i l) (i + l.length) w
  | [], _, _, _ => rfl
  | x :: l, S, i, w => by
    show frRun (frStep S i x) (i + 1) (l ++ [w]) = frStep (frRun (frStep S i x) (i + 1) l) _ w
    rw [frRun_snoc l]
    congr 1
    simp; omega
theorem frAll_ok : ∀ (k i : Nat) (S : MS) (acc : List Bool), frAll k i S acc = true → ∀ ws : List Bool, ws.length = k → frEnd (frRun S i ws) (acc ++ ws) = true ∧ ∀ (j : Nat) (w : Bool), ws[j]? = some w → frOk1 (frRun S i (ws.take j)) (i + j) w = true
  | 0, i, S, acc, h, ws, hl => by
    obtain rfl : ws = [] := List.length_eq_zero_iff.1 hl
    exact ⟨by rw [List.append_nil]; exact h, fun j w hw => by cases hw⟩
  | k + 1, i, S, acc, h, ws, hl => by
    cases ws with
    | nil => cases hl
    | cons w ws =>
      simp only [frAll, Bool.and_eq_true] at h
      obtain ⟨⟨⟨h1, h2⟩, h3⟩, h4⟩ := h
      have hl : ws.length = k := by simpa using hl
      have hw : frOk1 S i w = true := by cases w <;> assumption
      have hr : frAll k (i + 1) (frStep S i w) (acc ++ [w]) = true := by cases w <;> assumption
      obtain ⟨k1, k2⟩ := frAll_ok k (i + 1) _ _ hr ws hl
      refine ⟨?_, fun j v hv => ?_⟩
      · rw [List.append_assoc] at k1
        exact k1
      · cases j with
        | zero => cases hv; exact hw
        | succ j =>
          have := k2 j v hv
          rw [show i + 1 + j = i + (j + 1) by omega] at this
          exact this
end Go.AM

/-
  MutexFrees: the walk.
-/
namespace Go.AM
set_option maxHeartbeats 8000000
attribute [local irreducible] sq bk lpK mdx rt TC RP WK Cel Ro Row Fre RowsA RowsBut
attribute [local irreducible] settleF stF passF unlF tryF lockF muW setO setw setp setb rk muw mow tkw tkb tkp insF standM sbBad setBF dropF freeF heldF frRun frTell

theorem encK2_len (k : Int × Int) : (encK k).length = 2 := rfl
theorem Ld.gB {xs : List Bool} {s : SV} {L : List Asr} {i : Nat} {x : Bool} (hx : xs[i]? = some x) : Ld (ArgS .bool xs s :: L) (sb s) (ix 0 i 1 0) (.bool x) := ⟨fun ρ H R hs => by
  have h := Sat.arg hs
  have hlt := (List.getElem?_eq_some_iff.1 hx).1
  obtain ⟨b, c, l, y, li, rfl, hb, h1, h2, h3, h4⟩ := At.slGet h hlt
  have hy : y = x := by rw [hx] at h1; cases h1; rfl
  subst hy
  have hb' := hs.roOf b l hb
  obtain rfl := h2
  show H.ld b _ = _
  rw [ld_of H hb', ix]
  have := congrArg (fun l => l[0]?) h3
  simpa [Ty.size] using this⟩
theorem frTell_t {l : List Int} {ms : List Mu} {r : List Bool} {i k : Nat} (h : frTell l ms (true :: r) i k = true) : l[k]? = some ((i + 1 : Nat) : Int) ∧ mow ms ((i + 1 : Nat) : Int) = ((i + 1 : Nat) : Int) ∧ frTell l ms r (i + 1) (k + 1) = true := by
  unfold frTell at h
  simp only [Bool.and_eq_true, decide_eq_true_eq] at h
  exact ⟨h.1.1, h.1.2, h.2⟩
theorem frTell_f {l : List Int} {ms : List Mu} {r : List Bool} {i k : Nat} (h : frTell l ms (false :: r) i k = true) : mow ms ((i + 1 : Nat) : Int) = 0 ∧ frTell l ms r (i + 1) k = true := by
  unfold frTell at h
  simp only [Bool.and_eq_true, decide_eq_true_eq] at h
  exact h
theorem own_in (ms : List Mu) (i : Nat) : (if 1 ≤ ((i + 1 : Nat) : Int) ∧ ((i + 1 : Nat) : Int) < ms.length then mow ms ((i + 1 : Nat) : Int) else 0) = mow ms ((i + 1 : Nat) : Int) := by
  split
  · rfl
  · rename_i h
    unfold mow
    rw [Int.toNat_natCast, List.getElem?_eq_none (by omega)]; rfl
theorem drop_at {α : Type} {l : List α} {i : Nat} {x : α} (h : l[i]? = some x) : l.drop i = x :: l.drop (i + 1) := by
  obtain ⟨h1, rfl⟩ := List.getElem?_eq_some_iff.1 h
  exact List.drop_eq_getElem_cons h1
theorem frRun_nil (S : MS) (i : Nat) : frRun S i [] = S := by unfold frRun; rfl
theorem MutexFrees_tri (ws : List Bool) (s : SV) (hall : ∀ n, n ≤ 8 → frAll n 0 (frS0 n) [] = true) : Tri tab mext F.detentlaw15_MutexFrees [.s s] [ArgS .bool ws s] fun v _ => v = bl true := by
  refine Tri.go tab_detentlaw15_MutexFrees rfl ?_
  refine RUN ?_
  refine RP.c rfl known15_tri .e rfl ?_
  rintro v P' ⟨rfl, rfl⟩
  refine RUN ?_
  refine TC.cP rfl (fun h3 => ?_) fun h3 => ?_
  · refine RUN ?_
    exact rt_r rfl rfl (LEnt.refl _)
  · obtain ⟨hend, hst⟩ := frAll_ok _ 0 _ [] (hall ws.length (by omega)) ws rfl
    refine RUN ?_
    refine TC.midb (α := SV) (fun _ => True) (fun q => [(0, .s s), (2, bl false), (3, .s q)]) (fun q => [Row encK 2 q (List.replicate ws.length (2, 0)), ArgS .bool ws s]) ?_ ?_
    · refine TC.loop (fun q : Nat × SV => ws.length - q.1) (fun q => q.1 ≤ ws.length) (fun q => [(0, .s s), (2, bl false), (3, .s q.2), (4, i64 q.1)]) (fun q => [Row encK 2 q.2 (List.replicate q.1 (2, 0)), ArgS .bool ws s]) (0, .slice none 0 0 1) (by omega) ⟨rfl, rfl, rfl, rfl, trivial⟩ (row_nil 1 _) ?_
      rintro ⟨i, q⟩ hi
      dsimp only at hi ⊢
      refine RUN ?_
      refine TC.cP rfl (fun h4 => ?_) fun h4 => ?_
      · refine RUN ?_
        refine RP.bs rfl rfl rfl fun c2 => ?_
        refine RP.ap rfl rfl rfl (ap_one (e := ((2, 0) : Int × Int)) encK2_len (.c (.n .h) (.c .h .e)) (by simp; omega)) fun q' => ?_
        refine RUN ?_
        refine lp_n (i + 1, q') (by simp only; omega) (by simp only; omega) ⟨rfl, rfl, rfl, rfl, trivial⟩ ?_
        simp only
        rw [List.replicate_succ']
        exact LEnt.of (.c .h (.c .h .e))
      · have : i = ws.length := by omega
        subst this
        refine RUN ?_
        exact md_n q trivial ⟨rfl, rfl, rfl, trivial⟩ (LEnt.of (.c .h (.c .h .e)))
    · intro q _
      refine RUN ?_
      refine RP.c rfl (new_tri _ (List.replicate ws.length (2, 0))) (.c .h .e) rfl ?_
      rintro v P' (⟨h, _⟩ | ⟨_, a, rfl, rfl⟩)
      · exfalso
        rcases h with h | h
        · simp at h; omega
        · refine h fun k hk => ?_
          rw [(List.mem_replicate.1 hk).2]; rfl
      rw [show mu0 :: (List.replicate ws.length ((2, 0) : Int × Int)).map muK = (frS0 ws.length).1 by rw [List.map_replicate]; rfl, show List.replicate 17 tk0 = (frS0 ws.length).2 from rfl]
      refine RUN ?_
      refine TC.loop (fun i : Nat => ws.length - i) (fun i => i ≤ ws.length) (fun i => [(0, .s s), (2, bl false), (5, ptr a), (7, i64 ((ws.take i).filter id).length), (8, i64 i)]) (fun i => [MxA a (frRun (frS0 ws.length) 0 (ws.take i)).1 (frRun (frS0 ws.length) 0 (ws.take i)).2, ArgS .bool ws s]) 0 (by omega) ⟨rfl, rfl, rfl, rfl, rfl, trivial⟩ (by rw [List.take_zero, frRun_nil]; exact LEnt.of (.c .h (.c (.n .h) .e))) ?_
      intro i hi
      refine RUN ?_
      refine TC.cP rfl (fun h4 => ?_) fun h4 => ?_
      · obtain ⟨w, hw⟩ : ∃ w, ws[i]? = some w := ⟨_, List.getElem?_eq_getElem (by omega)⟩
        have hok := hst i w hw
        rw [Nat.zero_add] at hok
        have hsn := frRun_snoc (ws.take i) (frS0 ws.length) 0 w
        rw [Nat.zero_add, List.length_take, Nat.min_eq_left hi] at hsn
        have htk : ws.take (i + 1) = ws.take i ++ [w] := by rw [List.take_add_one, hw]; rfl
        rw [← htk] at hsn
        generalize frRun (frS0 ws.length) 0 (ws.take i) = S at hok hsn ⊢
        simp only [frOk1, Bool.and_eq_true, Bool.or_eq_true, Bool.not_eq_true'] at hok
        obtain ⟨⟨o1, o2⟩, o3⟩ := hok
        refine RUN ?_
        refine RP.c rfl (lock_tri (muIB_ok o1) ((i + 1 : Nat) : Int) 16 (fun _ => no_row (m := i + 1) o2)) (.c .h .e) rfl ?_
        rintro v P' ⟨rfl, rfl⟩
        rw [show (lockF S.1 S.2 ((i + 1 : Nat) : Int) 16).2 = frA S i from rfl]
        refine RUN ?_
        refine RP.l rfl (.n (Ld.gB hw)) rfl ?_
        refine RUN ?_
        cases w with
        | false =>
          refine TC.cF rfl ?_
          refine RUN ?_
          have e7 : ((ws.take (i + 1)).filter id).length = ((ws.take i).filter id).length := by rw [htk]; simp
          exact lp_n (i + 1) (by omega) (by omega) ⟨rfl, rfl, rfl, by rw [e7]; rfl, rfl, trivial⟩ (by rw [hsn]; exact LEnt.refl _)
        | true =>
          have o3 : (muIB (frA S i) = true ∧ muIB (frB S i) = true) ∧ (muw (frB S i).1 (i + 1)).contains ((i + 1 : Nat) : Int) = false := by
            rcases o3 with h | h
            · cases h
            · exact h
          obtain ⟨⟨o4, o5⟩, o6⟩ := o3
          refine TC.cT rfl ?_
          refine RUN ?_
          refine RP.c rfl (setB_tri (muIB_ok o4) ((i + 1 : Nat) : Int) ((i + 1 : Nat) : Int)) (.c .h .e) rfl ?_
          rintro v P' ⟨rfl, rfl⟩
          rw [show (setBF (frA S i).1 (frA S i).2 ((i + 1 : Nat) : Int) ((i + 1 : Nat) : Int)).2 = frB S i from rfl]
          refine RUN ?_
          refine RP.c rfl (lock_tri (muIB_ok o5) ((i + 1 : Nat) : Int) ((i + 1 : Nat) : Int) (fun _ => no_row (m := i + 1) o6)) (.c .h .e) rfl ?_
          rintro v P' ⟨rfl, rfl⟩
          rw [show (lockF (frB S i).1 (frB S i).2 ((i + 1 : Nat) : Int) ((i + 1 : Nat) : Int)).2 = frC S i from rfl]
          have hfl : ((ws.take i).filter id).length ≤ 8 := Nat.le_trans (List.length_filter_le id (ws.take i)) (by rw [List.length_take]; omega)
          refine RUN ?_
          have e7 : ((ws.take (i + 1)).filter id).length = ((ws.take i).filter id).length + 1 := by rw [htk]; simp
          exact lp_n (i + 1) (by omega) (by omega) ⟨rfl, rfl, rfl, by rw [e7]; rfl, rfl, trivial⟩ (by rw [hsn]; exact LEnt.refl _)
      · have : i = ws.length := by omega
        subst this
        rw [List.take_length]
        generalize frRun (frS0 ws.length) 0 ws = S at hend ⊢
        simp only [frEnd, Bool.and_eq_true, decide_eq_true_eq] at hend
        obtain ⟨⟨⟨⟨⟨e1, e2⟩, e3⟩, e4⟩, e5⟩, e6⟩ := hend
        generalize hF : freeF S.1 S.2 16 = Fq at e2 e3 e4 e5 e6
        refine RUN ?_
        refine RP.c rfl (free_tri (muIB_ok e1) 16) (.c .h .e) rfl ?_
        rintro v P' ⟨sr, rfl, rfl⟩
        rw [hF]
        clear hF
        rw [List.nil_append] at e3 e6
        refine RUN ?_
        rw [decide_eq_false (show ¬ ¬ ((Fq.2.length : Nat) : Int) = ((ws.filter id).length : Nat) by rw [e3]; exact fun h => h rfl)]
        refine RUN ?_
        refine RP.c rfl (Pri_tri 16) (.c (.n .h) .e) rfl ?_
        rintro v P' ⟨rfl, rfl⟩
        rw [if_pos (show (1 : Int) ≤ 16 ∧ (16 : Int) ≤ 16 by omega), e4]
        refine RUN ?_
        refine RP.c rfl (held_tri (muIB_ok e2).v 16) (.c .h .e) rfl ?_
        rintro v P' ⟨s2, rfl, rfl⟩
        have e5' : heldF Fq.1.1 16 = [] := List.isEmpty_iff.1 e5
        rw [e5']
        refine RUN ?_
        refine TC.loop (fun q : Nat × Nat => ws.length - q.1) (fun q => q.1 ≤ ws.length ∧ frTell Fq.2 Fq.1.1 (ws.drop q.1) q.1 q.2 = true) (fun q => [(0, .s s), (2, bl false), (5, ptr a), (9, .s sr), (10, i64 q.2), (11, i64 q.1)]) (fun q => [MxA a Fq.1.1 Fq.1.2, Row encI 1 sr Fq.2, ArgS .bool ws s]) (0, 0) ⟨by simp, by simpa using e6⟩ ⟨rfl, rfl, rfl, rfl, rfl, rfl, trivial⟩ (LEnt.of (.c (.n .h) (.c (.n .h) (.c (.n .h) .e)))) ?_
        rintro ⟨i, k⟩ ⟨hi, ht⟩
        dsimp only at hi ht ⊢
        refine RUN ?_
        refine TC.cP rfl (fun h5 => ?_) fun h5 => ?_
        · obtain ⟨w, hw⟩ : ∃ w, ws[i]? = some w := ⟨_, List.getElem?_eq_getElem (by omega)⟩
          rw [drop_at hw] at ht
          refine RUN ?_
          refine RP.l rfl (.n (.n (Ld.gB hw))) rfl ?_
          refine RUN ?_
          cases w with
          | false =>
            obtain ⟨t1, t2⟩ := frTell_f ht
            refine TC.cF rfl ?_
            refine RUN ?_
            refine RP.c rfl (Owner_tri ((i + 1 : Nat) : Int)) (.c .h .e) rfl ?_
            rintro v P' ⟨rfl, rfl⟩
            rw [own_in, t1]
            refine RUN ?_
            exact lp_n (i + 1, k) ⟨by simp only; omega, t2⟩ (by simp only; omega) ⟨rfl, rfl, rfl, rfl, rfl, rfl, trivial⟩ (LEnt.refl _)
          | true =>
            obtain ⟨t0, t1, t2⟩ := frTell_t ht
            have hk : k < Fq.2.length := (List.getElem?_eq_some_iff.1 t0).1
            have hk8 : (ws.filter id).length ≤ 8 := Nat.le_trans (List.length_filter_le id ws) (by omega)
            refine TC.cT rfl ?_
            refine RUN ?_
            rw [decide_eq_false (show ¬ ¬ ((i + 1 : Nat) : Int) = ((i + 1 : Nat) : Int) from fun h => h rfl)]
            refine RUN ?_
            refine RP.c rfl (Owner_tri ((i + 1 : Nat) : Int)) (.c .h .e) rfl ?_
            rintro v P' ⟨rfl, rfl⟩
            rw [own_in, t1]
            refine RUN ?_
            rw [decide_eq_false (show ¬ ¬ ((i + 1 : Nat) : Int) = ((i + 1 : Nat) : Int) from fun h => h rfl)]
            refine RUN ?_
            exact lp_n (i + 1, k + 1) ⟨by simp only; omega, t2⟩ (by simp only; omega) ⟨rfl, rfl, rfl, rfl, rfl, rfl, trivial⟩ (LEnt.refl _)
        · refine RUN ?_
          exact rt_r rfl rfl (LEnt.refl _)
end Go.AM

/-
  MutexFrees: all ways over seven mutexes.
-/
namespace Go.AM
theorem fr7 : frAll 7 0 (frS0 7) [] = true := by kernel_rfl
end Go.AM

/-
  MutexFrees: all ways over eight mutexes.
-/
namespace Go.AM
def fr8S (x y : Bool) : MS := frStep (frStep (frS0 8) 0 x) 1 y
theorem fr8_00 : frAll 6 2 (fr8S false false) [false, false] = true := by kernel_rfl
theorem fr8_01 : frAll 6 2 (fr8S false true) [false, true] = true := by kernel_rfl
theorem fr8_10 : frAll 6 2 (fr8S true false) [true, false] = true := by kernel_rfl
theorem fr8_11 : frAll 6 2 (fr8S true true) [true, true] = true := by kernel_rfl
theorem fr8a : (frOk1 (frS0 8) 0 false && frOk1 (frS0 8) 0 true) = true := by kernel_rfl
theorem fr8b : (frOk1 (frStep (frS0 8) 0 false) 1 false && frOk1 (frStep (frS0 8) 0 false) 1 true) = true := by kernel_rfl
theorem fr8c : (frOk1 (frStep (frS0 8) 0 true) 1 false && frOk1 (frStep (frS0 8) 0 true) 1 true) = true := by kernel_rfl
theorem frAll_succ (k i : Nat) (S : MS) (acc : List Bool) : frAll (k + 1) i S acc = (frOk1 S i false && frOk1 S i true && frAll k (i + 1) (frStep S i false) (acc ++ [false]) && frAll k (i + 1) (frStep S i true) (acc ++ [true])) := rfl
theorem fr8 : frAll 8 0 (frS0 8) [] = true := by
  have h1 := fr8_00
  have h2 := fr8_01
  have h3 := fr8_10
  have h4 := fr8_11
  have ha := fr8a
  have hb := fr8b
  have hc := fr8c
  rw [frAll_succ, frAll_succ 6, frAll_succ 6]
  unfold fr8S at h1 h2 h3 h4
  generalize frS0 8 = S at *
  generalize frStep S 0 false = Sa at *
  generalize frStep S 0 true = Sb at *
  rw [ha, hb, hc]
  simp only [List.nil_append, List.cons_append, Nat.zero_add, Nat.reduceAdd, Bool.true_and, Bool.and_true, Bool.and_eq_true]
  exact ⟨⟨h1, h2⟩, h3, h4⟩
end Go.AM

/-
  FROM A LAW IN THE ABSTRACT MACHINE TO ITS STATEMENT's ROW, whatever its arguments are.
-/
namespace Go.AM
open Go.RowKit Go.ChangeShapes Go.WideShapes

theorem R2_of_all {α β : Type} {R : α → β → Prop} {f : α → β → Bool} (h : ∀ a b, f a b = true → R a b) : ∀ {ya : List α} {bs : List β}, ya.length = bs.length → ((ya.zip bs).all fun p => f p.1 p.2) = true → R2 R ya bs
  | [], [], _, _ => trivial
  | a :: ya, b :: bs, hl, hx => by
    simp only [List.zip_cons_cons, List.all_cons, Bool.and_eq_true] at hx
    exact ⟨h a b hx.1, R2_of_all h (by simpa using hl) hx.2⟩
  | [], _ :: _, hl, _ => by simp at hl
  | _ :: _, [], hl, _ => by simp at hl

theorem trodAll_stays {H : Type} {enc : TypeId × Value → H} {P : Program} (hl : laidOutB P = true) {W W' : World} {sp : Nat → Bool} : ∀ {ts : List TypeId} {vs : List Value} {ds : List (DataW H)} {ps : List MemPlace}, (ts.all fun t => P.readableRec t && decide (t < P.types.size)) = true → DataW.TrodAll enc P W 0 (fun _ => true) true ts vs ds ps → (∀ p ∈ ps, W.sameAt W' p) → (∀ p ∈ ps, sp p.block = true) → DataW.TrodAll enc P W' 0 sp true ts vs ds ps
  | [], vs, ds, ps, _, hA, _, _ => by
    obtain ⟨rfl, rfl, rfl⟩ := trodAll_nil hA
    exact trodAll_mk0
  | t :: ts, vs, ds, ps, hr, hA, hs, hsp => by
    simp only [List.all_cons, Bool.and_eq_true, decide_eq_true_eq] at hr
    obtain ⟨v, vs, d, ds, p, q, rfl, rfl, rfl, h0, h1⟩ := trodAll_cons hA
    exact trodAll_cons_mk (WideElems.Trod_stays hl hr.1.1 hr.1.2 h0 (fun x hx => hs x (by simp [hx])) fun x hx => hsp x (by simp [hx])) (trodAll_stays hl hr.2 h1 (fun x hx => hs x (by simp [hx])) fun x hx => hsp x (by simp [hx]))

/-- A law's run and its call; what was, is. -/
theorem law_walk2 {P : Program} {tab : Nat → Option RFunc} {ext : Nat → List AV → AH → Option (AV × AH)} (hext : ∀ B w0, CallsOk P [] B w0 ext) (hfr : FrmOk ext) (hnx : NextOk ext) (htab : TabOk P [] tab) (hmix : P.follows .mixedOrders = true) {f : Nat} {args : List AV} {H0 : AH} {φ0 : Phi} {w : World} {cargs : Array Value}
    (hH : HRel w.heap.size w φ0 H0 w) (hargs : R2 (AVRel φ0) args cargs.toList) (h : CallP tab ext f args H0 fun v _ => v = .s (.bool true)) :
    Calls P f cargs w fun e w' => e = .returned (.bool true) ∧ Grown w w' ∧ ∀ k, k < w.heap.size → w'.heap[k]? = w.heap[k]? := by
  obtain ⟨n, v, H', h1, rfl⟩ := h
  have hs := run_sound (G := []) (B := w.heap.size) (w0 := w) htab (hext _ _) hfr hnx hmix n
  refine (hs f args H0 _ H' h1 φ0 w cargs hH (fun _ hn => by cases hn) hargs).2.mono ?_
  rintro e w' ⟨φ', cv, rfl, _, h2, h3⟩
  have : cv = .bool true := h3
  subst this
  exact ⟨rfl, h2.grown, h2.old⟩

theorem lit_bounds {k : IntKind} {n : Int} (h : (Lit.int k n).wf = true) : k.min ≤ n ∧ n ≤ k.max := by
  simpa [Lit.wf] using h

section
variable {C : Checked} {tab : Nat → Option RFunc} {f : FuncId} {fn : Func} {s : ChangeSpec}

/-- The row's step. -/
theorem law_liftedX {ext : Nat → List AV → AH → Option (AV × AH)} (hext : ∀ B w0, CallsOk C.prog [] B w0 ext) (hfr : FrmOk ext) (hnx : NextOk ext) (tys : List Ty) (N : Nat) (bt : TypeId)
    (own : ownKnob C.prog.godebug = none) (htab : TabOk C.prog [] tab) (hmix : C.prog.follows .mixedOrders = true) (hlaid : laidOutB C.prog = true)
    (noInit : C.prog.inits.idxOf? f = none) (hfn : C.prog.funcs[f]? = some fn)
    (hread : (fn.params.toList.all fun t => C.prog.readableRec t && decide (t < C.prog.types.size)) = true)
    (hlen : tys.length = fn.params.toList.length) (hfit : ((tys.zip fn.params.toList).all fun p => fits C.prog p.1 p.2) = true)
    (hN : (tys.all Ty.good && decide ((tys.map Ty.cnt).sum ≤ N)) = true)
    (hres : fn.resultTypes = #[bt]) (hbt : C.prog.underlying bt = some .bool)
    (hvars : s.vars = []) (hspec : ∀ (H : Type) (ds : List (DataW H)), ds.length = tys.length → s.fn H ds = { results := [.lit (.bool true)], args := ds })
    (walk : ∀ H avs, WF H → H.next = N → ArgsAt H.blk tys avs → CallP tab ext f avs H fun v _ => v = .s (.bool true))
    (os : Os) (started : os.Started) (H : Type) (enc : TypeId × Value → H)
    (witness : ∃ (w : World) (tape : Tape) (i : Input), w.os = os ∧ (w.forCall tape i).Shaped C.prog ∧ i.vars = [] ∧ Input.okWide C.prog (w.forCall tape i) .any w.heap.size f i ∧
      s.pre6 enc C.prog fn [] false (w.forCall tape i).memory i.args ∧ ({} : Assume).holds C.prog (lone (Frame.enter C.prog f i.args .normal) [] (w.forCall tape i))) :
    ReturnsInHanded {} C os f .any (s.pre6 enc C.prog fn [] false) (s.post enc C.prog fn false true false false) := by
  refine returnsInHanded_of_change (C := C) own started noInit hfn witness ?_
  intro W base args ds gs before hval hW hcnd _
  have hW' := hW
  obtain ⟨p, q, hA, hV, rfl, hfz, hnd⟩ := hW
  rw [hvars] at hV
  obtain ⟨rfl, rfl⟩ := trodVars_none hV
  simp only [List.append_nil] at hW' hfz hnd
  have hfit' : R2 (fun ty t => fits C.prog ty t = true) tys fn.params.toList := R2_of_all (fun _ _ h => h) hlen hfit
  obtain ⟨M, avs, h1, h2, h3, h4⟩ := opens_args (L := []) hfit' (fun j t v ht hv => hval j t v (by simpa using ht) (by simpa using hv)) hA (fun e he => by cases he)
  simp only [List.nil_append] at h1 h2 h3
  simp only [Bool.and_eq_true, decide_eq_true_eq] at hN
  have hML : M.length ≤ N := Nat.le_trans (h4 hN.1) hN.2
  have hrel := roH_rel h1
  have hrel' : HRel W.heap.size W (roPhi M) ⟨roF M, N⟩ W := { hrel with lt := fun b hb => hrel.lt b (Nat.le_trans hML hb) }
  have hwf : WF ⟨roF M, N⟩ := fun b hb => hrel.lt b (Nat.le_trans hML hb)
  have hdl : ds.length = tys.length := by
    have key : ∀ {ts : List TypeId} {vs : List Value} {ds : List (DataW H)} {ps : List MemPlace}, DataW.TrodAll enc C.prog W 0 (fun _ => true) true ts vs ds ps → ds.length = ts.length := by
      intro ts
      induction ts with
      | nil => intro vs ds ps h; obtain ⟨_, rfl, _⟩ := trodAll_nil h; rfl
      | cons t ts ih => intro vs ds ps h; obtain ⟨v, vs, d, ds, p, q, rfl, rfl, rfl, _, hr⟩ := trodAll_cons h; simp [ih hr]
    rw [key hA, hlen]
  have hsp : s.fn H (ds ++ []) = { results := [.lit (.bool true)], args := ds } := by rw [List.append_nil]; exact hspec H ds hdl
  refine (law_walk2 hext hfr hnx htab hmix hrel' h2 (walk _ avs hwf rfl h3)).mono fun e W' ⟨he, hg, hold⟩ => ?_
  subst he
  have hlt : ∀ x ∈ p, x.block < W.heap.size := fun x hx => hW'.lt x hx
  have hsame : ∀ x ∈ p, W.sameAt W' x := fun x hx => by
    cases x with
    | cell b o => exact World.cell?_of_block (w := W) (hold b (hlt _ hx))
    | map b => exact hold b (hlt _ hx)
  refine ⟨_, rfl, post_of_same (pa := p) (pv := []) hW' (fun b sp hd => ?_) (fun sp hsp' => ?_) (fun _ _ => ?_) (by simp) (hg.frame _) hg.2.1 (ok_one hres rfl (okWide_bool_mk hbt _))⟩
  · rw [hsp, hres]
    exact trodAll_cons_mk (shut_bool hbt _) trodAll_mk0
  · rw [hsp]
    exact trodAll_stays hlaid hread hA hsame hsp'
  · rw [hvars, hsp]
    rfl
theorem law_lifted (tys : List Ty) (N : Nat) (bt : TypeId)
    (own : ownKnob C.prog.godebug = none) (htab : TabOk C.prog [] tab) (hmix : C.prog.follows .mixedOrders = true) (hlaid : laidOutB C.prog = true)
    (noInit : C.prog.inits.idxOf? f = none) (hfn : C.prog.funcs[f]? = some fn)
    (hread : (fn.params.toList.all fun t => C.prog.readableRec t && decide (t < C.prog.types.size)) = true)
    (hlen : tys.length = fn.params.toList.length) (hfit : ((tys.zip fn.params.toList).all fun p => fits C.prog p.1 p.2) = true)
    (hN : (tys.all Ty.good && decide ((tys.map Ty.cnt).sum ≤ N)) = true)
    (hres : fn.resultTypes = #[bt]) (hbt : C.prog.underlying bt = some .bool)
    (hvars : s.vars = []) (hspec : ∀ (H : Type) (ds : List (DataW H)), ds.length = tys.length → s.fn H ds = { results := [.lit (.bool true)], args := ds })
    (walk : ∀ H avs, WF H → H.next = N → ArgsAt H.blk tys avs → CallP tab noExt f avs H fun v _ => v = .s (.bool true))
    (os : Os) (started : os.Started) (H : Type) (enc : TypeId × Value → H)
    (witness : ∃ (w : World) (tape : Tape) (i : Input), w.os = os ∧ (w.forCall tape i).Shaped C.prog ∧ i.vars = [] ∧ Input.okWide C.prog (w.forCall tape i) .any w.heap.size f i ∧
      s.pre6 enc C.prog fn [] false (w.forCall tape i).memory i.args ∧ ({} : Assume).holds C.prog (lone (Frame.enter C.prog f i.args .normal) [] (w.forCall tape i))) :
    ReturnsInHanded {} C os f .any (s.pre6 enc C.prog fn [] false) (s.post enc C.prog fn false true false false) :=
  law_liftedX (fun _ _ => noExt_calls) noExt_frame noExt_next tys N bt own htab hmix hlaid noInit hfn hread hlen hfit hN hres hbt hvars hspec walk os started H enc witness
end

end Go.AM

/-
  slices.Insert of one number: what the abstract machine takes it for is what the model's does.
-/
namespace Go.AM
open Go.Proofs Go.Shelf Go.RowKit

variable {P : Program} {G : List Nat} {B : Nat} {w0 : World} {φ : Phi} {H H' : AH} {w : World}

/-- A row goes on under another name, in another form. -/
theorem HRel.row (hH : HRel B w0 φ H w) {b id : Nat} {l new : List SV} (hb : H.blk b = some (.cells false l)) {cb sh cs : Nat} (hφ : φ b = some (cb, sh, cs)) (hid : id < H.next)
    (hn : (H.set b .dead).new id (.cells false new) = some H') {o : Nat} {w' : World} {c2 : Array Value} {e2 : TypeId} (h2 : w'.heap[cb]? = some (.cells c2 e2 (0, 0))) (hs : c2.size = cs) (hfit : sh + o + new.length ≤ cs)
    (hr : ∀ (i : Nat) (x : SV), new[i]? = some x → ∃ v, c2[sh + o + i]? = some v ∧ SVRel φ x v) (hget : ∀ x, x ≠ cb → w'.heap[x]? = w.heap[x]?) (hsz : w'.heap.size = w.heap.size) (hos : w'.os = w.os) (hout : w'.output = w.output) :
    ∃ φ', Ext φ φ' ∧ φ' id = some (cb, sh + o, cs) ∧ HRel B w0 φ' H' w' := by
  obtain ⟨cb', sh', cs', c, e, fr, h1, _, _, _, _, h6⟩ := hH.cells b false l hb
  rw [hφ] at h1
  cases h1
  obtain ⟨_, hB⟩ := h6 rfl
  have hk := hH.kill (b := b) (by rw [hb]; simp)
  unfold AH.new at hn
  split at hn
  · rename_i hidn
    cases hn
    have hφid : φ id = none := hk.dom id hidn
    have hne : id ≠ b := by intro hc; subst hc; rw [hφ] at hφid; cases hφid
    have hext : Ext φ (fun x => if x = id then some (cb, sh + o, cs) else φ x) := by
      intro x y hx
      by_cases hxi : x = id
      · subst hxi; rw [hφid] at hx; cases hx
      · simp [hxi, hx]
    refine ⟨fun x => if x = id then some (cb, sh + o, cs) else φ x, hext, by simp, ?_⟩
    have hoth : ∀ b', b' ≠ b → H.blk b' ≠ some .dead → ∀ x, φ b' = some x → x.1 ≠ cb := by
      intro b' hne' hd x hx heq
      rcases hH.inj b' b x _ hx hφ hd (by rw [hb]; simp) heq with h | ⟨_, _, _, hy⟩
      · exact hne' h
      · rw [hb] at hy; cases hy
    refine { dom := ?_, lt := ?_, cells := ?_, maps := ?_, inj := ?_, old := ?_, bound := by rw [hsz]; exact hH.bound, os := hos.trans hH.os, out := hout.trans hH.out, nf := ?_ }
    · intro b' hb'
      simp only [AH.set, upd] at hb'
      split at hb'
      · cases hb'
      · rename_i hne'
        split at hb'
        · cases hb'
        · simp [hne', hH.dom b' hb']
    · intro b' hb'
      simp only [AH.set, upd] at hb' ⊢
      rw [if_neg (by omega)]
      split
      · rename_i hc; subst hc; rw [hH.lt _ hb'] at hb; cases hb
      · exact hH.lt b' hb'
    · intro b' ro' l'' hb'
      simp only [AH.set, upd] at hb'
      split at hb'
      · rename_i heq
        cases hb'
        exact ⟨cb, sh + o, cs, c2, e2, (0, 0), by simp [heq], h2, hs, hfit, fun i x hx => by obtain ⟨v, hv, hrv⟩ := hr i x hx; exact ⟨v, hv, hrv.mono hext⟩, fun _ => ⟨rfl, hB⟩⟩
      · rename_i hne'
        split at hb'
        · cases hb'
        · rename_i hneb
          obtain ⟨cb', sh', cs', c', e', fr', g1, g2, g3, g4, g5, g6⟩ := hH.cells b' ro' l'' hb'
          have hcb : cb' ≠ cb := hoth b' hneb (by rw [hb']; simp) _ g1
          exact ⟨cb', sh', cs', c', e', fr', by simp [hne', g1], by rw [hget _ hcb]; exact g2, g3, g4, fun i x hx => by obtain ⟨v, hv, hrv⟩ := g5 i x hx; exact ⟨v, hv, hrv.mono hext⟩, g6⟩
    · intro b' es hb'
      simp only [AH.set, upd] at hb'
      split at hb'
      · cases hb'
      · rename_i hne'
        split at hb'
        · cases hb'
        · rename_i hneb
          obtain ⟨cb', sh', cs', ces, clk, g1, g2, g3, g4⟩ := hH.maps b' es hb'
          have hcb : cb' ≠ cb := hoth b' hneb (by rw [hb']; simp) _ g1
          exact ⟨cb', sh', cs', ces, clk, by simp [hne', g1], by rw [hget _ hcb]; exact g2, R2.mono (fun _ _ hp => ⟨hp.1.mono hext, hp.2.mono hext⟩) g3, g4⟩
    · intro b1 b2 x1 x2 hx1 hx2 hd1 hd2 hxe
      simp only [AH.set, upd] at hd1 hd2 ⊢
      by_cases e1 : b1 = id
      · by_cases e2 : b2 = id
        · exact .inl (e1.trans e2.symm)
        · simp only [e1, if_true] at hx1
          simp only [e2, if_false] at hx2
          cases hx1
          exfalso
          rw [if_neg e2] at hd2
          split at hd2
          · exact hd2 rfl
          · rename_i hneb
            exact hoth b2 hneb hd2 _ hx2 hxe.symm
      · by_cases e2 : b2 = id
        · simp only [e2, if_true] at hx2
          simp only [e1, if_false] at hx1
          cases hx2
          exfalso
          rw [if_neg e1] at hd1
          split at hd1
          · exact hd1 rfl
          · rename_i hneb
            exact hoth b1 hneb hd1 _ hx1 hxe
        · simp only [e1, e2, if_false] at hx1 hx2 hd1 hd2 ⊢
          split at hd1
          · exact absurd rfl hd1
          · rename_i n1
            split at hd2
            · exact absurd rfl hd2
            · rename_i n2
              simp only [if_neg n1, if_neg n2]
              exact hH.inj b1 b2 x1 x2 hx1 hx2 hd1 hd2 hxe
    · intro c' hc'
      rw [hget _ (by omega)]
      exact hH.old c' hc'
    · intro k c e fr hk hc
      by_cases hkc : k = cb
      · subst hkc
        rw [h2] at hc; cases hc; rfl
      · rw [hget _ hkc] at hc
        exact hH.nf k c e fr hk hc
  · cases hn

/- ---- cells that are set ---- -/
def setN (c : Array Value) : Nat → List Value → Array Value
  | _, [] => c
  | o, v :: vs => setN (c.setIfInBounds o v) (o + 1) vs
theorem setN_size : ∀ (vs : List Value) (o : Nat) (c : Array Value), (setN c o vs).size = c.size
  | [], _, _ => rfl
  | v :: vs, o, c => by rw [setN, setN_size vs]; simp
theorem setN_get : ∀ (vs : List Value) (o : Nat) (c : Array Value) (j : Nat), o + vs.length ≤ c.size → (setN c o vs)[j]? = if o ≤ j ∧ j < o + vs.length then vs[j - o]? else c[j]?
  | [], o, c, j, _ => by rw [setN, if_neg (by simp)]
  | v :: vs, o, c, j, h => by
    rw [List.length_cons] at h
    rw [setN, setN_get vs (o + 1) _ j (by simp; omega), Array.getElem?_setIfInBounds]
    by_cases h1 : o + 1 ≤ j ∧ j < o + 1 + vs.length
    · rw [if_pos h1, if_pos (by rw [List.length_cons]; omega), show j - o = (j - (o + 1)) + 1 by omega, List.getElem?_cons_succ]
    · rw [if_neg h1]
      by_cases h2 : o = j
      · subst h2
        rw [if_pos rfl, if_pos (by omega), if_pos (by rw [List.length_cons]; omega), Nat.sub_self]; rfl
      · rw [if_neg h2, if_neg (by rw [List.length_cons]; omega)]
theorem setCells_heap (b : Nat) {e : TypeId} {fr : Nat × Nat} : ∀ (vs : List Value) (o : Nat) (w : World) (c : Array Value), w.heap[b]? = some (.cells c e fr) →
    (w.setCells b o vs).heap[b]? = some (.cells (setN c o vs) e fr) ∧ (∀ x, x ≠ b → (w.setCells b o vs).heap[x]? = w.heap[x]?) ∧ (w.setCells b o vs).heap.size = w.heap.size ∧ (w.setCells b o vs).os = w.os ∧ (w.setCells b o vs).output = w.output
  | [], o, w, c, h => ⟨h, fun _ _ => rfl, rfl, rfl, rfl⟩
  | v :: vs, o, w, c, h => by
    have h1 : (w.setCell ⟨b, o, none⟩ v).heap[b]? = some (.cells (c.setIfInBounds o v) e fr) := by
      simp [World.setCell, Array.getElem?_modify, h]
    obtain ⟨g1, g2, g3, g4, g5⟩ := setCells_heap b vs (o + 1) (w.setCell ⟨b, o, none⟩ v) _ h1
    refine ⟨g1, fun x hx => ?_, ?_, g4, g5⟩
    · rw [World.setCells, g2 x hx]
      simp [World.setCell, Array.getElem?_modify, Ne.symm hx]
    · rw [World.setCells, g3]
      simp [World.setCell]

/- ---- the framing ---- -/
theorem setXY {H : AH} {x y : Nat} (h : x ≠ y) (X Y : Blk) : (H.set x X).set y Y = (H.set y Y).set x X := by
  unfold AH.set
  congr 1
  funext c
  simp only [upd]
  by_cases h1 : c = y
  · rw [if_pos h1, if_neg (fun hc => h (hc.symm.trans h1)), if_pos h1]
  · rw [if_neg h1]
    by_cases h2 : c = x
    · rw [if_pos h2, if_pos h2]
    · rw [if_neg h2, if_neg h2, if_neg h1]

theorem insI_cases {args : List AV} {v : AV} (h : insI args H = some (v, H')) : ∃ a len c e i xb xo xc lx x, args = [.s (.slice a len c e), .s (.int .i64 i), .s (.slice (some (xb, xo)) 1 xc 1)] ∧ H.blk xb = some (.cells false lx) ∧ lx[xo]? = some x ∧
    ((a = none ∧ i = 0 ∧ v = .s (.slice (some (H.next, 0)) 1 1 1) ∧ (H.bump 1).new H.next (.cells false [x]) = some H') ∨
     ∃ b o l, a = some (b, o) ∧ H.blk b = some (.cells false l) ∧ (xb ≠ b ∧ e = 1 ∧ 0 ≤ i ∧ i ≤ (len : Int) ∧ o + len ≤ l.length ∧ (len + 1) * 8 ≤ 70368744177664) ∧ v = .s (.slice (some (H.next, 0)) (len + 1) (len + 1) 1) ∧
       ((H.bump 1).set b .dead).new H.next (.cells false ((l.drop o).take i.toNat ++ (x :: ((l.drop o).take len).drop i.toNat))) = some H') := by
  unfold insI at h
  split at h
  · rename_i a len c e i xb xo xc
    split at h
    · rename_i lx hx
      simp only [Option.bind_eq_some_iff] at h
      obtain ⟨x, hxo, h⟩ := h
      refine ⟨a, len, c, e, i, xb, xo, xc, lx, x, rfl, hx, hxo, ?_⟩
      split at h
      · split at h
        · rename_i h0
          simp only [Option.map_eq_some_iff, Prod.mk.injEq] at h
          obtain ⟨H1, h1, rfl, rfl⟩ := h
          exact .inl ⟨rfl, h0, rfl, h1⟩
        · cases h
      · rename_i b o
        split at h
        · rename_i l hb
          split at h
          · rename_i hc
            simp only [Option.map_eq_some_iff, Prod.mk.injEq] at h
            obtain ⟨H1, h1, rfl, rfl⟩ := h
            exact .inr ⟨b, o, l, rfl, hb, hc, rfl, h1⟩
          · cases h
        · cases h
    · cases h
  · cases h

theorem new_set {id x : Nat} {X Y : Blk} (hne : id ≠ x) (h : H.new id Y = some H') : (H.set x X).new id Y = some (H'.set x X) := by
  unfold AH.new at *
  split at h
  · rename_i hn
    cases h
    have : (H.set x X).blk id = none := by rw [set_blk, if_neg hne]; exact hn
    rw [this]
    exact congrArg some (setXY (Ne.symm hne) X Y)
  · cases h

theorem mext_next : NextOk mext := fun f args H v H' h => by
  unfold mext at h
  split at h
  · obtain ⟨a, len, c, e, i, xb, xo, xc, lx, x, rfl, hx, hxo, h⟩ := insI_cases h
    rcases h with ⟨_, _, _, h⟩ | ⟨b, o, l, _, _, _, _, h⟩
    · rw [new_next h]; simp
    · rw [new_next h]; simp
  · cases h
theorem mext_wf : WFrec mext := fun f args H v H' h hw => by
  unfold mext at h
  split at h
  · obtain ⟨a, len, c, e, i, xb, xo, xc, lx, x, rfl, hx, hxo, h⟩ := insI_cases h
    rcases h with ⟨_, _, _, h⟩ | ⟨b, o, l, _, hb, _, _, h⟩
    · exact new_wf (hw.bump 1) (by simp) h
    · refine new_wf ((hw.bump 1).set ?_ _) (by simp) h
      apply Classical.byContradiction
      intro hn
      rw [hw b (by simp at hn; omega)] at hb; cases hb
  · cases h
theorem mext_ro : ROrec mext := fun ρ f args H v H' h hw => by
  unfold mext at h
  split at h
  · obtain ⟨a, len, c, e, i, xb, xo, xc, lx, x, rfl, hx, hxo, h⟩ := insI_cases h
    rcases h with ⟨_, _, _, h⟩ | ⟨b, o, l, _, hb, _, _, h⟩
    · exact new_ro (hw.bump 1) h
    · refine new_ro (RoOf.set (H := H.bump 1) (hw.bump 1) ?_ _) h
      intro l' hl'
      have hb' : (H.bump 1).blk b = some (.cells false l) := hb
      rw [hb'] at hl'; cases hl'
  · cases h
theorem mext_frame : FrmOk mext := fun f args H v H' y X h hy hlt => by
  unfold mext at *
  split at h
  · rename_i hf
    rw [if_pos hf]
    obtain ⟨a, len, c, e, i, xb, xo, xc, lx, x, rfl, hx, hxo, hq⟩ := insI_cases h
    have hxy : xb ≠ y := fun hc => by rw [hc, hy] at hx; cases hx
    have hx' : (H.set y X).blk xb = some (.cells false lx) := by rw [set_blk, if_neg hxy]; exact hx
    have hnid : H.next ≠ y := by omega
    clear h
    rcases hq with ⟨rfl, h0, rfl, h⟩ | ⟨b, o, l, rfl, hb, hc, rfl, h⟩
    · have h2 := new_set (X := X) hnid h
      refine ⟨?_, ?_⟩
      · simp only [insI, hx', hxo, Option.bind_some]
        rw [if_pos h0]
        show Option.map _ (((H.bump 1).set y X).new H.next _) = _
        rw [h2]; rfl
      · unfold AH.new at h
        split at h
        · cases h; simp only [set_blk]; rw [if_neg (Ne.symm hnid)]; exact hy
        · cases h
    · have hby : b ≠ y := fun hc => by rw [hc, hy] at hb; cases hb
      have hb' : (H.set y X).blk b = some (.cells false l) := by rw [set_blk, if_neg hby]; exact hb
      have h2 := new_set (X := X) hnid h
      refine ⟨?_, ?_⟩
      · simp only [insI, hx', hxo, Option.bind_some, hb']
        rw [if_pos hc]
        show Option.map _ ((((H.bump 1).set y X).set b .dead).new H.next _) = _
        rw [setXY (Ne.symm hby) X .dead, h2]; rfl
      · unfold AH.new at h
        split at h
        · cases h; simp only [set_blk]; rw [if_neg (Ne.symm hnid), if_neg (Ne.symm hby)]; exact hy
        · cases h
  · cases h

/- ---- the model's call ---- -/
theorem cellAt {b : Nat} {l : List SV} {ro : Bool} (hH : HRel B w0 φ H w) (hb : H.blk b = some (.cells ro l)) : ∃ cb sh cs c e fr, φ b = some (cb, sh, cs) ∧ w.heap[cb]? = some (.cells c e fr) ∧ c.size = cs ∧ sh + l.length ≤ cs ∧ (∀ i x, l[i]? = some x → ∃ v, c[sh + i]? = some v ∧ SVRel φ x v) ∧ (ro = false → fr = (0, 0) ∧ B ≤ cb) := hH.cells b ro l hb

theorem frozenAt {cb i : Nat} {c : Array Value} {e : TypeId} (h : w.heap[cb]? = some (.cells c e (0, 0))) : w.frozen? ⟨cb, i, none⟩ = false := by
  unfold World.frozen?; rw [h]; simp

theorem mext_calls {ρ : Ren} (L : Lays2.n21 P ρ) (hρ : ρ.f 21 = F.slices_Insert__int_int) : CallsOk P G B w0 mext := by
  intro f args H v H' h φ w cargs hH _ hargs
  unfold mext at h
  split at h
  · rename_i hf
    subst hf
    refine ⟨⟨_, hρ ▸ L.f21, by kernel_rfl, by kernel_rfl⟩, ?_⟩
    obtain ⟨a, len, c, e, i, xb, xo, xc, lx, x, rfl, hx, hxo, hq⟩ := insI_cases h
    clear h
    obtain ⟨ca, hca⟩ : ∃ ca, cargs = ca := ⟨_, rfl⟩
    match hl : cargs.toList, hargs with
    | [v0, v1, v2], hargs =>
      have hcargs : cargs = #[v0, v1, v2] := by apply Array.ext'; simpa using hl
      subst hcargs
      obtain ⟨h0, h1, h2, _⟩ := hargs
      have h1 : v1 = .int .i64 i := h1
      subst h1
      obtain ⟨_, hxc, xcb, xsh, xcs, z2, c2, k1, k2, k3, k4⟩ := h2
      obtain ⟨xcb', xsh', xcs', cx, ex, frx, j1, j2, j3, j4, j5, j6⟩ := cellAt hH hx
      rw [k1] at j1
      cases j1
      obtain ⟨hfrx, hBx⟩ := j6 rfl
      subst hfrx
      obtain ⟨hz2, hfit2, _⟩ := k4 (by omega)
      have hz2 : z2 = ⟨xcb, xsh + xo, none⟩ := hz2
      subst hz2
      subst k3
      obtain ⟨xv, hxv, hxr⟩ := j5 xo x hxo
      have hxcell : w.cell? ⟨xcb, xsh + xo, none⟩ = some xv := by rw [cell?_of j2]; exact hxv
      have hxvs : ∀ j u, [xv][j]? = some u → w.cell? ⟨xcb, xsh + xo + j, none⟩ = some u := by
        intro j u hj
        cases j with
        | zero => simp at hj; subst hj; simpa using hxcell
        | succ j => simp at hj
      have hx1 := hxr.oneCell
      have hx1' : ∀ u ∈ [xv], u.oneCell' = true := by intro u hu; simp at hu; subst hu; exact hx1
      have zc : ∀ n, (Builtin.zeroCells (Value.int .i64 0).cells n).size = n := by intro n; simp [Builtin.zeroCells, Value.cells]
      have hge : ∀ n c, n ≤ grownCap w n c (ρ.t 3) := fun n c => grownCap_ge w n c _
      have hle : ∀ n c, n ≤ 70368744177664 → grownCap w n c (ρ.t 3) ≤ 9223372036854775807 := fun n c hn => by
        have := grownCap_le_maxLen w n c (ρ.t 3) (by simp only [maxLen]; omega)
        simpa [maxLen] using this
      rcases hq with ⟨rfl, rfl, rfl, hnew⟩ | ⟨b, o, l, rfl, hb, ⟨hne, rfl, hi0, hil, hol, hbig⟩, rfl, hnew⟩
      · obtain ⟨rfl, rfl, rfl⟩ := slice_none h0
        have hcall := Any2.slices_Insert_int_end_grow L none 0 0 xcb (xsh + xo) 1 c2 [] [xv] w (by omega) (by omega) (by omega) (by omega) rfl rfl (fun _ => rfl) (fun a ha => by cases ha) hxvs hx1'
        rw [hρ] at hcall
        refine hcall.mono ?_
        rintro e' w' ⟨rfl, rfl⟩
        obtain ⟨φ', g1, g2, g3⟩ := (hH.bump 1).new hnew (by simp) (c := ([] ++ [xv]).toArray ++ Builtin.zeroCells (Value.int .i64 0).cells (grownCap w (0 + 1) 0 (ρ.t 3) - (0 + 1))) (by simp)
          (fun j y hy => by
            cases j with
            | zero => simp at hy; subst hy; exact ⟨xv, by rw [Array.getElem?_append_left (by simp)]; rfl, hxr⟩
            | succ j => simp at hy) (ρ.t 3) (w.drew.alloc (.cells (([] ++ [xv]).toArray ++ Builtin.zeroCells (Value.int .i64 0).cells (grownCap w (0 + 1) 0 (ρ.t 3) - (0 + 1))) (ρ.t 3))) rfl rfl rfl
        have hg := hge (0 + 1) 0
        refine ⟨φ', _, rfl, g1, g3, ⟨by omega, Nat.le_refl _, w.heap.size, 0, _, _, _, g2, by omega, rfl, fun _ => ⟨rfl, ?_, hle _ _ (by omega)⟩⟩⟩
        simp only [Array.size_append, List.size_toArray, zc, List.nil_append, List.length_singleton]
        omega
      · obtain ⟨_, hlc, cb, sh, cs, z, c', q3, q4, q5, q6⟩ := slice_of h0
        subst q5
        obtain ⟨cb', sh', cs', c0, e0, fr0, p1, p2, p3, p4, p5, p6⟩ := cellAt hH hb
        rw [q3] at p1
        cases p1
        obtain ⟨hfr0, hB0⟩ := p6 rfl
        subst hfr0
        obtain ⟨k, rfl⟩ : ∃ k : Nat, i = k := ⟨i.toNat, by omega⟩
        have hk : k ≤ len := by omega
        rw [Int.toNat_natCast] at hnew
        obtain ⟨csl, hcsl⟩ : ∃ csl, csl = (c0.toList.drop (sh + o)).take len := ⟨_, rfl⟩
        have hcl : csl.length = len := by rw [hcsl]; simp; omega
        have hcg : ∀ j, j < len → csl[j]? = c0[sh + o + j]? := by
          intro j hj
          rw [hcsl, List.getElem?_take, if_pos hj, List.getElem?_drop, Array.getElem?_toList]
        have hR : R2 (SVRel φ) ((l.drop o).take len) csl := by
          refine R2.of_get (by rw [hcl, List.length_take, List.length_drop]; omega) fun j y u hy hu => ?_
          have hj : j < len := by have := (List.getElem?_eq_some_iff.1 hu).1; omega
          rw [List.getElem?_take, if_pos hj, List.getElem?_drop] at hy
          obtain ⟨u', g1, g2⟩ := p5 (o + j) y hy
          rw [hcg j hj, Nat.add_assoc, g1] at hu
          cases hu; exact g2
        have h1c : ∀ u ∈ csl, u.oneCell' = true := hR.oneCell
        have hN : R2 (SVRel φ) ((l.drop o).take k ++ (x :: ((l.drop o).take len).drop k)) (csl.take k ++ (xv :: csl.drop k)) := by
          have h3 := R2.take k hR
          rw [List.take_take, Nat.min_eq_left hk] at h3
          exact R2.append h3 ⟨hxr, R2.drop k hR⟩
        have hNl : ((l.drop o).take k ++ (x :: ((l.drop o).take len).drop k)).length = len + 1 := by
          rw [hN.length]; simp [hcl]; omega
        have hvals : ∀ j, j < len + 1 → (csl.take k ++ (xv :: csl.drop k))[j]? = if j < k then csl[j]? else if j = k then some xv else csl[j - 1]? := by
          intro j hj
          rw [List.getElem?_append, List.length_take, Nat.min_eq_left (by omega)]
          split
          · rename_i h3; rw [List.getElem?_take, if_pos h3]
          · rename_i h3
            split
            · rename_i h4; subst h4; simp
            · rename_i h4
              rw [show j - k = (j - k - 1) + 1 by omega, List.getElem?_cons_succ, List.getElem?_drop, show k + (j - k - 1) = j - 1 by omega]
        have hneb : xcb ≠ cb := by
          intro hc
          rcases hH.inj xb b _ _ k1 q3 (by rw [hx]; simp) (by rw [hb]; simp) hc with h3 | ⟨_, _, h3, _⟩
          · exact hne h3
          · rw [hx] at h3; cases h3
        by_cases room : len + 1 ≤ c'
        · obtain ⟨hz, hfit, hcm⟩ := q6 (by omega)
          subst hz
          have fin : ∀ (w' : World) (c3 : Array Value), w'.heap[cb]? = some (.cells c3 e0 (0, 0)) → c3.size = c0.size → (∀ j, j < len + 1 → c3[sh + o + j]? = (csl.take k ++ (xv :: csl.drop k))[j]?) → (∀ y, y ≠ cb → w'.heap[y]? = w.heap[y]?) → w'.heap.size = w.heap.size → w'.os = w.os → w'.output = w.output →
              ∃ φ' cv, Ending.returned (Value.slice (some ⟨cb, sh + o, none⟩) (len + 1) c') = .returned cv ∧ Ext φ φ' ∧ HRel B w0 φ' H' w' ∧ AVRel φ' (.s (.slice (some (H.next, 0)) (len + 1) (len + 1) 1)) cv := by
            intro w' c3 r1 r2 r3 r4 r5 r6 r7
            obtain ⟨φ', g1, g2, g3⟩ := (hH.bump 1).row (id := H.next) hb q3 (by simp) hnew (o := o) r1 (by rw [r2, p3]) (by rw [hNl]; omega) (fun j y hy => by
              have hj : j < len + 1 := by have := (List.getElem?_eq_some_iff.1 hy).1; omega
              obtain ⟨u, g1, g2⟩ := hN.get j y hy
              exact ⟨u, by rw [r3 j hj]; exact g1, g2⟩) r4 r5 r6 r7
            exact ⟨φ', _, rfl, g1, g3, by omega, Nat.le_refl _, cb, sh + o, cs, _, c', g2, room, rfl, fun _ => ⟨rfl, by omega, hcm⟩⟩
          by_cases hkl : k < len
          · have hcall := Any2.slices_Insert_int_shift L cb (sh + o) len c' k xcb (xsh + xo) 1 c2 csl [xv] w hkl (by omega) room hcm hneb hcl rfl
              (fun j u hj => by
                have hj' : j < len := by have := (List.getElem?_eq_some_iff.1 hj).1; omega
                rw [cell?_of p2, ← hcg j hj']; exact hj)
              (fun j hj => by rw [cell?_of p2, Array.getElem?_eq_getElem (by omega)]; rfl) (fun j hj => frozenAt p2) hxvs h1c hx1' ex e0 cx.size c0.size
              (by unfold World.shape?; rw [j2]) (by unfold World.shape?; rw [p2]) (by omega) (frozenAt j2) (frozenAt j2)
            rw [hρ] at hcall
            refine hcall.mono ?_
            rintro e' w' ⟨rfl, rfl⟩
            obtain ⟨a1, a2, a3, a4, a5⟩ := setCells_heap cb (csl.drop k) (sh + o + (k + 1)) w.drew c0 p2
            obtain ⟨b1, b2, b3, b4, b5⟩ := setCells_heap cb [xv] (sh + o + k) _ _ a1
            refine fin _ _ b1 (by rw [setN_size, setN_size]) (fun j hj => ?_) (fun y hy => (b2 y hy).trans (a2 y hy)) (b3.trans a3) (b4.trans a4) (b5.trans a5)
            have hdl : (csl.drop k).length = len - k := by rw [List.length_drop, hcl]
            rw [setN_get _ _ _ _ (by rw [setN_size]; simp; omega), setN_get _ _ _ _ (by rw [hdl]; omega), hvals j hj]
            by_cases g1 : j < k
            · rw [if_neg (by simp; omega), if_neg (by rw [hdl]; omega), if_pos g1, hcg j (by omega)]
            · rw [if_neg g1]
              by_cases g2 : j = k
              · subst g2
                rw [if_pos (by simp), if_pos rfl]; simp
              · rw [if_neg (by simp; omega), if_neg g2, if_pos (by rw [hdl]; omega), List.getElem?_drop]
                congr 1; omega
          · have hke : k = len := by omega
            subst hke
            have hcall := Any2.slices_Insert_int_end_room L cb (sh + o) k c' xcb (xsh + xo) 1 c2 [xv] w (by omega) room hcm rfl
              (fun j hj => by rw [cell?_of p2, Array.getElem?_eq_getElem (by omega)]; rfl) (fun j hj => frozenAt p2) hxvs hx1'
            rw [hρ] at hcall
            refine hcall.mono ?_
            rintro e' w' ⟨rfl, rfl⟩
            obtain ⟨b1, b2, b3, b4, b5⟩ := setCells_heap cb [xv] (sh + o + k) w c0 p2
            refine fin _ _ b1 (by rw [setN_size]) (fun j hj => ?_) b2 b3 b4 b5
            rw [setN_get _ _ _ _ (by simp; omega), hvals j hj]
            by_cases g1 : j < k
            · rw [if_neg (by simp; omega), if_pos g1, hcg j g1]
            · rw [if_neg g1, if_pos (by simp; omega), if_pos (by omega), show sh + o + j - (sh + o + k) = 0 by omega]; rfl
        · have hcl' : c' = len := by omega
          subst hcl'
          have hk2 := (hH.kill (b := b) (by rw [hb]; simp)).bump 1
          have hnew' : ((H.set b .dead).bump 1).new H.next (.cells false ((l.drop o).take k ++ (x :: ((l.drop o).take c').drop k))) = some H' := hnew
          have fin : ∀ (w' : World) (gc : Nat) (c3 : Array Value) (e3 : TypeId), w'.heap = w.heap.push (.cells c3 e3 (0, 0)) → c3.size = gc → c' + 1 ≤ gc → gc ≤ 9223372036854775807 → (∀ j, j < c' + 1 → c3[j]? = (csl.take k ++ (xv :: csl.drop k))[j]?) → w'.os = w.os → w'.output = w.output →
              ∃ φ' cv, Ending.returned (Value.slice (some ⟨w.heap.size, 0, none⟩) (c' + 1) gc) = .returned cv ∧ Ext φ φ' ∧ HRel B w0 φ' H' w' ∧ AVRel φ' (.s (.slice (some (H.next, 0)) (c' + 1) (c' + 1) 1)) cv := by
            intro w' gc c3 e3 r1 r2 r3 r4 r5 r6 r7
            obtain ⟨φ', g1, g2, g3⟩ := hk2.new hnew' (by simp [AH.set]) (c := c3) (by rw [hNl]; omega) (fun j y hy => by
              have hj : j < c' + 1 := by have := (List.getElem?_eq_some_iff.1 hy).1; omega
              obtain ⟨u, g1, g2⟩ := hN.get j y hy
              exact ⟨u, by rw [r5 j hj]; exact g1, g2⟩) e3 w' r1 r6 r7
            exact ⟨φ', _, rfl, g1, g3, by omega, Nat.le_refl _, w.heap.size, 0, _, _, gc, g2, r3, rfl, fun _ => ⟨rfl, by omega, r4⟩⟩
          have hg := hge (c' + 1) c'
          have hl2 := hle (c' + 1) c' (by omega)
          by_cases hkl : k < c'
          · obtain ⟨hz, hfit, hcm⟩ := q6 (by omega)
            subst hz
            have hcall := Any2.slices_Insert_int_grow L cb (sh + o) c' c' k xcb (xsh + xo) 1 c2 csl [xv] w hkl (by omega) (Nat.le_refl _) (by omega) (by omega) hcl rfl
              (fun j u hj => by
                have hj' : j < c' := by have := (List.getElem?_eq_some_iff.1 hj).1; omega
                rw [cell?_of p2, ← hcg j hj']; exact hj) hxvs h1c hx1'
            rw [hρ] at hcall
            refine hcall.mono ?_
            rintro e' w' ⟨rfl, rfl⟩
            obtain ⟨A, hA⟩ : ∃ A, A = (csl.take k).toArray ++ Builtin.zeroCells (Value.int .i64 0).cells (c' + 1 - k) ++ Builtin.zeroCells (Value.int .i64 0).cells (grownCap w (c' + 1) c' (ρ.t 3) - (c' + 1)) := ⟨_, rfl⟩
            have hAs : A.size = grownCap w (c' + 1) c' (ρ.t 3) := by
              rw [hA]; simp only [Array.size_append, List.size_toArray, List.length_take, hcl, zc]; omega
            have hAg : ∀ j, j < k → A[j]? = csl[j]? := by
              intro j hj
              rw [hA, Array.append_assoc, Array.getElem?_append_left (by simp [hcl]; omega)]
              simp [hj]
            rw [← hA]
            have hW : (w.alloc (.cells A (ρ.t 3))).drew.heap[w.heap.size]? = some (.cells A (ρ.t 3) (0, 0)) := by
              show (w.heap.push _)[w.heap.size]? = _
              simp
            obtain ⟨a1, a2, a3, a4, a5⟩ := setCells_heap w.heap.size [xv] k _ _ hW
            obtain ⟨b1, b2, b3, b4, b5⟩ := setCells_heap w.heap.size (csl.drop k) (k + 1) ((w.alloc (.cells A (ρ.t 3))).drew.setCells w.heap.size k [xv]).drew _ a1
            have hdl : (csl.drop k).length = c' - k := by rw [List.length_drop, hcl]
            refine fin _ _ (setN (setN A k [xv]) (k + 1) (csl.drop k)) (ρ.t 3) ?_ (by rw [setN_size, setN_size, hAs]) hg hl2 (fun j hj => ?_) (b4.trans a4) (b5.trans a5)
            · apply Array.ext_getElem?
              intro y
              by_cases h3 : y = w.heap.size
              · subst h3
                rw [b1]; simp
              · rw [b2 y h3]
                have e9 := a2 y h3
                show ((w.alloc (.cells A (ρ.t 3))).drew.setCells w.heap.size k [xv]).heap[y]? = _
                rw [e9]
                show (w.heap.push _)[y]? = _
                rw [Array.getElem?_push, Array.getElem?_push, if_neg h3, if_neg h3]
            · rw [setN_get _ _ _ _ (by rw [setN_size, hdl, hAs]; omega), setN_get _ _ _ _ (by rw [hAs]; simp; omega), hvals j hj]
              by_cases g1 : j < k
              · rw [if_neg (by omega), if_neg (by simp; omega), if_pos g1, hAg j g1]
              · rw [if_neg g1]
                by_cases g2 : j = k
                · subst g2
                  rw [if_neg (by omega), if_pos (by simp), if_pos rfl]; simp
                · rw [if_neg g2, if_pos (by rw [hdl]; omega), List.getElem?_drop]
                  congr 1; omega
          · have hke : k = c' := by omega
            subst hke
            have hcall := Any2.slices_Insert_int_end_grow L (some z) k k xcb (xsh + xo) 1 c2 csl [xv] w (by omega) (Nat.le_refl _) (by omega) (by omega) hcl rfl (fun hc => by cases hc)
              (fun a ha j u hj => by
                cases ha
                have hj' : j < k := by have := (List.getElem?_eq_some_iff.1 hj).1; omega
                obtain ⟨hz, _, _⟩ := q6 (by omega)
                rw [hz, add_eq, cell?_of p2, ← Nat.add_assoc, ← hcg j hj']; exact hj) hxvs hx1'
            rw [hρ] at hcall
            refine hcall.mono ?_
            rintro e' w' ⟨rfl, rfl⟩
            refine fin _ _ ((csl ++ [xv]).toArray ++ Builtin.zeroCells (Value.int .i64 0).cells (grownCap w (k + 1) k (ρ.t 3) - (k + 1))) (ρ.t 3) rfl ?_ hg hl2 (fun j hj => ?_) rfl rfl
            · simp only [Array.size_append, List.size_toArray, List.length_append, hcl, zc, List.length_singleton]; omega
            · rw [Array.getElem?_append_left (by simp [hcl]; omega), List.take_of_length_le (by omega), List.drop_eq_nil_of_le (by omega)]
              simp
    | [], hargs => exact hargs.elim
    | [_], hargs => exact hargs.2.elim
    | [_, _], hargs => exact hargs.2.2.elim
    | _ :: _ :: _ :: _ :: _, hargs => exact hargs.2.2.2.elim
  · cases h
end Go.AM

/-
  slices.Insert stands in this program.
-/
namespace Go.AM
open Go.Proofs Go.Shelf

def insRen : Ren := ⟨fun x => if x = 21 then 63 else if x = 27 then 71 else if x = 28 then 72 else if x = 35 then 73 else if x = 39 then 74 else x, fun t => if t = 22 then 39 else t, fun x => x⟩

theorem laysIns : Lays2.n21 Try.prog insRen where
  mixed := by kernel_rfl
  f21 := by kernel_rfl
  f27 := by kernel_rfl
  f28 := by kernel_rfl
  f35 := by kernel_rfl
  f39 := by kernel_rfl
  t0 := by kernel_rfl
  a0 := Try.isAgg0
  z0 := Try.sizeOf0
  v0 := Try.zeroValue0
  t3 := by kernel_rfl
  a3 := Try.isAgg3
  z3 := Try.sizeOf3
  v3 := Try.zeroValue3
  t4 := by kernel_rfl
  a4 := Try.isAgg4
  z4 := Try.sizeOf4
  v4 := Try.zeroValue4
  t22 := by kernel_rfl
  a22 := Try.isAgg39
  z22 := Try.sizeOf39
  v22 := Try.zeroValue39
  i3 := by kernel_rfl

theorem mext_ok (B : Nat) (w0 : World) : CallsOk Try.prog [] B w0 mext := mext_calls laysIns rfl
end Go.AM

/-
  MutexFrees in the abstract machine.
-/
namespace Go.AM
theorem fr_le : ∀ n, n ≤ 8 → frAll n 0 (frS0 n) [] = true
  | 0, _ => fr0
  | 1, _ => fr1
  | 2, _ => fr2
  | 3, _ => fr3
  | 4, _ => fr4
  | 5, _ => fr5
  | 6, _ => fr6
  | 7, _ => fr7
  | 8, _ => fr8
  | n + 9, h => absurd h (by omega)
theorem MutexFrees_abs (H : AH) (hw : WF H) (_hn : H.next = 1) (avs : List AV) (ha : ArgsAt H.blk [.slice .bool] avs) : CallP tab mext F.detentlaw15_MutexFrees avs H fun v _ => v = bl true := by
  obtain ⟨xs, s, vs2, rfl, hs, ha2⟩ := ha.slice
  obtain rfl := ha2.nil'
  exact (MutexFrees_tri xs s fr_le).use (ρ := H.blk) (R := []) (Sat.mkArg hs (Sat.nil hw fun _ _ h => h)) fun v H' P' h _ => h
end Go.AM
