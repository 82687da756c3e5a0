/-
  mtx: New, Held, Free.
-/
import Derived.Test.YtinlhpgfoojneaaMg2
import Derived.KernelRfl
namespace Go.AM
set_option maxHeartbeats 8000000
attribute [local irreducible] sq bk lpK mdx rt TC RP WK Cel Ro Row Fre RowsA RowsBut
def encK (k : Int × Int) : List SV := [.int .i64 k.1, .int .i64 k.2]
def rightF (k : Int × Int) : Bool := if k.1 = 0 ∨ k.1 = 1 ∨ k.1 = 2 then decide (k.2 = 0) else if k.1 = 3 then decide (1 ≤ k.2 ∧ k.2 ≤ 16) else false
def mu0 : Mu := ⟨0, 0, 0, []⟩
def muK (k : Int × Int) : Mu := ⟨k.1, k.2, 0, []⟩
def tk0 : Tk := ⟨16, 16, 0⟩
def nilS : SV := .slice none 0 0 1
section
variable {a : Nat} {ms : List Mu} {ts : List Tk} {sm : SV} {ws : List SV} {L : List Asr}
theorem right_tri (k : Int × Int) : Tri tab mext F.mtx_Kind_right [.agg (encK k)] [] fun v P' => v = bl (rightF k) ∧ P' = [] := by
  refine Tri.go tab_mtx_Kind_right rfl ?_
  refine RUN ?_
  refine RP.bx rfl rfl rfl fun b => ?_
  refine RUN ?_
  refine TC.mid (α := Bool) (fun p => p = decide (k.1 = 0 ∨ k.1 = 1 ∨ k.1 = 2)) (fun p => [(1, .s (.ptr (some (b, 0)))), (2, bl false), (4, i64 k.1), (5, bl p)]) (fun _ => [Cel b (encK k)]) ?_ ?_
  · refine TC.cP rfl (fun h1 => ?_) fun h1 => ?_
    · refine RUN ?_
      exact md_n _ (by simp [h1]) ⟨rfl, rfl, rfl, rfl, trivial⟩ (LEnt.refl _)
    · refine RUN ?_
      refine TC.cP rfl (fun h2 => ?_) fun h2 => ?_
      · refine RUN ?_
        exact md_n _ (by simp [h2]) ⟨rfl, rfl, rfl, rfl, trivial⟩ (LEnt.refl _)
      · refine RUN ?_
        exact md_n _ (by simp [h1, h2]) ⟨rfl, rfl, rfl, rfl, trivial⟩ (LEnt.refl _)
  rintro p rfl
  refine RUN ?_
  refine TC.cP rfl (fun h => ?_) fun h => ?_
  · refine RUN ?_
    exact rt_r rfl ⟨by rw [rightF, if_pos h], rfl⟩ (LEnt.of .e)
  · refine RUN ?_
    refine TC.cP rfl (fun h3 => ?_) fun h3 => ?_
    · refine RUN ?_
      refine RP.c rfl (mMay_tri k.2) .e rfl ?_
      rintro v P' ⟨rfl, rfl⟩
      refine RUN ?_
      exact rt_r rfl ⟨by rw [rightF, if_neg h, if_pos h3], rfl⟩ (LEnt.of .e)
    · refine RUN ?_
      exact rt_r rfl ⟨by rw [rightF, if_neg h, if_neg h3], rfl⟩ (LEnt.of .e)
theorem rows_nil : ∀ (n : Nat) {L : List Asr}, LEnt L (RowsA (List.replicate n nilS) (List.replicate n []) :: L) := fun n L ρ H R hs => by
  unfold RowsA
  refine Sat.mkAll ?_
  induction n with
  | zero => simpa [rowsL] using hs
  | succ n ih =>
    simp only [rowsL, List.replicate_succ, List.zipWith_cons_cons, List.cons_append]
    exact Sat.mkNil ih 1
theorem map_zip_rep {α β : Type} : ∀ (l : List α) (c : β), (l.map fun x => (x, c)) = l.zip (List.replicate l.length c)
  | [], _ => rfl
  | x :: l, c => by rw [List.map_cons, map_zip_rep l c]; rfl
theorem new_tri (s : SV) (ks : List (Int × Int)) : Tri tab mext F.mtx_New [.s s] [Row encK 2 s ks] fun v P' =>
    (8 < ks.length ∨ ¬ (∀ k ∈ ks, rightF k = true)) ∧ v = .tup [.s (.ptr none), .s (.int .i64 (-17))] ∧ P' = [] ∨
    (ks.length ≤ 8 ∧ ∀ k ∈ ks, rightF k = true) ∧ ∃ a, v = .tup [.s (.ptr (some (a, 0))), .s (.int .i64 0)] ∧ P' = [MxA a (mu0 :: ks.map muK) (List.replicate 17 tk0), Row encK 2 s ks] := by
  refine Tri.go tab_mtx_New rfl ?_
  refine RUN ?_
  refine TC.cP rfl (fun h => ?_) fun h => ?_
  · refine RUN ?_
    exact rt_r (resE2 rfl rfl) (.inl ⟨.inl (by omega), rfl, rfl⟩) (LEnt.of .e)
  · have h : ks.length ≤ 8 := by omega
    refine RUN ?_
    refine RP.mk rfl rfl (mkA_ok (l := 1) (c := ks.length + 1) (by omega) (by omega) (by omega) rfl) rfl fun b => ?_
    refine RP.ent (row_made (enc := encM) (k := 4) (c := ks.length + 1) (r := [(mu0, nilS)]) rfl (by rw [rep_length]; simp) (by simp)) ?_
    refine RUN ?_
    refine RP.bx rfl rfl rfl fun a => ?_
    refine RUN ?_
    refine TC.midb (α := SV) (fun _ => ∀ k ∈ ks, rightF k = true) (fun sm => [(2, .s (.ptr none)), (3, i64 0), (4, ptr a)]) (fun sm => [Cel a ([sm] ++ (flat encT (List.replicate 17 ⟨0, 0, 0⟩) ++ [])), Row encM 4 sm ((mu0 :: ks.map muK).map fun μ => (μ, nilS)), Row encK 2 s ks]) ?_ ?_
    · refine TC.loop (fun q : Nat × SV => ks.length - q.1) (fun q => q.1 ≤ ks.length ∧ ∀ k ∈ ks.take q.1, rightF k = true) (fun q => [(2, .s (.ptr none)), (3, i64 0), (4, ptr a), (17, .s s), (18, i64 ks.length), (19, i64 q.1)]) (fun q => [Cel a ([q.2] ++ (flat encT (List.replicate 17 ⟨0, 0, 0⟩) ++ [])), Row encM 4 q.2 ((mu0 :: (ks.take q.1).map muK).map fun μ => (μ, nilS)), Row encK 2 s ks]) (0, .slice (some (b, 0)) 1 (ks.length + 1) 4) ⟨by omega, by simp⟩ ⟨rfl, rfl, rfl, rfl, rfl, rfl, trivial⟩ (LEnt.refl _) ?_
      rintro ⟨i, sm⟩ ⟨h1, h2⟩
      dsimp only at h1 h2 ⊢
      refine RUN ?_
      refine TC.cP rfl (fun h3 => ?_) fun h3 => ?_
      · obtain ⟨k, hk⟩ : ∃ k, ks[i]? = some k := ⟨_, List.getElem?_eq_getElem (by omega)⟩
        refine RUN ?_
        refine RP.nw rfl fun c => ?_
        refine RUN ?_
        refine RP.c rfl (right_tri k) .e rfl ?_
        rintro v P' ⟨rfl, rfl⟩
        refine RUN ?_
        refine TC.cB rfl (fun h4 => ?_) fun h4 => ?_
        · have h4 : ¬ rightF k = true := by simpa using h4
          refine RUN ?_
          exact rt_r (resE2 rfl rfl) (.inl ⟨.inr fun hc => h4 (hc k (List.mem_of_getElem? hk)), rfl, rfl⟩) (LEnt.of .e)
        · have h4 : rightF k = true := by simpa using h4
          refine RUN ?_
          refine RP.bs rfl rfl rfl fun c2 => ?_
          refine RP.ent (L' := [Cel a ([sm] ++ (flat encT (List.replicate 17 ⟨0, 0, 0⟩) ++ [])), Row encM 4 sm ((mu0 :: (ks.take i).map muK).map fun μ => (μ, nilS)), Cel c2 (encM (muK k, nilS)), Row encK 2 s ks]) (LEnt.of (.c (.n (.n .h)) (.c (.n (.n .h)) (.c .h (.c (.n .h) .e))))) ?_
          refine RP.ap rfl rfl rfl (ap_one encM_len (.c (.n .h) (.c (.n .h) .e)) (by simp; omega)) fun sm' => ?_
          refine RUN ?_
          have e : ((mu0 :: (ks.take (i + 1)).map muK).map fun μ => (μ, nilS)) = ((mu0 :: (ks.take i).map muK).map fun μ => (μ, nilS)) ++ [(muK k, nilS)] := by
            rw [List.take_add_one, hk]; simp
          refine lp_n (i + 1, sm') ⟨by simp only; omega, ?_⟩ (by simp only; omega) ⟨rfl, rfl, rfl, rfl, rfl, rfl, trivial⟩ ?_
          · intro x hx
            simp only at hx
            rw [List.take_add_one, hk] at hx
            rcases List.mem_append.1 hx with hx | hx
            · exact h2 x hx
            · simp at hx; rw [hx]; exact h4
          · simp only
            rw [e]
            exact LEnt.of (.c (.n .h) (.c .h (.c .h .e)))
      · have : i = ks.length := by omega
        subst this
        rw [List.take_length] at h2
        rw [List.take_length]
        refine RUN ?_
        exact md_n sm h2 ⟨rfl, rfl, rfl, trivial⟩ (LEnt.refl _)
    · intro sm hr
      refine RUN ?_
      refine TC.loop (fun i : Nat => 17 - i) (fun i => i ≤ 17) (fun i => [(2, .s (.ptr none)), (3, i64 0), (4, ptr a), (38, i64 i)]) (fun i => [Cel a ([sm] ++ (flat encT (List.replicate i tk0 ++ List.replicate (17 - i) ⟨0, 0, 0⟩) ++ [])), Row encM 4 sm ((mu0 :: ks.map muK).map fun μ => (μ, nilS)), Row encK 2 s ks]) 0 (by omega) ⟨rfl, rfl, rfl, rfl, trivial⟩ (LEnt.refl _) ?_
      intro i hi
      refine RUN ?_
      refine TC.cP rfl (fun h3 => ?_) fun h3 => ?_
      · refine RUN ?_
        refine RP.s rfl rfl rfl rfl (Stw.ae (c := 1) (pre := [sm]) rfl encT_len tk0 (by simp; omega)) ?_
        have e : (List.replicate i tk0 ++ List.replicate (17 - i) (⟨0, 0, 0⟩ : Tk)).set i tk0 = List.replicate (i + 1) tk0 ++ List.replicate (17 - (i + 1)) (⟨0, 0, 0⟩ : Tk) := by
          rw [List.set_append_right _ _ (by simp), List.length_replicate, Nat.sub_self, show 17 - i = (17 - (i + 1)) + 1 by omega, List.replicate_succ, List.set_cons_zero, List.replicate_succ', List.append_assoc]
          rfl
        rw [e]
        refine RUN ?_
        exact lp_n (i + 1) (by omega) (by omega) ⟨rfl, rfl, rfl, rfl, trivial⟩ (LEnt.refl _)
      · have : i = 17 := by omega
        subst this
        refine RUN ?_
        refine rt_r (resE2 rfl rfl) (.inr ⟨⟨h, hr⟩, a, rfl, rfl⟩) ?_
        have e1 : (mu0 :: ks.map muK).map Mu.w = List.replicate (ks.length + 1) [] := by
          rw [List.map_cons, List.map_map, List.replicate_succ]
          congr 1
          rw [List.eq_replicate_iff]
          exact ⟨by simp, fun x hx => by obtain ⟨y, _, rfl⟩ := List.mem_map.1 hx; rfl⟩
        have e2 : ((mu0 :: ks.map muK).map fun μ => (μ, nilS)) = (mu0 :: ks.map muK).zip (List.replicate (ks.length + 1) nilS) := by
          have := map_zip_rep (mu0 :: ks.map muK) nilS
          simpa using this
        intro ρ H R hs
        have h5 := rows_nil (ks.length + 1) (L := []) ρ H _ hs
        rw [e2] at h5
        have h6 : Sat ρ H (MxB a (mu0 :: ks.map muK) (List.replicate 17 tk0) sm (List.replicate (ks.length + 1) nilS) :: Row encK 2 s ks :: R) := by
          refine Sat.mxClose (by simp) (by simp) ?_
          rw [e1]
          exact Sat.re h5 [1, 2, 0] (by simp) (by decide)
        exact mx_hide (L := []) ρ H _ h6
end
end Go.AM

/-
  mtx: Held, Free, Waiting.
-/
namespace Go.AM
set_option maxHeartbeats 8000000
attribute [local irreducible] sq bk lpK mdx rt TC RP WK Cel Ro Row Fre RowsA RowsBut
attribute [local irreducible] settleF stF passF unlF tryF lockF muW setO setw setp setb rk muw mow tkw tkb tkp insF standM sbBad setBF dropF
def heldN (ms : List Mu) (n : Int) (k : Nat) : List Int := ((List.range' 1 k).filter fun (m : Nat) => decide (mow ms (m : Int) = n)).map fun (m : Nat) => (m : Int)
def heldF (ms : List Mu) (n : Int) : List Int := if 1 ≤ n ∧ n ≤ 16 then heldN ms n (ms.length - 1) else []
theorem heldN_succ {ms : List Mu} {n : Int} {k : Nat} : heldN ms n (k + 1) = heldN ms n k ++ if mow ms ((k + 1 : Nat) : Int) = n then [((k + 1 : Nat) : Int)] else [] := by
  unfold heldN
  rw [List.range'_concat, List.filter_append, List.map_append, show 1 + 1 * k = k + 1 by omega]
  congr 1
  by_cases h : mow ms ((k + 1 : Nat) : Int) = n
  · rw [if_pos h, List.filter_cons_of_pos (by simpa using h)]; rfl
  · rw [if_neg h, List.filter_cons_of_neg (by simpa using h)]; rfl
theorem heldN_len {ms : List Mu} {n : Int} {k : Nat} : (heldN ms n k).length ≤ k := by
  unfold heldN
  rw [List.length_map]
  exact Nat.le_trans (List.length_filter_le _ _) (by simp)
theorem heldF_len {ms : List Mu} {n : Int} : (heldF ms n).length ≤ ms.length := by
  unfold heldF
  split
  · exact Nat.le_trans heldN_len (by omega)
  · simp
def freeStep (n : Int) (q : MS × List Int) (m : Int) : MS × List Int :=
  ((unlF q.1.1 q.1.2 m n).2, if (unlF q.1.1 q.1.2 m n).1.2 = 0 ∧ (unlF q.1.1 q.1.2 m n).1.1 > 0 then q.2 ++ [(unlF q.1.1 q.1.2 m n).1.1] else q.2)
def freeF (ms : List Mu) (ts : List Tk) (n : Int) : MS × List Int := (heldF ms n).foldl (freeStep n) ((ms, ts), [])
theorem MuI.unl {ms : List Mu} {ts : List Tk} (h : MuI ms ts) (m n : Int) : MuI (unlF ms ts m n).2.1 (unlF ms ts m n).2.2 := by
  unfold unlF
  split
  · exact h
  · split
    · exact h
    · simp only [stF]
      exact (h.pass m).settle
section
variable {a : Nat} {ms : List Mu} {ts : List Tk} {sm : SV} {ws : List SV} {L : List Asr}
theorem held_tri (hi : MuV ms) (n : Int) : Tri tab mext F.mtx_All_Held [ptr a, i64 n] [MxA a ms ts] fun v P' => ∃ s, v = .s s ∧ P' = [Row encI 1 s (heldF ms n), MxA a ms ts] := by
  refine Tri.go tab_mtx_All_Held rfl ?_
  have h9 := hi.l1
  have h0 := hi.l0
  refine TC.mx fun sm ws hl ht => ?_
  have hz : (ms.zip ws).length = ms.length := by rw [List.length_zip]; omega
  refine RUNM ?_
  refine TC.midb (α := SV) (fun _ => True) (fun s => [(5, .s s)]) (fun s => [Row encI 1 s (heldF ms n), MxB a ms ts sm ws]) ?_ ?_
  · refine TC.loop (fun q : Nat × SV => ms.length - q.1) (fun q => 1 ≤ q.1 ∧ q.1 ≤ ms.length ∧ (¬ (1 ≤ n ∧ n ≤ 16) → q.1 = 1)) (fun q => [(0, ptr a), (1, i64 n), (5, .s q.2), (6, i64 q.1)]) (fun q => [Row encI 1 q.2 (heldN ms n (q.1 - 1)), MxB a ms ts sm ws]) (1, .slice none 0 0 1) ⟨by omega, by omega, fun _ => rfl⟩ ⟨rfl, rfl, rfl, rfl, trivial⟩ (show LEnt _ [Row encI 1 (.slice none 0 0 1) [], MxB a ms ts sm ws] from row_nil 1 _) ?_
    rintro ⟨m, s⟩ ⟨h1, h2, h3⟩
    dsimp only at h1 h2 h3 ⊢
    refine RUNM ?_
    refine RP.c rfl (mIs_tri n) .e rfl ?_
    rintro v P' ⟨rfl, rfl⟩
    refine RUNM ?_
    refine RP.gp rfl (fun h4 => ?_) fun h4 => ?_
    · refine RUNM ?_
      refine TC.cP rfl (fun h5 => ?_) fun h5 => ?_
      · obtain ⟨k, hk, μ, s2, hμ, hs⟩ := msGet (ms := ms) (ws := ws) (m := (m : Int)) (by omega) hl
        obtain rfl : m = k := by omega
        have hm := mow_some (cast_get hμ)
        have hsucc := heldN_succ (ms := ms) (n := n) (k := m - 1)
        rw [show m - 1 + 1 = m by omega, hm] at hsucc
        have hlen := heldN_len (ms := ms) (n := n) (k := m - 1)
        refine RUNM ?_
        refine TC.cP rfl (fun h6 => ?_) fun h6 => ?_
        · have h6 : μ.ow = n := h6
          rw [if_pos h6] at hsucc
          refine RUNM ?_
          refine RP.bs rfl rfl rfl fun b => ?_
          refine RP.ap rfl rfl rfl (ap_one (e := (m : Int)) encI_len (.c (.n .h) (.c .h .e)) (by omega)) fun s' => ?_
          refine RUNM ?_
          refine lp_n (m + 1, s') ⟨by simp only; omega, by simp only; omega, fun hc => absurd h4 hc⟩ (by simp only; omega) ⟨rfl, rfl, rfl, rfl, trivial⟩ ?_
          simp only [Nat.add_sub_cancel]
          rw [hsucc]
          exact LEnt.refl _
        · have h6 : ¬ μ.ow = n := h6
          rw [if_neg h6, List.append_nil] at hsucc
          refine RUNM ?_
          refine lp_n (m + 1, s) ⟨by simp only; omega, by simp only; omega, fun hc => absurd h4 hc⟩ (by simp only; omega) ⟨rfl, rfl, rfl, rfl, trivial⟩ ?_
          simp only [Nat.add_sub_cancel]
          rw [hsucc]
          exact LEnt.refl _
      · have : m = ms.length := by omega
        subst this
        refine RUNM ?_
        refine md_n s trivial ⟨rfl, trivial⟩ ?_
        rw [heldF, if_pos h4]
        exact LEnt.refl _
    · refine RUNM ?_
      refine md_n s trivial ⟨rfl, trivial⟩ ?_
      have := h3 h4
      subst this
      rw [heldF, if_neg h4]
      exact LEnt.refl _
  · intro s _
    have := heldF_len (ms := ms) (n := n)
    refine RUNM ?_
    refine RP.c rfl (xClip_tri s _) (.c .h .e) rfl ?_
    rintro v P' ⟨s', rfl, rfl⟩
    refine RUNM ?_
    refine rt_r rfl ⟨s', rfl, rfl⟩ ?_
    exact (LEnt.of (.c (.n .h) (.c .h .e))).trans (mx_hide.trans (LEnt.of (.c (.n .h) (.c .h .e))))
theorem free_tri (hi : MuI ms ts) (n : Int) : Tri tab mext F.mtx_All_Free [ptr a, i64 n] [MxA a ms ts] fun v P' => ∃ s, v = .s s ∧ P' = [Row encI 1 s (freeF ms ts n).2, MxA a (freeF ms ts n).1.1 (freeF ms ts n).1.2] := by
  refine Tri.go tab_mtx_All_Free rfl ?_
  have h9 := hi.v.l1
  refine RUN ?_
  refine RP.c rfl (held_tri hi.v n) (.c .h .e) rfl ?_
  rintro v P' ⟨sh, rfl, rfl⟩
  have hhl := heldF_len (ms := ms) (n := n)
  have hfree : freeF ms ts n = (heldF ms n).foldl (freeStep n) ((ms, ts), []) := by unfold freeF; rfl
  generalize freeF ms ts n = FR at *
  generalize heldF ms n = hs at *
  refine RUN ?_
  refine TC.midb (α := SV) (fun _ => True) (fun s => [(5, .s s)]) (fun s => [Row encI 1 s FR.2, MxA a FR.1.1 FR.1.2]) ?_ ?_
  · have hI : ∀ i, MuI ((hs.take i).foldl (freeStep n) ((ms, ts), [])).1.1 ((hs.take i).foldl (freeStep n) ((ms, ts), [])).1.2 ∧ ((hs.take i).foldl (freeStep n) ((ms, ts), [])).2.length ≤ i := by
      intro i
      induction i with
      | zero => exact ⟨hi, by simp⟩
      | succ i ih =>
        rw [List.take_add_one]
        cases hm : hs[i]? with
        | none => simp only [Option.toList_none, List.append_nil]; exact ⟨ih.1, by omega⟩
        | some m =>
          rw [List.foldl_append]
          simp only [Option.toList_some, List.foldl_cons, List.foldl_nil]
          refine ⟨ih.1.unl m n, ?_⟩
          simp only [freeStep]
          split
          · rw [List.length_append]; simp; exact ih.2
          · omega
    refine TC.loop (fun q : Nat × SV => hs.length - q.1) (fun q => q.1 ≤ hs.length) (fun q => [(0, ptr a), (1, i64 n), (5, .s q.2), (12, .s sh), (13, i64 hs.length), (14, i64 q.1)]) (fun q => [Row encI 1 q.2 ((hs.take q.1).foldl (freeStep n) ((ms, ts), [])).2, Row encI 1 sh hs, MxA a ((hs.take q.1).foldl (freeStep n) ((ms, ts), [])).1.1 ((hs.take q.1).foldl (freeStep n) ((ms, ts), [])).1.2]) (0, .slice none 0 0 1) (by simp) ⟨rfl, rfl, rfl, rfl, rfl, rfl, trivial⟩ (row_nil _ _) ?_
    rintro ⟨i, s⟩ h1
    dsimp only at h1 ⊢
    obtain ⟨hq, hql⟩ := hI i
    have hstep : ∀ m, hs[i]? = some m → freeStep n ((hs.take i).foldl (freeStep n) ((ms, ts), [])) m = (hs.take (i + 1)).foldl (freeStep n) ((ms, ts), []) := fun m hm => by rw [foldl_take_succ hm]
    generalize hQ : (hs.take i).foldl (freeStep n) ((ms, ts), []) = Q at *
    replace hQ := hQ.symm
    obtain ⟨⟨ms1, ts1⟩, out⟩ := Q
    dsimp only at hq hql ⊢
    refine RUN ?_
    refine TC.cP rfl (fun h3 => ?_) fun h3 => ?_
    · obtain ⟨m, hm⟩ : ∃ m, hs[i]? = some m := ⟨_, List.getElem?_eq_getElem (by omega)⟩
      have hstep := hstep m hm
      refine RUN ?_
      refine RP.c rfl (unl_tri hq m n) (.c (.n (.n .h)) .e) rfl ?_
      rintro v P' ⟨rfl, rfl⟩
      have e0 : freeStep n ((ms1, ts1), out) m = ((unlF ms1 ts1 m n).2, if (unlF ms1 ts1 m n).1.2 = 0 ∧ (unlF ms1 ts1 m n).1.1 > 0 then out ++ [(unlF ms1 ts1 m n).1.1] else out) := rfl
      rw [e0] at hstep
      clear e0
      generalize unlF ms1 ts1 m n = r at *
      obtain ⟨⟨w, c⟩, ms2, ts2⟩ := r
      dsimp only at hstep ⊢
      have big : out.length + 1 ≤ 100 := by omega
      refine RUN ?_
      refine RP.gp rfl (fun h4 => ?_) fun h4 => ?_
      · have h4 : c = 0 := h4
        refine RUN ?_
        refine TC.cP rfl (fun h5 => ?_) fun h5 => ?_
        · rw [if_pos ⟨h4, h5⟩] at hstep
          refine RUN ?_
          refine RP.bs rfl rfl rfl fun b => ?_
          refine RP.ap rfl rfl rfl (ap_one (e := w) encI_len (.c (.n (.n .h)) (.c .h .e)) (by omega)) fun s' => ?_
          refine RUN ?_
          refine lp_n (i + 1, s') (by simp only; omega) (by simp only; omega) ⟨rfl, rfl, rfl, rfl, rfl, rfl, trivial⟩ ?_
          simp only
          rw [← hstep]
          exact LEnt.of (.c .h (.c (.n .h) (.c .h .e)))
        · rw [if_neg (fun hc => h5 hc.2)] at hstep
          refine RUN ?_
          refine lp_n (i + 1, s) (by simp only; omega) (by simp only; omega) ⟨rfl, rfl, rfl, rfl, rfl, rfl, trivial⟩ ?_
          simp only
          rw [← hstep]
          exact LEnt.of (.c (.n .h) (.c (.n .h) (.c .h .e)))
      · have h4 : ¬ c = 0 := h4
        rw [if_neg (fun hc => h4 hc.1)] at hstep
        refine RUN ?_
        refine lp_n (i + 1, s) (by simp only; omega) (by simp only; omega) ⟨rfl, rfl, rfl, rfl, rfl, rfl, trivial⟩ ?_
        simp only
        rw [← hstep]
        exact LEnt.of (.c (.n .h) (.c (.n .h) (.c .h .e)))
    · have : i = hs.length := by omega
      subst this
      rw [List.take_length] at hQ
      refine RUN ?_
      refine md_n s trivial ⟨rfl, trivial⟩ ?_
      rw [hfree, ← hQ]
      exact LEnt.of (.c .h (.c (.n .h) .e))
  · intro s _
    refine RUN ?_
    refine RP.c rfl (xClip_tri s _) (.c .h .e) rfl ?_
    rintro v P' ⟨s', rfl, rfl⟩
    refine RUN ?_
    exact rt_r rfl ⟨s', rfl, rfl⟩ (LEnt.refl _)
end
end Go.AM

/-
  The document's mutexes, as plain functions.
-/
namespace Go.AM
def ridx (l : List (Int × Int)) (id : Int) : Option Nat := l.findIdx? fun x => decide (x.1 = id)
def rposW (pn : Int) (l : List (Int × Int)) : Nat → Nat
  | 0 => 0
  | i + 1 => if ((l[i]?).map Prod.snd).getD 0 > pn then rposW pn l i else i + 1
def rpos (b : Bool) (pn : Int) (l : List (Int × Int)) : Nat := if b then rposW pn l l.length else l.length
def rput (b : Bool) (l : List (Int × Int)) (x : Int × Int) : List (Int × Int) := l.take (rpos b x.2 l) ++ x :: l.drop (rpos b x.2 l)
def rrem (l : List (Int × Int)) (id : Int) : List (Int × Int) := match ridx l id with | some i => l.take i ++ l.drop (i + 1) | none => l
def rgood (id pri : Int) : Bool := decide ((1 ≤ id ∧ id ≤ 16) ∧ 1 ≤ pri ∧ pri ≤ 16)
def radd (b : Bool) (l : List (Int × Int)) (id pri : Int) : Int × List (Int × Int) :=
  if rgood id pri = false then (-17, l) else if (ridx l id).isSome then (-41, l) else (0, rput b l (id, pri))
def rchg (b : Bool) (l : List (Int × Int)) (id pri : Int) : List (Int × Int) :=
  match ridx l id with
  | none => l
  | some i => if 1 ≤ pri ∧ pri ≤ 16 then (if b then rput true (l.take i ++ l.drop (i + 1)) (id, pri) else l.set i (id, pri)) else l
theorem ridx_lt {q : List (Int × Int)} {id : Int} {i : Nat} (h : ridx q id = some i) : i < q.length := (List.findIdx?_eq_some_iff_getElem.1 h).1
theorem ridx_id {q : List (Int × Int)} {id : Int} {i : Nat} (h : ridx q id = some i) : ∃ y, q[i]? = some (id, y) := by
  obtain ⟨h1, h2, _⟩ := List.findIdx?_eq_some_iff_getElem.1 h
  refine ⟨(q[i]).2, ?_⟩
  rw [List.getElem?_eq_getElem h1]
  have : (q[i]).1 = id := by simpa using h2
  rw [← this]
structure Rf where
  ks : List (Int × Int)
  ow : List Int
  qs : List (Bool × List (Int × Int))
  bs : List Int
  nw : List Int
def rOw (S : Rf) (i : Nat) : Int := (S.ow[i]?).getD 0
def rKk (S : Rf) (i : Nat) : Int × Int := (S.ks[i]?).getD (0, 0)
def rQq (S : Rf) (i : Nat) : Bool × List (Int × Int) := (S.qs[i]?).getD (false, [])
def rBs (S : Rf) (t : Int) : Int := (S.bs[t.toNat]?).getD 0
def rNw (S : Rf) (t : Int) : Int := (S.nw[t.toNat]?).getD 0
def rwt (S : Rf) (t : Int) : Option Nat := S.qs.findIdx? fun q => (ridx q.2 t).isSome
def rpriK (S : Rf) (rec : Int → Int) (deep : Bool) (t : Int) (p : Int) (i : Nat) : Int :=
  if rOw S i ≠ t then p
  else
    if (rKk S i).1 = 2 ∧ deep = true then (rQq S i).2.foldl (fun p x => mn p (rec x.1)) (if (rKk S i).1 = 3 then mn p (rKk S i).2 else p)
    else if (rKk S i).1 = 3 then mn p (rKk S i).2 else p
def rpri (S : Rf) : Nat → Int → Int
  | 0, t => (List.range S.ks.length).foldl (rpriK S (fun _ => 0) false t) (rBs S t)
  | f + 1, t => (List.range S.ks.length).foldl (rpriK S (rpri S f) true t) (rBs S t)
def rPri (S : Rf) (t : Int) : Int := if 1 ≤ t ∧ t ≤ 16 then rpri S 16 t else 0
def rstl (S : Rf) (q : Bool × List (Int × Int)) : Bool × List (Int × Int) :=
  (q.1, (q.2.map Prod.fst).foldl (fun l id => if rpri S 16 id ≠ rNw S id then rchg q.1 l id (rpri S 16 id) else l) q.2)
def rnow (S : Rf) (i : Nat) : List Int := (List.range 17).map fun k => if 1 ≤ k ∧ k < i then rpri S 16 k else 0
def rsettle (S : Rf) : Rf := { S with qs := S.qs.map (rstl S), nw := rnow S 17 }
def rsbBad (S : Rf) (n p : Int) (i : Nat) : Bool := (List.range i).any fun m => decide (((rKk S m).1 = 3 ∧ (rKk S m).2 > p) ∧ (rOw S m = n ∨ (ridx (rQq S m).2 n).isSome = true))
def rsetB (S : Rf) (n p : Int) : Int × Rf :=
  if ¬ (1 ≤ n ∧ n ≤ 16) then (-18, S)
  else if ¬ (1 ≤ p ∧ p ≤ 16) then (-17, S)
  else if rsbBad S n p S.ks.length then (-28, S)
  else (0, rsettle { S with bs := S.bs.set n.toNat p })
def rround (S : Rf) (n : Int) : Nat → Int → Bool
  | 0, _ => false
  | k + 1, o => if o = 0 then false else if o = n then true else match rwt S o with
    | none => false
    | some w => rround S n k (rOw S w)
def rtry (S : Rf) (m n : Int) : (Bool × Int) × Rf :=
  if ¬ (1 ≤ m ∧ m ≤ S.ks.length) ∨ ¬ (1 ≤ n ∧ n ≤ 16) then ((false, -18), S)
  else if rOw S (m - 1).toNat = n then ((false, -28), S)
  else if (rKk S (m - 1).toNat).1 = 3 ∧ rBs S n < (rKk S (m - 1).toNat).2 then ((false, -28), S)
  else if (rwt S n).isSome then ((false, -41), S)
  else if rOw S (m - 1).toNat = 0 then ((true, 0), rsettle { S with ow := S.ow.set (m - 1).toNat n })
  else ((false, 0), S)
def rlock (S : Rf) (m n : Int) : (Bool × Int) × Rf :=
  if (rtry S m n).1.1 = true ∨ ¬ (rtry S m n).1.2 = 0 then rtry S m n
  else if rround S n 17 (rOw S (m - 1).toNat) then ((false, -28), S)
  else ((false, 0), rsettle { S with qs := S.qs.set (m - 1).toNat ((rQq S (m - 1).toNat).1, (radd (rQq S (m - 1).toNat).1 (rQq S (m - 1).toNat).2 n (rPri S n)).2) })
def rpass (S : Rf) (i : Nat) : Int × Rf :=
  match (rQq S i).2 with
  | [] => (0, { S with ow := S.ow.set i 0 })
  | x :: r => (x.1, { S with ow := S.ow.set i x.1, qs := S.qs.set i ((rQq S i).1, r) })
def runl (S : Rf) (m n : Int) : (Int × Int) × Rf :=
  if ¬ (1 ≤ m ∧ m ≤ S.ks.length) ∨ ¬ (1 ≤ n ∧ n ≤ 16) then ((0, -18), S)
  else if ¬ rOw S (m - 1).toNat = n then ((0, -28), S)
  else (((rpass S (m - 1).toNat).1, 0), rsettle (rpass S (m - 1).toNat).2)
def rdrop (S : Rf) (n : Int) : Bool × Rf :=
  match rwt S n with
  | none => (false, S)
  | some i => (true, rsettle { S with qs := S.qs.set i ((rQq S i).1, rrem (rQq S i).2 n) })
def rfreeS (n : Int) (q : Rf × List Int) (i : Nat) : Rf × List Int :=
  if rOw q.1 i ≠ n then q else (rsettle (rpass q.1 i).2, if (rpass q.1 i).1 ≠ 0 then q.2 ++ [(rpass q.1 i).1] else q.2)
def rfree (S : Rf) (n : Int) : Rf × List Int := if 1 ≤ n ∧ n ≤ 16 then (List.range S.ks.length).foldl (rfreeS n) (S, []) else (S, [])
def rheld (S : Rf) (n : Int) : List Int := if 1 ≤ n ∧ n ≤ 16 then ((List.range S.ks.length).filter fun m => decide (rOw S m = n)).map fun (m : Nat) => (m : Int) + 1 else []
def its (ts : List Tk) (w : List Int) : List (Int × Int) := w.map fun n => (n, tkp ts n)
def rfOf (ms : List Mu) (ts : List Tk) : Rf :=
  ⟨(ms.drop 1).map fun μ => (μ.at_, μ.ce), (ms.drop 1).map Mu.ow, (ms.drop 1).map fun μ => (decide (μ.at_ ≠ 0), its ts μ.w), 0 :: (ts.drop 1).map Tk.b, 0 :: (ts.drop 1).map Tk.p⟩
section
variable {ms : List Mu} {ts : List Tk}
theorem its_len {w : List Int} : (its ts w).length = w.length := by simp [its]
theorem its_fst {w : List Int} : (its ts w).map Prod.fst = w := by simp [its, Function.comp_def]
theorem its_idx {w : List Int} {n : Int} : ridx (its ts w) n = w.findIdx? fun x => decide (x = n) := by
  unfold ridx its
  rw [List.findIdx?_map]; rfl
theorem its_some {w : List Int} {n : Int} : (ridx (its ts w) n).isSome = decide (n ∈ w) := by
  rw [its_idx, List.findIdx?_isSome, Bool.eq_iff_iff]
  simp
theorem its_posW {w : List Int} {pn : Int} : ∀ {i : Nat}, i ≤ w.length → rposW pn (its ts w) i = posW ts pn w i
  | 0, _ => rfl
  | i + 1, h => by
    simp only [rposW, posW]
    rw [its_posW (by omega), its, List.getElem?_map, List.getElem?_eq_getElem (by omega : i < w.length)]
    rfl
theorem its_pos {at_ n : Int} {w : List Int} : rpos (decide (at_ ≠ 0)) (tkp ts n) (its ts w) = posF ts at_ n w := by
  unfold rpos posF
  by_cases h : at_ = 0
  · rw [if_pos h, if_neg (by simp [h]), its_len]
  · rw [if_neg h, if_pos (by simp [h]), its_len, its_posW (Nat.le_refl _)]
theorem its_put {at_ n : Int} {w : List Int} : rput (decide (at_ ≠ 0)) (its ts w) (n, tkp ts n) = its ts (insF ts at_ n w) := by
  unfold rput insF
  dsimp only
  rw [its_pos]
  simp [its]
theorem its_same {ts' : List Tk} {w : List Int} (h : ∀ n ∈ w, tkp ts' n = tkp ts n) : its ts' w = its ts w :=
  List.map_congr_left fun n hn => by rw [h n hn]
theorem take_filter {w : List Int} {n : Int} {i : Nat} (hw : w.Nodup) (hi : w[i]? = some n) : w.take i ++ w.drop (i + 1) = w.filter fun x => decide (x ≠ n) := by
  obtain ⟨h1, h2⟩ := List.getElem?_eq_some_iff.1 hi
  have e : w = w.take i ++ n :: w.drop (i + 1) := by rw [← h2]; simp
  have hn : (w.take i ++ n :: w.drop (i + 1)).Nodup := by rw [← e]; exact hw
  have h3 : n ∉ w.take i ++ w.drop (i + 1) := (List.nodup_cons.1 (List.perm_middle.nodup_iff.1 hn)).1
  conv => rhs; rw [e]
  rw [List.filter_append, List.filter_cons_of_neg (by simp), ← List.filter_append, List.filter_eq_self.2]
  intro x hx
  have : x ≠ n := fun h => h3 (h ▸ hx)
  simpa using this
theorem its_rem {w : List Int} {n : Int} (hw : w.Nodup) (hn : n ∈ w) : rrem (its ts w) n = its ts (w.filter fun x => decide (x ≠ n)) := by
  unfold rrem
  have h := its_some (ts := ts) (w := w) (n := n)
  cases e : ridx (its ts w) n with
  | none => rw [e] at h; simp [hn] at h
  | some i =>
    dsimp only
    obtain ⟨y, hy⟩ := ridx_id e
    have hi : w[i]? = some n := by
      rw [its, List.getElem?_map] at hy
      cases hw : w[i]? with
      | none => rw [hw] at hy; simp at hy
      | some z => rw [hw] at hy; simp at hy; rw [hy.1]
    rw [← take_filter hw hi]
    simp [its]
end
end Go.AM

/-
  The document's mutexes and the program's: what is reckoned.
-/
namespace Go.AM
structure MJ0 (ms : List Mu) (ts : List Tk) : Prop where
  i : MuI ms ts
  tl : ts.length = 17
  ak : ∀ μ ∈ ms, 0 ≤ μ.at_ ∧ μ.at_ ≤ 3 ∧ (μ.at_ = 3 → 1 ≤ μ.ce ∧ μ.ce ≤ 16)
  b : ∀ n, 1 ≤ n ∧ n ≤ 16 → 1 ≤ tkb ts n ∧ tkb ts n ≤ 16
  wr : ∀ n, 1 ≤ n ∧ n ≤ 16 → ∀ m : Nat, 1 ≤ m → (n ∈ muw ms m ↔ tkw ts n = m)
  w0 : muw ms 0 = []
  z : ∀ m : Nat, mow ms m = 0 → muw ms m = []
  r : ∃ r : Int → Nat, ∀ m : Nat, ∀ w ∈ muw ms m, r w < r (mow ms m)
theorem fold_idx {α β : Type} (l : List α) (g : β → Nat → β) (h : β → α → β) (hh : ∀ i x p, l[i]? = some x → g p i = h p x) (a : β) : ∀ k, k ≤ l.length → (List.range k).foldl g a = (l.take k).foldl h a
  | 0, _ => by rw [List.take_zero]; rfl
  | k + 1, hk => by
    have hx : l[k]? = some (l[k]'hk) := List.getElem?_eq_getElem hk
    rw [List.range_succ, List.foldl_append, fold_idx l g h hh a k (by omega), foldl_take_succ hx]
    exact hh k _ _ hx
theorem fold_idx' {α β : Type} (l : List α) (g : β → Nat → β) (h : β → α → β) (hh : ∀ i x p, l[i]? = some x → g p i = h p x) (a : β) {k : Nat} (hk : k = l.length) : (List.range k).foldl g a = l.foldl h a := by
  subst hk
  rw [fold_idx l g h hh a _ (Nat.le_refl _), List.take_length]
theorem foldl_congr_mem {α β : Type} {f g : β → α → β} : ∀ (l : List α) (a : β), (∀ x ∈ l, ∀ p, f p x = g p x) → l.foldl f a = l.foldl g a
  | [], _, _ => rfl
  | x :: l, a, h => by
    rw [List.foldl_cons, List.foldl_cons, h x List.mem_cons_self]
    exact foldl_congr_mem l _ fun y hy => h y (List.mem_cons_of_mem _ hy)
section
variable {ms : List Mu} {ts : List Tk}
theorem rf_k (i : Nat) {μ : Mu} (h : ms[i + 1]? = some μ) : rOw (rfOf ms ts) i = μ.ow ∧ rKk (rfOf ms ts) i = (μ.at_, μ.ce) ∧ rQq (rfOf ms ts) i = (decide (μ.at_ ≠ 0), its ts μ.w) := by
  have e : (ms.drop 1)[i]? = some μ := by rw [List.getElem?_drop, Nat.add_comm]; exact h
  refine ⟨?_, ?_, ?_⟩ <;> simp only [rOw, rKk, rQq, rfOf, List.getElem?_map, e, Option.map_some, Option.getD_some]
theorem rf_len : (rfOf ms ts).ks.length = ms.length - 1 := by simp [rfOf]
theorem rf_bs (ht : ts.length = 17) {n : Int} (hn : 1 ≤ n ∧ n ≤ 16) : rBs (rfOf ms ts) n = tkb ts n ∧ rNw (rfOf ms ts) n = tkp ts n := by
  obtain ⟨k, hk⟩ : ∃ k : Nat, n = ((k + 1 : Nat) : Int) := ⟨(n - 1).toNat, by omega⟩
  subst hk
  have e : ((k + 1 : Nat) : Int).toNat = k + 1 := by omega
  have e2 : ts[k + 1]? = some (ts[k + 1]'(by omega)) := List.getElem?_eq_getElem _
  refine ⟨?_, ?_⟩
  · simp only [rBs, rfOf, tkb, e, List.getElem?_cons_succ, List.getElem?_map, List.getElem?_drop, Nat.add_comm 1 k, e2, Option.map_some, Option.getD_some]
  · simp only [rNw, rfOf, tkp, e, List.getElem?_cons_succ, List.getElem?_map, List.getElem?_drop, Nat.add_comm 1 k, e2, Option.map_some, Option.getD_some]
theorem rk_eq (hJ : MJ0 ms ts) {r : Int → Nat} (hr : ∀ m : Nat, ∀ w ∈ muw ms m, r w < r (mow ms m)) : ∀ (f : Nat) (P : List Int) (n : Int), (n :: P).Nodup → (∀ x ∈ n :: P, 1 ≤ x ∧ x ≤ 16) → (∀ x ∈ P, r n < r x) → f + P.length = 16 → rpri (rfOf ms ts) f n = rk ms ts (f + 1) n
  | 0, P, n, h1, h2, _, h4 => by
    have := nodup_le16 h1 h2
    simp only [List.length_cons] at this
    omega
  | f + 1, P, n, h1, h2, h3, h4 => by
    have hn := h2 n List.mem_cons_self
    show (List.range _).foldl (rpriK (rfOf ms ts) (rpri (rfOf ms ts) f) true n) _ = (ms.drop 1).foldl _ _
    rw [(rf_bs hJ.tl hn).1]
    refine fold_idx' (ms.drop 1) _ _ ?_ _ (by simp [rfOf])
    intro i μ p hμ
    have hμ' : ms[i + 1]? = some μ := by rw [List.getElem?_drop, Nat.add_comm] at hμ; exact hμ
    obtain ⟨e1, e2, e3⟩ := rf_k (ts := ts) i hμ'
    unfold rpriK
    rw [e1, e2, e3]
    by_cases ho : μ.ow = n
    · have hno : ¬ (μ.ow ≠ n) := fun h => h ho
      rw [if_neg hno, if_neg hno]
      by_cases h2' : μ.at_ = 2
      · have h3' : ¬ μ.at_ = 3 := by omega
        have hc : (μ.at_, μ.ce).1 = 2 ∧ true = true := ⟨h2', rfl⟩
        rw [if_pos hc, if_neg h3', if_neg h3', if_pos h2']
        show (its ts μ.w).foldl _ _ = _
        rw [its, List.foldl_map]
        refine foldl_congr_mem _ _ fun w hw q => ?_
        have hmw : muw ms (i + 1) = μ.w := muw_some hμ'
        have hmo : mow ms ((i + 1 : Nat) : Int) = n := by rw [mow_some (by simpa using hμ')]; exact ho
        have hrw : r w < r n := by
          have := hr (i + 1) w (by rw [hmw]; exact hw)
          rwa [hmo] at this
        have hw16 := hJ.i.v.w μ (List.mem_of_getElem? hμ') w hw
        rw [rk_eq hJ hr f (n :: P) w ?_ ?_ ?_ (by simp only [List.length_cons]; omega)]
        · refine List.nodup_cons.2 ⟨fun hm => ?_, h1⟩
          rcases List.mem_cons.1 hm with rfl | hm
          · omega
          · have := h3 w hm; omega
        · intro x hx
          rcases List.mem_cons.1 hx with rfl | hx
          · exact hw16
          · exact h2 x hx
        · intro x hx
          rcases List.mem_cons.1 hx with rfl | hx
          · exact hrw
          · have := h3 x hx; omega
      · rw [if_neg (fun h => h2' h.1)]
        by_cases h3' : μ.at_ = 3
        · rw [if_pos h3', if_pos h3']
        · rw [if_neg h3', if_neg h3', if_neg h2']
    · have hno : μ.ow ≠ n := ho
      rw [if_pos hno, if_pos hno]
theorem rpri_eq (hJ : MJ0 ms ts) {n : Int} (hn : 1 ≤ n ∧ n ≤ 16) : rpri (rfOf ms ts) 16 n = rk ms ts 17 n := by
  obtain ⟨r, hr⟩ := hJ.r
  exact rk_eq hJ hr 16 [] n (by simp) (by simpa using hn) (by simp) rfl
theorem mn_rng {p v : Int} (h1 : 1 ≤ p ∧ p ≤ 16) (h2 : 1 ≤ v ∧ v ≤ 16) : 1 ≤ mn p v ∧ mn p v ≤ 16 := by unfold mn; split <;> assumption
theorem foldl_rng {α : Type} {f : Int → α → Int} : ∀ (l : List α) (a : Int), (1 ≤ a ∧ a ≤ 16) → (∀ x ∈ l, ∀ p, (1 ≤ p ∧ p ≤ 16) → 1 ≤ f p x ∧ f p x ≤ 16) → 1 ≤ l.foldl f a ∧ l.foldl f a ≤ 16
  | [], _, h, _ => h
  | x :: l, a, h, hf => by
    rw [List.foldl_cons]
    exact foldl_rng l _ (hf x List.mem_cons_self a h) fun y hy => hf y (List.mem_cons_of_mem _ hy)
theorem rk_rng (hJ : MJ0 ms ts) : ∀ (f : Nat) {n : Int}, (1 ≤ n ∧ n ≤ 16) → 1 ≤ rk ms ts f n ∧ rk ms ts f n ≤ 16
  | 0, n, hn => hJ.b n hn
  | f + 1, n, hn => by
    refine foldl_rng _ _ (hJ.b n hn) fun μ hμ p hp => ?_
    have hm := List.mem_of_mem_drop hμ
    split
    · exact hp
    · split
      · rename_i h; exact mn_rng hp ((hJ.ak μ hm).2.2 h)
      · split
        · exact foldl_rng _ _ hp fun w hw q hq => mn_rng hq (rk_rng hJ f (hJ.i.v.w μ hm w hw))
        · exact hp
end
end Go.AM

/-
  The document's mutexes and the program's: settled alike.
-/
namespace Go.AM
def rstep (pri old : Int → Int) (b : Bool) (l : List (Int × Int)) (id : Int) : List (Int × Int) := if pri id ≠ old id then rchg b l id (pri id) else l
def spf (pri : Int → Int) (ts : List Tk) (ns : List Int) : List Tk := ns.foldl (fun t n => setp t n (pri n)) ts
section
variable {ms : List Mu} {ts : List Tk}
theorem ts_at (ht : ts.length = 17) {n : Int} (hn : 1 ≤ n ∧ n ≤ 16) : ∃ τ, ts[n.toNat]? = some τ := ⟨_, List.getElem?_eq_getElem (by omega)⟩
theorem tkp_setp (ht : ts.length = 17) {n x p : Int} (hn : 1 ≤ n ∧ n ≤ 16) (hx : 1 ≤ x ∧ x ≤ 16) : tkp (setp ts n p) x = if x = n then p else tkp ts x := by
  obtain ⟨τ, hτ⟩ := ts_at ht hn
  have hl := (List.getElem?_eq_some_iff.1 hτ).1
  unfold setp tkp
  rw [hτ]
  dsimp only
  rw [List.getElem?_set]
  by_cases h : x = n
  · subst h; rw [if_pos rfl, if_pos hl, if_pos rfl]; rfl
  · rw [if_neg (by omega), if_neg h]
theorem tkb_setp {n x p : Int} : tkb (setp ts n p) x = tkb ts x ∧ tkw (setp ts n p) x = tkw ts x := by
  unfold setp
  cases h : ts[n.toNat]? with
  | none => exact ⟨rfl, rfl⟩
  | some τ =>
    have hl := (List.getElem?_eq_some_iff.1 h).1
    dsimp only [tkb, tkw]
    rw [List.getElem?_set]
    by_cases e : n.toNat = x.toNat
    · rw [if_pos e, if_pos hl, ← e, h]; exact ⟨rfl, rfl⟩
    · rw [if_neg e]; exact ⟨rfl, rfl⟩
theorem setp_self (ht : ts.length = 17) {n p : Int} (hn : 1 ≤ n ∧ n ≤ 16) (h : tkp ts n = p) : setp ts n p = ts := by
  obtain ⟨τ, hτ⟩ := ts_at ht hn
  rw [tkp_some hτ] at h
  rw [setp_some hτ, ← h, set_same hτ]
variable {pri old : Int → Int}
theorem spf_len : ∀ (ns : List Int) {ts : List Tk}, (spf pri ts ns).length = ts.length
  | [], _ => rfl
  | _ :: ns, _ => (spf_len ns).trans setp_len
theorem spf_b : ∀ (ns : List Int) {ts : List Tk} {x : Int}, tkb (spf pri ts ns) x = tkb ts x ∧ tkw (spf pri ts ns) x = tkw ts x
  | [], _, _ => ⟨rfl, rfl⟩
  | n :: ns, ts, x => by
    have h := spf_b ns (ts := setp ts n (pri n)) (x := x)
    have h2 := tkb_setp (ts := ts) (n := n) (x := x) (p := pri n)
    exact ⟨h.1.trans h2.1, h.2.trans h2.2⟩
theorem spf_app (a b : List Int) : spf pri (spf pri ts a) b = spf pri ts (a ++ b) := (List.foldl_append ..).symm
theorem tkp_spf : ∀ (ns : List Int) {ts : List Tk} {x : Int}, ts.length = 17 → (∀ n ∈ ns, 1 ≤ n ∧ n ≤ 16) → (1 ≤ x ∧ x ≤ 16) → tkp (spf pri ts ns) x = if x ∈ ns then pri x else tkp ts x
  | [], ts, x, _, _, _ => by rw [if_neg (by simp)]; rfl
  | n :: ns, ts, x, ht, hn, hx => by
    have hn0 := hn n List.mem_cons_self
    show tkp (spf pri (setp ts n (pri n)) ns) x = _
    rw [tkp_spf ns (by rw [setp_len]; exact ht) (fun y hy => hn y (List.mem_cons_of_mem _ hy)) hx, tkp_setp ht hn0 hx]
    by_cases h1 : x ∈ ns
    · rw [if_pos h1, if_pos (List.mem_cons_of_mem _ h1)]
    · rw [if_neg h1]
      by_cases h2 : x = n
      · rw [if_pos h2, if_pos (by rw [h2]; exact List.mem_cons_self), h2]
      · rw [if_neg h2, if_neg (by simp [h1, h2])]
theorem its_chg {at_ n p : Int} {w : List Int} (hw : w.Nodup) (hr : ∀ x ∈ w, 1 ≤ x ∧ x ≤ 16) (hn : n ∈ w) (ht : ts.length = 17) (hp : 1 ≤ p ∧ p ≤ 16) :
    rchg (decide (at_ ≠ 0)) (its ts w) n p = its (setp ts n p) (if at_ = 0 then w else insF (setp ts n p) at_ n (w.filter fun x => decide (x ≠ n))) := by
  have hn16 := hr n hn
  have h0 := its_some (ts := ts) (w := w) (n := n)
  have hrem := its_rem (ts := ts) hw hn
  unfold rrem at hrem
  unfold rchg
  cases e : ridx (its ts w) n with
  | none => rw [e] at h0; simp [hn] at h0
  | some i =>
    rw [e] at hrem
    dsimp only at hrem ⊢
    rw [if_pos hp]
    obtain ⟨y, hy⟩ := ridx_id e
    have hi : w[i]? = some n := by
      rw [its, List.getElem?_map] at hy
      cases hw : w[i]? with
      | none => rw [hw] at hy; simp at hy
      | some z => rw [hw] at hy; simp at hy; rw [hy.1]
    have hil := (List.getElem?_eq_some_iff.1 hi).1
    by_cases ha : at_ = 0
    · rw [if_pos ha, if_neg (by simp [ha])]
      refine List.ext_getElem? fun j => ?_
      rw [List.getElem?_set, its, its, List.getElem?_map, List.getElem?_map]
      by_cases hj : i = j
      · subst hj
        rw [if_pos rfl, if_pos (by simpa using hil), hi, Option.map_some, tkp_setp ht hn16 hn16, if_pos rfl]
      · rw [if_neg hj]
        cases hx : w[j]? with
        | none => rfl
        | some x =>
          have hxn : x ≠ n := fun h => hj ((List.getElem?_inj hil hw).1 (by rw [hi, hx, h]))
          rw [Option.map_some, Option.map_some, tkp_setp ht hn16 (hr x (List.mem_of_getElem? hx)), if_neg hxn]
    · rw [if_neg ha, if_pos (by simp [ha]), hrem]
      have e1 : its ts (w.filter fun x => decide (x ≠ n)) = its (setp ts n p) (w.filter fun x => decide (x ≠ n)) := (its_same fun x hx => by
        rw [List.mem_filter] at hx
        rw [tkp_setp ht hn16 (hr x hx.1), if_neg (by simpa using hx.2)]).symm
      have e2 : p = tkp (setp ts n p) n := by rw [tkp_setp ht hn16 hn16, if_pos rfl]
      have e3 := its_put (ts := setp ts n p) (at_ := at_) (n := n) (w := w.filter fun x => decide (x ≠ n))
      rw [← e2, decide_eq_true ha] at e3
      rw [e1, e3]
theorem set_set {α : Type} {l : List α} {i : Nat} {x y : α} : (l.set i x).set i y = l.set i y := by simp
theorem stl_row {m : Nat} {at_ : Int} : ∀ (ns : List Int) {ms : List Mu} {ts : List Tk} {μ : Mu}, ms[m]? = some μ → μ.at_ = at_ → μ.w.Nodup → (∀ n ∈ μ.w, 1 ≤ n ∧ n ≤ 16) → ns.Nodup → (∀ n ∈ ns, n ∈ μ.w) → ts.length = 17 → (∀ n ∈ ns, tkp ts n = old n ∧ 1 ≤ pri n ∧ pri n ≤ 16) →
    ∃ w', ns.foldl (stlN pri m) (ms, ts) = (ms.set m { μ with w := w' }, spf pri ts ns) ∧ w'.Perm μ.w ∧ its (spf pri ts ns) w' = ns.foldl (rstep pri old (decide (at_ ≠ 0))) (its ts μ.w)
  | [], ms, ts, μ, h, _, _, _, _, _, _, _ => ⟨μ.w, by rw [set_same h]; rfl, List.Perm.refl _, rfl⟩
  | n :: ns, ms, ts, μ, h, ha, hw, hr, hns, hin, ht, ho => by
    obtain ⟨ho1, ho2⟩ := ho n List.mem_cons_self
    have hnw := hin n List.mem_cons_self
    have hn16 := hr n hnw
    obtain ⟨hns1, hns2⟩ := List.nodup_cons.1 hns
    have hml := (List.getElem?_eq_some_iff.1 h).1
    rw [List.foldl_cons, List.foldl_cons]
    by_cases hp : pri n = old n
    · have e1 : stlN pri m (ms, ts) n = (ms, ts) := if_pos (by rw [ho1]; exact hp)
      have e2 : rstep pri old (decide (at_ ≠ 0)) (its ts μ.w) n = its ts μ.w := if_neg (by simpa using hp)
      have e3 : spf pri ts (n :: ns) = spf pri ts ns := by
        show spf pri (setp ts n (pri n)) ns = _
        rw [setp_self ht hn16 (by rw [ho1, hp])]
      rw [e1, e2, e3]
      exact stl_row ns h ha hw hr hns2 (fun x hx => hin x (List.mem_cons_of_mem _ hx)) ht fun x hx => ho x (List.mem_cons_of_mem _ hx)
    · have e2 : rstep pri old (decide (at_ ≠ 0)) (its ts μ.w) n = rchg (decide (at_ ≠ 0)) (its ts μ.w) n (pri n) := if_pos hp
      rw [e2, its_chg hw hr hnw ht ho2]
      generalize hw1 : (if at_ = 0 then μ.w else insF (setp ts n (pri n)) at_ n (μ.w.filter fun x => decide (x ≠ n))) = w1
      have hperm : w1.Perm μ.w := by
        rw [← hw1]
        split
        · exact List.Perm.refl _
        · refine insF_perm.trans ?_
          obtain ⟨i, hi⟩ := List.getElem?_of_mem hnw
          rw [← take_filter hw hi]
          refine List.perm_middle.symm.trans ?_
          obtain ⟨h1, h2⟩ := List.getElem?_eq_some_iff.1 hi
          rw [← h2]; simp
      have e1 : stlN pri m (ms, ts) n = (ms.set m { μ with w := w1 }, setp ts n (pri n)) := by
        unfold stlN
        rw [if_neg (by dsimp only; rw [ho1]; exact hp)]
        dsimp only
        refine Prod.ext ?_ rfl
        dsimp only
        unfold leaveF
        rw [muW_some h]
        unfold rejoinF
        rw [muW_some (μ := { μ with w := if μ.at_ = 0 then μ.w else μ.w.filter fun w => decide (w ≠ n) }) (by rw [List.getElem?_set, if_pos rfl, if_pos hml]), set_set]
        congr 2
        rw [← hw1, ha]
        dsimp only
        by_cases h0 : at_ = 0
        · rw [if_pos h0, if_pos h0, if_pos h0]
        · rw [if_neg h0, if_neg h0, if_neg h0]
      rw [e1]
      have hnd : w1.Nodup := hperm.nodup_iff.2 hw
      obtain ⟨w', g1, g2, g3⟩ := stl_row ns (ms := ms.set m { μ with w := w1 }) (ts := setp ts n (pri n)) (μ := { μ with w := w1 }) (by rw [List.getElem?_set, if_pos rfl, if_pos hml]) ha hnd (fun x hx => hr x (hperm.mem_iff.1 hx)) hns2
        (fun x hx => hperm.mem_iff.2 (hin x (List.mem_cons_of_mem _ hx))) (by rw [setp_len]; exact ht) (fun x hx => by
          have hx1 := ho x (List.mem_cons_of_mem _ hx)
          have hxn : x ≠ n := fun h => hns1 (h ▸ hx)
          refine ⟨?_, hx1.2⟩
          rw [tkp_setp ht hn16 (hr x (hin x (List.mem_cons_of_mem _ hx))), if_neg hxn]
          exact hx1.1)
      refine ⟨w', ?_, g2.trans hperm, g3⟩
      rw [g1, set_set]; rfl
theorem muw_set {m k : Nat} {μ μ' : Mu} (h : ms[m]? = some μ) : muw (ms.set m μ') k = if k = m then μ'.w else muw ms k := by
  have hl := (List.getElem?_eq_some_iff.1 h).1
  unfold muw
  rw [List.getElem?_set]
  by_cases e : k = m
  · rw [if_pos e.symm, if_pos hl, if_pos e]; rfl
  · rw [if_neg (fun h => e h.symm), if_neg e]
theorem stl_all : ∀ (l : List Nat) {ms : List Mu} {ts : List Tk}, l.Nodup → (∀ m ∈ l, m < ms.length) → ts.length = 17 → (∀ m, (muw ms m).Nodup ∧ ∀ n ∈ muw ms m, 1 ≤ n ∧ n ≤ 16) → (∀ m m' n, n ∈ muw ms m → n ∈ muw ms m' → m = m') →
    (∀ m ∈ l, ∀ n ∈ muw ms m, tkp ts n = old n ∧ 1 ≤ pri n ∧ pri n ≤ 16) →
    ∃ W : Nat → List Int, (l.foldl (stlM pri) (ms, ts)).2 = spf pri ts (l.flatMap (muw ms)) ∧ (l.foldl (stlM pri) (ms, ts)).1.length = ms.length ∧ ∀ m μ, ms[m]? = some μ → (l.foldl (stlM pri) (ms, ts)).1[m]? = some { μ with w := W m } ∧ (W m).Perm μ.w ∧ (m ∉ l → W m = μ.w) ∧
      (m ∈ l → its (spf pri ts (l.flatMap (muw ms))) (W m) = μ.w.foldl (rstep pri old (decide (μ.at_ ≠ 0))) (its ts μ.w))
  | [], ms, ts, _, _, _, _, _, _ => ⟨muw ms, rfl, rfl, fun m μ h => ⟨by rw [muw_some h]; exact h, by rw [muw_some h], fun _ => muw_some h, fun hm => by cases hm⟩⟩
  | m0 :: l, ms, ts, hl, hlt, ht, hok, hdj, hold => by
    obtain ⟨hl1, hl2⟩ := List.nodup_cons.1 hl
    have hm0 := hlt m0 List.mem_cons_self
    have h0 : ms[m0]? = some (ms[m0]'hm0) := List.getElem?_eq_getElem hm0
    generalize ms[m0]'hm0 = μ0 at h0
    have hw0 : muw ms m0 = μ0.w := muw_some h0
    have hok0 := hok m0
    have hold0 := hold m0 List.mem_cons_self
    rw [hw0] at hok0 hold0
    obtain ⟨w', e1, e2, e3⟩ := stl_row (pri := pri) (old := old) μ0.w h0 rfl hok0.1 hok0.2 hok0.1 (fun _ h => h) ht hold0
    have e0 : stlM pri (ms, ts) m0 = (ms.set m0 { μ0 with w := w' }, spf pri ts μ0.w) := by unfold stlM; rw [hw0]; exact e1
    rw [List.foldl_cons, e0]
    have hmu : ∀ k, muw (ms.set m0 { μ0 with w := w' }) k = if k = m0 then w' else muw ms k := fun k => muw_set h0
    have hne : ∀ m ∈ l, m ≠ m0 := fun m hm h => hl1 (h ▸ hm)
    have hfl : l.flatMap (muw (ms.set m0 { μ0 with w := w' })) = l.flatMap (muw ms) := by
      rw [List.flatMap_def, List.flatMap_def]
      congr 1
      exact List.map_congr_left fun m hm => by rw [hmu, if_neg (hne m hm)]
    have hts1 : (spf pri ts μ0.w).length = 17 := by rw [spf_len]; exact ht
    have hkeep : ∀ m, m ≠ m0 → ∀ n ∈ muw ms m, tkp (spf pri ts μ0.w) n = tkp ts n := fun m hm n hn => by
      rw [tkp_spf μ0.w ht hok0.2 ((hok m).2 n hn), if_neg]
      intro hx
      exact hm (hdj m m0 n hn (by rw [hw0]; exact hx))
    obtain ⟨W, g1, g2, g3⟩ := stl_all l (ms := ms.set m0 { μ0 with w := w' }) (ts := spf pri ts μ0.w) hl2 (fun m hm => by rw [List.length_set]; exact hlt m (List.mem_cons_of_mem _ hm)) hts1
      (fun m => by
        rw [hmu]
        split
        · exact ⟨e2.nodup_iff.2 hok0.1, fun n hn => hok0.2 n (e2.mem_iff.1 hn)⟩
        · exact hok m)
      (fun m m' n h1 h2 => by
        rw [hmu] at h1 h2
        have t1 : n ∈ muw ms m := by
          by_cases e : m = m0
          · rw [if_pos e] at h1; rw [e, hw0]; exact e2.mem_iff.1 h1
          · rw [if_neg e] at h1; exact h1
        have t2 : n ∈ muw ms m' := by
          by_cases e : m' = m0
          · rw [if_pos e] at h2; rw [e, hw0]; exact e2.mem_iff.1 h2
          · rw [if_neg e] at h2; exact h2
        exact hdj m m' n t1 t2)
      (fun m hm n hn => by
        rw [hmu, if_neg (hne m hm)] at hn
        have := hold m (List.mem_cons_of_mem _ hm) n hn
        exact ⟨by rw [hkeep m (hne m hm) n hn]; exact this.1, this.2⟩)
    rw [hfl, spf_app] at g1
    have hfm : (m0 :: l).flatMap (muw ms) = μ0.w ++ l.flatMap (muw ms) := by rw [List.flatMap_cons, hw0]
    have hall : ∀ n ∈ μ0.w ++ l.flatMap (muw ms), 1 ≤ n ∧ n ≤ 16 := fun n hn => by
      rcases List.mem_append.1 hn with h | h
      · exact hok0.2 n h
      · obtain ⟨m, _, h2⟩ := List.mem_flatMap.1 h
        exact (hok m).2 n h2
    refine ⟨W, by rw [hfm]; exact g1, by rw [g2, List.length_set], fun m μ hμ => ?_⟩
    by_cases e : m = m0
    · subst e
      have hμ0 : μ = μ0 := by rw [h0] at hμ; exact (Option.some.inj hμ).symm
      subst hμ0
      obtain ⟨k1, k2, k3, _⟩ := g3 m { μ with w := w' } (by rw [List.getElem?_set, if_pos rfl, if_pos hm0])
      have hW : W m = w' := k3 hl1
      refine ⟨by rw [k1], by rw [hW]; exact e2, fun h => absurd List.mem_cons_self h, fun _ => ?_⟩
      rw [hfm, hW, ← e3]
      refine its_same fun n hn => ?_
      have hn0 := e2.mem_iff.1 hn
      rw [tkp_spf _ ht hall (hok0.2 n hn0), tkp_spf _ ht hok0.2 (hok0.2 n hn0), if_pos (List.mem_append_left _ hn0), if_pos hn0]
    · obtain ⟨k1, k2, k3, k4⟩ := g3 m μ (by rw [List.getElem?_set, if_neg (fun h => e h.symm)]; exact hμ)
      refine ⟨k1, k2, fun h => k3 fun h' => h (List.mem_cons_of_mem _ h'), fun h => ?_⟩
      have hml : m ∈ l := by
        rcases List.mem_cons.1 h with h | h
        · exact absurd h e
        · exact h
      have h5 := k4 hml
      rw [hfl, spf_app] at h5
      rw [hfm, h5]
      congr 1
      exact its_same fun n hn => hkeep m e n (by rw [muw_some hμ]; exact hn)
end
end Go.AM

/-
  The document's mutexes and the program's: settled, all that holds holds again.
-/
namespace Go.AM
structure MJ (ms : List Mu) (ts : List Tk) : Prop extends MJ0 ms ts where
  st : ∀ n, 1 ≤ n ∧ n ≤ 16 → tkp ts n = rk ms ts 17 n
section
variable {ms ms' : List Mu} {ts ts' : List Tk}
theorem mn_comm (z a b : Int) : mn (mn z a) b = mn (mn z b) a := by
  unfold mn
  by_cases h1 : a < z <;> by_cases h2 : b < z <;> by_cases h3 : b < a <;> by_cases h4 : a < b <;> simp [*] <;> omega
theorem rk_perm (hl : ms'.length = ms.length) (hm : ∀ (m : Nat) (μ : Mu), ms[m]? = some μ → ∃ w, ms'[m]? = some { μ with w := w } ∧ w.Perm μ.w) (hb : ∀ x, tkb ts' x = tkb ts x) : ∀ (f : Nat) (n : Int), rk ms' ts' f n = rk ms ts f n
  | 0, n => hb n
  | f + 1, n => by
    show (ms'.drop 1).foldl _ (tkb ts' n) = (ms.drop 1).foldl _ (tkb ts n)
    rw [hb]
    have e1 := fold_idx' (ms.drop 1) (fun p i => match (ms.drop 1)[i]? with | some x => (if x.ow ≠ n then p else if x.at_ = 3 then mn p x.ce else if x.at_ = 2 then x.w.foldl (fun p w => mn p (rk ms ts f w)) p else p) | none => p) (fun p x => if x.ow ≠ n then p else if x.at_ = 3 then mn p x.ce else if x.at_ = 2 then x.w.foldl (fun p w => mn p (rk ms ts f w)) p else p) (fun i x p h => by rw [h]) (tkb ts n) (k := ms.length - 1) (by simp)
    rw [← e1]
    refine (fold_idx' (ms'.drop 1) (fun p i => match (ms.drop 1)[i]? with | some x => (if x.ow ≠ n then p else if x.at_ = 3 then mn p x.ce else if x.at_ = 2 then x.w.foldl (fun p w => mn p (rk ms ts f w)) p else p) | none => p) (fun p x => if x.ow ≠ n then p else if x.at_ = 3 then mn p x.ce else if x.at_ = 2 then x.w.foldl (fun p w => mn p (rk ms' ts' f w)) p else p) (fun i x p h => ?_) (tkb ts n) (k := ms.length - 1) (by simp [hl])).symm
    have hi : i + 1 < ms.length := by
      have := (List.getElem?_eq_some_iff.1 h).1
      rw [List.length_drop] at this; omega
    have h0 : ms[i + 1]? = some (ms[i + 1]'hi) := List.getElem?_eq_getElem hi
    generalize ms[i + 1]'hi = μ at h0
    obtain ⟨w, h1, h2⟩ := hm _ _ h0
    have hx : x = { μ with w := w } := by
      rw [List.getElem?_drop, Nat.add_comm, h1] at h
      exact (Option.some.inj h).symm
    rw [List.getElem?_drop, Nat.add_comm 1 i, h0, hx]
    dsimp only
    have e : w.foldl (fun p w => mn p (rk ms' ts' f w)) p = μ.w.foldl (fun p w => mn p (rk ms ts f w)) p := by
      rw [foldl_congr_mem w p (g := fun p w => mn p (rk ms ts f w)) fun y _ q => by rw [rk_perm hl hm hb f y]]
      exact h2.foldl_eq' (f := fun p w => mn p (rk ms ts f w)) (fun x _ y _ z => mn_comm z _ _) p
    rw [e]
structure StO (ms : List Mu) (ts : List Tk) (ms' : List Mu) (ts' : List Tk) : Prop where
  len : ms'.length = ms.length
  mu : ∀ (m : Nat) (μ : Mu), ms[m]? = some μ → ∃ w, ms'[m]? = some { μ with w := w } ∧ w.Perm μ.w
  tl : ts'.length = ts.length
  b : ∀ x, tkb ts' x = tkb ts x
  w : ∀ x, tkw ts' x = tkw ts x
theorem StO.muw (h : StO ms ts ms' ts') (m : Nat) : (muw ms' m).Perm (muw ms m) := by
  cases e : ms[m]? with
  | none =>
    have e' : ms'[m]? = none := by rw [List.getElem?_eq_none_iff] at e ⊢; rw [h.len]; exact e
    unfold Go.AM.muw
    rw [e, e']
  | some μ =>
    obtain ⟨w, h1, h2⟩ := h.mu m μ e
    rw [muw_some e, muw_some h1]; exact h2
theorem StO.mow (h : StO ms ts ms' ts') (m : Int) : mow ms' m = mow ms m := by
  cases e : ms[m.toNat]? with
  | none =>
    have e' : ms'[m.toNat]? = none := by rw [List.getElem?_eq_none_iff] at e ⊢; rw [h.len]; exact e
    unfold Go.AM.mow
    rw [e, e']
  | some μ =>
    obtain ⟨w, h1, _⟩ := h.mu _ μ e
    rw [mow_some e, mow_some h1]
theorem MJ0.settled (hJ : MJ0 ms ts) (h : StO ms ts ms' ts') (hi : MuI ms' ts') (hp : ∀ n, 1 ≤ n ∧ n ≤ 16 → tkp ts' n = rk ms ts 17 n) : MJ ms' ts' where
  i := hi
  tl := h.tl.trans hJ.tl
  ak := fun x hx => by
    obtain ⟨k, hk⟩ := List.getElem?_of_mem hx
    have hl := (List.getElem?_eq_some_iff.1 hk).1
    have h0 : ms[k]? = some (ms[k]'(by rw [← h.len]; exact hl)) := List.getElem?_eq_getElem _
    obtain ⟨w, h1, _⟩ := h.mu k _ h0
    rw [hk] at h1
    have := hJ.ak _ (List.mem_of_getElem? h0)
    cases h1; exact this
  b := fun n hn => by rw [h.b]; exact hJ.b n hn
  wr := fun n hn m hm => by rw [(h.muw m).mem_iff, h.w]; exact hJ.wr n hn m hm
  w0 := by
    have := h.muw 0
    rw [hJ.w0] at this
    exact this.eq_nil
  z := fun m hm => by
    rw [h.mow] at hm
    have := h.muw m
    rw [hJ.z m hm] at this
    exact this.eq_nil
  r := by
    obtain ⟨r, hr⟩ := hJ.r
    exact ⟨r, fun m w hw => by rw [h.mow]; exact hr m w ((h.muw m).mem_iff.1 hw)⟩
  st := fun n hn => by rw [hp n hn, rk_perm h.len h.mu h.b]
theorem MJ0.disj (hJ : MJ0 ms ts) (m m' : Nat) (n : Int) (h1 : n ∈ muw ms m) (h2 : n ∈ muw ms m') : m = m' := by
  have hn := (muw_ok hJ.i.v m).1 n h1
  have a1 : 1 ≤ m := by
    rcases Nat.eq_zero_or_pos m with h | h
    · rw [h, hJ.w0] at h1; cases h1
    · exact h
  have a2 : 1 ≤ m' := by
    rcases Nat.eq_zero_or_pos m' with h | h
    · rw [h, hJ.w0] at h2; cases h2
    · exact h
  have e1 := (hJ.wr n hn m a1).1 h1
  have e2 := (hJ.wr n hn m' a2).1 h2
  omega
theorem rf_ext {A B : Rf} (h1 : A.ks = B.ks) (h2 : A.ow = B.ow) (h3 : A.qs = B.qs) (h4 : A.bs = B.bs) (h5 : A.nw = B.nw) : A = B := by
  cases A; cases B; cases h1; cases h2; cases h3; cases h4; cases h5; rfl
def ns16 : List Int := (List.range' 1 16).map fun (k : Nat) => (k : Int)
theorem mem_ns16 {n : Int} : n ∈ ns16 ↔ 1 ≤ n ∧ n ≤ 16 := by
  unfold ns16
  constructor
  · intro h
    obtain ⟨k, h2, rfl⟩ := List.mem_map.1 h
    have := List.mem_range'_1.1 h2
    omega
  · intro h
    exact List.mem_map.2 ⟨n.toNat, List.mem_range'_1.2 (by omega), by omega⟩
theorem settle_2 (ms : List Mu) (ts : List Tk) : (settleF ms ts).2 = spf (rk ms ts 17) ((List.range' 1 (ms.length - 1)).foldl (stlM (rk ms ts 17)) (ms, ts)).2 ns16 := by
  unfold settleF spf ns16
  dsimp only
  rw [List.foldl_map]
theorem settle_1 (ms : List Mu) (ts : List Tk) : (settleF ms ts).1 = ((List.range' 1 (ms.length - 1)).foldl (stlM (rk ms ts 17)) (ms, ts)).1 := by
  unfold settleF
  dsimp only
attribute [local irreducible] settleF ns16
theorem settle_ok (hJ : MJ0 ms ts) : StO ms ts (settleF ms ts).1 (settleF ms ts).2 ∧ (∀ n, 1 ≤ n ∧ n ≤ 16 → tkp (settleF ms ts).2 n = rk ms ts 17 n) ∧ rsettle (rfOf ms ts) = rfOf (settleF ms ts).1 (settleF ms ts).2 := by
  obtain ⟨W, e1, e2, e3⟩ := stl_all (pri := rk ms ts 17) (old := fun n => tkp ts n) (List.range' 1 (ms.length - 1)) (ms := ms) (ts := ts) (List.nodup_range') (fun m hm => by have := List.mem_range'_1.1 hm; omega) hJ.tl
    (fun m => ⟨(muw_ok hJ.i.v m).2, (muw_ok hJ.i.v m).1⟩) (fun m m' n h1 h2 => hJ.disj m m' n h1 h2) (fun m _ n hn => ⟨rfl, rk_rng hJ 17 ((muw_ok hJ.i.v m).1 n hn)⟩)
  have hs2 : (settleF ms ts).2 = spf (rk ms ts 17) ts ((List.range' 1 (ms.length - 1)).flatMap (muw ms) ++ ns16) := by
    rw [← spf_app, ← e1]
    exact settle_2 ms ts
  have hs1 : (settleF ms ts).1 = ((List.range' 1 (ms.length - 1)).foldl (stlM (rk ms ts 17)) (ms, ts)).1 := settle_1 ms ts
  rw [← hs1] at e2 e3
  have hrg : ∀ n ∈ (List.range' 1 (ms.length - 1)).flatMap (muw ms) ++ ns16, 1 ≤ n ∧ n ≤ 16 := fun n hn => by
    rcases List.mem_append.1 hn with h | h
    · obtain ⟨m, _, h2⟩ := List.mem_flatMap.1 h
      exact (muw_ok hJ.i.v m).1 n h2
    · exact mem_ns16.1 h
  have hp : ∀ n, 1 ≤ n ∧ n ≤ 16 → tkp (settleF ms ts).2 n = rk ms ts 17 n := fun n hn => by
    rw [hs2, tkp_spf _ hJ.tl hrg hn, if_pos]
    exact List.mem_append_right _ (mem_ns16.2 hn)
  have hO : StO ms ts (settleF ms ts).1 (settleF ms ts).2 := ⟨e2, fun m μ h => ⟨W m, (e3 m μ h).1, (e3 m μ h).2.1⟩, by rw [hs2, spf_len], fun x => by rw [hs2]; exact (spf_b _).1, fun x => by rw [hs2]; exact (spf_b _).2⟩
  refine ⟨hO, hp, ?_⟩
  have hix : ∀ {β : Type} (f g : Mu → β), (∀ (m : Nat) (μ : Mu), 1 ≤ m → ms[m]? = some μ → f μ = g { μ with w := W m }) → (ms.drop 1).map f = ((settleF ms ts).1.drop 1).map g := fun f g h => by
    refine List.ext_getElem? fun i => ?_
    rw [List.getElem?_map, List.getElem?_map, List.getElem?_drop, List.getElem?_drop, Nat.add_comm]
    cases e : ms[i + 1]? with
    | none =>
      have e' : (settleF ms ts).1[i + 1]? = none := by rw [List.getElem?_eq_none_iff] at e ⊢; rw [e2]; exact e
      rw [e']; rfl
    | some μ =>
      rw [(e3 _ μ e).1]
      exact congrArg some (h _ μ (by omega) e)
  have htx : ∀ (f : Tk → Int) (v : Nat → Int), (∀ k τ τ', 1 ≤ k → ts[k]? = some τ → (settleF ms ts).2[k]? = some τ' → v k = f τ') → ∀ k, 1 ≤ k → k < 17 → ((0 :: ((settleF ms ts).2.drop 1).map f)[k]?) = some (v k) := fun f v h k h1 h2 => by
    obtain ⟨j, rfl⟩ : ∃ j, k = j + 1 := ⟨k - 1, by omega⟩
    have hl : (settleF ms ts).2.length = 17 := hO.tl.trans hJ.tl
    have a1 : ts[j + 1]? = some (ts[j + 1]'(by rw [hJ.tl]; exact h2)) := List.getElem?_eq_getElem _
    have a2 : (settleF ms ts).2[j + 1]? = some ((settleF ms ts).2[j + 1]'(by rw [hl]; exact h2)) := List.getElem?_eq_getElem _
    rw [List.getElem?_cons_succ, List.getElem?_map, List.getElem?_drop, Nat.add_comm, a2, h _ _ _ h1 a1 a2]
    rfl
  refine rf_ext ?_ ?_ ?_ ?_ ?_
  · exact hix _ _ fun _ _ _ _ => rfl
  · exact hix _ _ fun _ _ _ _ => rfl
  · show (rfOf ms ts).qs.map (rstl (rfOf ms ts)) = _
    show ((ms.drop 1).map _).map _ = _
    rw [List.map_map]
    refine hix _ _ fun m μ hm hμ => ?_
    have hml : m ∈ List.range' 1 (ms.length - 1) := List.mem_range'_1.2 (by have := (List.getElem?_eq_some_iff.1 hμ).1; omega)
    have hw16 := hJ.i.v.w μ (List.mem_of_getElem? hμ)
    show rstl (rfOf ms ts) (decide (μ.at_ ≠ 0), its ts μ.w) = (decide (μ.at_ ≠ 0), its (settleF ms ts).2 (W m))
    refine Prod.ext rfl ?_
    show ((its ts μ.w).map Prod.fst).foldl _ (its ts μ.w) = its (settleF ms ts).2 (W m)
    rw [its_fst]
    have h4 := (e3 m μ hμ).2.2.2 hml
    have h5 : its (settleF ms ts).2 (W m) = its (spf (rk ms ts 17) ts ((List.range' 1 (ms.length - 1)).flatMap (muw ms))) (W m) := its_same fun n hn => by
      have hn0 := ((e3 m μ hμ).2.1).mem_iff.1 hn
      rw [hp n (hw16 n hn0), tkp_spf _ hJ.tl (fun x hx => hrg x (List.mem_append_left _ hx)) (hw16 n hn0), if_pos (List.mem_flatMap.2 ⟨m, hml, by rw [muw_some hμ]; exact hn0⟩)]
    rw [h5, h4]
    refine foldl_congr_mem _ _ fun n hn l => ?_
    have hn16 := hw16 n hn
    unfold rstep
    rw [rpri_eq hJ hn16, (rf_bs hJ.tl hn16).2]
  · show (0 :: (ts.drop 1).map Tk.b) = 0 :: ((settleF ms ts).2.drop 1).map Tk.b
    congr 1
    refine List.ext_getElem? fun i => ?_
    rw [List.getElem?_map, List.getElem?_map, List.getElem?_drop, List.getElem?_drop]
    have hl : (settleF ms ts).2.length = ts.length := hO.tl
    cases e : ts[1 + i]? with
    | none =>
      have e' : (settleF ms ts).2[1 + i]? = none := by rw [List.getElem?_eq_none_iff] at e ⊢; rw [hl]; exact e
      rw [e']
    | some τ =>
      have hi := (List.getElem?_eq_some_iff.1 e).1
      have e' : (settleF ms ts).2[1 + i]? = some ((settleF ms ts).2[1 + i]'(by rw [hl]; exact hi)) := List.getElem?_eq_getElem _
      have hb := hO.b ((1 + i : Nat) : Int)
      rw [tkb_some (n := ((1 + i : Nat) : Int)) e', tkb_some (n := ((1 + i : Nat) : Int)) e] at hb
      rw [e']
      exact congrArg some hb.symm
  · show rnow (rfOf ms ts) 17 = 0 :: ((settleF ms ts).2.drop 1).map Tk.p
    have hl : (settleF ms ts).2.length = 17 := hO.tl.trans hJ.tl
    refine List.ext_getElem? fun k => ?_
    unfold rnow
    by_cases hk : k < 17
    · rw [List.getElem?_map, List.getElem?_range hk]
      rcases Nat.eq_zero_or_pos k with h0 | h0
      · subst h0; rfl
      · rw [htx Tk.p (fun k => if 1 ≤ k ∧ k < 17 then rpri (rfOf ms ts) 16 (k : Int) else 0) (fun j τ τ' hj h1 h2 => ?_) k h0 hk]
        · rfl
        · have hj17 : j < 17 := by rw [← hl]; exact (List.getElem?_eq_some_iff.1 h2).1
          rw [if_pos ⟨hj, hj17⟩, rpri_eq hJ (by omega), ← hp _ (by omega), tkp_some (τ := τ') (by simpa using h2)]
    · rw [List.getElem?_eq_none (by simp; omega), List.getElem?_eq_none (by simp [hl]; omega)]
end
end Go.AM

/-
  The document's mutexes and the program's: each call alike.
-/
namespace Go.AM
attribute [local irreducible] settleF rsettle
section
variable {ms : List Mu} {ts : List Tk}
theorem settleJ (hJ : MJ0 ms ts) : MJ (settleF ms ts).1 (settleF ms ts).2 := hJ.settled (settle_ok hJ).1 hJ.i.settle (settle_ok hJ).2.1
theorem settleE (hJ : MJ0 ms ts) : rsettle (rfOf ms ts) = rfOf (settleF ms ts).1 (settleF ms ts).2 := (settle_ok hJ).2.2
theorem rf_m {m : Int} (h : 1 ≤ m ∧ m < ms.length) : ∃ (i : Nat) (μ : Mu), m = ((i + 1 : Nat) : Int) ∧ (m - 1).toNat = i ∧ ms[i + 1]? = some μ ∧ rOw (rfOf ms ts) (m - 1).toNat = μ.ow ∧ rKk (rfOf ms ts) (m - 1).toNat = (μ.at_, μ.ce) ∧ rQq (rfOf ms ts) (m - 1).toNat = (decide (μ.at_ ≠ 0), its ts μ.w) ∧ mow ms m = μ.ow ∧ mat ms m = μ.at_ ∧ mce ms m = μ.ce ∧ muw ms m.toNat = μ.w := by
  obtain ⟨i, hi⟩ : ∃ i : Nat, m = ((i + 1 : Nat) : Int) := ⟨(m - 1).toNat, by omega⟩
  have e1 : (m - 1).toNat = i := by omega
  have e2 : m.toNat = i + 1 := by omega
  have h0 : ms[i + 1]? = some (ms[i + 1]'(by omega)) := List.getElem?_eq_getElem _
  obtain ⟨a1, a2, a3⟩ := rf_k (ts := ts) i h0
  have h1 : ms[m.toNat]? = some (ms[i + 1]'(by omega)) := by rw [e2]; exact h0
  exact ⟨i, _, hi, e1, h0, by rw [e1]; exact a1, by rw [e1]; exact a2, by rw [e1]; exact a3, mow_some h1, mat_some h1, mce_some h1, muw_some h1⟩
theorem drop_set1 {i : Nat} {x : Mu} : (ms.set (i + 1) x).drop 1 = (ms.drop 1).set i x := by
  cases ms with
  | nil => rfl
  | cons a l => rfl
theorem rf_set {i : Nat} {μ' : Mu} : rfOf (ms.set (i + 1) μ') ts = ⟨(rfOf ms ts).ks.set i (μ'.at_, μ'.ce), (rfOf ms ts).ow.set i μ'.ow, (rfOf ms ts).qs.set i (decide (μ'.at_ ≠ 0), its ts μ'.w), (rfOf ms ts).bs, (rfOf ms ts).nw⟩ := by
  unfold rfOf
  rw [drop_set1, List.map_set, List.map_set, List.map_set]
theorem rf_get3 {i : Nat} {μ : Mu} (h : ms[i + 1]? = some μ) : (rfOf ms ts).ks[i]? = some (μ.at_, μ.ce) ∧ (rfOf ms ts).ow[i]? = some μ.ow ∧ (rfOf ms ts).qs[i]? = some (decide (μ.at_ ≠ 0), its ts μ.w) := by
  have e : (ms.drop 1)[i]? = some μ := by rw [List.getElem?_drop, Nat.add_comm]; exact h
  refine ⟨?_, ?_, ?_⟩ <;> simp only [rfOf, List.getElem?_map, e, Option.map_some]
theorem rf_setO {i : Nat} {μ : Mu} {o : Int} (h : ms[i + 1]? = some μ) : rfOf (setO ms ((i + 1 : Nat) : Int) o) ts = { rfOf ms ts with ow := (rfOf ms ts).ow.set i o } := by
  rw [setO_some (μ := μ) (by exact h)]
  show rfOf (ms.set (i + 1) _) ts = _
  rw [rf_set]
  obtain ⟨a1, a2, a3⟩ := rf_get3 (ts := ts) h
  dsimp only
  rw [set_same a1, set_same a3]
theorem rwt_eq (hJ : MJ0 ms ts) {n : Int} (hn : 1 ≤ n ∧ n ≤ 16) : rwt (rfOf ms ts) n = if tkw ts n = 0 then none else some (tkw ts n - 1).toNat := by
  have key : ∀ i μ, ms[i + 1]? = some μ → ((ridx (its ts μ.w) n).isSome = true ↔ tkw ts n = ((i + 1 : Nat) : Int)) := fun i μ h => by
    rw [its_some, decide_eq_true_iff, ← hJ.wr n hn (i + 1) (by omega), muw_some h]
  obtain ⟨τ, hτ⟩ := ts_at hJ.tl hn
  have hw := hJ.i.t τ (List.mem_of_getElem? hτ)
  rw [← tkw_some hτ] at hw
  have hlen : (rfOf ms ts).qs.length = ms.length - 1 := by simp [rfOf]
  have get : ∀ j (hj : j < (rfOf ms ts).qs.length), ∃ μ, ms[j + 1]? = some μ ∧ (rfOf ms ts).qs[j] = (decide (μ.at_ ≠ 0), its ts μ.w) := fun j hj => by
    rw [hlen] at hj
    have h0 : ms[j + 1]? = some (ms[j + 1]'(by omega)) := List.getElem?_eq_getElem _
    have h3 := (rf_get3 (ts := ts) h0).2.2
    exact ⟨_, h0, (List.getElem?_eq_some_iff.1 h3).2⟩
  by_cases h0 : tkw ts n = 0
  · rw [if_pos h0]
    refine List.findIdx?_eq_none_iff.2 fun q hq => ?_
    obtain ⟨j, hj, rfl⟩ := List.getElem_of_mem hq
    obtain ⟨μ, h1, h2⟩ := get j hj
    rw [h2]
    cases hh : (ridx (its ts μ.w) n).isSome with
    | false => rfl
    | true => have := (key j μ h1).1 hh; omega
  · rw [if_neg h0]
    have hk : (tkw ts n - 1).toNat < (rfOf ms ts).qs.length := by rw [hlen]; omega
    refine List.findIdx?_eq_some_iff_getElem.2 ⟨hk, ?_, fun j hj => ?_⟩
    · obtain ⟨μ, h1, h2⟩ := get _ hk
      rw [h2]
      exact (key _ μ h1).2 (by omega)
    · obtain ⟨μ, h1, h2⟩ := get j (by omega)
      rw [h2]
      intro hh
      have := (key j μ h1).1 hh
      omega
theorem rf_base (hJ : MJ0 ms ts) {n : Int} (hn : 1 ≤ n ∧ n ≤ 16) : rBs (rfOf ms ts) n = tkb ts n := (rf_bs hJ.tl hn).1
theorem muw_setO {m : Int} {o : Int} (k : Nat) : muw (setO ms m o) k = muw ms k := by
  unfold setO
  cases h : ms[m.toNat]? with
  | none => rfl
  | some μ =>
    dsimp only
    rw [muw_set h]
    split
    · rename_i e; rw [e, muw_some h]
    · rfl
theorem mow_setO {i : Nat} {o : Int} {μ : Mu} (h : ms[i]? = some μ) (k : Nat) : mow (setO ms (i : Int) o) (k : Int) = if k = i then o else mow ms k := by
  have hl := (List.getElem?_eq_some_iff.1 h).1
  rw [setO_some (μ := μ) (by exact h)]
  unfold mow
  show Option.getD (Option.map Mu.ow ((ms.set i { μ with ow := o })[k]?)) 0 = _
  rw [List.getElem?_set]
  by_cases e : i = k
  · rw [if_pos e, if_pos hl, if_pos e.symm]; rfl
  · rw [if_neg e, if_neg (fun h => e h.symm)]; rfl
theorem MJ0.had (hJ : MJ0 ms ts) {i : Nat} {μ : Mu} (h : ms[i + 1]? = some μ) (h0 : μ.ow = 0) {n : Int} (hn : 1 ≤ n ∧ n ≤ 16) : MJ0 (setO ms ((i + 1 : Nat) : Int) n) ts where
  i := ⟨hJ.i.v.setO, fun x hx => by
      rcases setO_mem hx with h | ⟨μ', h1, rfl⟩
      · exact hJ.i.o x h
      · exact ⟨by dsimp only; omega, by dsimp only; omega⟩, fun τ hτ => by rw [setO_len]; exact hJ.i.t τ hτ⟩
  tl := hJ.tl
  ak := fun x hx => by
    rcases setO_mem hx with h | ⟨μ', h1, rfl⟩
    · exact hJ.ak x h
    · exact hJ.ak μ' h1
  b := hJ.b
  wr := fun x hx m hm => by rw [muw_setO]; exact hJ.wr x hx m hm
  w0 := by rw [muw_setO]; exact hJ.w0
  z := fun m hm => by
    rw [mow_setO h] at hm
    rw [muw_setO]
    split at hm
    · omega
    · exact hJ.z m hm
  r := by
    obtain ⟨r, hr⟩ := hJ.r
    refine ⟨r, fun m w hw => ?_⟩
    rw [muw_setO] at hw
    rw [mow_setO h]
    split
    · rename_i e
      rw [e, hJ.z (i + 1) (by rw [mow_some (μ := μ) (by exact h)]; exact h0)] at hw
      cases hw
    · exact hr m w hw
theorem try_eq (hJ : MJ ms ts) (m n : Int) : rtry (rfOf ms ts) m n = ((tryF ms ts m n).1, rfOf (tryF ms ts m n).2.1 (tryF ms ts m n).2.2) ∧ MJ (tryF ms ts m n).2.1 (tryF ms ts m n).2.2 := by
  unfold rtry tryF
  rw [rf_len]
  have hl := hJ.i.v.l0
  by_cases h1 : ¬ (1 ≤ m ∧ m < ms.length) ∨ ¬ (1 ≤ n ∧ n ≤ 16)
  · rw [if_pos h1, if_pos (by omega)]; exact ⟨rfl, hJ⟩
  · rw [if_neg h1, if_neg (by omega)]
    obtain ⟨i, μ, rfl, e1, e2, e3, e4, e5, e6, e7, e8, e9⟩ := rf_m (ms := ms) (ts := ts) (m := m) (by omega)
    rw [e3, e4, e6, e7, e8, rf_base hJ.toMJ0 (by omega), rwt_eq hJ.toMJ0 (by omega)]
    dsimp only
    obtain ⟨τ, hτ⟩ := ts_at hJ.tl (n := n) (by omega)
    have hw := hJ.i.t τ (List.mem_of_getElem? hτ)
    rw [← tkw_some hτ] at hw
    by_cases h2 : μ.ow = n
    · rw [if_pos h2, if_pos (.inl h2)]; exact ⟨rfl, hJ⟩
    · rw [if_neg h2]
      by_cases h3 : μ.at_ = 3 ∧ tkb ts n < μ.ce
      · rw [if_pos h3, if_pos (.inr h3)]; exact ⟨rfl, hJ⟩
      · have h23 : ¬ (μ.ow = n ∨ (μ.at_ = 3 ∧ tkb ts n < μ.ce)) := fun h => h.elim h2 h3
        rw [if_neg h3, if_neg h23]
        by_cases h4 : tkw ts n = 0
        · rw [if_pos h4, if_neg (show ¬ (none : Option Nat).isSome = true by decide), if_neg (show ¬ tkw ts n > 0 by omega)]
          by_cases h5 : μ.ow = 0
          · rw [if_pos h5, if_pos h5, e1]
            have h6 := hJ.toMJ0.had e2 h5 (n := n) (by omega)
            rw [← rf_setO e2, settleE h6]
            exact ⟨rfl, settleJ h6⟩
          · rw [if_neg h5, if_neg h5]; exact ⟨rfl, hJ⟩
        · rw [if_neg h4, if_pos (show (some (tkw ts n - 1).toNat).isSome = true from rfl), if_pos (show tkw ts n > 0 by omega)]; exact ⟨rfl, hJ⟩
theorem tkb_setw {n x w : Int} : tkb (setw ts n w) x = tkb ts x ∧ tkp (setw ts n w) x = tkp ts x := by
  unfold setw
  cases h : ts[n.toNat]? with
  | none => exact ⟨rfl, rfl⟩
  | some τ =>
    have hl := (List.getElem?_eq_some_iff.1 h).1
    dsimp only [tkb, tkp]
    rw [List.getElem?_set]
    by_cases e : n.toNat = x.toNat
    · rw [if_pos e, if_pos hl, ← e, h]; exact ⟨rfl, rfl⟩
    · rw [if_neg e]; exact ⟨rfl, rfl⟩
theorem tkw_setw (ht : ts.length = 17) {n x w : Int} (hn : 1 ≤ n ∧ n ≤ 16) (hx : 1 ≤ x ∧ x ≤ 16) : tkw (setw ts n w) x = if x = n then w else tkw ts x := by
  obtain ⟨τ, hτ⟩ := ts_at ht hn
  have hl := (List.getElem?_eq_some_iff.1 hτ).1
  rw [setw_some hτ]
  unfold tkw
  rw [List.getElem?_set]
  by_cases h : x = n
  · subst h; rw [if_pos rfl, if_pos hl, if_pos rfl]; rfl
  · rw [if_neg (by omega), if_neg h]
theorem rf_setw {n w : Int} : rfOf ms (setw ts n w) = rfOf ms ts := by
  have e : ∀ (f : Tk → Int), (∀ τ : Tk, f { τ with w := w } = f τ) → ((setw ts n w).drop 1).map f = (ts.drop 1).map f := fun f hf => by
    refine List.ext_getElem? fun i => ?_
    rw [List.getElem?_map, List.getElem?_map, List.getElem?_drop, List.getElem?_drop]
    unfold setw
    cases h : ts[n.toNat]? with
    | none => rfl
    | some τ =>
      have hl := (List.getElem?_eq_some_iff.1 h).1
      dsimp only
      rw [List.getElem?_set]
      by_cases e : n.toNat = 1 + i
      · rw [if_pos e, if_pos hl, ← e, h]; exact congrArg some (hf τ)
      · rw [if_neg e]
  unfold rfOf
  rw [e Tk.b fun _ => rfl, e Tk.p fun _ => rfl]
  congr 1
  exact List.map_congr_left fun μ _ => by rw [its_same fun x _ => tkb_setw.2]
def up (ms : List Mu) (ts : List Tk) (n : Int) : Int := if tkw ts n = 0 then 0 else mow ms (tkw ts n)
theorem up_rank (hJ : MJ0 ms ts) {r : Int → Nat} (hr : ∀ m : Nat, ∀ w ∈ muw ms m, r w < r (mow ms m)) {n : Int} (hn : 1 ≤ n ∧ n ≤ 16) (h : tkw ts n ≠ 0) : r n < r (mow ms (tkw ts n)) := by
  obtain ⟨τ, hτ⟩ := ts_at hJ.tl hn
  have hw := hJ.i.t τ (List.mem_of_getElem? hτ)
  rw [← tkw_some hτ] at hw
  have h1 := (hJ.wr n hn (tkw ts n).toNat (by omega)).2 (by omega)
  have h2 := hr _ n h1
  rwa [show (((tkw ts n).toNat : Nat) : Int) = tkw ts n by omega] at h2
theorem mow_rng (hJ : MJ0 ms ts) (m : Int) : 0 ≤ mow ms m ∧ mow ms m ≤ 16 := by
  unfold mow
  cases h : ms[m.toNat]? with
  | none => exact ⟨Int.le_refl _, by decide⟩
  | some μ => exact hJ.i.o μ (List.mem_of_getElem? h)
theorem round_eq (hJ : MJ0 ms ts) {r : Int → Nat} (hr : ∀ m : Nat, ∀ w ∈ muw ms m, r w < r (mow ms m)) (n : Int) : ∀ (k : Nat) (P : List Int) (o : Int), (o :: P).Nodup → (∀ x ∈ o :: P, 1 ≤ x ∧ x ≤ 16) → (∀ x ∈ P, r x < r o) → k + P.length = 17 → o ≠ n → n ≠ 0 → rround (rfOf ms ts) n k o = ovF ms ts n k o
  | 0, P, o, h1, h2, _, h4, _, _ => by
    have := nodup_le16 h1 h2
    simp only [List.length_cons] at this
    omega
  | k + 1, P, o, h1, h2, h3, h4, h5, hn0 => by
    have ho := h2 o List.mem_cons_self
    unfold rround ovF
    rw [if_neg (by omega), if_neg h5, rwt_eq hJ ho]
    by_cases h0 : tkw ts o = 0
    · rw [if_pos h0, if_pos h0]
    · rw [if_neg h0, if_neg h0]
      dsimp only
      obtain ⟨τ, hτ⟩ := ts_at hJ.tl ho
      have hw := hJ.i.t τ (List.mem_of_getElem? hτ)
      rw [← tkw_some hτ] at hw
      obtain ⟨i, μ, e0, e1, e2, e3, _, _, e6, _⟩ := rf_m (ms := ms) (ts := ts) (m := tkw ts o) (by omega)
      rw [e3, e6]
      have hup := up_rank hJ hr ho h0
      have hmr := mow_rng hJ (tkw ts o)
      rw [e6] at hup hmr
      by_cases a1 : μ.ow = n
      · rw [if_pos a1]
        cases k with
        | zero =>
          have := nodup_le16 h1 h2
          simp only [List.length_cons] at this
          omega
        | succ k =>
          unfold rround
          by_cases a0 : μ.ow = 0
          · exact absurd (a1.symm.trans a0) hn0
          · rw [if_neg a0, if_pos a1]
      · rw [if_neg a1]
        by_cases a2 : μ.ow = 0
        · rw [if_pos a2, a2]
          cases k with
          | zero => rfl
          | succ k => unfold rround; rw [if_pos rfl]
        · rw [if_neg a2]
          refine round_eq hJ hr n k (o :: P) μ.ow ?_ ?_ ?_ (by simp only [List.length_cons]; omega) a1 hn0
          · refine List.nodup_cons.2 ⟨fun hm => ?_, h1⟩
            rcases List.mem_cons.1 hm with h | h
            · rw [h] at hup; omega
            · have := h3 _ h; omega
          · intro x hx
            rcases List.mem_cons.1 hx with rfl | hx
            · omega
            · exact h2 x hx
          · intro x hx
            rcases List.mem_cons.1 hx with rfl | hx
            · exact hup
            · have := h3 x hx; omega
inductive Reach (ms : List Mu) (ts : List Tk) : Int → Int → Prop
  | refl (x : Int) : Reach ms ts x x
  | step {x y : Int} : tkw ts x ≠ 0 → mow ms (tkw ts x) ≠ 0 → Reach ms ts (mow ms (tkw ts x)) y → Reach ms ts x y
theorem Reach.tail {x y : Int} (h : Reach ms ts x y) (h1 : tkw ts y ≠ 0) (h2 : mow ms (tkw ts y) ≠ 0) : Reach ms ts x (mow ms (tkw ts y)) := by
  induction h with
  | refl x => exact .step h1 h2 (.refl _)
  | step a b _ ih => exact .step a b (ih h1 h2)
theorem not_reach (hJ : MJ0 ms ts) {r : Int → Nat} (hr : ∀ m : Nat, ∀ w ∈ muw ms m, r w < r (mow ms m)) (n : Int) : ∀ (k : Nat) (P : List Int) (o : Int), (o :: P).Nodup → (∀ x ∈ o :: P, 1 ≤ x ∧ x ≤ 16) → (∀ x ∈ P, r x < r o) → k + P.length = 17 → o ≠ n → ovF ms ts n k o = false → ¬ Reach ms ts o n
  | 0, P, o, h1, h2, _, h4, _, _ => by
    have := nodup_le16 h1 h2
    simp only [List.length_cons] at this
    omega
  | k + 1, P, o, h1, h2, h3, h4, h5, h6 => by
    have ho := h2 o List.mem_cons_self
    intro hR
    cases hR with
    | refl => exact h5 rfl
    | step a b c =>
      have hup := up_rank hJ hr ho a
      have hmr := mow_rng hJ (tkw ts o)
      unfold ovF at h6
      rw [if_neg a] at h6
      by_cases e : mow ms (tkw ts o) = n
      · rw [if_pos e] at h6; cases h6
      · rw [if_neg e, if_neg b] at h6
        refine not_reach hJ hr n k (o :: P) _ ?_ ?_ ?_ (by simp only [List.length_cons]; omega) e h6 c
        · refine List.nodup_cons.2 ⟨fun hm => ?_, h1⟩
          rcases List.mem_cons.1 hm with h | h
          · rw [h] at hup; omega
          · have := h3 _ h; omega
        · intro x hx
          rcases List.mem_cons.1 hx with rfl | hx
          · omega
          · exact h2 x hx
        · intro x hx
          rcases List.mem_cons.1 hx with rfl | hx
          · exact hup
          · have := h3 x hx; omega
theorem muw_stand {i : Nat} {μ : Mu} (h : ms[i + 1]? = some μ) {n : Int} (k : Nat) : muw (standM ms ts ((i + 1 : Nat) : Int) n) k = if k = i + 1 then insF ts μ.at_ n μ.w else muw ms k := by
  unfold standM
  rw [show ((i + 1 : Nat) : Int).toNat = i + 1 from rfl, muW_some h, muw_set h]
theorem mow_muW {m : Nat} {f : Mu → List Int} (k : Int) : mow (muW ms m f) k = mow ms k := by
  unfold muW
  cases h : ms[m]? with
  | none => rfl
  | some μ =>
    have hl := (List.getElem?_eq_some_iff.1 h).1
    dsimp only [mow]
    rw [List.getElem?_set]
    by_cases e : m = k.toNat
    · rw [if_pos e, if_pos hl, ← e, h]; rfl
    · rw [if_neg e]
theorem MJ0.stood (hJ : MJ0 ms ts) {i : Nat} {μ : Mu} (h : ms[i + 1]? = some μ) (h0 : μ.ow ≠ 0) {n : Int} (hn : 1 ≤ n ∧ n ≤ 16) (hw : tkw ts n = 0) (hne : μ.ow ≠ n) (hov : ovF ms ts n 17 μ.ow = false) : MJ0 (standM ms ts ((i + 1 : Nat) : Int) n) (setw ts n ((i + 1 : Nat) : Int)) := by
  have hl := (List.getElem?_eq_some_iff.1 h).1
  have hmw : muw ms (i + 1) = μ.w := muw_some h
  have hmo : mow ms ((i + 1 : Nat) : Int) = μ.ow := mow_some (by exact h)
  have hni : n ∉ μ.w := fun hm => by
    have := (hJ.wr n hn (i + 1) (by omega)).1 (by rw [hmw]; exact hm)
    omega
  have hlen : (standM ms ts ((i + 1 : Nat) : Int) n).length = ms.length := muW_len
  have hoo := hJ.i.o μ (List.mem_of_getElem? h)
  obtain ⟨r, hr⟩ := hJ.r
  exact {
    i := ⟨hJ.i.v.stand _ hn (fun μ' h' => by
        have e : ms[i + 1]? = some μ' := h'
        rw [h] at e; cases e; exact hni), fun x hx => by
          obtain ⟨μ', h1, h2⟩ := muW_ow hx
          rw [h2]; exact hJ.i.o μ' h1, fun τ hτ => by
            rw [hlen]
            rcases setw_mem hτ with h1 | h1
            · exact hJ.i.t τ h1
            · rw [h1]; omega⟩
    tl := setw_len.trans hJ.tl
    ak := fun x hx => by
      rcases muW_mem hx with h1 | ⟨μ', h1, rfl⟩
      · exact hJ.ak x h1
      · exact hJ.ak μ' (List.mem_of_getElem? h1)
    b := fun x hx => by rw [tkb_setw.1]; exact hJ.b x hx
    wr := fun x hx m hm => by
      rw [muw_stand h, tkw_setw hJ.tl hn hx]
      have := hJ.wr x hx m hm
      by_cases e : m = i + 1
      · subst e
        rw [if_pos rfl, insF_mem, ← hmw]
        by_cases e2 : x = n
        · simp [e2]
        · rw [if_neg e2]; simp [e2, this]
      · rw [if_neg e, this]
        by_cases e2 : x = n
        · subst e2; rw [if_pos rfl]; omega
        · rw [if_neg e2]
    w0 := by rw [muw_stand h, if_neg (by omega)]; exact hJ.w0
    z := fun m hm => by
      rw [standM, mow_muW] at hm
      rw [muw_stand h]
      split
      · rename_i e; subst e; rw [hmo] at hm; exact absurd hm h0
      · exact hJ.z m hm
    r := by
      have hnr := not_reach hJ hr n 17 [] μ.ow (by simp) (by simp; omega) (by simp) rfl hne hov
      classical
      refine ⟨fun x => if Reach ms ts μ.ow x then r x + (r n + 1) else r x, fun m w hwm => ?_⟩
      rw [standM, mow_muW]
      rw [muw_stand h] at hwm
      have old : w ∈ muw ms m → (if Reach ms ts μ.ow w then r w + (r n + 1) else r w) < (if Reach ms ts μ.ow (mow ms m) then r (mow ms m) + (r n + 1) else r (mow ms m)) := fun hm => by
        have h1 := hr m w hm
        have hw16 := (muw_ok hJ.i.v m).1 w hm
        have hm1 : 1 ≤ m := by
          rcases Nat.eq_zero_or_pos m with e | e
          · rw [e, hJ.w0] at hm; cases hm
          · exact e
        have h2 := (hJ.wr w hw16 m hm1).1 hm
        have h3 : mow ms m ≠ 0 := fun e => by rw [hJ.z m e] at hm; cases hm
        by_cases c1 : Reach ms ts μ.ow w
        · have c2 : Reach ms ts μ.ow (mow ms m) := by
            have := c1.tail (by omega) (by rw [h2]; exact h3)
            rwa [h2] at this
          rw [if_pos c1, if_pos c2]; omega
        · rw [if_neg c1]
          split <;> omega
      dsimp only
      by_cases e : m = i + 1
      · rw [if_pos e, insF_mem] at hwm
        rcases hwm with hwm | hwm
        · subst e
          rw [hwm, hmo, if_neg hnr, if_pos (.refl _)]; omega
        · exact old (by rw [e, hmw]; exact hwm)
      · rw [if_neg e] at hwm
        exact old hwm }
end
end Go.AM

/-
  The document's mutexes and the program's: each call alike, on.
-/
namespace Go.AM
attribute [local irreducible] settleF rsettle
section
variable {ms : List Mu} {ts : List Tk}
theorem lock_eq (hJ : MJ ms ts) (m n : Int) : rlock (rfOf ms ts) m n = ((lockF ms ts m n).1, rfOf (lockF ms ts m n).2.1 (lockF ms ts m n).2.2) ∧ MJ (lockF ms ts m n).2.1 (lockF ms ts m n).2.2 := by
  obtain ⟨t1, t2⟩ := try_eq hJ m n
  unfold rlock lockF
  rw [t1]
  dsimp only
  by_cases h1 : (tryF ms ts m n).1.1 = true ∨ ¬ (tryF ms ts m n).1.2 = 0
  · rw [if_pos h1, if_pos h1]; exact ⟨rfl, t2⟩
  · rw [if_neg h1, if_neg h1]
    obtain ⟨_, h2, h3, h4, h5⟩ := tryF_self h1
    obtain ⟨i, μ, rfl, e1, e2, e3, e4, e5, e6, e7, e8, e9⟩ := rf_m (ms := ms) (ts := ts) h2
    obtain ⟨τ, hτ⟩ := ts_at hJ.tl h3
    have hw := hJ.i.t τ (List.mem_of_getElem? hτ)
    rw [← tkw_some hτ] at hw
    have hne : μ.ow ≠ n := fun e => by
      refine h1 (.inr ?_)
      unfold tryF
      rw [if_neg (by omega), if_pos (.inl (by rw [e6]; exact e))]
      show ¬ ((-28 : Int) = 0)
      decide
    have hoo := hJ.i.o μ (List.mem_of_getElem? e2)
    rw [e6] at h5
    obtain ⟨r, hr⟩ := hJ.r
    rw [e3, e6, round_eq hJ.toMJ0 hr n 17 [] μ.ow (by simp) (by simp; omega) (by simp) rfl hne (by omega)]
    cases hov : ovF ms ts n 17 μ.ow with
    | true => rw [if_pos rfl, if_pos rfl]; exact ⟨rfl, hJ⟩
    | false =>
      rw [if_neg (by decide), if_neg (by decide)]
      have h6 := hJ.toMJ0.stood e2 h5 h3 (by omega) hne hov
      refine ⟨?_, settleJ h6⟩
      rw [← settleE h6]
      refine Prod.ext rfl ?_
      dsimp only
      congr 1
      rw [rf_setw, e1, standM, show ((i + 1 : Nat) : Int).toNat = i + 1 from rfl, muW_some e2, rf_set]
      obtain ⟨a1, a2, a3⟩ := rf_get3 (ts := ts) e2
      dsimp only
      rw [set_same a1, set_same a2]
      rw [e1] at e5
      rw [e5]
      dsimp only
      have hp : rPri (rfOf ms ts) n = tkp ts n := by
        unfold rPri
        rw [if_pos h3, rpri_eq hJ.toMJ0 h3, hJ.st n h3]
      have hin : (ridx (its ts μ.w) n).isSome = false := by
        rw [its_some]
        refine decide_eq_false fun hm => ?_
        have := (hJ.wr n h3 (i + 1) (by omega)).1 (by rw [muw_some e2]; exact hm)
        omega
      have hgood : rgood n (tkp ts n) = true := by
        have := rk_rng hJ.toMJ0 17 h3
        unfold rgood
        rw [hJ.st n h3]
        exact decide_eq_true ⟨h3, this⟩
      have hadd : (radd (decide (μ.at_ ≠ 0)) (its ts μ.w) n (rPri (rfOf ms ts) n)).2 = its ts (insF ts μ.at_ n μ.w) := by
        unfold radd
        rw [hp, hgood, hin, if_neg (by decide), if_neg (by decide)]
        exact its_put
      rw [hadd]
theorem bound_r (r : Int → Nat) : ∀ l : List Int, ∃ K, ∀ w ∈ l, r w < K
  | [] => ⟨0, fun w h => by cases h⟩
  | a :: l => by
    obtain ⟨K, hK⟩ := bound_r r l
    refine ⟨K + r a + 1, fun w hw => ?_⟩
    rcases List.mem_cons.1 hw with rfl | hw
    · omega
    · have := hK w hw; omega
theorem pass_ok (hJ : MJ0 ms ts) {i : Nat} {μ : Mu} (h : ms[i + 1]? = some μ) : MJ0 (passF ms ts ((i + 1 : Nat) : Int)).1 (passF ms ts ((i + 1 : Nat) : Int)).2 ∧ (rpass (rfOf ms ts) i).2 = rfOf (passF ms ts ((i + 1 : Nat) : Int)).1 (passF ms ts ((i + 1 : Nat) : Int)).2 ∧ (rpass (rfOf ms ts) i).1 = (μ.w.head?).getD 0 ∧ ∀ k : Nat, mow (passF ms ts ((i + 1 : Nat) : Int)).1 k = if k = i + 1 then (μ.w.head?).getD 0 else mow ms k := by
  have hi' := hJ.i.pass ((i + 1 : Nat) : Int)
  have hmw : muw ms (i + 1) = μ.w := muw_some h
  have hmo : mow ms ((i + 1 : Nat) : Int) = μ.ow := mow_some (by exact h)
  have hl := (List.getElem?_eq_some_iff.1 h).1
  obtain ⟨a1, a2, a3⟩ := rf_k (ts := ts) i h
  obtain ⟨b1, b2, b3⟩ := rf_get3 (ts := ts) h
  obtain ⟨r, hr⟩ := hJ.r
  unfold passF at hi' ⊢
  unfold rpass
  rw [show ((i + 1 : Nat) : Int).toNat = i + 1 from rfl, hmw] at hi' ⊢
  rw [a3]
  dsimp only
  cases hw : μ.w with
  | nil =>
    rw [hw] at hi'
    dsimp only at hi' ⊢
    refine ⟨⟨hi', hJ.tl, fun x hx => ?_, hJ.b, fun x hx m hm => by rw [muw_setO]; exact hJ.wr x hx m hm, by rw [muw_setO]; exact hJ.w0, fun m hm => ?_, r, fun m w hwm => ?_⟩, ?_, rfl, fun k => mow_setO h k⟩
    · rcases setO_mem hx with h | ⟨μ', h1, rfl⟩
      · exact hJ.ak x h
      · exact hJ.ak μ' h1
    · rw [mow_setO h] at hm
      rw [muw_setO]
      split at hm
      · rename_i e; rw [e, hmw, hw]
      · exact hJ.z m hm
    · rw [muw_setO] at hwm
      rw [mow_setO h]
      split
      · rename_i e; rw [e, hmw, hw] at hwm; cases hwm
      · exact hr m w hwm
    · show ({ rfOf ms ts with ow := (rfOf ms ts).ow.set i 0 } : Rf) = _
      rw [rf_setO h]
  | cons x rr =>
    rw [hw] at hi'
    dsimp only at hi' ⊢
    have hxm : x ∈ muw ms (i + 1) := by rw [hmw, hw]; exact List.mem_cons_self
    obtain ⟨hm16, hnd⟩ := muw_ok hJ.i.v (i + 1)
    rw [hmw, hw] at hm16 hnd
    have hx16 := hm16 x List.mem_cons_self
    have hxr : x ∉ rr := (List.nodup_cons.1 hnd).1
    have hxw : tkw ts x = ((i + 1 : Nat) : Int) := (hJ.wr x hx16 (i + 1) (by omega)).1 hxm
    have hset : setO ms ((i + 1 : Nat) : Int) x = ms.set (i + 1) { μ with ow := x } := setO_some (by exact h)
    have h2 : (setO ms ((i + 1 : Nat) : Int) x)[i + 1]? = some { μ with ow := x } := by rw [hset, List.getElem?_set, if_pos rfl, if_pos hl]
    have hms : muW (setO ms ((i + 1 : Nat) : Int) x) (i + 1) (fun _ => rr) = ms.set (i + 1) { μ with ow := x, w := rr } := by rw [muW_some h2, hset, set_set]
    have hmu : ∀ k, muw (muW (setO ms ((i + 1 : Nat) : Int) x) (i + 1) (fun _ => rr)) k = if k = i + 1 then rr else muw ms k := fun k => by rw [hms, muw_set h]
    have hmow : ∀ k : Nat, mow (muW (setO ms ((i + 1 : Nat) : Int) x) (i + 1) (fun _ => rr)) k = if k = i + 1 then x else mow ms k := fun k => by rw [mow_muW, mow_setO h]
    refine ⟨⟨hi', setw_len.trans hJ.tl, fun y hy => ?_, fun y hy => by rw [tkb_setw.1]; exact hJ.b y hy, fun y hy m hm => ?_, by rw [hmu, if_neg (by omega)]; exact hJ.w0, fun m hm => ?_, ?_⟩, ?_, rfl, hmow⟩
    · rw [hms] at hy
      rcases List.mem_or_eq_of_mem_set hy with hy | hy
      · exact hJ.ak y hy
      · rw [hy]; exact hJ.ak μ (List.mem_of_getElem? h)
    · rw [hmu, tkw_setw hJ.tl hx16 hy]
      have := hJ.wr y hy m hm
      by_cases e : m = i + 1
      · subst e
        rw [if_pos rfl]
        rw [hmw, hw, List.mem_cons] at this
        by_cases e2 : y = x
        · subst e2
          rw [if_pos rfl]
          constructor
          · exact fun h => absurd h hxr
          · intro h; omega
        · rw [if_neg e2, ← this]; simp [e2]
      · rw [if_neg e, this]
        by_cases e2 : y = x
        · subst e2; rw [if_pos rfl]; omega
        · rw [if_neg e2]
    · rw [hmow] at hm
      rw [hmu]
      split at hm
      · omega
      · rename_i e; rw [if_neg e]; exact hJ.z m hm
    · obtain ⟨K, hK⟩ := bound_r r rr
      refine ⟨fun y => if y = x then K + r x + 1 else r y, fun m w hwm => ?_⟩
      rw [hmu] at hwm
      rw [hmow]
      dsimp only
      by_cases e : m = i + 1
      · rw [if_pos e] at hwm ⊢
        have hwx : w ≠ x := fun h => hxr (h ▸ hwm)
        rw [if_neg hwx, if_pos rfl]
        have := hK w hwm; omega
      · rw [if_neg e] at hwm ⊢
        have hwx : w ≠ x := fun h => e (hJ.disj m (i + 1) x (h ▸ hwm) hxm)
        rw [if_neg hwx]
        have := hr m w hwm
        split
        · rename_i e2; rw [e2] at this; omega
        · exact this
    · show ({ rfOf ms ts with ow := (rfOf ms ts).ow.set i x, qs := (rfOf ms ts).qs.set i (decide (μ.at_ ≠ 0), its ts rr) } : Rf) = _
      rw [rf_setw, hms, rf_set]
      dsimp only
      rw [set_same b1]
theorem unl_eq (hJ : MJ ms ts) (m n : Int) : runl (rfOf ms ts) m n = ((unlF ms ts m n).1, rfOf (unlF ms ts m n).2.1 (unlF ms ts m n).2.2) ∧ MJ (unlF ms ts m n).2.1 (unlF ms ts m n).2.2 := by
  unfold runl unlF
  rw [rf_len]
  have hl := hJ.i.v.l0
  by_cases h1 : ¬ (1 ≤ m ∧ m < ms.length) ∨ ¬ (1 ≤ n ∧ n ≤ 16)
  · rw [if_pos h1, if_pos (by omega)]; exact ⟨rfl, hJ⟩
  · rw [if_neg h1, if_neg (by omega)]
    obtain ⟨i, μ, rfl, e1, e2, e3, e4, e5, e6, e7, e8, e9⟩ := rf_m (ms := ms) (ts := ts) (m := m) (by omega)
    rw [e3, e6]
    by_cases h2 : ¬ μ.ow = n
    · rw [if_pos h2, if_pos h2]; exact ⟨rfl, hJ⟩
    · rw [if_neg h2, if_neg h2, e1]
      obtain ⟨p1, p2, p3, p4⟩ := pass_ok hJ.toMJ0 e2
      refine ⟨?_, settleJ p1⟩
      rw [p2, settleE p1, p3]
      unfold stF
      rw [(settle_ok p1).1.mow, p4, if_pos rfl]
theorem tkx_setb {n x p : Int} : tkw (setb ts n p) x = tkw ts x ∧ tkp (setb ts n p) x = tkp ts x := by
  unfold setb
  cases h : ts[n.toNat]? with
  | none => exact ⟨rfl, rfl⟩
  | some τ =>
    have hl := (List.getElem?_eq_some_iff.1 h).1
    dsimp only [tkw, tkp]
    rw [List.getElem?_set]
    by_cases e : n.toNat = x.toNat
    · rw [if_pos e, if_pos hl, ← e, h]; exact ⟨rfl, rfl⟩
    · rw [if_neg e]; exact ⟨rfl, rfl⟩
theorem tkb_setb (ht : ts.length = 17) {n x p : Int} (hn : 1 ≤ n ∧ n ≤ 16) (hx : 1 ≤ x ∧ x ≤ 16) : tkb (setb ts n p) x = if x = n then p else tkb ts x := by
  obtain ⟨τ, hτ⟩ := ts_at ht hn
  have hl := (List.getElem?_eq_some_iff.1 hτ).1
  rw [setb_some hτ]
  unfold tkb
  rw [List.getElem?_set]
  by_cases h : x = n
  · subst h; rw [if_pos rfl, if_pos hl, if_pos rfl]; rfl
  · rw [if_neg (by omega), if_neg h]
theorem rf_setb (ht : ts.length = 17) {n p : Int} (hn : 1 ≤ n ∧ n ≤ 16) : rfOf ms (setb ts n p) = { rfOf ms ts with bs := (rfOf ms ts).bs.set n.toNat p } := by
  obtain ⟨τ, hτ⟩ := ts_at ht hn
  have hl := (List.getElem?_eq_some_iff.1 hτ).1
  obtain ⟨k, hk⟩ : ∃ k, n.toNat = k + 1 := ⟨n.toNat - 1, by omega⟩
  have e : setb ts n p = ts.set (k + 1) { τ with b := p } := by rw [setb_some hτ, hk]
  have hd : (ts.set (k + 1) { τ with b := p }).drop 1 = (ts.drop 1).set k { τ with b := p } := by
    cases ts with
    | nil => rfl
    | cons a l => rfl
  rw [hk] at hτ
  have hτ2 : (ts.drop 1)[k]? = some τ := by rw [List.getElem?_drop, Nat.add_comm]; exact hτ
  refine rf_ext rfl rfl ?_ ?_ ?_
  · exact List.map_congr_left fun μ _ => by rw [its_same fun x _ => tkx_setb.2]
  · show 0 :: ((setb ts n p).drop 1).map Tk.b = (0 :: (ts.drop 1).map Tk.b).set n.toNat p
    rw [e, hd, hk, List.set_cons_succ, List.map_set]
  · show 0 :: ((setb ts n p).drop 1).map Tk.p = 0 :: (ts.drop 1).map Tk.p
    rw [e, hd, List.map_set, set_same (by rw [List.getElem?_map, hτ2]; rfl)]
theorem sb_eq (hJ : MJ0 ms ts) {n p : Int} (hn : 1 ≤ n ∧ n ≤ 16) : ∀ k, k ≤ ms.length - 1 → rsbBad (rfOf ms ts) n p k = sbBad ms ts n p k
  | 0, _ => rfl
  | k + 1, hk => by
    have ih := sb_eq hJ hn k (by omega) (p := p)
    have h0 : ms[k + 1]? = some (ms[k + 1]'(by omega)) := List.getElem?_eq_getElem _
    generalize ms[k + 1]'(by omega) = μ at h0
    obtain ⟨a1, a2, a3⟩ := rf_k (ts := ts) k h0
    have hs : rsbBad (rfOf ms ts) n p (k + 1) = (rsbBad (rfOf ms ts) n p k || decide (((rKk (rfOf ms ts) k).1 = 3 ∧ (rKk (rfOf ms ts) k).2 > p) ∧ (rOw (rfOf ms ts) k = n ∨ (ridx (rQq (rfOf ms ts) k).2 n).isSome = true))) := by
      unfold rsbBad
      rw [List.range_succ, List.any_append]; simp
    have hs2 : sbBad ms ts n p (k + 1) = (sbBad ms ts n p k || decide (mat ms ((k + 1 : Nat) : Int) = 3 ∧ mce ms ((k + 1 : Nat) : Int) > p ∧ (mow ms ((k + 1 : Nat) : Int) = n ∨ tkw ts n = ((k + 1 : Nat) : Int)))) := by
      unfold sbBad
      rw [List.range'_concat, List.any_append, show 1 + 1 * k = k + 1 by omega]; simp
    rw [hs, hs2, ih, a1, a2, a3, mat_some (μ := μ) (by exact h0), mce_some (μ := μ) (by exact h0), mow_some (μ := μ) (by exact h0)]
    congr 1
    dsimp only
    have := hJ.wr n hn (k + 1) (by omega)
    rw [muw_some h0] at this
    rw [its_some, decide_eq_decide, decide_eq_true_iff, this]
    constructor
    · rintro ⟨⟨h1, h2⟩, h3⟩; exact ⟨h1, h2, h3⟩
    · rintro ⟨h1, h2, h3⟩; exact ⟨⟨h1, h2⟩, h3⟩
theorem setB_eq (hJ : MJ ms ts) (n p : Int) : rsetB (rfOf ms ts) n p = ((setBF ms ts n p).1, rfOf (setBF ms ts n p).2.1 (setBF ms ts n p).2.2) ∧ MJ (setBF ms ts n p).2.1 (setBF ms ts n p).2.2 := by
  unfold rsetB setBF
  by_cases h1 : ¬ (1 ≤ n ∧ n ≤ 16)
  · rw [if_pos h1, if_pos h1]; exact ⟨rfl, hJ⟩
  · rw [if_neg h1, if_neg h1]
    have hn : 1 ≤ n ∧ n ≤ 16 := Classical.not_not.1 h1
    by_cases h2 : ¬ (1 ≤ p ∧ p ≤ 16)
    · rw [if_pos h2, if_pos h2]; exact ⟨rfl, hJ⟩
    · rw [if_neg h2, if_neg h2, rf_len, sb_eq hJ.toMJ0 hn _ (Nat.le_refl _)]
      have hp : 1 ≤ p ∧ p ≤ 16 := Classical.not_not.1 h2
      cases h3 : sbBad ms ts n p (ms.length - 1) with
      | true => rw [if_pos rfl, if_pos rfl]; exact ⟨rfl, hJ⟩
      | false =>
        rw [if_neg (by decide), if_neg (by decide)]
        have hlen : (setb ts n p).length = ts.length := setb_len
        have h6 : MJ0 ms (setb ts n p) := ⟨⟨hJ.i.v, hJ.i.o, fun τ hτ => by
          obtain ⟨τ', h4, h5⟩ := setb_mem hτ
          rw [h5]; exact hJ.i.t τ' h4⟩, hlen.trans hJ.tl, hJ.ak, fun x hx => by
            rw [tkb_setb hJ.tl hn hx]
            split
            · exact hp
            · exact hJ.b x hx, fun x hx m hm => by rw [tkx_setb.1]; exact hJ.wr x hx m hm, hJ.w0, hJ.z, hJ.r⟩
        refine ⟨?_, settleJ h6⟩
        rw [← settleE h6, rf_setb hJ.tl hn]
theorem rwt_out (hJ : MJ0 ms ts) {n : Int} (hn : ¬ (1 ≤ n ∧ n ≤ 16)) : rwt (rfOf ms ts) n = none := by
  refine List.findIdx?_eq_none_iff.2 fun q hq => ?_
  obtain ⟨μ, h1, rfl⟩ := List.mem_map.1 hq
  rw [its_some]
  exact decide_eq_false fun hm => hn (hJ.i.v.w μ (List.mem_of_mem_drop h1) n hm)
theorem drop_eq (hJ : MJ ms ts) (n : Int) : rdrop (rfOf ms ts) n = ((dropF ms ts n).1, rfOf (dropF ms ts n).2.1 (dropF ms ts n).2.2) ∧ MJ (dropF ms ts n).2.1 (dropF ms ts n).2.2 := by
  unfold rdrop dropF
  by_cases h1 : 1 ≤ n ∧ n ≤ 16
  · rw [rwt_eq hJ.toMJ0 h1]
    by_cases h2 : tkw ts n = 0
    · rw [if_pos h2, if_pos (.inr h2)]; exact ⟨rfl, hJ⟩
    · rw [if_neg h2, if_neg (by omega)]
      dsimp only
      obtain ⟨τ, hτ⟩ := ts_at hJ.tl h1
      have hw := hJ.i.t τ (List.mem_of_getElem? hτ)
      rw [← tkw_some hτ] at hw
      obtain ⟨i, μ, e0, e1, e2, e3, e4, e5, e6, e7, e8, e9⟩ := rf_m (ms := ms) (ts := ts) (m := tkw ts n) (by omega)
      have et : (tkw ts n).toNat = i + 1 := by omega
      have hin : n ∈ μ.w := by
        have := (hJ.wr n h1 (i + 1) (by omega)).2 e0
        rwa [muw_some e2] at this
      have hnd := hJ.i.v.nd μ (List.mem_of_getElem? e2)
      have hms : muW ms (tkw ts n).toNat (fun μ => μ.w.filter (fun w => decide (w ≠ n))) = ms.set (i + 1) { μ with w := μ.w.filter (fun w => decide (w ≠ n)) } := by rw [et, muW_some e2]
      have hmu : ∀ k, muw (ms.set (i + 1) { μ with w := μ.w.filter (fun w => decide (w ≠ n)) }) k = if k = i + 1 then μ.w.filter (fun w => decide (w ≠ n)) else muw ms k := fun k => muw_set e2
      have hmo : ∀ k, mow (ms.set (i + 1) { μ with w := μ.w.filter (fun w => decide (w ≠ n)) }) k = mow ms k := fun k => by rw [← hms]; exact mow_muW k
      have hsub : ∀ k x, x ∈ muw (ms.set (i + 1) { μ with w := μ.w.filter (fun w => decide (w ≠ n)) }) k → x ∈ muw ms k := fun k x hx => by
        rw [hmu] at hx
        split at hx
        · rename_i e; rw [e, muw_some e2]; exact (List.mem_filter.1 hx).1
        · exact hx
      rw [hms]
      have h6 : MJ0 (ms.set (i + 1) { μ with w := μ.w.filter (fun w => decide (w ≠ n)) }) (setw ts n 0) := {
        i := ⟨by
            rw [← hms, et]
            exact hJ.i.v.of fun μ' h' => ⟨fun w hw => hJ.i.v.w μ' (List.mem_of_getElem? h') w (List.mem_filter.1 hw).1, (hJ.i.v.nd μ' (List.mem_of_getElem? h')).filter _⟩, fun x hx => by
            rcases List.mem_or_eq_of_mem_set hx with hx | hx
            · exact hJ.i.o x hx
            · rw [hx]; exact hJ.i.o μ (List.mem_of_getElem? e2), fun τ' h' => by
            rw [List.length_set]
            rcases setw_mem h' with h | h
            · exact hJ.i.t τ' h
            · rw [h]; have := hJ.i.v.l0; omega⟩
        tl := setw_len.trans hJ.tl
        ak := fun x hx => by
          rcases List.mem_or_eq_of_mem_set hx with hx | hx
          · exact hJ.ak x hx
          · rw [hx]; exact hJ.ak μ (List.mem_of_getElem? e2)
        b := fun x hx => by rw [tkb_setw.1]; exact hJ.b x hx
        wr := fun x hx m hm => by
          rw [hmu, tkw_setw hJ.tl h1 hx]
          have := hJ.wr x hx m hm
          by_cases e : m = i + 1
          · subst e
            rw [muw_some e2] at this
            rw [if_pos rfl, List.mem_filter, this]
            by_cases e3 : x = n
            · subst e3; rw [if_pos rfl]; simp; omega
            · rw [if_neg e3]; simp [e3]
          · rw [if_neg e, this]
            by_cases e3 : x = n
            · subst e3; rw [if_pos rfl]; omega
            · rw [if_neg e3]
        w0 := by rw [hmu, if_neg (by omega)]; exact hJ.w0
        z := fun m hm => by
          rw [hmo] at hm
          rw [List.eq_nil_iff_forall_not_mem]
          intro x hx
          have := hsub m x hx
          rw [hJ.z m hm] at this
          cases this
        r := by
          obtain ⟨r, hr⟩ := hJ.r
          exact ⟨r, fun m w hw => by rw [hmo]; exact hr m w (hsub m w hw)⟩ }
      refine ⟨?_, settleJ h6⟩
      rw [← settleE h6, rf_setw, rf_set, e1]
      rw [e1] at e5
      rw [e5, its_rem hnd hin]
      obtain ⟨a1, a2, a3⟩ := rf_get3 (ts := ts) e2
      dsimp only
      rw [set_same a1, set_same a2]
  · rw [rwt_out hJ.toMJ0 h1, if_pos (.inl h1)]; exact ⟨rfl, hJ⟩
end
end Go.AM

/-
  Things behind a row of pointers.
-/
namespace Go.AM
def encP (p : Nat) : List SV := [.ptr (some (p, 0))]
theorem encP_len (p : Nat) : (encP p).length = 1 := rfl
section
variable {α : Type} (Th : Nat → α → Asr)
def thsL (ps : List Nat) (os : List α) : List Asr := List.zipWith Th ps os
def Ths (ps : List Nat) (os : List α) : Asr := Asr.all (thsL Th ps os)
def ThsBut (i : Nat) (ps : List Nat) (os : List α) : Asr := Asr.all ((thsL Th ps os).eraseIdx i)
def Obs (s : SV) (os : List α) : Asr := Asr.ex fun ps : List Nat => Asr.all [Asr.pure (ps.length = os.length), Row encP 1 s ps, Ths Th ps os]
end
section
variable {α : Type} {Th : Nat → α → Asr} {ps : List Nat} {os : List α} {i p : Nat} {o : α} {L R : List Asr}
theorem thsL_set (p : Nat) (o : α) : (thsL Th ps os).set i (Th p o) = thsL Th (ps.set i p) (os.set i o) := by
  unfold thsL
  apply List.ext_getElem?
  intro j
  simp only [List.getElem?_set, List.getElem?_zipWith, List.length_zipWith]
  by_cases e : i = j
  · subst e
    by_cases h1 : i < ps.length
    · by_cases h2 : i < os.length
      · simp [h1, h2, Nat.lt_min]
      · have : ¬ i < min ps.length os.length := by omega
        simp [h1, h2, this]
    · have : ¬ i < min ps.length os.length := by omega
      simp [h1, this]
  · simp [e]
theorem ths_out (hi : ps[i]? = some p) (hj : os[i]? = some o) : LEnt (Ths Th ps os :: L) (Th p o :: ThsBut Th i ps os :: L) := by
  intro ρ H R hs
  obtain ⟨h1, rfl⟩ := List.getElem?_eq_some_iff.1 hi
  obtain ⟨h2, rfl⟩ := List.getElem?_eq_some_iff.1 hj
  have h3 : i < (thsL Th ps os).length := by unfold thsL; rw [List.length_zipWith]; omega
  have e : (thsL Th ps os)[i] = Th ps[i] os[i] := List.getElem_zipWith ..
  have h4 : Sat ρ H (thsL Th ps os ++ (L ++ R)) := Sat.all hs
  have h5 := h4.perm ((cons_erase_perm h3).symm.append_right (L ++ R))
  rw [e] at h5
  exact (Sat.mkAll (h5.perm List.perm_middle.symm)).perm (List.Perm.swap _ _ _)
theorem ths_in (h1 : i < ps.length) (h2 : i < os.length) (p : Nat) (o : α) : LEnt (Th p o :: ThsBut Th i ps os :: L) (Ths Th (ps.set i p) (os.set i o) :: L) := by
  intro ρ H R hs
  have h3 : i < ((thsL Th ps os).set i (Th p o)).length := by unfold thsL; rw [List.length_set, List.length_zipWith]; omega
  have e := cons_erase_perm h3
  rw [List.getElem_set_self, List.eraseIdx_set_eq] at e
  have h4 : Sat ρ H ((thsL Th ps os).eraseIdx i ++ (Th p o :: (L ++ R))) := Sat.all (hs.perm (List.Perm.swap _ _ _))
  have h5 := (h4.perm List.perm_middle).perm (e.append_right (L ++ R))
  rw [thsL_set] at h5
  exact Sat.mkAll h5
theorem ths_put (hi : ps[i]? = some p) (hl : ps.length = os.length) (o : α) : LEnt (Th p o :: ThsBut Th i ps os :: L) (Ths Th ps (os.set i o) :: L) := by
  have h1 := (List.getElem?_eq_some_iff.1 hi).1
  have h := ths_in (Th := Th) (ps := ps) (os := os) (i := i) (L := L) h1 (by omega) p o
  rwa [set_same hi] at h
theorem ths_back (hi : ps[i]? = some p) (hj : os[i]? = some o) : LEnt (Th p o :: ThsBut Th i ps os :: L) (Ths Th ps os :: L) := by
  have h := ths_in (Th := Th) (ps := ps) (os := os) (i := i) (L := L) (List.getElem?_eq_some_iff.1 hi).1 (List.getElem?_eq_some_iff.1 hj).1 p o
  rwa [set_same hi, set_same hj] at h
theorem ths_nil : LEnt L (Ths Th [] [] :: L) := fun _ _ _ hs => Sat.mkAll (l := []) hs
theorem ths_app (hl : ps.length = os.length) : LEnt (Ths Th ps os :: Th p o :: L) (Ths Th (ps ++ [p]) (os ++ [o]) :: L) := by
  intro ρ H R hs
  have h4 : Sat ρ H (thsL Th ps os ++ (Th p o :: (L ++ R))) := Sat.all hs
  refine Sat.mkAll ?_
  have e : thsL Th (ps ++ [p]) (os ++ [o]) = thsL Th ps os ++ [Th p o] := by unfold thsL; rw [List.zipWith_append hl]; rfl
  rw [e, List.append_assoc]
  exact h4
theorem ths_get (hl : ps.length = os.length) (hj : os[i]? = some o) : ∃ p, ps[i]? = some p := by
  have := (List.getElem?_eq_some_iff.1 hj).1
  exact ⟨_, List.getElem?_eq_getElem (by omega)⟩
theorem Obs.open' {s : SV} {X : List Asr} {ρ : HF} {H : AH} (hin : In1 (Obs Th s os) L R) (hs : Sat ρ H (L ++ X)) : ∃ ps : List Nat, ps.length = os.length ∧ Sat ρ H ((Row encP 1 s ps :: Ths Th ps os :: R) ++ X) := by
  have h1 : Sat ρ H (Obs Th s os :: (R ++ X)) := hs.perm (hin.perm.append_right X)
  obtain ⟨ps, h2⟩ := Sat.ex h1
  obtain ⟨h3, h4⟩ := Sat.pure (Sat.all (l := [_, _, _]) h2)
  exact ⟨ps, h3, h4⟩
theorem Obs.shut {s : SV} (hl : ps.length = os.length) : LEnt (Row encP 1 s ps :: Ths Th ps os :: L) (Obs Th s os :: L) := fun _ _ _ hs => Sat.mkEx ps (Sat.mkAll (l := [_, _, _]) (Sat.mkPure hl hs))
variable {tab : Nat → Option RFunc} {ext : Nat → List AV → AH → Option (AV × AH)} {n : Nat} {E : Env}
theorem Tri.at {f : Nat} {args : List AV} {Q : AV → Prop} {o' : α} (hl : ps.length = os.length) (hi : ps[i]? = some p) (hj : os[i]? = some o) (h : Tri tab ext f args [Th p o] fun v P' => Q v ∧ P' = [Th p o']) : Tri tab ext f args [Ths Th ps os] fun v P' => Q v ∧ P' = [Ths Th ps (os.set i o')] := by
  intro ρ H R hs
  refine (h ρ H _ (ths_out hi hj (L := []) ρ H R hs)).mono ?_
  rintro v H' ⟨P', ⟨hq, rfl⟩, hs'⟩
  exact ⟨_, ⟨hq, rfl⟩, ths_put hi hl o' (L := []) ρ H' R hs'⟩
theorem Tri.ask {f : Nat} {args : List AV} {Q : AV → Prop} (hl : ps.length = os.length) (hi : ps[i]? = some p) (hj : os[i]? = some o) (h : Tri tab ext f args [Th p o] fun v P' => Q v ∧ P' = [Th p o]) : Tri tab ext f args [Ths Th ps os] fun v P' => Q v ∧ P' = [Ths Th ps os] := by
  have h1 := Tri.at hl hi hj h
  rwa [set_same hj] at h1
theorem Tri.out {β : Type} {f : Nat} {args : List AV} {Q : β → AV → Prop} {X : β → Asr} (_hl : ps.length = os.length) (hi : ps[i]? = some p) (hj : os[i]? = some o) (h : Tri tab ext f args [Th p o] fun v P' => ∃ x, Q x v ∧ P' = [X x, Th p o]) : Tri tab ext f args [Ths Th ps os] fun v P' => ∃ x, Q x v ∧ P' = [X x, Ths Th ps os] := by
  intro ρ H R hs
  refine (h ρ H _ (ths_out hi hj (L := []) ρ H R hs)).mono ?_
  rintro v H' ⟨P', ⟨x, hq, rfl⟩, hs'⟩
  have h1 := ths_back hi hj (L := [X x]) ρ H' R (hs'.front 1 (by simp) |>.perm (List.Perm.cons _ (List.Perm.swap _ _ _)))
  exact ⟨_, ⟨x, hq, rfl⟩, h1.perm (List.Perm.swap _ _ _)⟩
theorem RP.obs {s : SV} {ops : List ROper} {K : Env → List Asr → Prop} (hin : In1 (Obs Th s os) L R) (k : ∀ ps : List Nat, ps.length = os.length → RP tab ext n E (Row encP 1 s ps :: Ths Th ps os :: R) ops K) : RP tab ext n E L ops K :=
  RP.imp (α := { ps : List Nat // ps.length = os.length }) (L' := fun ps => Row encP 1 s ps.1 :: Ths Th ps.1 os :: R) (fun ρ H X hs => by
    obtain ⟨ps, h1, h2⟩ := Obs.open' hin hs
    exact ⟨⟨ps, h1⟩, h2⟩) fun ps => k ps.1 ps.2
theorem TC.obs {s : SV} {c : RC} {K : Pst} (hin : In1 (Obs Th s os) L R) (k : ∀ ps : List Nat, ps.length = os.length → TC tab ext n E (Row encP 1 s ps :: Ths Th ps os :: R) c K) : TC tab ext n E L c K :=
  TC.imp (α := { ps : List Nat // ps.length = os.length }) (L' := fun ps => Row encP 1 s ps.1 :: Ths Th ps.1 os :: R) (fun ρ H X hs => by
    obtain ⟨ps, h1, h2⟩ := Obs.open' hin hs
    exact ⟨⟨ps, h1⟩, h2⟩) fun ps => k ps.1 ps.2
end
end Go.AM

/-
  Parts of rows, put behind rows.
-/
namespace Go.AM
section
variable {α : Type} {enc : α → List SV} {k : Nat} {s : SV} {r : List α}
def IsPart (enc : α → List SV) (k : Nat) (s : SV) (r : List α) (l n : Nat) (q : SV) : Prop := ∀ (ρ : HF) (H : AH) (R : List Asr), Sat ρ H (Row enc k s r :: R) → sliceCells k (.s q) n H = some (flat enc ((r.drop l).take n)) ∧ slLen (.s q) = some n
theorem row_is {L : List Asr} (hr : RowIn L enc k s r) {ρ : HF} {H : AH} {X : List Asr} (hs : Sat ρ H (L ++ X)) : (∃ e, s = .slice none 0 0 e ∧ r = []) ∨ ∃ b c, s = .slice (some (b, 0)) r.length c k ∧ r.length ≤ c := by
  obtain ⟨R', h1⟩ := hr.of ρ H X hs
  rcases h1.rowInv with ⟨e, rfl, rfl, _⟩ | ⟨b, c, j, rfl, _, _, h⟩
  · exact .inl ⟨e, rfl, rfl⟩
  · exact .inr ⟨b, c, rfl, h⟩
section
variable {tab : Nat → Option RFunc} {ext : Nat → List AV → AH → Option (AV × AH)} {n d i : Nat} {E : Env} {L : List Asr} {os : List ROper} {K : Env → List Asr → Prop} {x y : Opd}
theorem RP.cutH {h : Nat} (hk : ∀ e, (enc e).length = k) (hx : evo E x = some (.s s)) (hr : RowIn L enc k s r) (hy : evo E y = some (i64 h)) (hh : h ≤ r.length) (hd : Nat.blt d n = true)
    (kk : ∀ q, IsPart enc k s r 0 h q → RP tab ext n ((d, .s q) :: E) L os K) : RP tab ext n E L (⟨some d, .slSl k x none (some y) none, none, i, []⟩ :: os) K :=
  RP.fact (fun _ _ _ hs => row_is hr hs) fun hp => by
    rcases hp with ⟨e, rfl, rfl⟩ | ⟨b, c, rfl, hc⟩
    · have h0 : h = 0 := by simpa using hh
      subst h0
      refine RP.p (v := .s (.slice none 0 0 k)) (by simp [pureE, hx, hy, evm, slSlA, boundsA, boundA]) hd (kk _ fun ρ H R hs => ⟨rfl, rfl⟩)
    · refine RP.p (v := .s (.slice (some (b, 0)) h c k)) ?_ hd (kk _ fun ρ H R hs => ⟨Sat.partSrc hk hs (by simp) (by omega), rfl⟩)
      have : h ≤ c := by omega
      simp [pureE, hx, hy, evm, slSlA, boundsA, boundA, this]
theorem RP.cutL {l : Nat} (hk : ∀ e, (enc e).length = k) (hx : evo E x = some (.s s)) (hr : RowIn L enc k s r) (hy : evo E y = some (i64 l)) (hl : l ≤ r.length) (hd : Nat.blt d n = true)
    (kk : ∀ q, IsPart enc k s r l (r.length - l) q → RP tab ext n ((d, .s q) :: E) L os K) : RP tab ext n E L (⟨some d, .slSl k x (some y) none none, none, i, []⟩ :: os) K :=
  RP.fact (fun _ _ _ hs => row_is hr hs) fun hp => by
    rcases hp with ⟨e, rfl, rfl⟩ | ⟨b, c, rfl, hc⟩
    · have h0 : l = 0 := by simpa using hl
      subst h0
      refine RP.p (v := .s (.slice none 0 0 k)) (by simp [pureE, hx, hy, evm, slSlA, boundsA, boundA]) hd (kk _ fun ρ H R hs => ⟨rfl, rfl⟩)
    · refine RP.p (v := .s (.slice (some (b, l * k)) (r.length - l) (c - l) k)) ?_ hd (kk _ fun ρ H R hs => ⟨Sat.partSrc hk hs rfl (by omega), rfl⟩)
      simp [pureE, hx, hy, evm, slSlA, boundsA, boundA, hl]
end
theorem ap_part (hk : ∀ e, (enc e).length = k) {bytes : Nat} {s s2 q : SV} {r r2 : List α} {l n : Nat} {L R : List Asr} (hin : Ins [Row enc k s r, Row enc k s2 r2] L R) (hq : IsPart enc k s2 r2 l n q) (hl : l + n ≤ r2.length) (hb : (r.length + n) * bytes ≤ 70368744177664) :
    ∀ (ρ : HF) (H : AH) (id : Nat) (X : List Asr), Sat ρ H (Fre id :: (L ++ X)) → ∃ (s' : SV) (H' : AH), appendA k bytes id (.s s) (.s q) H = some (.s s', H') ∧ Sat ρ H' ((Row enc k s' (r ++ (r2.drop l).take n) :: Row enc k s2 r2 :: R) ++ X) := by
  intro ρ H id X hs
  have h1 : Sat ρ H (Row enc k s r :: Fre id :: Row enc k s2 r2 :: (R ++ X)) := (hs.perm (List.Perm.cons _ (hin.perm.append_right X))).perm (List.Perm.swap _ _ _)
  have h2 := h1.front 2 (by simp)
  have hn : ((r2.drop l).take n).length = n := by rw [List.length_take, List.length_drop]; omega
  obtain ⟨g1, g2⟩ := hq ρ H _ h2
  obtain ⟨s', H', e1, h3, _⟩ := Sat.append hk (_n := 0) (r2 := (r2.drop l).take n) h1 (by rw [hn]; exact g1) (by rw [hn]; exact g2) (by rw [hn]; exact hb)
  exact ⟨s', H', e1, h3⟩
end
theorem WK.wq {tab : Nat → Option RFunc} {ext : Nat → List AV → AH → Option (AV × AH)} {n : Nat} {w : Watch} {ws : List Watch} {E0 E : Env} {L : List Asr} {os : List ROper} {K : Env → List Asr → Prop} (h : wOk E0 L w) (hg : ∀ p, w.guard = some p → (look E0 p.1).isSome = true) (k : WK tab ext n ws E0 E L os K) : WK tab ext n (w :: ws) E0 E L os K := by
  unfold WK
  exact ⟨⟨h, hg⟩, k⟩
end Go.AM

/-
  The document's orders.
-/
namespace Go.AM
set_option maxHeartbeats 8000000
attribute [local irreducible] sq bk lpK mdx rt TC RP WK Cel Ro Row Fre RowsA RowsBut
def encJ (x : Int × Int) : List SV := [.int .i64 x.1, .int .i64 x.2]
theorem encJ_len (x : Int × Int) : (encJ x).length = 2 := rfl
abbrev RQ := Bool × List (Int × Int)
def Rq (p : Nat) (q : RQ) : Asr := Asr.ex fun s : SV => Asr.all [Cel p [.bool q.1, s], Row encJ 2 s q.2]
section
variable {L R : List Asr} {p : Nat} {b : Bool} {l : List (Int × Int)}
theorem Rq.open' (hin : In1 (Rq p (b, l)) L R) (ρ : HF) (H : AH) (X : List Asr) (hs : Sat ρ H (L ++ X)) : ∃ s, Sat ρ H ((Cel p [.bool b, s] :: Row encJ 2 s l :: R) ++ X) := by
  have h1 : Sat ρ H (Rq p (b, l) :: (R ++ X)) := hs.perm (hin.perm.append_right X)
  obtain ⟨s, h2⟩ := Sat.ex h1
  exact ⟨s, Sat.all (l := [Cel p [.bool b, s], Row encJ 2 s l]) h2⟩
theorem Rq.shut {s : SV} : LEnt (Cel p [.bool b, s] :: Row encJ 2 s l :: L) (Rq p (b, l) :: L) := fun _ _ _ hs => Sat.mkEx s (Sat.mkAll (l := [Cel p [.bool b, s], Row encJ 2 s l]) hs)
variable {tab : Nat → Option RFunc} {ext : Nat → List AV → AH → Option (AV × AH)} {n : Nat} {E : Env}
theorem RP.rq {os : List ROper} {K : Env → List Asr → Prop} (hin : In1 (Rq p (b, l)) L R) (k : ∀ s, RP tab ext n E (Cel p [.bool b, s] :: Row encJ 2 s l :: R) os K) : RP tab ext n E L os K :=
  RP.imp (L' := fun s : SV => Cel p [.bool b, s] :: Row encJ 2 s l :: R) (fun ρ H X hs => Rq.open' hin ρ H X hs) k
theorem TC.rq {c : RC} {K : Pst} (hin : In1 (Rq p (b, l)) L R) (k : ∀ s, TC tab ext n E (Cel p [.bool b, s] :: Row encJ 2 s l :: R) c K) : TC tab ext n E L c K :=
  TC.imp (L' := fun s : SV => Cel p [.bool b, s] :: Row encJ 2 s l :: R) (fun ρ H X hs => Rq.open' hin ρ H X hs) k
end
section
variable {ext : Nat → List AV → AH → Option (AV × AH)} {p : Nat} {b : Bool} {l : List (Int × Int)}
def plr (o : Option Nat) : Int := match o with | some i => i | none => -1
theorem ridx_at {i : Nat} {x : Int × Int} {id : Int} (h1 : ∀ j, j < i → ∀ y, l[j]? = some y → y.1 ≠ id) (h2 : l[i]? = some x) (h3 : x.1 = id) : ridx l id = some i := by
  obtain ⟨hi, hx⟩ := List.getElem?_eq_some_iff.1 h2
  refine List.findIdx?_eq_some_iff_getElem.2 ⟨hi, by simpa [hx] using h3, fun j hj => ?_⟩
  simpa using h1 j hj _ (List.getElem?_eq_getElem (by omega))
theorem ridx_no {id : Int} (h1 : ∀ j, j < l.length → ∀ y, l[j]? = some y → y.1 ≠ id) : ridx l id = none := by
  refine List.findIdx?_eq_none_iff.2 fun x hx => ?_
  obtain ⟨j, hj⟩ := List.getElem?_of_mem hx
  simpa using h1 j (List.getElem?_eq_some_iff.1 hj).1 x hj
theorem roAt (hq : l.length ≤ 1000) (id : Int) : Tri tab ext F.detentref4_Queue_At [.s (.ptr (some (p, 0))), i64 id] [Rq p (b, l)] fun v P' => v = i64 (plr (ridx l id)) ∧ P' = [Rq p (b, l)] := by
  refine Tri.go tab_detentref4_Queue_At rfl ?_
  refine RUN ?_
  refine TC.rq .h fun s => ?_
  refine TC.loop (fun i : Nat => l.length - i) (fun i => i ≤ l.length ∧ ∀ j, j < i → ∀ y, l[j]? = some y → y.1 ≠ id) (fun i => [(0, .s (.ptr (some (p, 0)))), (1, i64 id), (5, i64 i)]) (fun _ => [Cel p [.bool b, s], Row encJ 2 s l]) 0 ⟨Nat.zero_le _, fun j hj => by omega⟩ ⟨rfl, rfl, rfl, trivial⟩ (LEnt.refl _) ?_
  rintro i ⟨hi, hno⟩
  refine RUN ?_
  refine TC.cP rfl (fun h => ?_) fun h => ?_
  · obtain ⟨x, hx⟩ : ∃ x, l[i]? = some x := ⟨_, List.getElem?_eq_getElem (by omega)⟩
    refine RUN ?_
    refine TC.cP rfl (fun h2 => ?_) fun h2 => ?_
    · refine RUN ?_
      refine rt_r rfl ⟨?_, rfl⟩ Rq.shut
      rw [ridx_at hno hx h2]; rfl
    · refine RUN ?_
      refine lp_n (i + 1) ⟨by omega, fun j hj y hy => ?_⟩ (by omega) ⟨rfl, rfl, rfl, trivial⟩ (LEnt.refl _)
      by_cases e : j = i
      · subst e; rw [hx] at hy; cases hy; exact h2
      · exact hno j (by omega) y hy
  · refine RUN ?_
    refine rt_r rfl ⟨?_, rfl⟩ Rq.shut
    rw [ridx_no fun j hj => hno j (by omega)]; rfl
theorem roGood (id pri : Int) : Tri tab ext F.detentref4_Good [i64 id, i64 pri] [] fun v P' => v = bl (rgood id pri) ∧ P' = [] := by
  refine Tri.go tab_detentref4_Good rfl ?_
  refine RUN ?_
  by_cases h1 : id ≥ 1
  · rw [decide_eq_true h1]
    refine RUN ?_
    by_cases h2 : id ≤ 16
    · rw [decide_eq_true h2]
      refine RUN ?_
      by_cases h3 : pri ≥ 1
      · rw [decide_eq_true h3]
        refine RUN ?_
        exact rt_r rfl ⟨congrArg bl (by unfold rgood; rw [decide_eq_decide]; omega), rfl⟩ (LEnt.refl _)
      · rw [decide_eq_false h3]
        refine RUN ?_
        exact rt_r rfl ⟨congrArg bl (by unfold rgood; rw [eq_comm, decide_eq_false_iff_not]; omega), rfl⟩ (LEnt.refl _)
    · rw [decide_eq_false h2]
      refine RUN ?_
      exact rt_r rfl ⟨congrArg bl (by unfold rgood; rw [eq_comm, decide_eq_false_iff_not]; omega), rfl⟩ (LEnt.refl _)
  · rw [decide_eq_false h1]
    refine RUN ?_
    exact rt_r rfl ⟨congrArg bl (by unfold rgood; rw [eq_comm, decide_eq_false_iff_not]; omega), rfl⟩ (LEnt.refl _)
theorem rposW_le (pn : Int) (l : List (Int × Int)) : ∀ i, rposW pn l i ≤ i
  | 0 => Nat.le_refl _
  | i + 1 => by
    simp only [rposW]
    split
    · have := rposW_le pn l i; omega
    · omega
theorem rpos_le {pn : Int} : rpos b pn l ≤ l.length := by
  unfold rpos
  split
  · exact rposW_le _ _ _
  · exact Nat.le_refl _
attribute [local irreducible] R.detentref4_Queue_put_s1
theorem roPut (hq : l.length ≤ 1000) (x : Int × Int) : Tri tab ext F.detentref4_Queue_put [.s (.ptr (some (p, 0))), .agg (encJ x)] [Rq p (b, l)] fun _ P' => P' = [Rq p (b, rput b l x)] := by
  refine Tri.go tab_detentref4_Queue_put rfl ?_
  refine RUN ?_
  refine RP.bx rfl rfl rfl fun c => ?_
  refine RUN ?_
  refine RP.rq (.n .h) fun s => ?_
  refine RUN ?_
  have key : ∀ i : Nat, i ≤ l.length → i = rpos b x.2 l → TC tab ext R.detentref4_Queue_put.ntmps [(0, .s (.ptr (some (p, 0)))), (3, .s (.ptr (some (c, 0)))), (4, i64 i)] [Cel p [.bool b, s], Row encJ 2 s l, Cel c (encJ x)] R.detentref4_Queue_put_s1 (rt R.detentref4_Queue_put.results fun _ P' => P' = [Rq p (b, rput b l x)]) := by
    intro i hi he
    unfold R.detentref4_Queue_put_s1
    refine RUN ?_
    refine RP.cutH encJ_len rfl (.n .h) rfl hi rfl fun q1 hq1 => ?_
    refine RUN ?_
    refine RP.bs rfl rfl rfl fun c1 => ?_
    refine RP.ent (L' := Row encJ 2 (.slice (some (c1, 0)) 0 0 2) [] :: [Cel p [.bool b, s], Row encJ 2 s l, Cel c (encJ x)]) row_empty ?_
    refine RP.ap rfl rfl rfl (ap_part (r := []) encJ_len (.c (by ((repeat (first | exact .h | apply In1.n)); fail_if_success refine ?_)) (.c (by ((repeat (first | exact .h | apply In1.n)); fail_if_success refine ?_)) .e)) hq1 (by omega) (by simp only [List.length_nil]; omega)) fun s1 => ?_
    refine WK.wq (fun g _ _ => ⟨_, _, _, rfl, rfl, .inr ⟨_, _, rfl, rfl, by ((repeat (first | exact Ldn.cb (by rfl) rfl | exact Ldn.rb (by rfl) rfl | exact Ldn.w (fun _ => by rfl) (by assumption) | apply Ldn.n)); fail_if_success refine ?_)⟩⟩) (fun p h => by cases h) (WK.z ?_)
    refine RUN ?_
    refine RP.bs rfl rfl rfl fun c2 => ?_
    refine RP.ap rfl rfl rfl (ap_one (e := x) encJ_len (.c (by ((repeat (first | exact .h | apply In1.n)); fail_if_success refine ?_)) (.c (by ((repeat (first | exact .h | apply In1.n)); fail_if_success refine ?_)) .e)) (by simp only [List.nil_append, List.length_take, List.length_drop]; omega)) fun s2 => ?_
    refine RUN ?_
    refine RP.cutL encJ_len rfl (by first | exact RowIn.h | exact .n RowIn.h | exact .n (.n RowIn.h)) rfl hi rfl fun q2 hq2 => ?_
    refine RUN ?_
    refine RP.ap rfl rfl rfl (ap_part encJ_len (.c (by ((repeat (first | exact .h | apply In1.n)); fail_if_success refine ?_)) (.c (by ((repeat (first | exact .h | apply In1.n)); fail_if_success refine ?_)) .e)) hq2 (by omega) (by simp only [List.nil_append, List.length_append, List.length_take, List.length_drop, List.length_singleton]; omega)) fun s3 => ?_
    refine RUN ?_
    refine rt_n ⟨[], rfl, trivial⟩ rfl ((LEnt.of (P := [Cel p [.bool b, s3], Row encJ 2 s3 ([] ++ List.take i (List.drop 0 l) ++ [x] ++ List.take (l.length - i) (List.drop i l))]) (.c (by ((repeat (first | exact .h | apply In1.n)); fail_if_success refine ?_)) (.c (by ((repeat (first | exact .h | apply In1.n)); fail_if_success refine ?_)) .e))).trans ?_)
    have e : rput b l x = ([] ++ List.take i (List.drop 0 l) ++ [x]) ++ List.take (l.length - i) (List.drop i l) := by
      unfold rput
      rw [← he, List.drop_zero, List.nil_append, List.append_assoc, List.singleton_append]
      congr 2
      exact (List.take_of_length_le (by rw [List.length_drop]; omega)).symm
    rw [e]
    exact Rq.shut
  cases b with
  | false =>
    refine RUN ?_
    refine TC.env ?_ (key l.length (Nat.le_refl _) rfl)
    exact ⟨rfl, rfl, rfl, trivial⟩
  | true =>
    refine RUN ?_
    refine TC.loop (fun i : Nat => i) (fun i => i ≤ l.length ∧ rposW x.2 l i = rposW x.2 l l.length) (fun i => [(0, .s (.ptr (some (p, 0)))), (3, .s (.ptr (some (c, 0)))), (4, i64 i)]) (fun _ => [Cel p [.bool true, s], Row encJ 2 s l, Cel c (encJ x)]) l.length ⟨Nat.le_refl _, rfl⟩ ⟨rfl, rfl, rfl, trivial⟩ (LEnt.refl _) ?_
    rintro i ⟨hi, hd⟩
    refine RUN ?_
    by_cases h0 : (i : Int) > 0
    · rw [decide_eq_true h0]
      obtain ⟨j, rfl⟩ : ∃ j, i = j + 1 := ⟨i - 1, by omega⟩
      have hj : j < l.length := by omega
      obtain ⟨y, hy⟩ : ∃ y, l[j]? = some y := ⟨_, List.getElem?_eq_getElem hj⟩
      have hs : rposW x.2 l (j + 1) = if y.2 > x.2 then rposW x.2 l j else j + 1 := by
        simp only [rposW]; rw [hy]; rfl
      rw [hs] at hd
      refine RUN ?_
      refine TC.cP rfl (fun h1 => ?_) fun h1 => ?_
      · refine RUN ?_
        rw [if_pos h1] at hd
        exact lp_n j ⟨by omega, hd⟩ (by omega) ⟨rfl, rfl, rfl, trivial⟩ (LEnt.refl _)
      · refine RUN ?_
        rw [if_neg h1] at hd
        refine TC.env ?_ (key (j + 1) hi hd)
        exact ⟨rfl, rfl, rfl, trivial⟩
    · obtain rfl : i = 0 := by omega
      refine RUN ?_
      refine TC.env ?_ (key 0 hi hd)
      exact ⟨rfl, rfl, rfl, trivial⟩
theorem roAdd (hq : l.length ≤ 1000) (id pri : Int) : Tri tab ext F.detentref4_Queue_Add [.s (.ptr (some (p, 0))), i64 id, i64 pri] [Rq p (b, l)] fun v P' => v = i64 (radd b l id pri).1 ∧ P' = [Rq p (b, (radd b l id pri).2)] := by
  refine Tri.go tab_detentref4_Queue_Add rfl ?_
  refine RUN ?_
  refine RP.c rfl (roGood id pri) .e rfl ?_
  rintro v P' ⟨rfl, rfl⟩
  refine RUN ?_
  unfold radd
  cases hg : rgood id pri with
  | false =>
    refine RUN ?_
    rw [if_pos rfl]
    exact rt_r rfl ⟨rfl, rfl⟩ (LEnt.refl _)
  | true =>
    refine RUN ?_
    rw [if_neg (show ¬ true = false by decide)]
    refine RP.c rfl (roAt hq id) (.c .h .e) rfl ?_
    rintro v P' ⟨rfl, rfl⟩
    refine RUN ?_
    cases hx : ridx l id with
    | some i =>
      rw [if_pos (show (some i).isSome = true from rfl), decide_eq_true (show plr (some i) ≥ 0 from Int.natCast_nonneg i)]
      refine RUN ?_
      exact rt_r rfl ⟨rfl, rfl⟩ (LEnt.refl _)
    | none =>
      rw [if_neg (show ¬ (none : Option Nat).isSome = true by decide), decide_eq_false (show ¬ plr none ≥ 0 by decide)]
      refine RUN ?_
      refine RP.c rfl (roPut hq (id, pri)) (.c .h .e) rfl ?_
      rintro v P' rfl
      refine RUN ?_
      exact rt_r rfl ⟨rfl, rfl⟩ (LEnt.refl _)
theorem roRemove (hq : l.length ≤ 1000) (id : Int) : Tri tab ext F.detentref4_Queue_Remove [.s (.ptr (some (p, 0))), i64 id] [Rq p (b, l)] fun v P' => v = bl (ridx l id).isSome ∧ P' = [Rq p (b, rrem l id)] := by
  refine Tri.go tab_detentref4_Queue_Remove rfl ?_
  refine RUN ?_
  refine RP.c rfl (roAt hq id) (.c .h .e) rfl ?_
  rintro v P' ⟨rfl, rfl⟩
  refine RUN ?_
  unfold rrem
  cases hx : ridx l id with
  | none =>
    rw [decide_eq_true (show plr none < 0 by decide)]
    refine RUN ?_
    exact rt_r rfl ⟨rfl, rfl⟩ (LEnt.refl _)
  | some i =>
    have hi := ridx_lt hx
    have hp : plr (some i) = (i : Int) := rfl
    rw [decide_eq_false (show ¬ plr (some i) < 0 from by rw [hp]; omega), hp]
    refine RUN ?_
    refine RP.bs rfl rfl rfl fun c1 => ?_
    refine RP.rq (.n .h) fun s => ?_
    refine RUN ?_
    refine RP.cutH encJ_len rfl (by first | exact RowIn.h | exact .n RowIn.h | exact .n (.n RowIn.h)) rfl (Nat.le_of_lt hi) rfl fun q1 hq1 => ?_
    refine RUN ?_
    refine RP.ent (L' := Row encJ 2 (.slice (some (c1, 0)) 0 0 2) [] :: [Cel p [.bool b, s], Row encJ 2 s l]) (LEnt.trans (LEnt.of (.c (by ((repeat (first | exact .h | apply In1.n)); fail_if_success refine ?_)) (.c (by ((repeat (first | exact .h | apply In1.n)); fail_if_success refine ?_)) (.c (by ((repeat (first | exact .h | apply In1.n)); fail_if_success refine ?_)) .e)))) row_empty) ?_
    refine RP.ap rfl rfl rfl (ap_part (r := []) encJ_len (.c (by ((repeat (first | exact .h | apply In1.n)); fail_if_success refine ?_)) (.c (by ((repeat (first | exact .h | apply In1.n)); fail_if_success refine ?_)) .e)) hq1 (by omega) (by simp only [List.length_nil]; omega)) fun s1 => ?_
    refine RUN ?_
    refine RP.cutL encJ_len rfl (by first | exact RowIn.h | exact .n RowIn.h | exact .n (.n RowIn.h)) rfl (show i + 1 ≤ l.length from hi) rfl fun q2 hq2 => ?_
    refine RUN ?_
    refine RP.ap rfl rfl rfl (ap_part encJ_len (.c (by ((repeat (first | exact .h | apply In1.n)); fail_if_success refine ?_)) (.c (by ((repeat (first | exact .h | apply In1.n)); fail_if_success refine ?_)) .e)) hq2 (by omega) (by simp only [List.nil_append, List.length_take, List.length_drop]; omega)) fun s3 => ?_
    refine RUN ?_
    refine rt_r rfl ⟨rfl, rfl⟩ ((LEnt.of (P := [Cel p [.bool b, s3], Row encJ 2 s3 ([] ++ List.take i (List.drop 0 l) ++ List.take (l.length - (i + 1)) (List.drop (i + 1) l))]) (.c (by ((repeat (first | exact .h | apply In1.n)); fail_if_success refine ?_)) (.c (by ((repeat (first | exact .h | apply In1.n)); fail_if_success refine ?_)) .e))).trans ?_)
    have e : List.take i l ++ List.drop (i + 1) l = [] ++ List.take i (List.drop 0 l) ++ List.take (l.length - (i + 1)) (List.drop (i + 1) l) := by
      rw [List.drop_zero, List.nil_append]
      congr 1
      exact (List.take_of_length_le (by rw [List.length_drop]; omega)).symm
    dsimp only
    rw [e]
    exact Rq.shut
theorem roChange (hq : l.length ≤ 1000) (id pri : Int) : Tri tab ext F.detentref4_Queue_Change [.s (.ptr (some (p, 0))), i64 id, i64 pri] [Rq p (b, l)] fun v P' => v = bl ((ridx l id).isSome && decide (1 ≤ pri ∧ pri ≤ 16)) ∧ P' = [Rq p (b, rchg b l id pri)] := by
  refine Tri.go tab_detentref4_Queue_Change rfl ?_
  refine RUN ?_
  refine RP.c rfl (roAt hq id) (.c .h .e) rfl ?_
  rintro v P' ⟨rfl, rfl⟩
  refine RUN ?_
  cases hx : ridx l id with
  | none =>
    rw [decide_eq_true (show plr none < 0 by decide)]
    refine RUN ?_
    exact rt_r rfl ⟨rfl, by unfold rchg; rw [hx]; rfl⟩ (LEnt.refl _)
  | some i =>
    have hi := ridx_lt hx
    have hp : plr (some i) = (i : Int) := rfl
    have hc : rchg b l id pri = if 1 ≤ pri ∧ pri ≤ 16 then (if b then rput true (l.take i ++ l.drop (i + 1)) (id, pri) else l.set i (id, pri)) else l := by unfold rchg; rw [hx]
    rw [hc]
    rw [decide_eq_false (show ¬ plr (some i) < 0 from by rw [hp]; omega), hp]
    refine RUN ?_
    by_cases h1 : pri < 1
    · rw [decide_eq_true h1]
      refine RUN ?_
      refine rt_r rfl ⟨?_, ?_⟩ (LEnt.refl _)
      · rw [decide_eq_false (show ¬ (1 ≤ pri ∧ pri ≤ 16) by omega)]; rfl
      · rw [if_neg (show ¬ (1 ≤ pri ∧ pri ≤ 16) by omega)]; rfl
    · rw [decide_eq_false h1]
      refine RUN ?_
      by_cases h2 : pri > 16
      · rw [decide_eq_true h2]
        refine RUN ?_
        refine rt_r rfl ⟨?_, ?_⟩ (LEnt.refl _)
        · rw [decide_eq_false (show ¬ (1 ≤ pri ∧ pri ≤ 16) by omega)]; rfl
        · rw [if_neg (show ¬ (1 ≤ pri ∧ pri ≤ 16) by omega)]; rfl
      · rw [decide_eq_false h2]
        refine RUN ?_
        rw [decide_eq_true (show (1 ≤ pri ∧ pri ≤ 16) by omega), if_pos (show (1 ≤ pri ∧ pri ≤ 16) by omega)]
        refine RP.rq .h fun s => ?_
        refine RUN ?_
        cases b with
        | true =>
          refine RUN ?_
          refine RP.ent (L' := [Rq p (true, l)]) Rq.shut ?_
          refine RP.c rfl (roRemove hq id) (.c .h .e) rfl ?_
          rintro v P' ⟨rfl, rfl⟩
          have hr : rrem l id = l.take i ++ l.drop (i + 1) := by unfold rrem; rw [hx]
          rw [hr]
          refine RUN ?_
          refine RP.c rfl (roPut (l := l.take i ++ l.drop (i + 1)) (by simp only [List.length_append, List.length_take, List.length_drop]; omega) (id, pri)) (.c .h .e) rfl ?_
          rintro v P' rfl
          refine RUN ?_
          exact rt_r rfl ⟨rfl, rfl⟩ (LEnt.refl _)
        | false =>
          refine RUN ?_
          refine RP.bs rfl rfl rfl fun c1 => ?_
          refine RUN ?_
          refine RP.ent (L' := Row encJ 2 (.slice (some (c1, 0)) 0 0 2) [] :: [Cel p [.bool false, s], Row encJ 2 s l]) (LEnt.trans (LEnt.of (.c (by ((repeat (first | exact .h | apply In1.n)); fail_if_success refine ?_)) (.c (by ((repeat (first | exact .h | apply In1.n)); fail_if_success refine ?_)) (.c (by ((repeat (first | exact .h | apply In1.n)); fail_if_success refine ?_)) .e)))) row_empty) ?_
          refine RP.ap rfl rfl rfl (ap_row (r := []) (r2 := l) encJ_len (.c (by ((repeat (first | exact .h | apply In1.n)); fail_if_success refine ?_)) (.c (by ((repeat (first | exact .h | apply In1.n)); fail_if_success refine ?_)) .e)) (by simp only [List.length_nil]; omega)) fun s1 => ?_
          refine RUN ?_
          rw [List.nil_append]
          refine RUN ?_
          obtain ⟨y, hy⟩ := ridx_id hx
          refine RP.s rfl rfl rfl rfl (by refine Stw.w encJ_len (id, pri) hy ?_ ?_ <;> rfl) ?_
          refine RUN ?_
          refine rt_r rfl ⟨rfl, rfl⟩ ((LEnt.of (P := [Cel p [.bool false, s1], Row encJ 2 s1 (l.set i (id, pri))]) (.c (by ((repeat (first | exact .h | apply In1.n)); fail_if_success refine ?_)) (.c (by ((repeat (first | exact .h | apply In1.n)); fail_if_success refine ?_)) .e))).trans Rq.shut)
def rtk : List (Int × Int) → AV
  | [] => .tup [.agg [.int .i64 0, .int .i64 0], .s (.bool false)]
  | x :: _ => .tup [.agg (encJ x), .s (.bool true)]
theorem roTake (hq : l.length ≤ 1000) : Tri tab ext F.detentref4_Queue_Take [.s (.ptr (some (p, 0)))] [Rq p (b, l)] fun v P' => v = rtk l ∧ P' = [Rq p (b, l.drop 1)] := by
  refine Tri.go tab_detentref4_Queue_Take rfl ?_
  refine RUN ?_
  refine RP.nw rfl fun c1 => ?_
  refine RUN ?_
  refine RP.rq (.n .h) fun s => ?_
  refine RUN ?_
  refine TC.cP rfl (fun h => ?_) fun h => ?_
  · obtain rfl : l = [] := List.length_eq_zero_iff.1 (by omega)
    refine RUN ?_
    exact rt_r ⟨[.agg [.int .i64 0, .int .i64 0], .s (.bool false)], rfl, ⟨_, _, rfl, .inr ⟨_, _, rfl, rfl, by ((repeat (first | exact Ldn.cb (by rfl) rfl | exact Ldn.rb (by rfl) rfl | exact Ldn.w (fun _ => by rfl) (by assumption) | apply Ldn.n)); fail_if_success refine ?_)⟩⟩, rfl, trivial⟩ ⟨rfl, rfl⟩ ((LEnt.of (P := [Cel p [.bool b, s], Row encJ 2 s []]) (.c (by ((repeat (first | exact .h | apply In1.n)); fail_if_success refine ?_)) (.c (by ((repeat (first | exact .h | apply In1.n)); fail_if_success refine ?_)) .e))).trans Rq.shut)
  · obtain ⟨x, r, rfl⟩ : ∃ x r, l = x :: r := by
      cases l with
      | nil => exact absurd rfl h
      | cons x r => exact ⟨x, r, rfl⟩
    have h0 : (x :: r)[0]? = some x := rfl
    refine RUN ?_
    rw [show Int.toNat 0 = 0 from rfl]
    refine RUN ?_
    refine RP.nw rfl fun c2 => ?_
    refine RUN ?_
    refine RP.bs rfl rfl rfl fun c3 => ?_
    refine RUN ?_
    refine RP.cutL (l := 1) encJ_len rfl (by first | exact RowIn.h | exact .n RowIn.h | exact .n (.n RowIn.h) | exact .n (.n (.n RowIn.h))) rfl (by simp only [List.length_cons]; omega) rfl fun q2 hq2 => ?_
    refine RUN ?_
    refine RP.ent (L' := Row encJ 2 (.slice (some (c3, 0)) 0 0 2) [] :: [Cel c2 (encJ x), Cel p [.bool b, s], Row encJ 2 s (x :: r), Cel c1 [.int .i64 0, .int .i64 0]]) row_empty ?_
    refine RP.ap rfl rfl rfl (ap_part (r := []) encJ_len (.c (by ((repeat (first | exact .h | apply In1.n)); fail_if_success refine ?_)) (.c (by ((repeat (first | exact .h | apply In1.n)); fail_if_success refine ?_)) .e)) hq2 (by simp only [List.length_cons]; omega) (by simp only [List.length_cons, List.length_nil] at hq ⊢; omega)) fun s1 => ?_
    refine RUN ?_
    have e : [] ++ List.take ((x :: r).length - 1) (List.drop 1 (x :: r)) = r := by
      rw [List.nil_append, List.drop_one, List.tail_cons, List.length_cons, Nat.add_sub_cancel, List.take_length]
    rw [e]
    exact rt_r ⟨[.agg (encJ x), .s (.bool true)], rfl, ⟨_, _, rfl, .inr ⟨_, _, rfl, rfl, by ((repeat (first | exact Ldn.cb (by rfl) rfl | exact Ldn.rb (by rfl) rfl | exact Ldn.w (fun _ => by rfl) (by assumption) | apply Ldn.n)); fail_if_success refine ?_)⟩⟩, rfl, trivial⟩ ⟨rfl, rfl⟩ ((LEnt.of (P := [Cel p [.bool b, s1], Row encJ 2 s1 r]) (.c (by ((repeat (first | exact .h | apply In1.n)); fail_if_success refine ?_)) (.c (by ((repeat (first | exact .h | apply In1.n)); fail_if_success refine ?_)) .e))).trans Rq.shut)
theorem roIDs (hq : l.length ≤ 1000) : Tri tab ext F.detentref4_Queue_IDs [.s (.ptr (some (p, 0)))] [Rq p (b, l)] fun v P' => ∃ s, v = .s s ∧ P' = [Row encI 1 s (l.map Prod.fst), Rq p (b, l)] := by
  refine Tri.go tab_detentref4_Queue_IDs rfl ?_
  refine RUN ?_
  refine TC.rq .h fun s => ?_
  refine TC.loop (fun a : Nat × SV => l.length - a.1) (fun a => a.1 ≤ l.length) (fun a => [(0, .s (.ptr (some (p, 0)))), (3, .s a.2), (4, i64 a.1)]) (fun a => [Row encI 1 a.2 ((l.take a.1).map Prod.fst), Cel p [.bool b, s], Row encJ 2 s l]) (0, .slice none 0 0 1) (Nat.zero_le _) ⟨rfl, rfl, rfl, trivial⟩ (row_nil 1 _) ?_
  rintro ⟨i, q⟩ hi
  dsimp only at hi ⊢
  refine RUN ?_
  refine TC.cP rfl (fun h => ?_) fun h => ?_
  · obtain ⟨x, hx⟩ : ∃ x, l[i]? = some x := ⟨_, List.getElem?_eq_getElem (by omega)⟩
    refine RUN ?_
    refine RP.bs rfl rfl rfl fun c1 => ?_
    refine RP.ap rfl rfl rfl (ap_one (enc := encI) (k := 1) (bytes := 8) (r := (l.take i).map Prod.fst) (e := x.1) encI_len (.c (by ((repeat (first | exact .h | apply In1.n)); fail_if_success refine ?_)) (.c (by ((repeat (first | exact .h | apply In1.n)); fail_if_success refine ?_)) .e)) (by simp only [List.length_map, List.length_take]; omega)) fun q' => ?_
    refine RUN ?_
    refine lp_n (i + 1, q') (by dsimp only; omega) (by dsimp only; omega) ⟨rfl, rfl, rfl, trivial⟩ ?_
    dsimp only
    rw [List.take_add_one, hx, Option.toList_some, List.map_append, List.map_singleton]
    exact LEnt.of (.c (by ((repeat (first | exact .h | apply In1.n)); fail_if_success refine ?_)) (.c (by ((repeat (first | exact .h | apply In1.n)); fail_if_success refine ?_)) (.c (by ((repeat (first | exact .h | apply In1.n)); fail_if_success refine ?_)) .e)))
  · obtain rfl : i = l.length := by omega
    refine RUN ?_
    rw [List.take_length]
    refine rt_r rfl ⟨q, rfl, rfl⟩ ?_
    exact (LEnt.of (P := [Cel p [.bool b, s], Row encJ 2 s l, Row encI 1 q (l.map Prod.fst)]) (.c (by ((repeat (first | exact .h | apply In1.n)); fail_if_success refine ?_)) (.c (by ((repeat (first | exact .h | apply In1.n)); fail_if_success refine ?_)) (.c (by ((repeat (first | exact .h | apply In1.n)); fail_if_success refine ?_)) .e)))).trans (Rq.shut.trans (LEnt.of (.c (by ((repeat (first | exact .h | apply In1.n)); fail_if_success refine ?_)) (.c (by ((repeat (first | exact .h | apply In1.n)); fail_if_success refine ?_)) .e))))
end
end Go.AM

/-
  The document's mutexes: what is only asked.
-/
namespace Go.AM
set_option maxHeartbeats 8000000
attribute [local irreducible] sq bk lpK mdx rt TC RP WK Cel Ro Row Fre RowsA RowsBut
abbrev rmC (S : Rf) (sk so sq : SV) : List SV := [sk, so, sq] ++ (flat encI S.bs ++ flat encI S.nw)
structure RfL (S : Rf) : Prop where
  bs : S.bs.length = 17
  nw : S.nw.length = 17
  ow : S.ow.length = S.ks.length
  qs : S.qs.length = S.ks.length
  ks : S.ks.length ≤ 8
  ql : ∀ q ∈ S.qs, q.2.length ≤ 16
  qi : ∀ q ∈ S.qs, ∀ x ∈ q.2, 1 ≤ x.1 ∧ x.1 ≤ 16
abbrev rmL (b : Nat) (S : Rf) (sk so sq : SV) : List Asr := [Cel b (rmC S sk so sq), Row encK 2 sk S.ks, Row encI 1 so S.ow, Obs Rq sq S.qs]
def RmA (b : Nat) (S : Rf) : Asr := Asr.ex fun w : SV × SV × SV => Asr.all (rmL b S w.1 w.2.1 w.2.2)
section
variable {L R : List Asr} {b : Nat} {S : Rf}
theorem RmA.shut {sk so sq : SV} : LEnt (rmL b S sk so sq ++ L) (RmA b S :: L) := fun ρ H X hs => Sat.mkEx (sk, so, sq) (Sat.mkAll (by rw [List.append_assoc] at hs; exact hs))
variable {tab : Nat → Option RFunc} {ext : Nat → List AV → AH → Option (AV × AH)} {n : Nat} {E : Env}
theorem RmA.open' (hin : In1 (RmA b S) L R) (ρ : HF) (H : AH) (X : List Asr) (hs : Sat ρ H (L ++ X)) : ∃ w : SV × SV × SV, Sat ρ H ((rmL b S w.1 w.2.1 w.2.2 ++ R) ++ X) := by
  have h1 : Sat ρ H (RmA b S :: (R ++ X)) := hs.perm (hin.perm.append_right X)
  obtain ⟨w, h2⟩ := Sat.ex h1
  exact ⟨w, by rw [List.append_assoc]; exact Sat.all h2⟩
theorem RP.rm {os : List ROper} {K : Env → List Asr → Prop} (hin : In1 (RmA b S) L R) (k : ∀ sk so sq, RP tab ext n E (rmL b S sk so sq ++ R) os K) : RP tab ext n E L os K :=
  RP.imp (L' := fun w : SV × SV × SV => rmL b S w.1 w.2.1 w.2.2 ++ R) (fun ρ H X hs => RmA.open' hin ρ H X hs) fun w => k w.1 w.2.1 w.2.2
theorem TC.rm {c : RC} {K : Pst} (hin : In1 (RmA b S) L R) (k : ∀ sk so sq, TC tab ext n E (rmL b S sk so sq ++ R) c K) : TC tab ext n E L c K :=
  TC.imp (L' := fun w : SV × SV × SV => rmL b S w.1 w.2.1 w.2.2 ++ R) (fun ρ H X hs => RmA.open' hin ρ H X hs) fun w => k w.1 w.2.1 w.2.2
end
section
variable {ext : Nat → List AV → AH → Option (AV × AH)} {b : Nat} {S : Rf} {sk so sq : SV}
theorem rmIs (t : Int) : Tri tab ext F.detentref15_is [i64 t] [] fun v P' => v = bl (decide (1 ≤ t ∧ t ≤ 16)) ∧ P' = [] := by
  refine Tri.go tab_detentref15_is rfl ?_
  refine RUN ?_
  by_cases h1 : t ≥ 1
  · rw [decide_eq_true h1]
    refine RUN ?_
    exact rt_r rfl ⟨congrArg bl (by rw [decide_eq_decide]; omega), rfl⟩ (LEnt.refl _)
  · rw [decide_eq_false h1]
    refine RUN ?_
    exact rt_r rfl ⟨congrArg bl (by rw [eq_comm, decide_eq_false_iff_not]; omega), rfl⟩ (LEnt.refl _)
theorem rm_in {L : List Asr} {ps : List Nat} (hps : ps.length = S.qs.length) : LEnt ([Row encP 1 sq ps, Ths Rq ps S.qs, Cel b (rmC S sk so sq), Row encK 2 sk S.ks, Row encI 1 so S.ow] ++ L) (RmA b S :: L) := fun ρ H R hs => by
  have h1 := Obs.shut (Th := Rq) (os := S.qs) hps (L := [Cel b (rmC S sk so sq), Row encK 2 sk S.ks, Row encI 1 so S.ow] ++ L) ρ H R hs
  exact RmA.shut (S := S) (sk := sk) (so := so) (sq := sq) (L := L) ρ H R (Sat.re h1 [1, 2, 3, 0] (by simp) (by decide))
theorem Ld.bs {L : List Asr} {t : Nat} {x : Int} (h : S.bs[t]? = some x) : Ld (Cel b (rmC S sk so sq) :: L) b (ix 3 t 1 0) (.int .i64 x) := Ld.a (c := 3) (pre := [sk, so, sq]) rfl encI_len h rfl
theorem Ld.nw {L : List Asr} {t : Nat} {x : Int} (hb : S.bs.length = 17) (h : S.nw[t]? = some x) : Ld (Cel b (rmC S sk so sq) :: L) b (ix 20 t 1 0) (.int .i64 x) := by
  have e : rmC S sk so sq = ([sk, so, sq] ++ flat encI S.bs) ++ (flat encI S.nw ++ []) := by rw [List.append_nil, List.append_assoc]
  rw [e]
  exact Ld.a (c := 20) (by rw [List.length_append, flat_len encI_len, hb]; rfl) encI_len h rfl
theorem rmMutex (m : Int) : Tri tab ext F.detentref15_All_mutex [ptr b, i64 m] [RmA b S] fun v P' => v = bl (decide (1 ≤ m ∧ m ≤ S.ks.length)) ∧ P' = [RmA b S] := by
  refine Tri.go tab_detentref15_All_mutex rfl ?_
  refine TC.rm .h fun sk so sq => ?_
  refine RUN ?_
  by_cases h1 : m ≥ 1
  · rw [decide_eq_true h1]
    refine RUN ?_
    exact rt_r rfl ⟨congrArg bl (by rw [decide_eq_decide]; omega), rfl⟩ RmA.shut
  · rw [decide_eq_false h1]
    refine RUN ?_
    exact rt_r rfl ⟨congrArg bl (by rw [eq_comm, decide_eq_false_iff_not]; omega), rfl⟩ RmA.shut
theorem rmWaits (hL : RfL S) (t : Int) : Tri tab ext F.detentref15_All_waits [ptr b, i64 t] [RmA b S] fun v P' => v = i64 (plr (rwt S t)) ∧ P' = [RmA b S] := by
  have hl8 := hL.ks
  have hlq := hL.qs
  refine Tri.go tab_detentref15_All_waits rfl ?_
  refine RUN ?_
  refine TC.rm .h fun sk so sq => ?_
  refine TC.obs (by ((repeat (first | exact .h | apply In1.n)); fail_if_success refine ?_)) fun ps hps => ?_
  refine TC.loop (fun i : Nat => S.qs.length - i) (fun i => i ≤ S.qs.length ∧ ∀ j, j < i → ∀ q, S.qs[j]? = some q → (ridx q.2 t).isSome = false) (fun i => [(0, ptr b), (1, i64 t), (5, i64 i)]) (fun _ => [Row encP 1 sq ps, Ths Rq ps S.qs, Cel b (rmC S sk so sq), Row encK 2 sk S.ks, Row encI 1 so S.ow]) 0 ⟨Nat.zero_le _, fun j hj => by omega⟩ ⟨rfl, rfl, rfl, trivial⟩ (LEnt.refl _) ?_
  rintro i ⟨hi, hno⟩
  refine RUN ?_
  have hsh : LEnt [Row encP 1 sq ps, Ths Rq ps S.qs, Cel b (rmC S sk so sq), Row encK 2 sk S.ks, Row encI 1 so S.ow] [RmA b S] := (Obs.shut hps).trans ((LEnt.of (P := rmL b S sk so sq) (.c (by ((repeat (first | exact .h | apply In1.n)); fail_if_success refine ?_)) (.c (by ((repeat (first | exact .h | apply In1.n)); fail_if_success refine ?_)) (.c (by ((repeat (first | exact .h | apply In1.n)); fail_if_success refine ?_)) (.c (by ((repeat (first | exact .h | apply In1.n)); fail_if_success refine ?_)) .e))))).trans (RmA.shut (L := [])))
  refine TC.cP rfl (fun h => ?_) fun h => ?_
  · obtain ⟨⟨qb, ql⟩, hq⟩ : ∃ q, S.qs[i]? = some q := ⟨_, List.getElem?_eq_getElem (by omega)⟩
    obtain ⟨p, hp⟩ := ths_get hps hq
    have hql : ql.length ≤ 16 := hL.ql _ (List.mem_of_getElem? hq)
    refine RUN ?_
    refine RP.c rfl (Tri.ask (Q := fun v => v = i64 (plr (ridx ql t))) hps hp hq (roAt (by omega) t)) (.c (by ((repeat (first | exact .h | apply In1.n)); fail_if_success refine ?_)) .e) rfl ?_
    rintro v P' ⟨rfl, rfl⟩
    refine RUN ?_
    cases hx : ridx ql t with
    | none =>
      rw [decide_eq_false (show ¬ plr none ≥ 0 by decide)]
      refine RUN ?_
      refine lp_n (i + 1) ⟨by omega, fun j hj q hq' => ?_⟩ (by omega) ⟨rfl, rfl, rfl, trivial⟩ (LEnt.of (.c (by ((repeat (first | exact .h | apply In1.n)); fail_if_success refine ?_)) (.c (by ((repeat (first | exact .h | apply In1.n)); fail_if_success refine ?_)) (.c (by ((repeat (first | exact .h | apply In1.n)); fail_if_success refine ?_)) (.c (by ((repeat (first | exact .h | apply In1.n)); fail_if_success refine ?_)) (.c (by ((repeat (first | exact .h | apply In1.n)); fail_if_success refine ?_)) .e))))))
      by_cases e : j = i
      · subst e; rw [hq] at hq'; cases hq'; rw [hx]; rfl
      · exact hno j (by omega) q hq'
    | some k =>
      rw [decide_eq_true (show plr (some k) ≥ 0 from Int.natCast_nonneg k)]
      refine RUN ?_
      refine rt_r rfl ⟨?_, rfl⟩ (LEnt.trans (LEnt.of (.c (by ((repeat (first | exact .h | apply In1.n)); fail_if_success refine ?_)) (.c (by ((repeat (first | exact .h | apply In1.n)); fail_if_success refine ?_)) (.c (by ((repeat (first | exact .h | apply In1.n)); fail_if_success refine ?_)) (.c (by ((repeat (first | exact .h | apply In1.n)); fail_if_success refine ?_)) (.c (by ((repeat (first | exact .h | apply In1.n)); fail_if_success refine ?_)) .e)))))) hsh)
      have e : rwt S t = some i := by
        obtain ⟨hi2, hq2⟩ := List.getElem?_eq_some_iff.1 hq
        refine List.findIdx?_eq_some_iff_getElem.2 ⟨hi2, by rw [hq2]; show (ridx ql t).isSome = true; rw [hx]; rfl, fun j hj => ?_⟩
        rw [hno j hj _ (List.getElem?_eq_getElem (by omega))]; decide
      rw [e]; rfl
  · refine RUN ?_
    refine rt_r rfl ⟨?_, rfl⟩ hsh
    have e : rwt S t = none := by
      refine List.findIdx?_eq_none_iff.2 fun q hq => ?_
      obtain ⟨j, hj⟩ := List.getElem?_of_mem hq
      exact hno j (by have := (List.getElem?_eq_some_iff.1 hj).1; omega) q hj
    rw [e]; rfl
def RmF (b : Nat) (S : Rf) (sk so sq : SV) (ps : List Nat) : Asr := Asr.all [Asr.pure (ps.length = S.qs.length), Row encP 1 sq ps, Ths Rq ps S.qs, Cel b (rmC S sk so sq), Row encK 2 sk S.ks, Row encI 1 so S.ow]
abbrev rmK (b : Nat) (S : Rf) (sk so sq : SV) (ps : List Nat) : List Asr := [Row encP 1 sq ps, Ths Rq ps S.qs, Cel b (rmC S sk so sq), Row encK 2 sk S.ks, Row encI 1 so S.ow]
theorem rf_shut {L : List Asr} {ps : List Nat} (hps : ps.length = S.qs.length) : LEnt (rmK b S sk so sq ps ++ L) (RmF b S sk so sq ps :: L) := fun _ _ _ hs => Sat.mkAll (l := [_, _, _, _, _, _]) (Sat.mkPure hps hs)
theorem rf_out {L : List Asr} {ps : List Nat} {ρ : HF} {H : AH} {R : List Asr} (hs : Sat ρ H (RmF b S sk so sq ps :: L ++ R)) : ps.length = S.qs.length ∧ Sat ρ H ((rmK b S sk so sq ps ++ L) ++ R) := Sat.pure (Sat.all (l := [_, _, _, _, _, _]) hs)
theorem TC.rf {L : List Asr} {ps : List Nat} {n : Nat} {E : Env} {c : RC} {K : Pst} (k : ps.length = S.qs.length → TC tab ext n E (rmK b S sk so sq ps ++ L) c K) : TC tab ext n E (RmF b S sk so sq ps :: L) c K :=
  TC.fact (p := ps.length = S.qs.length) (fun _ _ _ hs => (rf_out hs).1) fun h => TC.ent (fun _ _ _ hs => (rf_out hs).2) (k h)
theorem RP.rf {L : List Asr} {ps : List Nat} {n : Nat} {E : Env} {os : List ROper} {K : Env → List Asr → Prop} (k : ps.length = S.qs.length → RP tab ext n E (rmK b S sk so sq ps ++ L) os K) : RP tab ext n E (RmF b S sk so sq ps :: L) os K :=
  RP.fact (p := ps.length = S.qs.length) (fun _ _ _ hs => (rf_out hs).1) fun h => RP.ent (fun _ _ _ hs => (rf_out hs).2) (k h)
theorem Ld.rf {ps : List Nat} {c o : Nat} {x : SV} (h : Ld (rmK b S sk so sq ps ++ []) c o x) : Ld [RmF b S sk so sq ps] c o x := ⟨fun ρ H R hs => h.of ρ H R (rf_out (L := []) hs).2⟩
theorem rm_any {f : Nat} {args : List AV} {Q : AV → Prop} (h : ∀ sk so sq ps, Tri tab ext f args [RmF b S sk so sq ps] fun v P' => Q v ∧ P' = [RmF b S sk so sq ps]) : Tri tab ext f args [RmA b S] fun v P' => Q v ∧ P' = [RmA b S] := by
  intro ρ H R hs
  obtain ⟨⟨sk, so, sq⟩, h1⟩ := RmA.open' (L := [RmA b S]) (R := []) .h ρ H R hs
  obtain ⟨ps, h2, h3⟩ := Obs.open' (Th := Rq) (os := S.qs) (R := [Cel b (rmC S sk so sq), Row encK 2 sk S.ks, Row encI 1 so S.ow]) (by ((repeat (first | exact .h | apply In1.n)); fail_if_success refine ?_)) h1
  refine (h sk so sq ps ρ H R (rf_shut h2 (L := []) ρ H R h3)).mono ?_
  rintro v H' ⟨P', ⟨hq, rfl⟩, hs'⟩
  obtain ⟨_, h4⟩ := rf_out (L := []) hs'
  exact ⟨_, ⟨hq, rfl⟩, rm_in h2 (L := []) ρ H' R h4⟩
abbrev rmQ (i : Nat) (b : Nat) (S : Rf) (sk so sq : SV) (ps : List Nat) (p : Nat) (qb : Bool) (ql : List (Int × Int)) (s : SV) : List Asr := [Cel p [.bool qb, s], Row encJ 2 s ql, ThsBut Rq i ps S.qs, Row encP 1 sq ps, Cel b (rmC S sk so sq), Row encK 2 sk S.ks, Row encI 1 so S.ow]
theorem rmQ_in {i p : Nat} {qb : Bool} {ql : List (Int × Int)} {s : SV} {ps : List Nat} (hps : ps.length = S.qs.length) (hp : ps[i]? = some p) (hq : S.qs[i]? = some (qb, ql)) : LEnt (rmQ i b S sk so sq ps p qb ql s) [RmF b S sk so sq ps] :=
  LEnt.trans Rq.shut (LEnt.trans (ths_back hp hq) (LEnt.trans (LEnt.of (P := rmK b S sk so sq ps) (.c (by ((repeat (first | exact .h | apply In1.n)); fail_if_success refine ?_)) (.c (by ((repeat (first | exact .h | apply In1.n)); fail_if_success refine ?_)) (.c (by ((repeat (first | exact .h | apply In1.n)); fail_if_success refine ?_)) (.c (by ((repeat (first | exact .h | apply In1.n)); fail_if_success refine ?_)) (.c (by ((repeat (first | exact .h | apply In1.n)); fail_if_success refine ?_)) .e)))))) (rf_shut hps (L := []))))
theorem TC.rmq {n : Nat} {E : Env} {c : RC} {K : Pst} {i : Nat} {qb : Bool} {ql : List (Int × Int)} {ps : List Nat} (hq : S.qs[i]? = some (qb, ql)) (k : ∀ p s, ps.length = S.qs.length → ps[i]? = some p → TC tab ext n E (rmQ i b S sk so sq ps p qb ql s) c K) : TC tab ext n E [RmF b S sk so sq ps] c K :=
  TC.rf fun hps => by
    obtain ⟨p, hp⟩ := ths_get hps hq
    refine TC.ent (LEnt.trans (LEnt.of (.c (by ((repeat (first | exact .h | apply In1.n)); fail_if_success refine ?_)) (.c (by ((repeat (first | exact .h | apply In1.n)); fail_if_success refine ?_)) (.c (by ((repeat (first | exact .h | apply In1.n)); fail_if_success refine ?_)) (.c (by ((repeat (first | exact .h | apply In1.n)); fail_if_success refine ?_)) (.c (by ((repeat (first | exact .h | apply In1.n)); fail_if_success refine ?_)) .e)))))) (ths_out hp hq)) ?_
    exact TC.rq .h fun s => TC.ent (LEnt.of (.c (by ((repeat (first | exact .h | apply In1.n)); fail_if_success refine ?_)) (.c (by ((repeat (first | exact .h | apply In1.n)); fail_if_success refine ?_)) (.c (by ((repeat (first | exact .h | apply In1.n)); fail_if_success refine ?_)) (.c (by ((repeat (first | exact .h | apply In1.n)); fail_if_success refine ?_)) (.c (by ((repeat (first | exact .h | apply In1.n)); fail_if_success refine ?_)) (.c (by ((repeat (first | exact .h | apply In1.n)); fail_if_success refine ?_)) (.c (by ((repeat (first | exact .h | apply In1.n)); fail_if_success refine ?_)) .e)))))))) (k p s hps hp)
theorem rf_get (hL : RfL S) {i : Nat} (hi : i < S.ks.length) : ∃ kk o qb ql, S.ks[i]? = some kk ∧ S.ow[i]? = some o ∧ S.qs[i]? = some (qb, ql) ∧ rKk S i = kk ∧ rOw S i = o ∧ rQq S i = (qb, ql) := by
  have h1 := hL.ow
  have h2 := hL.qs
  have e1 : S.ks[i]? = some (S.ks[i]) := List.getElem?_eq_getElem hi
  have e2 : S.ow[i]? = some (S.ow[i]'(by omega)) := List.getElem?_eq_getElem _
  have e3 : S.qs[i]? = some (S.qs[i]'(by omega)) := List.getElem?_eq_getElem _
  exact ⟨_, _, _, _, e1, e2, e3, by simp [rKk, e1], by simp [rOw, e2], by simp [rQq, e3]⟩
theorem rmInner {ps : List Nat} (hL : RfL S) (f : Nat) (rec : Int → Int) (t : Int) (hf : f ≤ 16) (ih : 0 < f → ∀ x : Int, 1 ≤ x ∧ x ≤ 16 → Tri tab ext F.detentref15_All_pri [ptr b, i64 x, i64 ((f : Int) - 1)] [RmF b S sk so sq ps] fun v P' => v = i64 (rec x) ∧ P' = [RmF b S sk so sq ps])
    {i : Nat} {kk : Int × Int} {qb : Bool} {ql : List (Int × Int)} (h1 : S.ks[i]? = some kk) (h3 : S.qs[i]? = some (qb, ql)) (p1 : Int) {K : Pst}
    (hK : ∀ E' L', ELe [(0, ptr b), (1, i64 t), (2, i64 f), (7, i64 (if kk.1 = 2 ∧ 0 < f then ql.foldl (fun p x => mn p (rec x.1)) p1 else p1)), (8, i64 i)] E' → LEnt L' [RmF b S sk so sq ps] → K .norm E' L') :
    TC tab ext R.detentref15_All_pri.ntmps [(0, ptr b), (1, i64 t), (2, i64 f), (7, i64 p1), (8, i64 i)] [RmF b S sk so sq ps] R.detentref15_All_pri_s1 K := by
  have hql : ql.length ≤ 16 := hL.ql _ (List.mem_of_getElem? h3)
  have hqi := hL.qi _ (List.mem_of_getElem? h3)
  have hl8 := hL.ks
  have hi8 := (List.getElem?_eq_some_iff.1 h1).1
  have hql8 := hL.qs
  unfold R.detentref15_All_pri_s1
  refine RUN ?_
  refine TC.loop (fun j : Nat => ql.length - j) (fun j => j ≤ ql.length ∧ (¬ (kk.1 = 2 ∧ 0 < f) → j = 0)) (fun j => [(0, ptr b), (1, i64 t), (2, i64 f), (7, i64 ((ql.take j).foldl (fun p x => mn p (rec x.1)) p1)), (8, i64 i), (9, i64 j)]) (fun _ => [RmF b S sk so sq ps]) 0 ⟨Nat.zero_le _, fun _ => rfl⟩ ⟨rfl, rfl, rfl, rfl, rfl, rfl, trivial⟩ (LEnt.refl _) ?_
  rintro j ⟨hj, hz⟩
  refine TC.rmq h3 fun p s hps hp => ?_
  refine RUN ?_
  by_cases h2 : kk.1 = 2
  · rw [decide_eq_true h2]
    refine RUN ?_
    by_cases h4 : (f : Int) > 0
    · rw [decide_eq_true h4]
      refine RUN ?_
      refine TC.cP rfl (fun h5 => ?_) fun h5 => ?_
      · obtain ⟨x, hx⟩ : ∃ x, ql[j]? = some x := ⟨_, List.getElem?_eq_getElem (by omega)⟩
        have hx16 := hqi x (List.mem_of_getElem? hx)
        have e : (ql.take (j + 1)).foldl (fun p x => mn p (rec x.1)) p1 = mn ((ql.take j).foldl (fun p x => mn p (rec x.1)) p1) (rec x.1) := foldl_take_succ hx
        generalize (ql.take j).foldl (fun p x => mn p (rec x.1)) p1 = pj at e
        refine RUN ?_
        refine RP.ent (rmQ_in hps hp h3) ?_
        refine RP.c rfl (ih (by omega) x.1 hx16) (.c .h .e) rfl ?_
        rintro v P' ⟨rfl, rfl⟩
        refine RUN ?_
        refine TC.cP rfl (fun h6 => ?_) fun h6 => ?_
        · refine RUN ?_
          refine lp_n (j + 1) ⟨by omega, fun h => absurd ⟨h2, by omega⟩ h⟩ (by omega) ⟨rfl, rfl, rfl, ?_, rfl, rfl, trivial⟩ (LEnt.refl _)
          rw [e, mn, if_pos h6]; rfl
        · refine RUN ?_
          refine lp_n (j + 1) ⟨by omega, fun h => absurd ⟨h2, by omega⟩ h⟩ (by omega) ⟨rfl, rfl, rfl, ?_, rfl, rfl, trivial⟩ (LEnt.refl _)
          rw [e, mn, if_neg h6]; rfl
      · obtain rfl : j = ql.length := by omega
        refine RUN ?_
        rw [List.take_length]
        refine hK _ _ ⟨rfl, rfl, rfl, ?_, rfl, trivial⟩ (rmQ_in hps hp h3)
        rw [if_pos ⟨h2, by omega⟩]; rfl
    · obtain rfl : j = 0 := hz (by omega)
      rw [decide_eq_false h4]
      refine RUN ?_
      refine hK _ _ ⟨rfl, rfl, rfl, ?_, rfl, trivial⟩ (rmQ_in hps hp h3)
      rw [if_neg (by omega)]; rfl
  · obtain rfl : j = 0 := hz (by omega)
    rw [decide_eq_false h2]
    refine RUN ?_
    refine hK _ _ ⟨rfl, rfl, rfl, ?_, rfl, trivial⟩ (rmQ_in hps hp h3)
    rw [if_neg (by omega)]; rfl
attribute [local irreducible] R.detentref15_All_pri_s1
theorem rmPriS {ps : List Nat} (hL : RfL S) (f : Nat) (rec : Int → Int) (deep : Bool) (hd : deep = decide (0 < f)) (t : Int) (hf : f ≤ 16) (ht : 1 ≤ t ∧ t ≤ 16)
    (ih : 0 < f → ∀ x : Int, 1 ≤ x ∧ x ≤ 16 → Tri tab ext F.detentref15_All_pri [ptr b, i64 x, i64 ((f : Int) - 1)] [RmF b S sk so sq ps] fun v P' => v = i64 (rec x) ∧ P' = [RmF b S sk so sq ps]) :
    Tri tab ext F.detentref15_All_pri [ptr b, i64 t, i64 f] [RmF b S sk so sq ps] fun v P' => v = i64 ((List.range S.ks.length).foldl (rpriK S rec deep t) (rBs S t)) ∧ P' = [RmF b S sk so sq ps] := by
  have hl8 := hL.ks
  have hbl := hL.bs
  have hol := hL.ow
  have hql8 := hL.qs
  refine Tri.go tab_detentref15_All_pri rfl ?_
  refine RUN ?_
  obtain ⟨k, hk⟩ : ∃ k : Nat, t = (k : Int) := ⟨t.toNat, by omega⟩
  have hx : S.bs[k]? = some (S.bs[k]'(by omega)) := List.getElem?_eq_getElem _
  have hbs : rBs S t = S.bs[k]'(by omega) := by
    subst hk
    show ((S.bs[k]?).getD 0) = _
    rw [hx]; rfl
  generalize S.bs[k]'(by omega) = bx at hx hbs
  rw [hbs]
  refine RP.rf fun hps => ?_
  subst hk
  refine RUN ?_
  refine TC.loop (fun i : Nat => S.ks.length - i) (fun i => i ≤ S.ks.length) (fun i => [(0, ptr b), (1, i64 k), (2, i64 f), (7, i64 ((List.range i).foldl (rpriK S rec deep k) bx)), (8, i64 i)]) (fun _ => [RmF b S sk so sq ps]) 0 (Nat.zero_le _) ⟨rfl, rfl, rfl, rfl, rfl, trivial⟩ (rf_shut hps (L := [])) ?_
  intro i hi
  refine TC.rf fun hps => ?_
  refine RUN ?_
  refine TC.cP rfl (fun h => ?_) fun h => ?_
  · obtain ⟨kk, o, qb, ql, h1, h2, h3, g1, g2, g3⟩ := rf_get hL (i := i) (by omega)
    have hs : (List.range (i + 1)).foldl (rpriK S rec deep k) bx = rpriK S rec deep k ((List.range i).foldl (rpriK S rec deep k) bx) i := by rw [List.range_succ, List.foldl_append]; rfl
    generalize (List.range i).foldl (rpriK S rec deep k) bx = pp at hs
    refine RUN ?_
    refine TC.cP rfl (fun h4 => ?_) fun h4 => ?_
    · refine RUN ?_
      refine lp_n (i + 1) (by omega) (by omega) ⟨rfl, rfl, rfl, ?_, rfl, trivial⟩ (rf_shut hps (L := []))
      have e : rpriK S rec deep k pp i = pp := if_pos (by rw [g2]; exact h4)
      rw [hs, e]; rfl
    · have h4 : o = (k : Int) := Classical.not_not.1 h4
      have hv : ∀ p1 : Int, p1 = (if kk.1 = 3 then mn pp kk.2 else pp) → (if kk.1 = 2 ∧ 0 < f then ql.foldl (fun p x => mn p (rec x.1)) p1 else p1) = rpriK S rec deep k pp i := by
        intro p1 hp1
        subst hp1
        unfold rpriK
        rw [g1, g2, g3]
        have hno : ¬ (o ≠ (k : Int)) := fun h => h h4
        rw [if_neg hno]
        have hde : (deep = true) = (0 < f) := by rw [hd]; simp
        simp only [hde]
      have hend : ∀ (p1 : Int), p1 = (if kk.1 = 3 then mn pp kk.2 else pp) → (if kk.1 = 2 ∧ 0 < f then ql.foldl (fun p x => mn p (rec x.1)) p1 else p1) = (List.range (i + 1)).foldl (rpriK S rec deep k) bx := fun p1 h => by rw [hs]; exact hv p1 h
      refine RUN ?_
      by_cases h5 : kk.1 = 3
      · rw [decide_eq_true h5]
        refine RUN ?_
        refine TC.cP rfl (fun h6 => ?_) fun h6 => ?_
        · refine RUN ?_
          refine TC.ent (rf_shut hps (L := [])) (TC.env ?_ (rmInner hL f rec k hf ih h1 h3 kk.2 fun E' L' hE hL' => ?_))
          · exact ⟨rfl, rfl, rfl, rfl, rfl, trivial⟩
          rw [hend kk.2 (by rw [if_pos h5, mn, if_pos h6])] at hE
          refine bk_n (sq_n (TC.env hE (TC.ent hL' ?_)))
          refine RUN ?_
          exact lp_n (i + 1) (by omega) (by omega) ⟨rfl, rfl, rfl, rfl, rfl, trivial⟩ (LEnt.refl _)
        · refine RUN ?_
          refine TC.ent (rf_shut hps (L := [])) (TC.env ?_ (rmInner hL f rec k hf ih h1 h3 pp fun E' L' hE hL' => ?_))
          · exact ⟨rfl, rfl, rfl, rfl, rfl, trivial⟩
          rw [hend pp (by rw [if_pos h5, mn, if_neg h6])] at hE
          refine bk_n (sq_n (TC.env hE (TC.ent hL' ?_)))
          refine RUN ?_
          exact lp_n (i + 1) (by omega) (by omega) ⟨rfl, rfl, rfl, rfl, rfl, trivial⟩ (LEnt.refl _)
      · rw [decide_eq_false h5]
        refine RUN ?_
        refine TC.ent (rf_shut hps (L := [])) (TC.env ?_ (rmInner hL f rec k hf ih h1 h3 pp fun E' L' hE hL' => ?_))
        · exact ⟨rfl, rfl, rfl, rfl, rfl, trivial⟩
        rw [hend pp (by rw [if_neg h5])] at hE
        refine bk_n (sq_n (TC.env hE (TC.ent hL' ?_)))
        refine RUN ?_
        exact lp_n (i + 1) (by omega) (by omega) ⟨rfl, rfl, rfl, rfl, rfl, trivial⟩ (LEnt.refl _)
  · obtain rfl : i = S.ks.length := by omega
    refine RUN ?_
    exact rt_r rfl ⟨rfl, rfl⟩ (rf_shut hps (L := []))
theorem rmPriF {ps : List Nat} (hL : RfL S) : ∀ (f : Nat) (t : Int), f ≤ 16 → (1 ≤ t ∧ t ≤ 16) → Tri tab ext F.detentref15_All_pri [ptr b, i64 t, i64 f] [RmF b S sk so sq ps] fun v P' => v = i64 (rpri S f t) ∧ P' = [RmF b S sk so sq ps]
  | 0, t, hf, ht => rmPriS hL 0 (fun _ => 0) false rfl t hf ht fun h => absurd h (Nat.lt_irrefl 0)
  | f + 1, t, hf, ht => rmPriS hL (f + 1) (rpri S f) true rfl t hf ht fun _ x hx => by
    have h := rmPriF (ps := ps) hL f x (by omega) hx
    rwa [show (((f + 1 : Nat) : Int) - 1) = (f : Int) by omega]
theorem rmPriK {ps : List Nat} (hL : RfL S) (t : Int) : Tri tab ext F.detentref15_All_Pri [ptr b, i64 t] [RmF b S sk so sq ps] fun v P' => v = i64 (rPri S t) ∧ P' = [RmF b S sk so sq ps] := by
  refine Tri.go tab_detentref15_All_Pri rfl ?_
  refine RUN ?_
  unfold rPri
  by_cases h1 : t < 1
  · rw [decide_eq_true h1]
    refine RUN ?_
    exact rt_r rfl ⟨by rw [if_neg (by omega)], rfl⟩ (LEnt.refl _)
  · rw [decide_eq_false h1]
    refine RUN ?_
    by_cases h2 : t > 16
    · rw [decide_eq_true h2]
      refine RUN ?_
      exact rt_r rfl ⟨by rw [if_neg (by omega)], rfl⟩ (LEnt.refl _)
    · rw [decide_eq_false h2]
      refine RUN ?_
      refine RP.c rfl (rmPriF hL 16 t (Nat.le_refl _) (by omega)) (.c .h .e) rfl ?_
      rintro v P' ⟨rfl, rfl⟩
      refine RUN ?_
      exact rt_r rfl ⟨by rw [if_pos (by omega)], rfl⟩ (LEnt.refl _)
theorem rmPri (hL : RfL S) (t : Int) : Tri tab ext F.detentref15_All_Pri [ptr b, i64 t] [RmA b S] fun v P' => v = i64 (rPri S t) ∧ P' = [RmA b S] := rm_any fun _ _ _ _ => rmPriK hL t
end
end Go.AM

/-
  The document's mutexes: settled.
-/
namespace Go.AM
set_option maxHeartbeats 8000000
attribute [local irreducible] sq bk lpK mdx rt TC RP WK Cel Ro Row Fre RowsA RowsBut
section
variable {b : Bool} {l : List (Int × Int)}
theorem rput_len {x : Int × Int} : (rput b l x).length = l.length + 1 := by
  have := rpos_le (b := b) (pn := x.2) (l := l)
  unfold rput
  rw [List.length_append, List.length_cons, List.length_take, List.length_drop]; omega
theorem rput_mem {x y : Int × Int} (h : y ∈ rput b l x) : y = x ∨ y ∈ l := by
  unfold rput at h
  rcases List.mem_append.1 h with h | h
  · exact .inr (List.mem_of_mem_take h)
  · rcases List.mem_cons.1 h with h | h
    · exact .inl h
    · exact .inr (List.mem_of_mem_drop h)
theorem rchg_len {id p : Int} : (rchg b l id p).length = l.length := by
  unfold rchg
  cases h : ridx l id with
  | none => rfl
  | some i =>
    have hi := ridx_lt h
    dsimp only
    split
    · split
      · rw [rput_len, List.length_append, List.length_take, List.length_drop]; omega
      · rw [List.length_set]
    · rfl
theorem rchg_mem {id p : Int} {y : Int × Int} (h : y ∈ rchg b l id p) : ∃ z ∈ l, y.1 = z.1 := by
  unfold rchg at h
  cases h0 : ridx l id with
  | none => rw [h0] at h; exact ⟨y, h, rfl⟩
  | some i =>
    obtain ⟨z, hz⟩ := ridx_id h0
    have hzm := List.mem_of_getElem? hz
    rw [h0] at h
    dsimp only at h
    split at h
    · split at h
      · rcases rput_mem h with h | h
        · exact ⟨_, hzm, by rw [h]⟩
        · rcases List.mem_append.1 h with h | h
          · exact ⟨y, List.mem_of_mem_take h, rfl⟩
          · exact ⟨y, List.mem_of_mem_drop h, rfl⟩
      · rcases List.mem_or_eq_of_mem_set h with h | h
        · exact ⟨y, h, rfl⟩
        · exact ⟨_, hzm, by rw [h]⟩
    · exact ⟨y, h, rfl⟩
end
section
variable {S : Rf}
theorem RfL.setq (h : RfL S) {i : Nat} {qb : Bool} {l : List (Int × Int)} (h1 : l.length ≤ 16) (h2 : ∀ x ∈ l, 1 ≤ x.1 ∧ x.1 ≤ 16) : RfL { S with qs := S.qs.set i (qb, l) } where
  bs := h.bs
  nw := h.nw
  ow := h.ow
  qs := by show (S.qs.set i _).length = _; rw [List.length_set]; exact h.qs
  ks := h.ks
  ql := fun q hq => by
    rcases List.mem_or_eq_of_mem_set hq with hq | hq
    · exact h.ql q hq
    · rw [hq]; exact h1
  qi := fun q hq => by
    rcases List.mem_or_eq_of_mem_set hq with hq | hq
    · exact h.qi q hq
    · rw [hq]; exact h2
def rgo (S : Rf) (qb : Bool) (ids : List Int) (l : List (Int × Int)) : List (Int × Int) := ids.foldl (fun l id => if rpri S 16 id ≠ rNw S id then rchg qb l id (rpri S 16 id) else l) l
theorem rgo_ok {qb : Bool} : ∀ (ids : List Int) {l : List (Int × Int)}, l.length ≤ 16 → (∀ x ∈ l, 1 ≤ x.1 ∧ x.1 ≤ 16) → (rgo S qb ids l).length ≤ 16 ∧ ∀ x ∈ rgo S qb ids l, 1 ≤ x.1 ∧ x.1 ≤ 16
  | [], _, h1, h2 => ⟨h1, h2⟩
  | id :: ids, l, h1, h2 => by
    show (rgo S qb ids (if rpri S 16 id ≠ rNw S id then rchg qb l id (rpri S 16 id) else l)).length ≤ 16 ∧ ∀ x ∈ rgo S qb ids (if rpri S 16 id ≠ rNw S id then rchg qb l id (rpri S 16 id) else l), 1 ≤ x.1 ∧ x.1 ≤ 16
    split
    · refine rgo_ok ids (by rw [rchg_len]; exact h1) fun x hx => ?_
      obtain ⟨z, hz, e⟩ := rchg_mem hx
      rw [e]; exact h2 z hz
    · exact rgo_ok ids h1 h2
def stQ (S : Rf) (i : Nat) : List RQ := (S.qs.take i).map (rstl S) ++ S.qs.drop i
theorem rstl_eq {qb : Bool} {ql : List (Int × Int)} : rstl S (qb, ql) = (qb, rgo S qb (ql.map Prod.fst) ql) := rfl
theorem stQ_len {i : Nat} (hi : i ≤ S.qs.length) : (stQ S i).length = S.qs.length := by
  unfold stQ
  rw [List.length_append, List.length_map, List.length_take, List.length_drop]; omega
theorem stQ_at {i : Nat} {q : RQ} (h : S.qs[i]? = some q) : (stQ S i)[i]? = some q := by
  have hi := (List.getElem?_eq_some_iff.1 h).1
  unfold stQ
  rw [List.getElem?_append_right (by rw [List.length_map, List.length_take]; omega), List.length_map, List.length_take, List.getElem?_drop, show i + (i - min i S.qs.length) = i by omega, h]
theorem stQ_succ {i : Nat} {q : RQ} (h : S.qs[i]? = some q) : stQ S (i + 1) = (stQ S i).set i (rstl S q) := by
  obtain ⟨hi, hq⟩ := List.getElem?_eq_some_iff.1 h
  unfold stQ
  rw [List.take_add_one, h, Option.toList_some, List.map_append, List.map_singleton, List.append_assoc, List.set_append_right _ _ (by rw [List.length_map, List.length_take]; omega), List.length_map, List.length_take, show i - min i S.qs.length = 0 by omega]
  congr 1
  rw [List.drop_eq_getElem_cons hi]; rfl
theorem stQ_end : stQ S S.qs.length = S.qs.map (rstl S) := by unfold stQ; rw [List.take_length, List.drop_length, List.append_nil]
theorem RfL.stq (h : RfL S) {i : Nat} (hi : i ≤ S.qs.length) : RfL { S with qs := stQ S i } where
  bs := h.bs
  nw := h.nw
  ow := h.ow
  qs := by show (stQ S i).length = _; rw [stQ_len hi]; exact h.qs
  ks := h.ks
  ql := fun q hq => by
    rcases List.mem_append.1 hq with hq | hq
    · obtain ⟨q0, h0, rfl⟩ := List.mem_map.1 hq
      exact (rgo_ok _ (h.ql q0 (List.mem_of_mem_take h0)) (h.qi q0 (List.mem_of_mem_take h0))).1
    · exact h.ql q (List.mem_of_mem_drop hq)
  qi := fun q hq => by
    rcases List.mem_append.1 hq with hq | hq
    · obtain ⟨q0, h0, rfl⟩ := List.mem_map.1 hq
      exact (rgo_ok _ (h.ql q0 (List.mem_of_mem_take h0)) (h.qi q0 (List.mem_of_mem_take h0))).2
    · exact h.qi q (List.mem_of_mem_drop hq)
theorem rm_nw {N : List Int} {sk so sq : SV} (h1 : S.bs.length = 17) (h2 : S.nw.length = 17) (h3 : N.length = 17) : splice (rmC S sk so sq) 20 (flat encI N) = rmC { S with nw := N } sk so sq := by
  have e : rmC S sk so sq = ([sk, so, sq] ++ flat encI S.bs) ++ flat encI S.nw := by rw [List.append_assoc]
  have l1 : ([sk, so, sq] ++ flat encI S.bs).length = 20 := by rw [List.length_append, flat_len encI_len, h1]; rfl
  have l2 : (flat encI N).length = 17 := by rw [flat_len encI_len, h3]
  have l3 : (flat encI S.nw).length = 17 := by rw [flat_len encI_len, h2]
  rw [e]
  unfold splice
  rw [l2, List.take_left' l1, List.drop_eq_nil_of_le (by rw [List.length_append, l1, l3]; exact Nat.le_refl _), List.append_nil]
  show ([sk, so, sq] ++ flat encI S.bs) ++ flat encI N = _
  rw [List.append_assoc]
theorem RfL.settle (h : RfL S) : RfL (rsettle S) := by
  have h1 := h.stq (i := S.qs.length) (Nat.le_refl _)
  rw [stQ_end] at h1
  exact ⟨h1.bs, by simp [rsettle, rnow], h1.ow, h1.qs, h1.ks, h1.ql, h1.qi⟩
end
attribute [local irreducible] R.detentref15_All_settle_s5 R.detentref15_All_settle_s2 R.detentref15_All_settle_s4
section
variable {ext : Nat → List AV → AH → Option (AV × AH)} {b : Nat} {S : Rf}
theorem rmSettle (hL : RfL S) : Tri tab ext F.detentref15_All_settle [ptr b] [RmA b S] fun v P' => v = unit ∧ P' = [RmA b (rsettle S)] := by
  have hl8 := hL.ks
  have hql8 := hL.qs
  refine Tri.go tab_detentref15_All_settle rfl ?_
  refine RUN ?_
  refine RP.nw rfl fun c => ?_
  refine RUN ?_
  refine TC.loop (fun i : Nat => 17 - i) (fun i => 1 ≤ i ∧ i ≤ 17) (fun i => [(0, ptr b), (2, ptr c), (3, i64 i)]) (fun i => [Cel c ([] ++ (flat encI (priL (rpri S 16) i) ++ [])), RmA b S]) 1 (by omega) ⟨rfl, rfl, rfl, trivial⟩ (LEnt.refl _) ?_
  rintro i ⟨hi1, hi2⟩
  refine RUN ?_
  refine TC.cP rfl (fun h => ?_) fun h => ?_
  · refine RUN ?_
    refine RP.c rfl (rmPri hL i) (.c (by ((repeat (first | exact .h | apply In1.n)); fail_if_success refine ?_)) .e) rfl ?_
    rintro v P' ⟨rfl, rfl⟩
    rw [show rPri S i = rpri S 16 i from if_pos (by omega)]
    refine RUN ?_
    refine RP.ent (LEnt.of (P := [Cel c ([] ++ (flat encI (priL (rpri S 16) i) ++ [])), RmA b S]) (.c (by ((repeat (first | exact .h | apply In1.n)); fail_if_success refine ?_)) (.c (by ((repeat (first | exact .h | apply In1.n)); fail_if_success refine ?_)) .e))) ?_
    refine RP.s rfl rfl rfl rfl (Stw.a (c := 0) (i := i) (k := 1) (d := 0) (pre := []) rfl encI_len (rpri S 16 i) (priL_get (by omega)) rfl rfl) ?_
    rw [priL_set hi1]
    refine RUN ?_
    refine lp_n (i + 1) (by omega) (by omega) ⟨rfl, rfl, rfl, trivial⟩ (LEnt.refl _)
  · obtain rfl : i = 17 := by omega
    have hdone : ∀ {n : Int}, 1 ≤ n ∧ n ≤ 16 → (priL (rpri S 16) 17)[n.toNat]? = some (rpri S 16 n) := priL_done
    have hrn : rnow S 17 = priL (rpri S 16) 17 := rfl
    generalize priL (rpri S 16) 17 = PL at *
    refine RUN ?_
    unfold R.detentref15_All_settle_s5
    refine RUN ?_
    refine TC.loop (fun i : Nat => S.qs.length - i) (fun i => i ≤ S.qs.length) (fun i => [(0, ptr b), (2, ptr c), (4, i64 i)]) (fun i => [Cel c ([] ++ (flat encI PL ++ [])), RmA b { S with qs := stQ S i }]) 0 (Nat.zero_le _) ⟨rfl, rfl, rfl, trivial⟩ (LEnt.refl _) ?_
    intro i hi
    have hLi := hL.stq hi
    have hql' := stQ_len hi
    refine TC.rm (by ((repeat (first | exact .h | apply In1.n)); fail_if_success refine ?_)) fun sk so sq => ?_
    refine TC.obs (by ((repeat (first | exact .h | apply In1.n)); fail_if_success refine ?_)) fun ps hps => ?_
    have hps : ps.length = (stQ S i).length := hps
    refine RUN ?_
    refine TC.cP rfl (fun h2 => ?_) fun h2 => ?_
    · obtain ⟨⟨qb, ql⟩, hq⟩ : ∃ q, S.qs[i]? = some q := ⟨_, List.getElem?_eq_getElem (by omega)⟩
      have hqi := stQ_at hq
      obtain ⟨p, hp⟩ := ths_get hps hqi
      have hq16 : ql.length ≤ 16 := hL.ql _ (List.mem_of_getElem? hq)
      have hqid := hL.qi _ (List.mem_of_getElem? hq)
      refine RUN ?_
      refine RP.c rfl (Tri.out (β := SV) (Q := fun s v => v = .s s) (X := fun s => Row encI 1 s (ql.map Prod.fst)) hps hp hqi (roIDs (by omega))) (.c (by ((repeat (first | exact .h | apply In1.n)); fail_if_success refine ?_)) .e) rfl ?_
      rintro v P' ⟨sl, rfl, rfl⟩
      refine RUN ?_
      have hsame : { S with qs := (stQ S i).set i (qb, rgo S qb ((ql.map Prod.fst).take 0) ql) } = { S with qs := stQ S i } := by
        show ({ S with qs := (stQ S i).set i (qb, ql) } : Rf) = _
        rw [set_same hqi]
      refine TC.loop (fun k : Nat => ql.length - k) (fun k => k ≤ ql.length) (fun k => [(0, ptr b), (2, ptr c), (4, i64 i), (5, .s sl), (6, i64 k)]) (fun k => [RmA b { S with qs := (stQ S i).set i (qb, rgo S qb ((ql.map Prod.fst).take k) ql) }, Row encI 1 sl (ql.map Prod.fst), Cel c ([] ++ (flat encI PL ++ []))]) 0 (Nat.zero_le _) ⟨rfl, rfl, rfl, rfl, rfl, trivial⟩ ?_ ?_
      · rw [hsame]
        exact LEnt.trans (LEnt.of (.c (by ((repeat (first | exact .h | apply In1.n)); fail_if_success refine ?_)) (.c (by ((repeat (first | exact .h | apply In1.n)); fail_if_success refine ?_)) (.c (by ((repeat (first | exact .h | apply In1.n)); fail_if_success refine ?_)) (.c (by ((repeat (first | exact .h | apply In1.n)); fail_if_success refine ?_)) (.c (by ((repeat (first | exact .h | apply In1.n)); fail_if_success refine ?_)) (.c (by ((repeat (first | exact .h | apply In1.n)); fail_if_success refine ?_)) (.c (by ((repeat (first | exact .h | apply In1.n)); fail_if_success refine ?_)) .e)))))))) (rm_in hps)
      intro k hk
      refine TC.rm (by ((repeat (first | exact .h | apply In1.n)); fail_if_success refine ?_)) fun sk so sq => ?_
      refine TC.obs (by ((repeat (first | exact .h | apply In1.n)); fail_if_success refine ?_)) fun ps hps => ?_
      have hps : ps.length = ((stQ S i).set i (qb, rgo S qb ((ql.map Prod.fst).take k) ql)).length := hps
      have hps2 : ps.length = S.qs.length := by rw [hps, List.length_set, hql']
      refine RUN ?_
      refine TC.cP rfl (fun h3 => ?_) fun h3 => ?_
      · obtain ⟨x, hx⟩ : ∃ x, ql[k]? = some x := ⟨_, List.getElem?_eq_getElem (by simp at h3; omega)⟩
        have hid := hqid x (List.mem_of_getElem? hx)
        have hxi : (ql.map Prod.fst)[k]? = some x.1 := by rw [List.getElem?_map, hx]; rfl
        have hn : PL[x.1.toNat]? = some (rpri S 16 x.1) := hdone hid
        have hw : S.nw[x.1.toNat]? = some (rNw S x.1) := by
          unfold rNw
          rw [List.getElem?_eq_getElem (by rw [hL.nw]; omega)]; rfl
        have hst : rgo S qb ((ql.map Prod.fst).take (k + 1)) ql = if rpri S 16 x.1 ≠ rNw S x.1 then rchg qb (rgo S qb ((ql.map Prod.fst).take k) ql) x.1 (rpri S 16 x.1) else rgo S qb ((ql.map Prod.fst).take k) ql := by
          unfold rgo
          rw [List.take_add_one, hxi, Option.toList_some, List.foldl_append]; rfl
        have hlk := rgo_ok (S := S) (qb := qb) ((ql.map Prod.fst).take k) hq16 hqid
        generalize rgo S qb ((ql.map Prod.fst).take k) ql = lk at *
        have hqk : ((stQ S i).set i (qb, lk))[i]? = some (qb, lk) := by rw [List.getElem?_set, if_pos rfl, if_pos (by omega)]
        obtain ⟨p, hp⟩ := ths_get hps hqk
        refine RUN ?_
        refine RP.l rfl (.n (.n (Ld.nw hL.bs hw))) rfl ?_
        refine RUN ?_
        refine TC.cP rfl (fun h4 => ?_) fun h4 => ?_
        · refine RUN ?_
          refine RP.c rfl (Tri.at (Q := fun v => v = bl ((ridx lk x.1).isSome && decide (1 ≤ rpri S 16 x.1 ∧ rpri S 16 x.1 ≤ 16))) hps hp hqk (roChange (by omega) x.1 (rpri S 16 x.1))) (.c (by ((repeat (first | exact .h | apply In1.n)); fail_if_success refine ?_)) .e) rfl ?_
          rintro v P' ⟨rfl, rfl⟩
          refine RUN ?_
          refine lp_n (k + 1) (by simp at h3; omega) (by simp at h3; omega) ⟨rfl, rfl, rfl, rfl, rfl, trivial⟩ ?_
          dsimp only
          rw [hst, if_pos h4, List.set_set]
          exact LEnt.trans (LEnt.of (.c (by ((repeat (first | exact .h | apply In1.n)); fail_if_success refine ?_)) (.c (by ((repeat (first | exact .h | apply In1.n)); fail_if_success refine ?_)) (.c (by ((repeat (first | exact .h | apply In1.n)); fail_if_success refine ?_)) (.c (by ((repeat (first | exact .h | apply In1.n)); fail_if_success refine ?_)) (.c (by ((repeat (first | exact .h | apply In1.n)); fail_if_success refine ?_)) (.c (by ((repeat (first | exact .h | apply In1.n)); fail_if_success refine ?_)) (.c (by ((repeat (first | exact .h | apply In1.n)); fail_if_success refine ?_)) .e)))))))) (rm_in (S := { S with qs := (stQ S i).set i (qb, rchg qb lk x.1 (rpri S 16 x.1)) }) (by rw [hps, List.length_set, List.length_set]))
        · refine RUN ?_
          refine lp_n (k + 1) (by simp at h3; omega) (by simp at h3; omega) ⟨rfl, rfl, rfl, rfl, rfl, trivial⟩ ?_
          dsimp only
          rw [hst, if_neg h4]
          exact LEnt.trans (LEnt.of (.c (by ((repeat (first | exact .h | apply In1.n)); fail_if_success refine ?_)) (.c (by ((repeat (first | exact .h | apply In1.n)); fail_if_success refine ?_)) (.c (by ((repeat (first | exact .h | apply In1.n)); fail_if_success refine ?_)) (.c (by ((repeat (first | exact .h | apply In1.n)); fail_if_success refine ?_)) (.c (by ((repeat (first | exact .h | apply In1.n)); fail_if_success refine ?_)) (.c (by ((repeat (first | exact .h | apply In1.n)); fail_if_success refine ?_)) (.c (by ((repeat (first | exact .h | apply In1.n)); fail_if_success refine ?_)) .e)))))))) (rm_in (S := { S with qs := (stQ S i).set i (qb, lk) }) hps)
      · have hkl : k = ql.length := by simp at h3; omega
        subst hkl
        refine RUN ?_
        unfold R.detentref15_All_settle_s2
        refine RUN ?_
        refine lp_n (i + 1) (by omega) (by omega) ⟨rfl, rfl, rfl, trivial⟩ ?_
        have e : (stQ S i).set i (qb, rgo S qb ((ql.map Prod.fst).take ql.length) ql) = stQ S (i + 1) := by
          rw [stQ_succ hq, rstl_eq, List.take_of_length_le (by rw [List.length_map]; exact Nat.le_refl _)]
        refine LEnt.trans (LEnt.of (.c (by ((repeat (first | exact .h | apply In1.n)); fail_if_success refine ?_)) (.c (by ((repeat (first | exact .h | apply In1.n)); fail_if_success refine ?_)) (.c (by ((repeat (first | exact .h | apply In1.n)); fail_if_success refine ?_)) (.c (by ((repeat (first | exact .h | apply In1.n)); fail_if_success refine ?_)) (.c (by ((repeat (first | exact .h | apply In1.n)); fail_if_success refine ?_)) (.c (by ((repeat (first | exact .h | apply In1.n)); fail_if_success refine ?_)) .e))))))) (LEnt.trans (rm_in (S := { S with qs := (stQ S i).set i (qb, rgo S qb ((ql.map Prod.fst).take ql.length) ql) }) (L := [Cel c ([] ++ (flat encI PL ++ []))]) hps) ?_)
        rw [e]
        exact LEnt.of (.c (by ((repeat (first | exact .h | apply In1.n)); fail_if_success refine ?_)) (.c (by ((repeat (first | exact .h | apply In1.n)); fail_if_success refine ?_)) .e))
    · obtain rfl : i = S.qs.length := by omega
      refine RUN ?_
      unfold R.detentref15_All_settle_s4
      refine RUN ?_
      have hPL : PL.length = 17 := by rw [← hrn]; simp [rnow]
      have l2 : (flat encI PL).length = 17 := by rw [flat_len encI_len, hPL]
      refine RP.ln (l := flat encI PL) rfl (.n (.n (.n (.n (.n (Ldn.c (by rw [List.nil_append, List.append_nil, l2]; exact Nat.le_refl _) (by rw [List.nil_append, List.append_nil, List.drop_zero, List.take_of_length_le (by rw [l2]; exact Nat.le_refl _)]))))))) rfl ?_
      refine RUN ?_
      refine RP.s (vs := flat encI PL) rfl rfl rfl (by rw [l2]; rfl) (.n (.n (Stw.c (by
        show 20 + _ ≤ (rmC S sk so sq).length
        rw [l2, List.length_append, List.length_append, flat_len encI_len, flat_len encI_len, hL.bs, hL.nw]; exact Nat.le_refl _) (rm_nw (S := { S with qs := stQ S S.qs.length }) hL.bs hL.nw hPL)))) ?_
      refine RUN ?_
      refine rt_n ⟨[], rfl, trivial⟩ ⟨rfl, rfl⟩ ?_
      have e : rsettle S = { S with qs := stQ S S.qs.length, nw := PL } := by
        unfold rsettle
        rw [stQ_end, hrn]
      rw [e]
      exact LEnt.trans (rm_in (S := { S with qs := stQ S S.qs.length, nw := PL }) (L := [Cel c ([] ++ (flat encI PL ++ []))]) hps) (LEnt.of (.c .h .e))
end
end Go.AM

/-
  The document's mutexes: locked, unlocked.
-/
namespace Go.AM
set_option maxHeartbeats 8000000
attribute [local irreducible] sq bk lpK mdx rt TC RP WK Cel Ro Row Fre RowsA RowsBut
section
variable {S : Rf}
theorem RfL.seto (h : RfL S) (i : Nat) (o : Int) : RfL { S with ow := S.ow.set i o } := ⟨h.bs, h.nw, by show (S.ow.set i o).length = _; rw [List.length_set]; exact h.ow, h.qs, h.ks, h.ql, h.qi⟩
theorem RfL.setb (h : RfL S) (i : Nat) (o : Int) : RfL { S with bs := S.bs.set i o } := ⟨by show (S.bs.set i o).length = _; rw [List.length_set]; exact h.bs, h.nw, h.ow, h.qs, h.ks, h.ql, h.qi⟩
theorem RfL.pass (h : RfL S) (i : Nat) : RfL (rpass S i).2 := by
  unfold rpass
  cases hq : (rQq S i).2 with
  | nil => exact h.seto i 0
  | cons x r =>
    have hm : rQq S i ∈ S.qs := by
      unfold rQq at hq ⊢
      cases e : S.qs[i]? with
      | none => rw [e] at hq; cases hq
      | some q => exact List.mem_of_getElem? e
    have h1 := h.ql _ hm
    have h2 := h.qi _ hm
    rw [hq] at h1 h2
    exact (h.seto i x.1).setq (by simp only [List.length_cons] at h1; omega) fun y hy => h2 y (List.mem_cons_of_mem _ hy)
end
section
variable {ext : Nat → List AV → AH → Option (AV × AH)} {b : Nat} {S : Rf}
theorem rmPass (hL : RfL S) {i : Nat} (hi : i < S.ks.length) : Tri tab ext F.detentref15_All_pass [ptr b, i64 i] [RmA b S] fun v P' => v = i64 (rpass S i).1 ∧ P' = [RmA b (rpass S i).2] := by
  have hl8 := hL.ks
  have hql8 := hL.qs
  have hol := hL.ow
  obtain ⟨kk, o, qb, ql, h1, h2, h3, g1, g2, g3⟩ := rf_get hL hi
  have hq16 : ql.length ≤ 16 := hL.ql _ (List.mem_of_getElem? h3)
  obtain ⟨x, f, e1, e2, e3⟩ : ∃ (x : Int × Int) (f : Bool), rtk ql = .tup [.agg (encJ x), .s (.bool f)] ∧ (rpass S i).1 = x.1 ∧ (rpass S i).2 = { S with ow := S.ow.set i x.1, qs := S.qs.set i (qb, ql.drop 1) } := by
    unfold rpass
    rw [g3]
    cases ql with
    | nil => exact ⟨(0, 0), false, rfl, rfl, by rw [List.drop_nil, set_same h3]⟩
    | cons x r => exact ⟨x, true, rfl, rfl, rfl⟩
  rw [e2, e3]
  refine Tri.go tab_detentref15_All_pass rfl ?_
  refine RUN ?_
  refine RP.rm .h fun sk so sq => ?_
  refine RP.obs (by ((repeat (first | exact .h | apply In1.n)); fail_if_success refine ?_)) fun ps hps => ?_
  obtain ⟨p, hp⟩ := ths_get hps h3
  refine RUN ?_
  refine RP.c rfl (Tri.at (Q := fun v => v = rtk ql) hps hp h3 (roTake (by omega))) (.c (by ((repeat (first | exact .h | apply In1.n)); fail_if_success refine ?_)) .e) rfl ?_
  rintro v P' ⟨rfl, rfl⟩
  rw [e1]
  refine RUN ?_
  refine RP.nw rfl fun c => ?_
  refine RUN ?_
  refine RP.s rfl rfl rfl rfl (by first | exact Stw.we encI_len x.1 (by omega) | exact .n (Stw.we encI_len x.1 (by omega)) | exact .n (.n (.n (.n (.n (Stw.we encI_len x.1 (by omega))))))) ?_
  refine RUN ?_
  exact rt_r rfl ⟨rfl, rfl⟩ (LEnt.trans (LEnt.of (.c (by ((repeat (first | exact .h | apply In1.n)); fail_if_success refine ?_)) (.c (by ((repeat (first | exact .h | apply In1.n)); fail_if_success refine ?_)) (.c (by ((repeat (first | exact .h | apply In1.n)); fail_if_success refine ?_)) (.c (by ((repeat (first | exact .h | apply In1.n)); fail_if_success refine ?_)) (.c (by ((repeat (first | exact .h | apply In1.n)); fail_if_success refine ?_)) .e)))))) (rm_in (S := { S with ow := S.ow.set i x.1, qs := S.qs.set i (qb, ql.drop 1) }) (L := []) (by rw [List.length_set]; exact hps)))
theorem rmUnlock (hL : RfL S) (m t : Int) : Tri tab ext F.detentref15_All_Unlock [ptr b, i64 m, i64 t] [RmA b S] fun v P' => v = .tup [.s (.int .i64 (runl S m t).1.1), .s (.int .i64 (runl S m t).1.2)] ∧ P' = [RmA b (runl S m t).2] := by
  have hl8 := hL.ks
  have hol := hL.ow
  refine Tri.go tab_detentref15_All_Unlock rfl ?_
  refine RUN ?_
  refine RP.c rfl (rmMutex m) (.c .h .e) rfl ?_
  rintro v P' ⟨rfl, rfl⟩
  refine RUN ?_
  unfold runl
  by_cases h1 : 1 ≤ m ∧ m ≤ S.ks.length
  · rw [decide_eq_true h1]
    refine RUN ?_
    refine RP.c rfl (rmIs t) .e rfl ?_
    rintro v P' ⟨rfl, rfl⟩
    by_cases h2 : 1 ≤ t ∧ t ≤ 16
    · rw [decide_eq_true h2, if_neg (show ¬ (¬ (1 ≤ m ∧ m ≤ S.ks.length) ∨ ¬ (1 ≤ t ∧ t ≤ 16)) by omega)]
      obtain ⟨kk, o, qb, ql, k1, k2, k3, g1, g2, g3⟩ := rf_get hL (i := (m - 1).toNat) (by omega)
      refine RUN ?_
      refine RP.rm (by ((repeat (first | exact .h | apply In1.n)); fail_if_success refine ?_)) fun sk so sq => ?_
      refine RUN ?_
      rw [g2]
      refine TC.cP rfl (fun h3 => ?_) fun h3 => ?_
      · rw [if_pos h3]
        refine RUN ?_
        exact rt_r (resE2 rfl rfl) ⟨rfl, rfl⟩ (RmA.shut (L := []))
      · rw [if_neg h3]
        refine RUN ?_
        refine RP.ent (RmA.shut (L := [])) ?_
        rw [show (m - 1 : Int) = (((m - 1).toNat : Nat) : Int) by omega]
        refine RP.c rfl (rmPass hL (i := (m - 1).toNat) (by omega)) (.c .h .e) rfl ?_
        rintro v P' ⟨rfl, rfl⟩
        refine RUN ?_
        refine RP.c rfl (rmSettle (hL.pass _)) (.c .h .e) rfl ?_
        rintro v P' ⟨rfl, rfl⟩
        refine RUN ?_
        exact rt_r (resE2 rfl rfl) ⟨rfl, rfl⟩ (LEnt.refl _)
    · rw [decide_eq_false h2, if_pos (show (¬ (1 ≤ m ∧ m ≤ S.ks.length) ∨ ¬ (1 ≤ t ∧ t ≤ 16)) by omega)]
      refine RUN ?_
      exact rt_r (resE2 rfl rfl) ⟨rfl, rfl⟩ (LEnt.refl _)
  · rw [decide_eq_false h1, if_pos (show (¬ (1 ≤ m ∧ m ≤ S.ks.length) ∨ ¬ (1 ≤ t ∧ t ≤ 16)) by omega)]
    refine RUN ?_
    exact rt_r (resE2 rfl rfl) ⟨rfl, rfl⟩ (LEnt.refl _)
theorem rmDrop (hL : RfL S) (t : Int) : Tri tab ext F.detentref15_All_Drop [ptr b, i64 t] [RmA b S] fun v P' => v = bl (rdrop S t).1 ∧ P' = [RmA b (rdrop S t).2] := by
  have hl8 := hL.ks
  have hql8 := hL.qs
  refine Tri.go tab_detentref15_All_Drop rfl ?_
  refine RUN ?_
  refine RP.c rfl (rmWaits hL t) (.c .h .e) rfl ?_
  rintro v P' ⟨rfl, rfl⟩
  refine RUN ?_
  unfold rdrop
  cases hw : rwt S t with
  | none =>
    rw [decide_eq_true (show plr none < 0 by decide)]
    refine RUN ?_
    exact rt_r rfl ⟨rfl, rfl⟩ (LEnt.refl _)
  | some i =>
    have hi : i < S.qs.length := (List.findIdx?_eq_some_iff_getElem.1 hw).1
    have hpl : plr (some i) = (i : Int) := rfl
    rw [decide_eq_false (show ¬ plr (some i) < 0 from by rw [hpl]; omega), hpl]
    obtain ⟨kk, o, qb, ql, k1, k2, k3, g1, g2, g3⟩ := rf_get hL (i := i) (by omega)
    have hq16 : ql.length ≤ 16 := hL.ql _ (List.mem_of_getElem? k3)
    have hqid := hL.qi _ (List.mem_of_getElem? k3)
    refine RUN ?_
    refine RP.rm (by ((repeat (first | exact .h | apply In1.n)); fail_if_success refine ?_)) fun sk so sq => ?_
    refine RP.obs (by ((repeat (first | exact .h | apply In1.n)); fail_if_success refine ?_)) fun ps hps => ?_
    obtain ⟨p, hp⟩ := ths_get hps k3
    refine RUN ?_
    refine RP.c rfl (Tri.at (Q := fun v => v = bl (ridx ql t).isSome) hps hp k3 (roRemove (by omega) t)) (.c (by ((repeat (first | exact .h | apply In1.n)); fail_if_success refine ?_)) .e) rfl ?_
    rintro v P' ⟨rfl, rfl⟩
    refine RUN ?_
    have hLr : RfL { S with qs := S.qs.set i (qb, rrem ql t) } := hL.setq (by
      unfold rrem
      split
      · rw [List.length_append, List.length_take, List.length_drop]; omega
      · exact hq16) fun x hx => by
        unfold rrem at hx
        split at hx
        · rcases List.mem_append.1 hx with h | h
          · exact hqid x (List.mem_of_mem_take h)
          · exact hqid x (List.mem_of_mem_drop h)
        · exact hqid x hx
    refine RP.ent (LEnt.trans (LEnt.of (.c (by ((repeat (first | exact .h | apply In1.n)); fail_if_success refine ?_)) (.c (by ((repeat (first | exact .h | apply In1.n)); fail_if_success refine ?_)) (.c (by ((repeat (first | exact .h | apply In1.n)); fail_if_success refine ?_)) (.c (by ((repeat (first | exact .h | apply In1.n)); fail_if_success refine ?_)) (.c (by ((repeat (first | exact .h | apply In1.n)); fail_if_success refine ?_)) .e)))))) (rm_in (S := { S with qs := S.qs.set i (qb, rrem ql t) }) (L := []) (by rw [List.length_set]; exact hps))) ?_
    refine RP.c rfl (rmSettle hLr) (.c .h .e) rfl ?_
    rintro v P' ⟨rfl, rfl⟩
    refine RUN ?_
    refine rt_r rfl ⟨rfl, ?_⟩ (LEnt.refl _)
    dsimp only
    rw [g3]
    rfl
end
end Go.AM

/-
  The document's mutexes: bases, rounds, tries.
-/
namespace Go.AM
set_option maxHeartbeats 8000000
attribute [local irreducible] sq bk lpK mdx rt TC RP WK Cel Ro Row Fre RowsA RowsBut
section
variable {ext : Nat → List AV → AH → Option (AV × AH)} {b : Nat} {S : Rf}
theorem rsb_succ {n p : Int} {i : Nat} : rsbBad S n p (i + 1) = (rsbBad S n p i || decide (((rKk S i).1 = 3 ∧ (rKk S i).2 > p) ∧ (rOw S i = n ∨ (ridx (rQq S i).2 n).isSome = true))) := by
  unfold rsbBad
  rw [List.range_succ, List.any_append]; simp
theorem rsb_mono {n p : Int} {i : Nat} (h : rsbBad S n p (i + 1) = true) : ∀ {j : Nat}, i + 1 ≤ j → rsbBad S n p j = true := by
  intro j hj
  unfold rsbBad at h ⊢
  obtain ⟨x, h1, h2⟩ := List.any_eq_true.1 h
  exact List.any_eq_true.2 ⟨x, List.mem_range.2 (by have := List.mem_range.1 h1; omega), h2⟩
theorem rmSetBase (hL : RfL S) (t q : Int) : Tri tab ext F.detentref15_All_SetBase [ptr b, i64 t, i64 q] [RmA b S] fun v P' => v = i64 (rsetB S t q).1 ∧ P' = [RmA b (rsetB S t q).2] := by
  have hl8 := hL.ks
  have hql8 := hL.qs
  have hol := hL.ow
  have hbl := hL.bs
  refine Tri.go tab_detentref15_All_SetBase rfl ?_
  refine RUN ?_
  refine RP.c rfl (rmIs t) .e rfl ?_
  rintro v P' ⟨rfl, rfl⟩
  unfold rsetB
  by_cases h1 : 1 ≤ t ∧ t ≤ 16
  · rw [decide_eq_true h1, if_neg (show ¬ ¬ (1 ≤ t ∧ t ≤ 16) by omega)]
    refine RUN ?_
    by_cases h2 : q < 1
    · rw [decide_eq_true h2, if_pos (show ¬ (1 ≤ q ∧ q ≤ 16) by omega)]
      refine RUN ?_
      exact rt_r rfl ⟨rfl, rfl⟩ (LEnt.refl _)
    · rw [decide_eq_false h2]
      refine RUN ?_
      by_cases h3 : q > 16
      · rw [decide_eq_true h3, if_pos (show ¬ (1 ≤ q ∧ q ≤ 16) by omega)]
        refine RUN ?_
        exact rt_r rfl ⟨rfl, rfl⟩ (LEnt.refl _)
      · rw [decide_eq_false h3, if_neg (show ¬ ¬ (1 ≤ q ∧ q ≤ 16) by omega)]
        refine RUN ?_
        refine TC.loop (fun i : Nat => S.ks.length - i) (fun i => i ≤ S.ks.length ∧ rsbBad S t q i = false) (fun i => [(0, ptr b), (1, i64 t), (2, i64 q), (7, i64 i)]) (fun _ => [RmA b S]) 0 ⟨Nat.zero_le _, rfl⟩ ⟨rfl, rfl, rfl, rfl, trivial⟩ (LEnt.refl _) ?_
        rintro i ⟨hi, hbad⟩
        refine TC.rm .h fun sk so sq => ?_
        refine TC.obs (by ((repeat (first | exact .h | apply In1.n)); fail_if_success refine ?_)) fun ps hps => ?_
        have hsh : LEnt (Row encP 1 sq ps :: Ths Rq ps S.qs :: Cel b (rmC S sk so sq) :: Row encK 2 sk S.ks :: Row encI 1 so S.ow :: []) [RmA b S] := rm_in (L := []) hps
        refine RUN ?_
        refine TC.cP rfl (fun h4 => ?_) fun h4 => ?_
        · obtain ⟨kk, o, qb, ql, k1, k2, k3, g1, g2, g3⟩ := rf_get hL (i := i) (by omega)
          have hq16 : ql.length ≤ 16 := hL.ql _ (List.mem_of_getElem? k3)
          obtain ⟨p, hp⟩ := ths_get hps k3
          have hs := rsb_succ (S := S) (n := t) (p := q) (i := i)
          rw [hbad, g1, g2, g3, Bool.false_or] at hs
          have next : ¬ ((kk.1 = 3 ∧ kk.2 > q) ∧ (o = t ∨ (ridx ql t).isSome = true)) → rsbBad S t q (i + 1) = false := fun h => by rw [hs]; exact decide_eq_false h
          have stop : ((kk.1 = 3 ∧ kk.2 > q) ∧ (o = t ∨ (ridx ql t).isSome = true)) → rsbBad S t q S.ks.length = true := fun h => rsb_mono (by rw [hs]; exact decide_eq_true h) (by omega)
          refine RUN ?_
          by_cases a1 : kk.1 = 3
          · rw [decide_eq_true a1]
            refine RUN ?_
            by_cases a2 : kk.2 > q
            · rw [decide_eq_true a2]
              refine RUN ?_
              by_cases a3 : o = t
              · rw [decide_eq_true a3]
                refine RUN ?_
                refine rt_r rfl ⟨?_, ?_⟩ hsh
                · rw [if_pos (stop ⟨⟨a1, a2⟩, .inl a3⟩)]
                · rw [if_pos (stop ⟨⟨a1, a2⟩, .inl a3⟩)]
              · rw [decide_eq_false a3]
                refine RUN ?_
                refine RP.c rfl (Tri.ask (Q := fun v => v = i64 (plr (ridx ql t))) hps hp k3 (roAt (by omega) t)) (.c (by ((repeat (first | exact .h | apply In1.n)); fail_if_success refine ?_)) .e) rfl ?_
                rintro v P' ⟨rfl, rfl⟩
                refine RUN ?_
                cases hx : ridx ql t with
                | none =>
                  rw [decide_eq_false (show ¬ plr none ≥ 0 by decide)]
                  refine RUN ?_
                  exact lp_n (i + 1) ⟨by omega, next (by rw [hx]; simp [a3])⟩ (by omega) ⟨rfl, rfl, rfl, rfl, trivial⟩ (LEnt.trans (LEnt.of (.c (by ((repeat (first | exact .h | apply In1.n)); fail_if_success refine ?_)) (.c (by ((repeat (first | exact .h | apply In1.n)); fail_if_success refine ?_)) (.c (by ((repeat (first | exact .h | apply In1.n)); fail_if_success refine ?_)) (.c (by ((repeat (first | exact .h | apply In1.n)); fail_if_success refine ?_)) (.c (by ((repeat (first | exact .h | apply In1.n)); fail_if_success refine ?_)) .e)))))) hsh)
                | some j =>
                  rw [decide_eq_true (show plr (some j) ≥ 0 from Int.natCast_nonneg j)]
                  refine RUN ?_
                  have hst := stop ⟨⟨a1, a2⟩, .inr (by rw [hx]; rfl)⟩
                  refine rt_r rfl ⟨?_, ?_⟩ (LEnt.trans (LEnt.of (.c (by ((repeat (first | exact .h | apply In1.n)); fail_if_success refine ?_)) (.c (by ((repeat (first | exact .h | apply In1.n)); fail_if_success refine ?_)) (.c (by ((repeat (first | exact .h | apply In1.n)); fail_if_success refine ?_)) (.c (by ((repeat (first | exact .h | apply In1.n)); fail_if_success refine ?_)) (.c (by ((repeat (first | exact .h | apply In1.n)); fail_if_success refine ?_)) .e)))))) hsh)
                  · rw [if_pos hst]
                  · rw [if_pos hst]
            · rw [decide_eq_false a2]
              refine RUN ?_
              exact lp_n (i + 1) ⟨by omega, next (fun h => a2 h.1.2)⟩ (by omega) ⟨rfl, rfl, rfl, rfl, trivial⟩ hsh
          · rw [decide_eq_false a1]
            refine RUN ?_
            exact lp_n (i + 1) ⟨by omega, next (fun h => a1 h.1.1)⟩ (by omega) ⟨rfl, rfl, rfl, rfl, trivial⟩ hsh
        · obtain rfl : i = S.ks.length := by omega
          rw [if_neg (show ¬ rsbBad S t q S.ks.length = true by rw [hbad]; decide)]
          refine RUN ?_
          refine RP.s rfl rfl rfl rfl (.n (.n (Stw.ae (c := 3) (pre := [sk, so, sq]) (post := flat encI S.nw) rfl encI_len q (i := t.toNat) (by omega)))) ?_
          refine RUN ?_
          refine RP.ent (LEnt.trans (LEnt.of (.c (by ((repeat (first | exact .h | apply In1.n)); fail_if_success refine ?_)) (.c (by ((repeat (first | exact .h | apply In1.n)); fail_if_success refine ?_)) (.c (by ((repeat (first | exact .h | apply In1.n)); fail_if_success refine ?_)) (.c (by ((repeat (first | exact .h | apply In1.n)); fail_if_success refine ?_)) (.c (by ((repeat (first | exact .h | apply In1.n)); fail_if_success refine ?_)) .e)))))) (rm_in (S := { S with bs := S.bs.set t.toNat q }) (L := []) hps)) ?_
          refine RP.c rfl (rmSettle (hL.setb t.toNat q)) (.c .h .e) rfl ?_
          rintro v P' ⟨rfl, rfl⟩
          refine RUN ?_
          exact rt_r rfl ⟨rfl, rfl⟩ (LEnt.refl _)
  · rw [decide_eq_false h1, if_pos (show ¬ (1 ≤ t ∧ t ≤ 16) by omega)]
    refine RUN ?_
    exact rt_r rfl ⟨rfl, rfl⟩ (LEnt.refl _)
theorem rmRound (hL : RfL S) {i : Nat} (hi : i < S.ks.length) (t : Int) : Tri tab ext F.detentref15_All_round [ptr b, i64 i, i64 t] [RmA b S] fun v P' => v = bl (rround S t 17 (rOw S i)) ∧ P' = [RmA b S] := by
  have hl8 := hL.ks
  have hql8 := hL.qs
  have hol := hL.ow
  obtain ⟨kk, o, qb, ql, k1, k2, k3, g1, g2, g3⟩ := rf_get hL hi
  refine Tri.go tab_detentref15_All_round rfl ?_
  refine RUN ?_
  refine RP.rm .h fun sk so sq => ?_
  refine RUN ?_
  rw [g2]
  refine TC.loop (fun a : Nat × Int => 17 - a.1) (fun a => a.1 ≤ 17 ∧ rround S t (17 - a.1) a.2 = rround S t 17 o) (fun a => [(0, ptr b), (2, i64 t), (7, i64 a.2), (8, i64 a.1)]) (fun _ => [RmA b S]) (0, o) ⟨Nat.zero_le _, rfl⟩ ⟨rfl, rfl, rfl, rfl, trivial⟩ (RmA.shut (L := [])) ?_
  rintro ⟨k, x⟩ ⟨hk, hr⟩
  dsimp only at hk hr ⊢
  refine RUN ?_
  by_cases h1 : (k : Int) ≤ 16
  · rw [decide_eq_true h1]
    obtain ⟨j, hj⟩ : ∃ j, 17 - k = j + 1 := ⟨16 - k, by omega⟩
    have hj2 : 17 - (k + 1) = j := by omega
    rw [hj] at hr
    refine RUN ?_
    by_cases h2 : x = 0
    · rw [decide_eq_false (show ¬ ¬ x = 0 by simpa using h2)]
      refine RUN ?_
      refine rt_r rfl ⟨?_, rfl⟩ (LEnt.refl _)
      rw [← hr, rround, if_pos h2]
    · rw [decide_eq_true h2]
      refine RUN ?_
      refine TC.cP rfl (fun h3 => ?_) fun h3 => ?_
      · refine RUN ?_
        refine rt_r rfl ⟨?_, rfl⟩ (LEnt.refl _)
        rw [← hr, rround, if_neg h2, if_pos h3]
      · refine RUN ?_
        refine RP.c rfl (rmWaits hL x) (.c .h .e) rfl ?_
        rintro v P' ⟨rfl, rfl⟩
        refine RUN ?_
        cases hw : rwt S x with
        | none =>
          rw [decide_eq_true (show plr none < 0 by decide)]
          refine RUN ?_
          refine rt_r rfl ⟨?_, rfl⟩ (LEnt.refl _)
          rw [← hr, rround, if_neg h2, if_neg h3, hw]
        | some w =>
          have hw8 : w < S.qs.length := (List.findIdx?_eq_some_iff_getElem.1 hw).1
          have hpl : plr (some w) = (w : Int) := rfl
          rw [decide_eq_false (show ¬ plr (some w) < 0 from by rw [hpl]; omega), hpl]
          obtain ⟨kk', o', qb', ql', k1', k2', k3', g1', g2', g3'⟩ := rf_get hL (i := w) (by omega)
          refine RUN ?_
          refine RP.rm (by ((repeat (first | exact .h | apply In1.n)); fail_if_success refine ?_)) fun sk so sq => ?_
          refine RUN ?_
          refine lp_n (k + 1, o') ⟨by dsimp only; omega, ?_⟩ (by dsimp only; omega) ⟨rfl, rfl, rfl, rfl, trivial⟩ (RmA.shut (L := []))
          dsimp only
          rw [← hr, hj2, rround, if_neg h2, if_neg h3, hw]
          dsimp only
          rw [g2']
  · rw [decide_eq_false h1]
    obtain rfl : k = 17 := by omega
    refine RUN ?_
    refine rt_r rfl ⟨?_, rfl⟩ (LEnt.refl _)
    rw [← hr]; rfl
theorem rmTry (hL : RfL S) (m t : Int) : Tri tab ext F.detentref15_All_try [ptr b, i64 m, i64 t] [RmA b S] fun v P' => v = .tup [.s (.bool (rtry S m t).1.1), .s (.int .i64 (rtry S m t).1.2)] ∧ P' = [RmA b (rtry S m t).2] := by
  have hl8 := hL.ks
  have hol := hL.ow
  have hbl := hL.bs
  refine Tri.go tab_detentref15_All_try rfl ?_
  refine RUN ?_
  refine RP.c rfl (rmMutex m) (.c .h .e) rfl ?_
  rintro v P' ⟨rfl, rfl⟩
  unfold rtry
  by_cases h1 : 1 ≤ m ∧ m ≤ S.ks.length
  · rw [decide_eq_true h1]
    refine RUN ?_
    refine RP.c rfl (rmIs t) .e rfl ?_
    rintro v P' ⟨rfl, rfl⟩
    by_cases h2 : 1 ≤ t ∧ t ≤ 16
    · rw [decide_eq_true h2, if_neg (show ¬ (¬ (1 ≤ m ∧ m ≤ S.ks.length) ∨ ¬ (1 ≤ t ∧ t ≤ 16)) by omega)]
      obtain ⟨kk, o, qb, ql, k1, k2, k3, g1, g2, g3⟩ := rf_get hL (i := (m - 1).toNat) (by omega)
      have hx : S.bs[t.toNat]? = some (rBs S t) := by
        unfold rBs
        rw [List.getElem?_eq_getElem (by omega)]; rfl
      rw [g1, g2]
      refine RUN ?_
      refine RP.rm (by ((repeat (first | exact .h | apply In1.n)); fail_if_success refine ?_)) fun sk so sq => ?_
      refine RUN ?_
      refine TC.cP rfl (fun h3 => ?_) fun h3 => ?_
      · rw [if_pos h3]
        refine RUN ?_
        exact rt_r (resE2 rfl rfl) ⟨rfl, rfl⟩ (RmA.shut (L := []))
      · rw [if_neg h3]
        refine RUN ?_
        have split : ∀ {P : Prop}, (kk.1 = 3 → rBs S t < kk.2 → P) → (¬ (kk.1 = 3 ∧ rBs S t < kk.2) → kk.1 = 3 → ¬ rBs S t < kk.2 → P) → (¬ (kk.1 = 3 ∧ rBs S t < kk.2) → ¬ kk.1 = 3 → P) → P := fun f1 f2 f3 => by
          by_cases a1 : kk.1 = 3
          · by_cases a2 : rBs S t < kk.2
            · exact f1 a1 a2
            · exact f2 (fun h => a2 h.2) a1 a2
          · exact f3 (fun h => a1 h.1) a1
        refine split (fun a1 a2 => ?_) (fun hc a1 a2 => ?_) (fun hc a1 => ?_)
        · rw [decide_eq_true a1]
          refine RUN ?_
          rw [decide_eq_true a2, if_pos ⟨a1, a2⟩]
          refine RUN ?_
          exact rt_r (resE2 rfl rfl) ⟨rfl, rfl⟩ (RmA.shut (L := []))
        · rw [decide_eq_true a1]
          refine RUN ?_
          rw [decide_eq_false a2, if_neg hc]
          refine RUN ?_
          refine RP.ent (RmA.shut (L := [])) ?_
          refine RP.c rfl (rmWaits hL t) (.c .h .e) rfl ?_
          rintro v P' ⟨rfl, rfl⟩
          refine RUN ?_
          cases hw : rwt S t with
          | some i =>
            rw [decide_eq_true (show plr (some i) ≥ 0 from Int.natCast_nonneg i), if_pos (show (some i).isSome = true from rfl)]
            refine RUN ?_
            exact rt_r (resE2 rfl rfl) ⟨rfl, rfl⟩ (LEnt.refl _)
          | none =>
            rw [decide_eq_false (show ¬ plr none ≥ 0 by decide), if_neg (show ¬ (none : Option Nat).isSome = true by decide)]
            refine RUN ?_
            refine RP.rm (by ((repeat (first | exact .h | apply In1.n)); fail_if_success refine ?_)) fun sk so sq => ?_
            refine RUN ?_
            refine TC.cP rfl (fun h5 => ?_) fun h5 => ?_
            · rw [if_pos h5]
              refine RUN ?_
              refine RP.s rfl rfl rfl rfl (.n (.n (Stw.we encI_len t (i := (m - 1).toNat) (by omega)))) ?_
              refine RUN ?_
              refine RP.ent (RmA.shut (S := { S with ow := S.ow.set (m - 1).toNat t }) (L := [])) ?_
              refine RP.c rfl (rmSettle (hL.seto (m - 1).toNat t)) (.c .h .e) rfl ?_
              rintro v P' ⟨rfl, rfl⟩
              refine RUN ?_
              exact rt_r (resE2 rfl rfl) ⟨rfl, rfl⟩ (LEnt.refl _)
            · rw [if_neg h5]
              refine RUN ?_
              exact rt_r (resE2 rfl rfl) ⟨rfl, rfl⟩ (RmA.shut (L := []))
        · rw [decide_eq_false a1, if_neg hc]
          refine RUN ?_
          refine RP.ent (RmA.shut (L := [])) ?_
          refine RP.c rfl (rmWaits hL t) (.c .h .e) rfl ?_
          rintro v P' ⟨rfl, rfl⟩
          refine RUN ?_
          cases hw : rwt S t with
          | some i =>
            rw [decide_eq_true (show plr (some i) ≥ 0 from Int.natCast_nonneg i), if_pos (show (some i).isSome = true from rfl)]
            refine RUN ?_
            exact rt_r (resE2 rfl rfl) ⟨rfl, rfl⟩ (LEnt.refl _)
          | none =>
            rw [decide_eq_false (show ¬ plr none ≥ 0 by decide), if_neg (show ¬ (none : Option Nat).isSome = true by decide)]
            refine RUN ?_
            refine RP.rm (by ((repeat (first | exact .h | apply In1.n)); fail_if_success refine ?_)) fun sk so sq => ?_
            refine RUN ?_
            refine TC.cP rfl (fun h5 => ?_) fun h5 => ?_
            · rw [if_pos h5]
              refine RUN ?_
              refine RP.s rfl rfl rfl rfl (.n (.n (Stw.we encI_len t (i := (m - 1).toNat) (by omega)))) ?_
              refine RUN ?_
              refine RP.ent (RmA.shut (S := { S with ow := S.ow.set (m - 1).toNat t }) (L := [])) ?_
              refine RP.c rfl (rmSettle (hL.seto (m - 1).toNat t)) (.c .h .e) rfl ?_
              rintro v P' ⟨rfl, rfl⟩
              refine RUN ?_
              exact rt_r (resE2 rfl rfl) ⟨rfl, rfl⟩ (LEnt.refl _)
            · rw [if_neg h5]
              refine RUN ?_
              exact rt_r (resE2 rfl rfl) ⟨rfl, rfl⟩ (RmA.shut (L := []))
    · rw [decide_eq_false h2, if_pos (show (¬ (1 ≤ m ∧ m ≤ S.ks.length) ∨ ¬ (1 ≤ t ∧ t ≤ 16)) by omega)]
      refine RUN ?_
      exact rt_r (resE2 rfl rfl) ⟨rfl, rfl⟩ (LEnt.refl _)
  · rw [decide_eq_false h1, if_pos (show (¬ (1 ≤ m ∧ m ≤ S.ks.length) ∨ ¬ (1 ≤ t ∧ t ≤ 16)) by omega)]
    refine RUN ?_
    exact rt_r (resE2 rfl rfl) ⟨rfl, rfl⟩ (LEnt.refl _)
theorem rmTryLock (hL : RfL S) (m t : Int) : Tri tab ext F.detentref15_All_TryLock [ptr b, i64 m, i64 t] [RmA b S] fun v P' => v = .tup [.s (.bool (rtry S m t).1.1), .s (.int .i64 (rtry S m t).1.2)] ∧ P' = [RmA b (rtry S m t).2] := by
  refine Tri.go tab_detentref15_All_TryLock rfl ?_
  refine RUN ?_
  refine RP.c rfl (rmTry hL m t) (.c .h .e) rfl ?_
  rintro v P' ⟨rfl, rfl⟩
  refine RUN ?_
  exact rt_r (resE2 rfl rfl) ⟨rfl, rfl⟩ (LEnt.refl _)
theorem rtry_self {m t : Int} (h1 : ¬ ((rtry S m t).1.1 = true ∨ ¬ (rtry S m t).1.2 = 0)) : (rtry S m t).2 = S ∧ (1 ≤ m ∧ m ≤ S.ks.length) ∧ (1 ≤ t ∧ t ≤ 16) := by
  unfold rtry at h1 ⊢
  split at h1
  · simp at h1
  · split at h1
    · simp at h1
    · split at h1
      · simp at h1
      · split at h1
        · simp at h1
        · split at h1
          · simp at h1
          · rename_i a1 a2 a3 a4 a5
            rw [if_neg a1, if_neg a2, if_neg a3, if_neg a4, if_neg a5]
            exact ⟨rfl, by omega, by omega⟩
theorem rmLock (hL : RfL S) (m t : Int) (hn : ¬ ((rtry S m t).1.1 = true ∨ ¬ (rtry S m t).1.2 = 0) → ∀ q, S.qs[(m - 1).toNat]? = some q → q.2.length ≤ 15) : Tri tab ext F.detentref15_All_Lock [ptr b, i64 m, i64 t] [RmA b S] fun v P' => v = .tup [.s (.bool (rlock S m t).1.1), .s (.int .i64 (rlock S m t).1.2)] ∧ P' = [RmA b (rlock S m t).2] := by
  have hl8 := hL.ks
  have hql8 := hL.qs
  refine Tri.go tab_detentref15_All_Lock rfl ?_
  refine RUN ?_
  refine RP.c rfl (rmTry hL m t) (.c .h .e) rfl ?_
  rintro v P' ⟨rfl, rfl⟩
  refine RUN ?_
  unfold rlock
  by_cases h1 : (rtry S m t).1.1 = true ∨ ¬ (rtry S m t).1.2 = 0
  · rw [if_pos h1]
    cases h2 : (rtry S m t).1.1 with
    | true =>
      refine RUN ?_
      exact rt_r (resE2 rfl rfl) ⟨rfl, rfl⟩ (LEnt.refl _)
    | false =>
      have h3 : ¬ (rtry S m t).1.2 = 0 := by
        rcases h1 with h | h
        · rw [h2] at h; cases h
        · exact h
      refine RUN ?_
      rw [decide_eq_true h3]
      refine RUN ?_
      exact rt_r (resE2 rfl rfl) ⟨rfl, rfl⟩ (LEnt.refl _)
  · rw [if_neg h1]
    obtain ⟨e0, hm, ht⟩ := rtry_self h1
    have h2 : (rtry S m t).1.1 = false := by
      cases h : (rtry S m t).1.1 with
      | false => rfl
      | true => exact absurd (.inl h) h1
    have h3 : (rtry S m t).1.2 = 0 := Classical.not_not.1 fun h => h1 (.inr h)
    rw [h2, h3, e0]
    obtain ⟨kk, o, qb, ql, k1, k2, k3, g1, g2, g3⟩ := rf_get hL (i := (m - 1).toNat) (by omega)
    have hq16 : ql.length ≤ 16 := hL.ql _ (List.mem_of_getElem? k3)
    have hqid := hL.qi _ (List.mem_of_getElem? k3)
    refine RUN ?_
    rw [show (m - 1 : Int) = (((m - 1).toNat : Nat) : Int) by omega, show (((m - 1).toNat : Nat) : Int).toNat = (m - 1).toNat from rfl, g3]
    refine RP.c rfl (rmRound hL (i := (m - 1).toNat) (by omega) t) (.c .h .e) rfl ?_
    rintro v P' ⟨rfl, rfl⟩
    refine RUN ?_
    cases hr : rround S t 17 (rOw S (m - 1).toNat) with
    | true =>
      rw [if_pos rfl]
      refine RUN ?_
      exact rt_r (resE2 rfl rfl) ⟨rfl, rfl⟩ (LEnt.refl _)
    | false =>
      rw [if_neg (show ¬ false = true by decide)]
      refine RUN ?_
      refine RP.rm (by ((repeat (first | exact .h | apply In1.n)); fail_if_success refine ?_)) fun sk so sq => ?_
      refine RP.obs (by ((repeat (first | exact .h | apply In1.n)); fail_if_success refine ?_)) fun ps hps => ?_
      obtain ⟨p, hp⟩ := ths_get hps k3
      refine RUN ?_
      refine RP.ent (rf_shut hps (L := [])) ?_
      refine RP.c rfl (rmPriK hL t) (.c .h .e) rfl ?_
      rintro v P' ⟨rfl, rfl⟩
      refine WK.wq (fun g _ _ => ⟨_, _, _, rfl, rfl, .inl ⟨rfl, _, rfl, Ld.rf (by ((repeat (first | exact Ld.c rfl | exact Ld.r rfl | exact Ld.g (by assumption) | exact Ld.w (fun _ => by rfl) (by assumption) (by rfl) | exact Ld.a (by rfl) (fun _ => by rfl) (by assumption) (by rfl) | apply Ld.n)); fail_if_success refine ?_))⟩⟩) (fun p h => by cases h) ?_
      refine WK.wq (fun g _ _ => ⟨_, _, _, rfl, rfl, .inl ⟨rfl, _, rfl, Ld.rf (by ((repeat (first | exact Ld.c rfl | exact Ld.r rfl | exact Ld.g (by assumption) | exact Ld.w (fun _ => by rfl) (by assumption) (by rfl) | exact Ld.a (by rfl) (fun _ => by rfl) (by assumption) (by rfl) | apply Ld.n)); fail_if_success refine ?_))⟩⟩) (fun p h => by cases h) (WK.z ?_)
      refine RUN ?_
      refine RP.rf fun hps => ?_
      refine RP.c rfl (Tri.at (Q := fun v => v = i64 (radd qb ql t (rPri S t)).1) hps hp k3 (roAdd (by omega) t (rPri S t))) (.c (by ((repeat (first | exact .h | apply In1.n)); fail_if_success refine ?_)) .e) rfl ?_
      rintro v P' ⟨rfl, rfl⟩
      refine RUN ?_
      have hq15 : ql.length ≤ 15 := hn h1 _ k3
      have hLr : RfL { S with qs := S.qs.set (m - 1).toNat (qb, (radd qb ql t (rPri S t)).2) } := by
        have hra : (radd qb ql t (rPri S t)).2.length ≤ 16 ∧ ∀ x ∈ (radd qb ql t (rPri S t)).2, 1 ≤ x.1 ∧ x.1 ≤ 16 := by
          unfold radd
          split
          · exact ⟨hq16, hqid⟩
          · split
            · exact ⟨hq16, hqid⟩
            · refine ⟨by rw [rput_len]; omega, fun x hx => ?_⟩
              rcases rput_mem hx with h | h
              · rw [h]; exact ht
              · exact hqid x h
        exact hL.setq hra.1 hra.2
      refine RP.ent (LEnt.trans (LEnt.of (.c (by ((repeat (first | exact .h | apply In1.n)); fail_if_success refine ?_)) (.c (by ((repeat (first | exact .h | apply In1.n)); fail_if_success refine ?_)) (.c (by ((repeat (first | exact .h | apply In1.n)); fail_if_success refine ?_)) (.c (by ((repeat (first | exact .h | apply In1.n)); fail_if_success refine ?_)) (.c (by ((repeat (first | exact .h | apply In1.n)); fail_if_success refine ?_)) .e)))))) (rm_in (S := { S with qs := S.qs.set (m - 1).toNat (qb, (radd qb ql t (rPri S t)).2) }) (L := []) (by rw [List.length_set]; exact hps))) ?_
      refine RP.c rfl (rmSettle hLr) (.c .h .e) rfl ?_
      rintro v P' ⟨rfl, rfl⟩
      refine RUN ?_
      exact rt_r (resE2 rfl rfl) ⟨rfl, rfl⟩ (LEnt.refl _)
end
end Go.AM

/-
  The document's mutexes: who holds what, all given up, new ones.
-/
namespace Go.AM
set_option maxHeartbeats 8000000
attribute [local irreducible] sq bk lpK mdx rt TC RP WK Cel Ro Row Fre RowsA RowsBut
section
variable {ext : Nat → List AV → AH → Option (AV × AH)} {b : Nat} {S : Rf}
def rheldN (S : Rf) (n : Int) (k : Nat) : List Int := ((List.range k).filter fun m => decide (rOw S m = n)).map fun (m : Nat) => (m : Int) + 1
theorem rheldN_succ {n : Int} {k : Nat} : rheldN S n (k + 1) = rheldN S n k ++ if rOw S k = n then [(k : Int) + 1] else [] := by
  unfold rheldN
  rw [List.range_succ, List.filter_append, List.map_append]
  congr 1
  by_cases h : rOw S k = n
  · rw [if_pos h, List.filter_cons_of_pos (by simpa using h)]; rfl
  · rw [if_neg h, List.filter_cons_of_neg (by simpa using h)]; rfl
theorem rheldN_len {n : Int} {k : Nat} : (rheldN S n k).length ≤ k := by
  unfold rheldN
  rw [List.length_map]
  exact Nat.le_trans (List.length_filter_le _ _) (by simp)
theorem rmHeld (hL : RfL S) (t : Int) : Tri tab ext F.detentref15_All_Held [ptr b, i64 t] [RmA b S] fun v P' => ∃ s, v = .s s ∧ P' = [Row encI 1 s (rheld S t), RmA b S] := by
  have hl8 := hL.ks
  have hol := hL.ow
  refine Tri.go tab_detentref15_All_Held rfl ?_
  refine RUN ?_
  refine TC.loop (fun a : Nat × SV => S.ks.length - a.1) (fun a => a.1 ≤ S.ks.length ∧ (¬ (1 ≤ t ∧ t ≤ 16) → a.1 = 0)) (fun a => [(0, ptr b), (1, i64 t), (5, .s a.2), (6, i64 a.1)]) (fun a => [Row encI 1 a.2 (rheldN S t a.1), RmA b S]) (0, .slice none 0 0 1) ⟨Nat.zero_le _, fun _ => rfl⟩ ⟨rfl, rfl, rfl, rfl, trivial⟩ (row_nil 1 _) ?_
  rintro ⟨i, q⟩ ⟨hi, hz⟩
  dsimp only at hi hz ⊢
  refine TC.rm (by ((repeat (first | exact .h | apply In1.n)); fail_if_success refine ?_)) fun sk so sq => ?_
  refine RUN ?_
  by_cases h1 : (i : Int) < S.ks.length
  · rw [decide_eq_true h1]
    refine RUN ?_
    refine RP.c rfl (rmIs t) .e rfl ?_
    rintro v P' ⟨rfl, rfl⟩
    by_cases h2 : 1 ≤ t ∧ t ≤ 16
    · rw [decide_eq_true h2]
      obtain ⟨kk, o, qb, ql, k1, k2, k3, g1, g2, g3⟩ := rf_get hL (i := i) (by omega)
      have hl := rheldN_len (S := S) (n := t) (k := i)
      refine RUN ?_
      refine TC.cP rfl (fun h3 => ?_) fun h3 => ?_
      · refine RUN ?_
        refine RP.bs rfl rfl rfl fun c1 => ?_
        refine RP.ap rfl rfl rfl (ap_one (enc := encI) (k := 1) (bytes := 8) (r := rheldN S t i) (e := (i : Int) + 1) encI_len (.c (by ((repeat (first | exact .h | apply In1.n)); fail_if_success refine ?_)) (.c (by ((repeat (first | exact .h | apply In1.n)); fail_if_success refine ?_)) .e)) (by omega)) fun q' => ?_
        refine RUN ?_
        refine lp_n (i + 1, q') ⟨by dsimp only; omega, fun h => absurd h2 h⟩ (by dsimp only; omega) ⟨rfl, rfl, rfl, rfl, trivial⟩ ?_
        dsimp only
        rw [rheldN_succ, g2, if_pos h3]
        exact LEnt.trans (LEnt.of (.c (by ((repeat (first | exact .h | apply In1.n)); fail_if_success refine ?_)) (.c (by ((repeat (first | exact .h | apply In1.n)); fail_if_success refine ?_)) (.c (by ((repeat (first | exact .h | apply In1.n)); fail_if_success refine ?_)) (.c (by ((repeat (first | exact .h | apply In1.n)); fail_if_success refine ?_)) (.c (by ((repeat (first | exact .h | apply In1.n)); fail_if_success refine ?_)) .e)))))) (LEnt.trans (RmA.shut (S := S) (sk := sk) (so := so) (sq := sq) (L := [Row encI 1 q' (rheldN S t i ++ [(i : Int) + 1])])) (LEnt.of (.c (by ((repeat (first | exact .h | apply In1.n)); fail_if_success refine ?_)) (.c (by ((repeat (first | exact .h | apply In1.n)); fail_if_success refine ?_)) .e))))
      · refine RUN ?_
        refine lp_n (i + 1, q) ⟨by dsimp only; omega, fun h => absurd h2 h⟩ (by dsimp only; omega) ⟨rfl, rfl, rfl, rfl, trivial⟩ ?_
        dsimp only
        rw [rheldN_succ, g2, if_neg h3, List.append_nil]
        exact LEnt.trans (RmA.shut (S := S) (sk := sk) (so := so) (sq := sq) (L := [Row encI 1 q (rheldN S t i)])) (LEnt.of (.c (by ((repeat (first | exact .h | apply In1.n)); fail_if_success refine ?_)) (.c (by ((repeat (first | exact .h | apply In1.n)); fail_if_success refine ?_)) .e)))
    · rw [decide_eq_false h2]
      obtain rfl : i = 0 := hz h2
      refine RUN ?_
      refine rt_r rfl ⟨q, rfl, ?_⟩ (LEnt.trans (RmA.shut (S := S) (sk := sk) (so := so) (sq := sq) (L := [Row encI 1 q (rheldN S t 0)])) (LEnt.of (P := [Row encI 1 q (rheldN S t 0), RmA b S]) (.c (by ((repeat (first | exact .h | apply In1.n)); fail_if_success refine ?_)) (.c (by ((repeat (first | exact .h | apply In1.n)); fail_if_success refine ?_)) .e))))
      unfold rheld
      rw [if_neg h2]; rfl
  · rw [decide_eq_false h1]
    obtain rfl : i = S.ks.length := by omega
    refine RUN ?_
    refine rt_r rfl ⟨q, rfl, ?_⟩ (LEnt.trans (RmA.shut (S := S) (sk := sk) (so := so) (sq := sq) (L := [Row encI 1 q (rheldN S t S.ks.length)])) (LEnt.of (P := [Row encI 1 q (rheldN S t S.ks.length), RmA b S]) (.c (by ((repeat (first | exact .h | apply In1.n)); fail_if_success refine ?_)) (.c (by ((repeat (first | exact .h | apply In1.n)); fail_if_success refine ?_)) .e))))
    unfold rheld
    by_cases h2 : 1 ≤ t ∧ t ≤ 16
    · rw [if_pos h2]; rfl
    · rw [if_neg h2, hz h2]; rfl
theorem rpass_ks {i : Nat} : (rpass S i).2.ks = S.ks := by
  unfold rpass
  split <;> rfl
theorem rfree_ok (n : Int) : ∀ (l : List Nat) (q : Rf × List Int), RfL q.1 → RfL (l.foldl (rfreeS n) q).1 ∧ (l.foldl (rfreeS n) q).1.ks = q.1.ks ∧ (l.foldl (rfreeS n) q).2.length ≤ q.2.length + l.length
  | [], q, h => ⟨h, rfl, Nat.le_refl _⟩
  | i :: l, q, h => by
    rw [List.foldl_cons]
    have h0 : RfL (rfreeS n q i).1 ∧ (rfreeS n q i).1.ks = q.1.ks ∧ (rfreeS n q i).2.length ≤ q.2.length + 1 := by
      unfold rfreeS
      split
      · exact ⟨h, rfl, by omega⟩
      · refine ⟨(h.pass i).settle, rpass_ks, ?_⟩
        dsimp only
        split
        · rw [List.length_append]; exact Nat.le_refl _
        · omega
    obtain ⟨h1, h2, h3⟩ := rfree_ok n l _ h0.1
    exact ⟨h1, h2.trans h0.2.1, by rw [List.length_cons]; omega⟩
theorem rmFree (hL : RfL S) (t : Int) : Tri tab ext F.detentref15_All_Free [ptr b, i64 t] [RmA b S] fun v P' => ∃ s, v = .s s ∧ P' = [Row encI 1 s (rfree S t).2, RmA b (rfree S t).1] := by
  have hl8 := hL.ks
  refine Tri.go tab_detentref15_All_Free rfl ?_
  refine RUN ?_
  refine TC.loop (fun a : Nat × SV => S.ks.length - a.1) (fun a => a.1 ≤ S.ks.length ∧ (¬ (1 ≤ t ∧ t ≤ 16) → a.1 = 0)) (fun a => [(0, ptr b), (1, i64 t), (5, .s a.2), (6, i64 a.1)]) (fun a => [Row encI 1 a.2 ((List.range a.1).foldl (rfreeS t) (S, [])).2, RmA b ((List.range a.1).foldl (rfreeS t) (S, [])).1]) (0, .slice none 0 0 1) ⟨Nat.zero_le _, fun _ => rfl⟩ ⟨rfl, rfl, rfl, rfl, trivial⟩ (row_nil 1 _) ?_
  rintro ⟨i, q⟩ ⟨hi, hz⟩
  dsimp only at hi hz ⊢
  obtain ⟨hL1, hk1, hlen⟩ := rfree_ok t (List.range i) (S, []) hL
  have hsu : (List.range (i + 1)).foldl (rfreeS t) (S, []) = rfreeS t ((List.range i).foldl (rfreeS t) (S, [])) i := by rw [List.range_succ, List.foldl_append]; rfl
  have hfr : (1 ≤ t ∧ t ≤ 16) → i = S.ks.length → rfree S t = (List.range i).foldl (rfreeS t) (S, []) := fun h1 h2 => by unfold rfree; rw [if_pos h1, h2]
  have hfr0 : i = 0 → (List.range i).foldl (rfreeS t) (S, []) = (S, []) := fun h => by rw [h]; rfl
  generalize (List.range i).foldl (rfreeS t) (S, []) = st at *
  obtain ⟨S1, out⟩ := st
  dsimp only at hL1 hk1 hlen ⊢
  rw [List.length_range] at hlen
  have hol := hL1.ow
  refine TC.rm (by ((repeat (first | exact .h | apply In1.n)); fail_if_success refine ?_)) fun sk so sq => ?_
  refine RUN ?_
  by_cases h1 : (i : Int) < S1.ks.length
  · rw [decide_eq_true h1]
    have hi2 : i < S.ks.length := by rw [← hk1]; omega
    refine RUN ?_
    refine RP.c rfl (rmIs t) .e rfl ?_
    rintro v P' ⟨rfl, rfl⟩
    by_cases h2 : 1 ≤ t ∧ t ≤ 16
    · rw [decide_eq_true h2]
      obtain ⟨kk, o, qb, ql, k1, k2, k3, g1, g2, g3⟩ := rf_get hL1 (i := i) (by omega)
      refine RUN ?_
      refine TC.cP rfl (fun h3 => ?_) fun h3 => ?_
      · refine RUN ?_
        refine lp_n (i + 1, q) ⟨by dsimp only; omega, fun h => absurd h2 h⟩ (by dsimp only; omega) ⟨rfl, rfl, rfl, rfl, trivial⟩ ?_
        dsimp only
        rw [hsu, show rfreeS t (S1, out) i = (S1, out) from if_pos (by rw [g2]; exact h3)]
        exact LEnt.trans (RmA.shut (S := S1) (sk := sk) (so := so) (sq := sq) (L := [Row encI 1 q out])) (LEnt.of (.c (by ((repeat (first | exact .h | apply In1.n)); fail_if_success refine ?_)) (.c (by ((repeat (first | exact .h | apply In1.n)); fail_if_success refine ?_)) .e)))
      · have hst : rfreeS t (S1, out) i = (rsettle (rpass S1 i).2, if (rpass S1 i).1 ≠ 0 then out ++ [(rpass S1 i).1] else out) := if_neg (by rw [g2]; exact h3)
        refine RUN ?_
        refine RP.ent (L' := [RmA b S1, Row encI 1 q out]) (RmA.shut (S := S1) (sk := sk) (so := so) (sq := sq) (L := [Row encI 1 q out])) ?_
        refine RP.c rfl (rmPass hL1 (i := i) (by omega)) (.c .h .e) rfl ?_
        rintro v P' ⟨rfl, rfl⟩
        refine RUN ?_
        refine RP.c rfl (rmSettle (hL1.pass i)) (.c .h .e) rfl ?_
        rintro v P' ⟨rfl, rfl⟩
        refine RUN ?_
        refine TC.cP rfl (fun h4 => ?_) fun h4 => ?_
        · refine RUN ?_
          refine RP.bs rfl rfl rfl fun c1 => ?_
          refine RP.ap rfl rfl rfl (ap_one (enc := encI) (k := 1) (bytes := 8) (r := out) (e := (rpass S1 i).1) encI_len (.c (by ((repeat (first | exact .h | apply In1.n)); fail_if_success refine ?_)) (.c (by ((repeat (first | exact .h | apply In1.n)); fail_if_success refine ?_)) .e)) (by simp at hlen; omega)) fun q' => ?_
          refine RUN ?_
          refine lp_n (i + 1, q') ⟨by dsimp only; omega, fun h => absurd h2 h⟩ (by dsimp only; omega) ⟨rfl, rfl, rfl, rfl, trivial⟩ ?_
          dsimp only
          rw [hsu, hst, if_pos h4]
          exact LEnt.of (.c (by ((repeat (first | exact .h | apply In1.n)); fail_if_success refine ?_)) (.c (by ((repeat (first | exact .h | apply In1.n)); fail_if_success refine ?_)) .e))
        · refine RUN ?_
          refine lp_n (i + 1, q) ⟨by dsimp only; omega, fun h => absurd h2 h⟩ (by dsimp only; omega) ⟨rfl, rfl, rfl, rfl, trivial⟩ ?_
          dsimp only
          rw [hsu, hst, if_neg h4]
          exact LEnt.of (.c (by ((repeat (first | exact .h | apply In1.n)); fail_if_success refine ?_)) (.c (by ((repeat (first | exact .h | apply In1.n)); fail_if_success refine ?_)) .e))
    · rw [decide_eq_false h2]
      have h0 := hfr0 (hz h2)
      cases h0
      refine RUN ?_
      refine rt_r rfl ⟨q, rfl, ?_⟩ (LEnt.trans (RmA.shut (S := S) (sk := sk) (so := so) (sq := sq) (L := [Row encI 1 q []])) (LEnt.of (P := [Row encI 1 q [], RmA b S]) (.c (by ((repeat (first | exact .h | apply In1.n)); fail_if_success refine ?_)) (.c (by ((repeat (first | exact .h | apply In1.n)); fail_if_success refine ?_)) .e))))
      unfold rfree
      rw [if_neg h2]
  · rw [decide_eq_false h1]
    refine RUN ?_
    have e : rfree S t = (S1, out) := by
      by_cases h2 : 1 ≤ t ∧ t ≤ 16
      · exact hfr h2 (by rw [← hk1]; rw [← hk1] at hi; omega)
      · unfold rfree
        rw [if_neg h2]
        exact (hfr0 (hz h2)).symm
    refine rt_r rfl ⟨q, rfl, ?_⟩ (LEnt.trans (RmA.shut (S := S1) (sk := sk) (so := so) (sq := sq) (L := [Row encI 1 q out])) (LEnt.of (P := [Row encI 1 q out, RmA b S1]) (.c (by ((repeat (first | exact .h | apply In1.n)); fail_if_success refine ?_)) (.c (by ((repeat (first | exact .h | apply In1.n)); fail_if_success refine ?_)) .e))))
    rw [e]
end
end Go.AM

/-
  The document's mutexes: new ones.
-/
namespace Go.AM
set_option maxHeartbeats 8000000
attribute [local irreducible] sq bk lpK mdx rt TC RP WK Cel Ro Row Fre RowsA RowsBut
attribute [local irreducible] R.detentref15_New_s3 R.detentref15_New_s2
section
variable {ext : Nat → List AV → AH → Option (AV × AH)}
def rqs0 (ks : List (Int × Int)) : List RQ := ks.map fun k => (decide (k.1 ≠ 0), [])
def rf0 (ks : List (Int × Int)) : Rf := ⟨ks, List.replicate ks.length 0, rqs0 ks, priL (fun _ => 16) 17, priL (fun _ => 16) 17⟩
abbrev z17 : List Int := List.replicate 17 0
theorem obs_add {ps : List Nat} {p : Nat} {Q : List RQ} {B : Bool} {sq : SV} {L : List Asr} (hl : ps.length = Q.length) : LEnt ([Cel p [.bool B, .slice none 0 0 1], Row encP 1 sq (ps ++ [p]), Ths Rq ps Q] ++ L) (Obs Rq sq (Q ++ [(B, [])]) :: L) := fun ρ H R hs => by
  have h1 := row_nil (enc := encJ) (k := 2) 1 _ ρ H R hs
  have h2 := Rq.shut (p := p) (b := B) (s := .slice none 0 0 1) (l := []) (L := [Row encP 1 sq (ps ++ [p]), Ths Rq ps Q] ++ L) ρ H R (h1.perm (List.Perm.swap _ _ _))
  have h3 := ths_app (Th := Rq) (ps := ps) (os := Q) (p := p) (o := (B, [])) (L := [Row encP 1 sq (ps ++ [p])] ++ L) hl ρ H R (Sat.re h2 [2, 0, 1] (by simp) (by decide))
  exact Obs.shut (Th := Rq) (ps := ps ++ [p]) (os := Q ++ [(B, [])]) (by rw [List.length_append, List.length_append, hl]; rfl) (L := L) ρ H R (h3.perm (List.Perm.swap _ _ _))
theorem stw_nw {b i : Nat} {sk so sq : SV} {B N : List Int} {v : Int} {L : List Asr} (hB : B.length = 17) (hi : i < N.length) : Stw (Cel b ([sk, so, sq] ++ (flat encI B ++ flat encI N)) :: L) b (ix 20 i 1 0) [.int .i64 v] (Cel b ([sk, so, sq] ++ (flat encI B ++ flat encI (N.set i v))) :: L) := by
  have e : ∀ M : List Int, [sk, so, sq] ++ (flat encI B ++ flat encI M) = ([sk, so, sq] ++ flat encI B) ++ (flat encI M ++ []) := fun M => by rw [List.append_nil, List.append_assoc]
  rw [e, e]
  exact Stw.ae (c := 20) (by rw [List.length_append, flat_len encI_len, hB]; rfl) encI_len v hi
theorem priL_len {pri : Int → Int} {i : Nat} : (priL pri i).length = 17 := by simp [priL]
theorem rqs0_succ {ks : List (Int × Int)} {i : Nat} {k : Int × Int} (h : ks[i]? = some k) : rqs0 (ks.take (i + 1)) = rqs0 (ks.take i) ++ [(decide (¬ k.1 = 0), [])] := by
  unfold rqs0
  rw [List.take_add_one, h, Option.toList_some, List.map_append]; rfl
theorem rmNew (s : SV) (ks : List (Int × Int)) : Tri tab ext F.detentref15_New [.s s] [Row encK 2 s ks] fun v P' =>
    (8 < ks.length ∨ ¬ (∀ k ∈ ks, rightF k = true)) ∧ v = .tup [.s (.ptr none), .s (.int .i64 (-17))] ∧ P' = [] ∨
    (ks.length ≤ 8 ∧ ∀ k ∈ ks, rightF k = true) ∧ ∃ b, v = .tup [.s (.ptr (some (b, 0))), .s (.int .i64 0)] ∧ P' = [RmA b (rf0 ks), Row encK 2 s ks] := by
  refine Tri.go tab_detentref15_New rfl ?_
  refine RUN ?_
  refine TC.cP rfl (fun h => ?_) fun h => ?_
  · refine RUN ?_
    exact rt_r (resE2 rfl rfl) (.inl ⟨.inl (by omega), rfl, rfl⟩) (LEnt.of .e)
  · have h : ks.length ≤ 8 := by omega
    refine RUN ?_
    refine RP.bs rfl rfl rfl fun c1 => ?_
    refine RUN ?_
    refine RP.ent (L' := Row encK 2 (.slice (some (c1, 0)) 0 0 2) [] :: [Row encK 2 s ks]) row_empty ?_
    refine RP.ap rfl rfl rfl (ap_row (enc := encK) (k := 2) (bytes := 16) (r := []) (r2 := ks) (fun e => rfl) (.c (by ((repeat (first | exact .h | apply In1.n)); fail_if_success refine ?_)) (.c (by ((repeat (first | exact .h | apply In1.n)); fail_if_success refine ?_)) .e)) (by simp only [List.length_nil]; omega)) fun sk => ?_
    rw [List.nil_append]
    refine RUN ?_
    refine RP.bx rfl rfl rfl fun b => ?_
    refine RUN ?_
    refine TC.loop (fun a : Nat × SV × SV => ks.length - a.1) (fun a => a.1 ≤ ks.length ∧ ∀ k ∈ ks.take a.1, rightF k = true) (fun a => [(0, .s s), (4, ptr b), (5, i64 a.1)]) (fun a => [Cel b ([sk, a.2.1, a.2.2] ++ (flat encI z17 ++ flat encI z17)), Row encK 2 sk ks, Row encI 1 a.2.1 (List.replicate a.1 0), Obs Rq a.2.2 (rqs0 (ks.take a.1)), Row encK 2 s ks]) (0, .slice none 0 0 1, .slice none 0 0 1) ⟨Nat.zero_le _, by simp⟩ ⟨rfl, rfl, rfl, trivial⟩ ?_ ?_
    · refine LEnt.trans (row_nil (enc := encI) (k := 1) 1 _) ?_
      refine LEnt.trans (row_nil (enc := encP) (k := 1) 1 _) ?_
      refine LEnt.trans (ths_nil (Th := Rq)) ?_
      refine LEnt.trans (LEnt.of (.c (by ((repeat (first | exact .h | apply In1.n)); fail_if_success refine ?_)) (.c (by ((repeat (first | exact .h | apply In1.n)); fail_if_success refine ?_)) (.c (by ((repeat (first | exact .h | apply In1.n)); fail_if_success refine ?_)) (.c (by ((repeat (first | exact .h | apply In1.n)); fail_if_success refine ?_)) (.c (by ((repeat (first | exact .h | apply In1.n)); fail_if_success refine ?_)) (.c (by ((repeat (first | exact .h | apply In1.n)); fail_if_success refine ?_)) .e))))))) (LEnt.trans (Obs.shut (Th := Rq) (ps := []) (os := []) (s := .slice none 0 0 1) (L := [Cel b ([sk, .slice none 0 0 1, .slice none 0 0 1] ++ (flat encI z17 ++ flat encI z17)), Row encK 2 sk ks, Row encI 1 (.slice none 0 0 1) [], Row encK 2 s ks]) rfl) (LEnt.of (.c (by ((repeat (first | exact .h | apply In1.n)); fail_if_success refine ?_)) (.c (by ((repeat (first | exact .h | apply In1.n)); fail_if_success refine ?_)) (.c (by ((repeat (first | exact .h | apply In1.n)); fail_if_success refine ?_)) (.c (by ((repeat (first | exact .h | apply In1.n)); fail_if_success refine ?_)) (.c (by ((repeat (first | exact .h | apply In1.n)); fail_if_success refine ?_)) .e)))))))
    rintro ⟨i, so, sq⟩ ⟨hi, hok⟩
    dsimp only at hi hok ⊢
    refine RUN ?_
    refine TC.cP rfl (fun h2 => ?_) fun h2 => ?_
    · obtain ⟨k, hk⟩ : ∃ k, ks[i]? = some k := ⟨_, List.getElem?_eq_getElem (by omega)⟩
      have hkm := List.mem_of_getElem? hk
      have bad : rightF k = false → ¬ ∀ k ∈ ks, rightF k = true := fun h1 h2 => by rw [h2 k hkm] at h1; cases h1
      have next : rightF k = true → ∀ x ∈ ks.take (i + 1), rightF x = true := fun h1 x hx => by
        rw [List.take_add_one, hk, Option.toList_some, List.mem_append] at hx
        rcases hx with hx | hx
        · exact hok x hx
        · rw [List.mem_singleton.1 hx]; exact h1
      refine RUN ?_
      by_cases a1 : k.1 < 0
      · rw [decide_eq_true a1]
        refine RUN ?_
        exact rt_r (resE2 rfl rfl) (.inl ⟨.inr (bad (by unfold rightF; rw [if_neg (by omega), if_neg (by omega)])), rfl, rfl⟩) (LEnt.of .e)
      · rw [decide_eq_false a1]
        refine RUN ?_
        by_cases a2 : k.1 > 3
        · rw [decide_eq_true a2]
          refine RUN ?_
          exact rt_r (resE2 rfl rfl) (.inl ⟨.inr (bad (by unfold rightF; rw [if_neg (by omega), if_neg (by omega)])), rfl, rfl⟩) (LEnt.of .e)
        · rw [decide_eq_false a2]
          refine RUN ?_
          by_cases a3 : k.1 = 3
          · rw [decide_eq_true a3]
            refine RUN ?_
            by_cases a4 : k.2 < 1
            · rw [decide_eq_true a4]
              refine RUN ?_
              exact rt_r (resE2 rfl rfl) (.inl ⟨.inr (bad (by unfold rightF; rw [if_neg (by omega), if_pos a3]; exact decide_eq_false (by omega))), rfl, rfl⟩) (LEnt.of .e)
            · rw [decide_eq_false a4]
              refine RUN ?_
              by_cases a5 : k.2 > 16
              · rw [decide_eq_true a5]
                refine RUN ?_
                exact rt_r (resE2 rfl rfl) (.inl ⟨.inr (bad (by unfold rightF; rw [if_neg (by omega), if_pos a3]; exact decide_eq_false (by omega))), rfl, rfl⟩) (LEnt.of .e)
              · have hgood : rightF k = true := by unfold rightF; rw [if_neg (by omega), if_pos a3]; exact decide_eq_true (by omega)
                rw [decide_eq_false a5]
                refine RUN ?_
                refine RP.bs rfl rfl rfl fun c2 => ?_
                refine RP.ap rfl rfl rfl (ap_one (enc := encI) (k := 1) (bytes := 8) (r := List.replicate i 0) (e := 0) encI_len (.c (by ((repeat (first | exact .h | apply In1.n)); fail_if_success refine ?_)) (.c (by ((repeat (first | exact .h | apply In1.n)); fail_if_success refine ?_)) .e)) (by rw [List.length_replicate]; omega)) fun so' => ?_
                refine RUN ?_
                refine RP.bx rfl rfl rfl fun p => ?_
                refine RP.obs (by ((repeat (first | exact .h | apply In1.n)); fail_if_success refine ?_)) fun ps hps => ?_
                refine RUN ?_
                refine RP.bs rfl rfl rfl fun c3 => ?_
                refine RP.ap rfl rfl rfl (ap_one (enc := encP) (k := 1) (bytes := 8) (r := ps) (e := p) encP_len (.c (by ((repeat (first | exact .h | apply In1.n)); fail_if_success refine ?_)) (.c (by ((repeat (first | exact .h | apply In1.n)); fail_if_success refine ?_)) .e)) (by rw [hps, rqs0, List.length_map, List.length_take]; omega)) fun sq' => ?_
                refine RUN ?_
                refine lp_n (i + 1, so', sq') ⟨by dsimp only; omega, next hgood⟩ (by dsimp only; omega) ⟨rfl, rfl, rfl, trivial⟩ ?_
                dsimp only
                rw [rqs0_succ hk, List.replicate_succ']
                exact LEnt.trans (LEnt.of (.c (by ((repeat (first | exact .h | apply In1.n)); fail_if_success refine ?_)) (.c (by ((repeat (first | exact .h | apply In1.n)); fail_if_success refine ?_)) (.c (by ((repeat (first | exact .h | apply In1.n)); fail_if_success refine ?_)) (.c (by ((repeat (first | exact .h | apply In1.n)); fail_if_success refine ?_)) (.c (by ((repeat (first | exact .h | apply In1.n)); fail_if_success refine ?_)) (.c (by ((repeat (first | exact .h | apply In1.n)); fail_if_success refine ?_)) (.c (by ((repeat (first | exact .h | apply In1.n)); fail_if_success refine ?_)) .e)))))))) (LEnt.trans (obs_add (B := decide (¬ k.1 = 0)) (L := [Cel b ([sk, so', sq'] ++ (flat encI z17 ++ flat encI z17)), Row encK 2 sk ks, Row encI 1 so' (List.replicate i 0 ++ [0]), Row encK 2 s ks]) hps) (LEnt.of (.c (by ((repeat (first | exact .h | apply In1.n)); fail_if_success refine ?_)) (.c (by ((repeat (first | exact .h | apply In1.n)); fail_if_success refine ?_)) (.c (by ((repeat (first | exact .h | apply In1.n)); fail_if_success refine ?_)) (.c (by ((repeat (first | exact .h | apply In1.n)); fail_if_success refine ?_)) (.c (by ((repeat (first | exact .h | apply In1.n)); fail_if_success refine ?_)) .e)))))))
          · rw [decide_eq_false a3]
            refine RUN ?_
            by_cases a4 : k.2 = 0
            · have hgood : rightF k = true := by unfold rightF; rw [if_pos (by omega)]; exact decide_eq_true a4
              rw [decide_eq_false (show ¬ ¬ k.2 = 0 from fun h => h a4)]
              refine RUN ?_
              refine RP.bs rfl rfl rfl fun c2 => ?_
              refine RP.ap rfl rfl rfl (ap_one (enc := encI) (k := 1) (bytes := 8) (r := List.replicate i 0) (e := 0) encI_len (.c (by ((repeat (first | exact .h | apply In1.n)); fail_if_success refine ?_)) (.c (by ((repeat (first | exact .h | apply In1.n)); fail_if_success refine ?_)) .e)) (by rw [List.length_replicate]; omega)) fun so' => ?_
              refine RUN ?_
              refine RP.bx rfl rfl rfl fun p => ?_
              refine RP.obs (by ((repeat (first | exact .h | apply In1.n)); fail_if_success refine ?_)) fun ps hps => ?_
              refine RUN ?_
              refine RP.bs rfl rfl rfl fun c3 => ?_
              refine RP.ap rfl rfl rfl (ap_one (enc := encP) (k := 1) (bytes := 8) (r := ps) (e := p) encP_len (.c (by ((repeat (first | exact .h | apply In1.n)); fail_if_success refine ?_)) (.c (by ((repeat (first | exact .h | apply In1.n)); fail_if_success refine ?_)) .e)) (by rw [hps, rqs0, List.length_map, List.length_take]; omega)) fun sq' => ?_
              refine RUN ?_
              refine lp_n (i + 1, so', sq') ⟨by dsimp only; omega, next hgood⟩ (by dsimp only; omega) ⟨rfl, rfl, rfl, trivial⟩ ?_
              dsimp only
              rw [rqs0_succ hk, List.replicate_succ']
              exact LEnt.trans (LEnt.of (.c (by ((repeat (first | exact .h | apply In1.n)); fail_if_success refine ?_)) (.c (by ((repeat (first | exact .h | apply In1.n)); fail_if_success refine ?_)) (.c (by ((repeat (first | exact .h | apply In1.n)); fail_if_success refine ?_)) (.c (by ((repeat (first | exact .h | apply In1.n)); fail_if_success refine ?_)) (.c (by ((repeat (first | exact .h | apply In1.n)); fail_if_success refine ?_)) (.c (by ((repeat (first | exact .h | apply In1.n)); fail_if_success refine ?_)) (.c (by ((repeat (first | exact .h | apply In1.n)); fail_if_success refine ?_)) .e)))))))) (LEnt.trans (obs_add (B := decide (¬ k.1 = 0)) (L := [Cel b ([sk, so', sq'] ++ (flat encI z17 ++ flat encI z17)), Row encK 2 sk ks, Row encI 1 so' (List.replicate i 0 ++ [0]), Row encK 2 s ks]) hps) (LEnt.of (.c (by ((repeat (first | exact .h | apply In1.n)); fail_if_success refine ?_)) (.c (by ((repeat (first | exact .h | apply In1.n)); fail_if_success refine ?_)) (.c (by ((repeat (first | exact .h | apply In1.n)); fail_if_success refine ?_)) (.c (by ((repeat (first | exact .h | apply In1.n)); fail_if_success refine ?_)) (.c (by ((repeat (first | exact .h | apply In1.n)); fail_if_success refine ?_)) .e)))))))
            · rw [decide_eq_true a4]
              refine RUN ?_
              exact rt_r (resE2 rfl rfl) (.inl ⟨.inr (bad (by unfold rightF; rw [if_pos (by omega)]; exact decide_eq_false a4)), rfl, rfl⟩) (LEnt.of .e)
    · obtain rfl : i = ks.length := by omega
      rw [List.take_length] at hok ⊢
      refine RUN ?_
      unfold R.detentref15_New_s3
      refine RUN ?_
      refine TC.loop (fun i : Nat => 17 - i) (fun i => 1 ≤ i ∧ i ≤ 17) (fun i => [(4, ptr b), (7, i64 i)]) (fun i => [Cel b ([sk, so, sq] ++ (flat encI (priL (fun _ => 16) i) ++ flat encI (priL (fun _ => 16) i))), Row encK 2 sk ks, Row encI 1 so (List.replicate ks.length 0), Obs Rq sq (rqs0 ks), Row encK 2 s ks]) 1 (by omega) ⟨rfl, rfl, trivial⟩ (LEnt.refl _) ?_
      rintro i ⟨hi1, hi2⟩
      have hpl : (priL (fun _ => 16) i).length = 17 := priL_len
      have hps : (priL (fun _ => 16) i).set i 16 = priL (fun _ => 16) (i + 1) := priL_set hi1
      have hPL : i = 17 → priL (fun _ => 16) i = priL (fun _ => 16) 17 := fun h => by rw [h]
      generalize priL (fun _ => 16) i = PL at *
      refine RUN ?_
      refine TC.cP rfl (fun h3 => ?_) fun h3 => ?_
      · refine RUN ?_
        refine RP.s rfl rfl rfl rfl (Stw.ae (c := 3) (pre := [sk, so, sq]) (post := flat encI PL) rfl encI_len 16 (i := i) (by omega)) ?_
        refine RUN ?_
        refine RP.s rfl rfl rfl rfl (stw_nw (B := PL.set i 16) (by rw [List.length_set]; exact hpl) (by omega)) ?_
        refine RUN ?_
        rw [hps]
        exact lp_n (i + 1) (by omega) (by omega) ⟨rfl, rfl, trivial⟩ (LEnt.refl _)
      · obtain rfl : i = 17 := by omega
        refine RUN ?_
        unfold R.detentref15_New_s2
        refine RUN ?_
        refine rt_r (resE2 rfl rfl) (.inr ⟨⟨h, hok⟩, b, rfl, rfl⟩) ?_
        rw [hPL rfl]
        exact LEnt.trans (LEnt.of (.c (by ((repeat (first | exact .h | apply In1.n)); fail_if_success refine ?_)) (.c (by ((repeat (first | exact .h | apply In1.n)); fail_if_success refine ?_)) (.c (by ((repeat (first | exact .h | apply In1.n)); fail_if_success refine ?_)) (.c (by ((repeat (first | exact .h | apply In1.n)); fail_if_success refine ?_)) (.c (by ((repeat (first | exact .h | apply In1.n)); fail_if_success refine ?_)) .e)))))) (RmA.shut (S := rf0 ks) (sk := sk) (so := so) (sq := sq) (L := [Row encK 2 s ks]))
end
end Go.AM

/-
  The document's mutexes and the program's: what is held, all given up.
-/
namespace Go.AM
attribute [local irreducible] settleF rsettle
section
variable {ms : List Mu} {ts : List Tk}
theorem heldN_eq (n : Int) : ∀ k, k ≤ ms.length - 1 → rheldN (rfOf ms ts) n k = heldN ms n k
  | 0, _ => rfl
  | k + 1, hk => by
    have h0 : ms[k + 1]? = some (ms[k + 1]'(by omega)) := List.getElem?_eq_getElem _
    obtain ⟨a1, _, _⟩ := rf_k (ts := ts) k h0
    rw [rheldN_succ, heldN_succ, heldN_eq n k (by omega), a1, mow_some (μ := ms[k + 1]'(by omega)) (by exact h0)]; rfl
theorem held_eq (n : Int) : rheld (rfOf ms ts) n = heldF ms n := by
  unfold rheld heldF
  by_cases h : 1 ≤ n ∧ n ≤ 16
  · rw [if_pos h, if_pos h, rf_len]
    exact heldN_eq n _ (Nat.le_refl _)
  · rw [if_neg h, if_neg h]
theorem free_go (hJ : MJ ms ts) {n : Int} (hn : 1 ≤ n ∧ n ≤ 16) : ∀ k, k ≤ ms.length - 1 → ∃ S : MS × List Int, (heldN ms n k).foldl (freeStep n) ((ms, ts), []) = S ∧ (List.range k).foldl (rfreeS n) (rfOf ms ts, []) = (rfOf S.1.1 S.1.2, S.2) ∧ MJ S.1.1 S.1.2 ∧ S.1.1.length = ms.length ∧ ∀ m : Nat, k < m → mow S.1.1 m = mow ms m
  | 0, _ => ⟨((ms, ts), []), rfl, rfl, hJ, rfl, fun _ _ => rfl⟩
  | k + 1, hk => by
    obtain ⟨⟨⟨ms1, ts1⟩, out⟩, h1, h2, h3, h4, h5⟩ := free_go hJ hn k (by omega)
    dsimp only at h2 h3 h4 h5
    have h0 : ms1[k + 1]? = some (ms1[k + 1]'(by omega)) := List.getElem?_eq_getElem _
    generalize ms1[k + 1]'(by omega) = μ at h0
    obtain ⟨a1, _, _⟩ := rf_k (ts := ts1) k h0
    have hmo : mow ms1 ((k + 1 : Nat) : Int) = μ.ow := mow_some (by exact h0)
    have hmo2 := h5 (k + 1) (by omega)
    rw [hmo] at hmo2
    rw [heldN_succ, List.foldl_append, h1, List.range_succ, List.foldl_append, h2, ← hmo2]
    by_cases h6 : μ.ow = n
    · rw [if_pos h6]
      obtain ⟨p1, p2, p3, p4⟩ := pass_ok h3.toMJ0 h0
      have hO := (settle_ok p1).1
      have hu : unlF ms1 ts1 ((k + 1 : Nat) : Int) n = (((μ.w.head?).getD 0, 0), stF (passF ms1 ts1 ((k + 1 : Nat) : Int))) := by
        unfold unlF
        rw [if_neg (by omega), hmo, if_neg (fun h => h h6)]
        unfold stF
        rw [hO.mow, p4, if_pos rfl]
      have hw0 : (μ.w.head?).getD 0 ≠ 0 ↔ (μ.w.head?).getD 0 > 0 := by
        have hr := h3.i.v.w μ (List.mem_of_getElem? h0)
        cases e : μ.w with
        | nil => simp
        | cons x r =>
          have := hr x (by rw [e]; exact List.mem_cons_self)
          show x ≠ 0 ↔ x > 0
          omega
      refine ⟨(stF (passF ms1 ts1 ((k + 1 : Nat) : Int)), if (μ.w.head?).getD 0 > 0 then out ++ [(μ.w.head?).getD 0] else out), ?_, ?_, ?_, ?_, ?_⟩
      · show freeStep n ((ms1, ts1), out) ((k + 1 : Nat) : Int) = _
        unfold freeStep
        dsimp only
        rw [hu]
        dsimp only
        congr 1
        by_cases h7 : (μ.w.head?).getD 0 > 0
        · rw [if_pos ⟨rfl, h7⟩, if_pos h7]
        · rw [if_neg (fun h => h7 h.2), if_neg h7]
      · show rfreeS n (rfOf ms1 ts1, out) k = _
        unfold rfreeS
        dsimp only
        rw [a1, if_neg (fun h => h h6), p2, settleE p1, p3]
        unfold stF
        congr 1
        by_cases h7 : (μ.w.head?).getD 0 > 0
        · rw [if_pos (hw0.2 h7), if_pos h7]
        · rw [if_neg (fun h => h7 (hw0.1 h)), if_neg h7]
      · exact settleJ p1
      · show (settleF _ _).1.length = _
        rw [hO.len, passF_len]; exact h4
      · intro m hm
        show mow (settleF _ _).1 m = _
        rw [hO.mow, p4, if_neg (by omega)]
        exact h5 m (by omega)
    · rw [if_neg h6]
      refine ⟨((ms1, ts1), out), rfl, ?_, h3, h4, fun m hm => h5 m (by omega)⟩
      show rfreeS n (rfOf ms1 ts1, out) k = _
      unfold rfreeS
      dsimp only
      rw [a1, if_pos h6]
theorem free_eq (hJ : MJ ms ts) (n : Int) : rfree (rfOf ms ts) n = (rfOf (freeF ms ts n).1.1 (freeF ms ts n).1.2, (freeF ms ts n).2) ∧ MJ (freeF ms ts n).1.1 (freeF ms ts n).1.2 := by
  unfold rfree freeF heldF
  by_cases h : 1 ≤ n ∧ n ≤ 16
  · rw [if_pos h, if_pos h, rf_len]
    obtain ⟨S, h1, h2, h3, _, _⟩ := free_go hJ h (ms.length - 1) (Nat.le_refl _)
    rw [h1, h2]
    exact ⟨rfl, h3⟩
  · rw [if_neg h, if_neg h]
    exact ⟨rfl, hJ⟩
theorem rf0_eq (ks : List (Int × Int)) : rf0 ks = rfOf (mu0 :: ks.map muK) (List.replicate 17 tk0) := by
  refine rf_ext ?_ ?_ ?_ rfl rfl
  · show ks = (ks.map muK).map _
    rw [List.map_map]
    exact (List.map_id _).symm
  · show List.replicate ks.length 0 = (ks.map muK).map Mu.ow
    rw [List.map_map]
    refine List.ext_getElem? fun i => ?_
    rw [List.getElem?_map, List.getElem?_replicate]
    by_cases hi : i < ks.length
    · rw [if_pos hi, List.getElem?_eq_getElem hi]; rfl
    · rw [if_neg hi, List.getElem?_eq_none (by omega)]; rfl
  · show rqs0 ks = (ks.map muK).map _
    rw [List.map_map]
    exact List.map_congr_left fun k _ => rfl
theorem muw_K {ks : List (Int × Int)} (m : Nat) : muw (mu0 :: ks.map muK) m = [] := by
  unfold muw
  cases m with
  | zero => rfl
  | succ m =>
    rw [List.getElem?_cons_succ, List.getElem?_map]
    cases ks[m]? with
    | none => rfl
    | some k => rfl
theorem tk_rep {n : Int} (f : Tk → Int) (hn : 1 ≤ n ∧ n ≤ 16) : (((List.replicate 17 tk0)[n.toNat]?).map f).getD 0 = f tk0 := by
  rw [List.getElem?_replicate, if_pos (by omega)]; rfl
theorem rk_K {ks : List (Int × Int)} {n : Int} (hn : 1 ≤ n ∧ n ≤ 16) : rk (mu0 :: ks.map muK) (List.replicate 17 tk0) 17 n = 16 := by
  show ((mu0 :: ks.map muK).drop 1).foldl _ (tkb (List.replicate 17 tk0) n) = 16
  rw [show tkb (List.replicate 17 tk0) n = 16 from tk_rep Tk.b hn]
  show (ks.map muK).foldl _ 16 = 16
  rw [List.foldl_map]
  have e : ∀ (l : List (Int × Int)), l.foldl (fun p (k : Int × Int) => if (muK k).ow ≠ n then p else if (muK k).at_ = 3 then mn p (muK k).ce else if (muK k).at_ = 2 then (muK k).w.foldl (fun p w => mn p (rk (mu0 :: ks.map muK) (List.replicate 17 tk0) 16 w)) p else p) 16 = 16 := by
    intro l
    induction l with
    | nil => rfl
    | cons k l ih =>
      rw [List.foldl_cons, if_pos (show (muK k).ow ≠ n by show (0 : Int) ≠ n; omega)]
      exact ih
  exact e ks
theorem row_K {ks : List (Int × Int)} (μ : Mu) (h : μ ∈ mu0 :: ks.map muK) : μ.w = [] ∧ μ.ow = 0 := by
  rcases List.mem_cons.1 h with rfl | h
  · exact ⟨rfl, rfl⟩
  · obtain ⟨k, _, rfl⟩ := List.mem_map.1 h; exact ⟨rfl, rfl⟩
theorem MJ_0 {ks : List (Int × Int)} (h1 : ks.length ≤ 8) (h2 : ∀ k ∈ ks, rightF k = true) : MJ (mu0 :: ks.map muK) (List.replicate 17 tk0) where
  i := ⟨⟨by simp, by simp; omega, fun μ hμ w hw => (by rw [(row_K μ hμ).1] at hw; cases hw), fun μ hμ => by rw [(row_K μ hμ).1]; exact List.nodup_nil⟩, fun μ hμ => by rw [(row_K μ hμ).2]; decide, fun τ hτ => by
      rw [List.eq_of_mem_replicate hτ]
      exact ⟨Int.le_refl _, by show (0 : Int) < _; simp⟩⟩
  tl := by simp
  ak := fun μ hμ => by
    rcases List.mem_cons.1 hμ with rfl | hμ
    · exact ⟨Int.le_refl _, by decide, fun h => absurd h (by decide)⟩
    · obtain ⟨k, hk, rfl⟩ := List.mem_map.1 hμ
      have := h2 k hk
      unfold rightF at this
      show 0 ≤ k.1 ∧ k.1 ≤ 3 ∧ (k.1 = 3 → 1 ≤ k.2 ∧ k.2 ≤ 16)
      split at this
      · refine ⟨by omega, by omega, fun h => by omega⟩
      · split at this
        · exact ⟨by omega, by omega, fun _ => of_decide_eq_true this⟩
        · cases this
  b := fun n hn => by rw [show tkb (List.replicate 17 tk0) n = 16 from tk_rep Tk.b hn]; decide
  wr := fun n hn m hm => by
    rw [muw_K, show tkw (List.replicate 17 tk0) n = 0 from tk_rep Tk.w hn]
    simp; omega
  w0 := muw_K 0
  z := fun m _ => muw_K m
  r := ⟨fun _ => 0, fun m w hw => by rw [muw_K] at hw; cases hw⟩
  st := fun n hn => by rw [rk_K hn]; exact tk_rep Tk.p hn
theorem RfL.of (hJ : MJ ms ts) : RfL (rfOf ms ts) where
  bs := by simp [rfOf, hJ.tl]
  nw := by simp [rfOf, hJ.tl]
  ow := by simp [rfOf]
  qs := by simp [rfOf]
  ks := by rw [rf_len]; have := hJ.i.v.l1; omega
  ql := fun q hq => by
    obtain ⟨μ, h1, rfl⟩ := List.mem_map.1 hq
    have hm := List.mem_of_mem_drop h1
    rw [its_len]; exact nodup_le16 (hJ.i.v.nd μ hm) (hJ.i.v.w μ hm)
  qi := fun q hq x hx => by
    obtain ⟨μ, h1, rfl⟩ := List.mem_map.1 hq
    have hm := List.mem_of_mem_drop h1
    obtain ⟨n, h2, rfl⟩ := List.mem_map.1 hx
    exact hJ.i.v.w μ hm n h2
theorem room (hJ : MJ ms ts) {m n : Int} (h : ¬ ((rtry (rfOf ms ts) m n).1.1 = true ∨ ¬ (rtry (rfOf ms ts) m n).1.2 = 0)) : ∀ q, (rfOf ms ts).qs[(m - 1).toNat]? = some q → q.2.length ≤ 15 := by
  rw [(try_eq hJ m n).1] at h
  obtain ⟨_, h2, h3, h4, h5⟩ := tryF_self h
  obtain ⟨i, μ, rfl, e1, e2, e3, e4, e5, e6, e7, e8, e9⟩ := rf_m (ms := ms) (ts := ts) h2
  intro q hq
  rw [e1, (rf_get3 (ts := ts) e2).2.2] at hq
  cases hq
  rw [its_len]
  have hm := List.mem_of_getElem? e2
  obtain ⟨τ, hτ⟩ := ts_at hJ.tl h3
  have hw := hJ.i.t τ (List.mem_of_getElem? hτ)
  rw [← tkw_some hτ] at hw
  have hni : n ∉ μ.w := fun hx => by
    have := (hJ.wr n h3 (i + 1) (by omega)).1 (by rw [muw_some e2]; exact hx)
    omega
  have := nodup_le16 (w := n :: μ.w) (List.nodup_cons.2 ⟨hni, hJ.i.v.nd μ hm⟩) fun x hx => by
    rcases List.mem_cons.1 hx with rfl | hx
    · exact h3
    · exact hJ.i.v.w μ hm x hx
  simp only [List.length_cons] at this
  omega
theorem not_in (hJ : MJ ms ts) {n m : Int} (h : tkw ts n = 0) (μ : Mu) (hμ : ms[m.toNat]? = some μ) : n ∉ μ.w := fun hx => by
  have hn := hJ.i.v.w μ (List.mem_of_getElem? hμ) n hx
  rcases Nat.eq_zero_or_pos m.toNat with e | e
  · have := hJ.w0
    rw [e] at hμ
    rw [muw_some hμ] at this
    rw [this] at hx; cases hx
  · have := (hJ.wr n hn m.toNat e).1 (by rw [muw_some hμ]; exact hx)
    omega
theorem rowsL_app (ws1 ws2 : List SV) (r1 r2 : List (List Int)) (h : ws1.length = r1.length) : rowsL (ws1 ++ ws2) (r1 ++ r2) = rowsL ws1 r1 ++ rowsL ws2 r2 := by
  unfold rowsL
  exact List.zipWith_append h
theorem rowsA_snoc {ws1 : List SV} {r1 : List (List Int)} {s : SV} {r : List Int} {L : List Asr} (h : ws1.length = r1.length) : LEnt (RowsA ws1 r1 :: Row encI 1 s r :: L) (RowsA (ws1 ++ [s]) (r1 ++ [r]) :: L) := fun ρ H R hs => by
  have hs : Sat ρ H (Asr.all (rowsL ws1 r1) :: (Row encI 1 s r :: (L ++ R))) := hs
  have h4 : Sat ρ H (rowsL ws1 r1 ++ (Row encI 1 s r :: (L ++ R))) := Sat.all hs
  show Sat ρ H (Asr.all (rowsL (ws1 ++ [s]) (r1 ++ [r])) :: (L ++ R))
  refine Sat.mkAll ?_
  rw [rowsL_app _ _ _ _ h, List.append_assoc]
  exact h4
theorem rowsA_nil {L : List Asr} : LEnt L (RowsA [] [] :: L) := fun _ _ _ hs => Sat.mkAll (l := rowsL [] []) hs
theorem rows_clone {ws : List SV} {rows : List (List Int)} {i : Nat} {s : SV} {r : List Int} (hi : ws[i]? = some s) (hj : rows[i]? = some r) (hr : r.length ≤ 1000000) : Tri tab mext F.slices_Clone__int_int [.s s] [RowsA ws rows] fun v P' => ∃ s', v = .s s' ∧ P' = [Row encI 1 s' r, RowsA ws rows] := by
  intro ρ H R hs
  refine (xClone_tri s r hr ρ H _ (rows_out hi hj ρ H R hs)).mono ?_
  rintro v H' ⟨P', ⟨s', rfl, rfl⟩, hs'⟩
  have h1 : Sat ρ H' ([Row encI 1 s r, RowsBut i ws rows] ++ (Row encI 1 s' r :: R)) := Sat.re (l := Row encI 1 s' r :: Row encI 1 s r :: RowsBut i ws rows :: R) hs' [1, 2, 0] (by simp) (by decide)
  have h2 := rows_back hi hj ρ H' _ h1
  exact ⟨_, ⟨s', rfl, rfl⟩, h2.perm (List.Perm.swap _ _ _)⟩
end
end Go.AM

/-
  mtx: the laws' first question.
-/
namespace Go.AM
set_option maxHeartbeats 8000000
attribute [local irreducible] sq bk lpK mdx rt TC RP WK Cel Ro Row Fre RowsA RowsBut
def muIB (S : MS) : Bool := decide (1 ≤ S.1.length) && decide (S.1.length ≤ 9) && (S.1.all fun μ => (μ.w.all fun w => decide (1 ≤ w ∧ w ≤ 16)) && decide μ.w.Nodup && decide (0 ≤ μ.ow ∧ μ.ow ≤ 16)) && S.2.all fun τ => decide (0 ≤ τ.w ∧ τ.w < S.1.length)
theorem muIB_ok {S : MS} (h : muIB S = true) : MuI S.1 S.2 := by
  simp only [muIB, Bool.and_eq_true, decide_eq_true_eq, List.all_eq_true] at h
  obtain ⟨⟨⟨h1, h2⟩, h3⟩, h4⟩ := h
  exact ⟨⟨h1, h2, fun μ hμ => (h3 μ hμ).1.1, fun μ hμ => (h3 μ hμ).1.2⟩, fun μ hμ => (h3 μ hμ).2, h4⟩
theorem no_row {S : MS} {m : Nat} {n : Int} (h : (muw S.1 m).contains n = false) : ∀ μ, S.1[m]? = some μ → n ∉ μ.w := by
  intro μ hμ hn
  rw [muw_some hμ] at h
  have : μ.w.contains n = true := by simpa using hn
  rw [this] at h; cases h
def kS0 : MS := ([mu0, ⟨2, 0, 0, []⟩, ⟨3, 2, 0, []⟩], List.replicate 17 tk0)
def kS1 : MS := (setBF kS0.1 kS0.2 1 9).2
def kS2 : MS := (setBF kS1.1 kS1.2 2 4).2
def kS3 : MS := (lockF kS2.1 kS2.2 1 1).2
def kS4 : MS := (lockF kS3.1 kS3.2 1 2).2
def kS5 : MS := (unlF kS4.1 kS4.2 1 1).2
def kS6 : MS := (unlF kS5.1 kS5.2 1 1).2
def kS7 : MS := (tryF kS6.1 kS6.2 2 1).2
abbrev MxS (a : Nat) (S : MS) : Asr := MxA a S.1 S.2
theorem known15_tri : Tri tab mext F.detentlaw15_known [] [] fun v P' => v = bl true ∧ P' = [] := by
  refine Tri.go tab_detentlaw15_known rfl ?_
  refine RUN ?_
  refine RP.bs rfl rfl rfl fun b => ?_
  refine RP.ent (row_made (enc := encK) (k := 2) (c := 2) (r := [(2, 0), (3, 2)]) rfl (by simp) (by simp)) ?_
  refine RP.c rfl (new_tri _ [(2, 0), (3, 2)]) (.c .h .e) rfl ?_
  rintro v P' (⟨h, _⟩ | ⟨_, a, rfl, rfl⟩)
  · rcases h with h | h
    · simp at h
    · exact absurd (by decide) h
  refine RUN ?_
  refine RP.ent (L' := [MxS a kS0]) (LEnt.of (.c .h .e)) ?_
  refine RP.c rfl (setB_tri (muIB_ok (S := kS0) (by kernel_rfl)) 1 9) (.c .h .e) rfl ?_
  rintro v P' ⟨rfl, rfl⟩
  rw [show (setBF kS0.1 kS0.2 1 9).1 = 0 by kernel_rfl, show (setBF kS0.1 kS0.2 1 9).2 = kS1 from rfl]
  refine RUN ?_
  refine RP.c rfl (setB_tri (muIB_ok (S := kS1) (by kernel_rfl)) 2 4) (.c .h .e) rfl ?_
  rintro v P' ⟨rfl, rfl⟩
  rw [show (setBF kS1.1 kS1.2 2 4).1 = 0 by kernel_rfl, show (setBF kS1.1 kS1.2 2 4).2 = kS2 from rfl]
  refine RUN ?_
  refine RP.c rfl (lock_tri (muIB_ok (S := kS2) (by kernel_rfl)) 1 1 (fun _ => no_row (S := kS2) (m := 1) (by kernel_rfl))) (.c .h .e) rfl ?_
  rintro v P' ⟨rfl, rfl⟩
  rw [show (lockF kS2.1 kS2.2 1 1).1 = (true, 0) by kernel_rfl, show (lockF kS2.1 kS2.2 1 1).2 = kS3 from rfl]
  refine RUN ?_
  refine RP.c rfl (lock_tri (muIB_ok (S := kS3) (by kernel_rfl)) 1 2 (fun _ => no_row (S := kS3) (m := 1) (by kernel_rfl))) (.c .h .e) rfl ?_
  rintro v P' ⟨rfl, rfl⟩
  rw [show (lockF kS3.1 kS3.2 1 2).1 = (false, 0) by kernel_rfl, show (lockF kS3.1 kS3.2 1 2).2 = kS4 from rfl]
  refine RUN ?_
  refine RP.c rfl (Pri_tri 1) (.c .h .e) rfl ?_
  rintro v P' ⟨rfl, rfl⟩
  rw [show (if (1 : Int) ≤ 1 ∧ (1 : Int) ≤ 16 then tkp kS4.2 1 else 0) = 4 by kernel_rfl]
  refine RUN ?_
  refine RP.c rfl (unl_tri (muIB_ok (S := kS4) (by kernel_rfl)) 1 1) (.c .h .e) rfl ?_
  rintro v P' ⟨rfl, rfl⟩
  rw [show (unlF kS4.1 kS4.2 1 1).1 = (2, 0) by kernel_rfl, show (unlF kS4.1 kS4.2 1 1).2 = kS5 from rfl]
  refine RUN ?_
  refine RP.c rfl (unl_tri (muIB_ok (S := kS5) (by kernel_rfl)) 1 1) (.c .h .e) rfl ?_
  rintro v P' ⟨rfl, rfl⟩
  rw [show (unlF kS5.1 kS5.2 1 1).1 = (0, -28) by kernel_rfl, show (unlF kS5.1 kS5.2 1 1).2 = kS6 from rfl]
  refine RUN ?_
  refine RP.c rfl (try_tri (muIB_ok (S := kS6) (by kernel_rfl)) 2 1) (.c .h .e) rfl ?_
  rintro v P' ⟨rfl, rfl⟩
  rw [show (tryF kS6.1 kS6.2 2 1).1 = (true, 0) by kernel_rfl, show (tryF kS6.1 kS6.2 2 1).2 = kS7 from rfl]
  refine RUN ?_
  refine RP.c rfl (Pri_tri 1) (.c .h .e) rfl ?_
  rintro v P' ⟨rfl, rfl⟩
  rw [show (if (1 : Int) ≤ 1 ∧ (1 : Int) ≤ 16 then tkp kS7.2 1 else 0) = 2 by kernel_rfl]
  refine RUN ?_
  refine RP.c rfl (Base_tri 1) (.c .h .e) rfl ?_
  rintro v P' ⟨rfl, rfl⟩
  rw [show (if (1 : Int) ≤ 1 ∧ (1 : Int) ≤ 16 then tkb kS7.2 1 else 0) = 9 by kernel_rfl]
  refine RUN ?_
  refine RP.c rfl (Owner_tri 1) (.c .h .e) rfl ?_
  rintro v P' ⟨rfl, rfl⟩
  rw [show (if (1 : Int) ≤ 1 ∧ (1 : Int) < kS7.1.length then mow kS7.1 1 else 0) = 2 by kernel_rfl]
  refine RUN ?_
  refine RP.c rfl (held_tri (muIB_ok (S := kS7) (by kernel_rfl)).v 1) (.c .h .e) rfl ?_
  rintro v P' ⟨s, rfl, rfl⟩
  rw [show heldF kS7.1 1 = [2] by kernel_rfl]
  refine RUN ?_
  exact rt_r rfl ⟨rfl, rfl⟩ (LEnt.of .e)
end Go.AM
