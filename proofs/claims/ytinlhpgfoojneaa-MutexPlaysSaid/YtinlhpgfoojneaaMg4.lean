/-
  slices: Clip, Clone, Delete, IndexFunc, ContainsFunc at elements of any kind.
-/
import Derived.Test.YtinlhpgfoojneaaMg2
import Derived.Test.YtinlhpgfoojneaaMg3
import Derived.RowKit3
import Derived.WideKeyArgs
import Derived.ChangeSame
import Derived.Handed
import Derived.Test.YtinlhpgfoojneaaMg1
import Derived.Shelf.Spec.SlicesInsertGrow
import Derived.Laws.AppendOwn
import Derived.KernelRfl
namespace Go.AM
set_option maxHeartbeats 8000000
attribute [local irreducible] sq bk lpK mdx rt TC RP WK Cel Ro Row Fre RowsA RowsBut
def clipB (k : Nat) : RFunc := RFunc.mk 9 [.tmp 2] (
  RC.seq (RC.region 1 [
    ⟨(some 2), .move (.c (.s (.slice none 0 0 1))), none, 0, []⟩]) (RC.seq (RC.region 7 [
    ⟨(some 3), .move (.t 0), none, 0, []⟩,
    ⟨(some 4), .move (.t 0), none, 1, []⟩,
    ⟨(some 5), .len (.t 4), none, 2, []⟩,
    ⟨(some 6), .move (.t 0), none, 3, []⟩,
    ⟨(some 7), .len (.t 6), none, 4, []⟩,
    ⟨(some 8), .slSl k (.t 3) none (some (.t 5)) (some (.t 7)), none, 5, []⟩,
    ⟨(some 2), .move (.t 8), none, 6, []⟩]) (RC.ret)))
def cloneB (k bytes : Nat) : RFunc := RFunc.mk 8 [.tmp 2] (
  RC.seq (RC.region 1 [
    ⟨(some 2), .move (.c (.s (.slice none 0 0 1))), none, 0, []⟩]) (RC.seq (RC.seq (RC.region 2 [
    ⟨(some 3), .move (.t 0), none, 0, []⟩,
    ⟨(some 4), .eqs .slice false (.t 3) (.c (.s (.slice none 0 0 1))), none, 1, []⟩]) (RC.cond (.t 4) (RC.seq (RC.region 1 [
    ⟨(some 2), .move (.c (.s (.slice none 0 0 1))), none, 0, []⟩]) (RC.ret)) (RC.skip))) (RC.seq (RC.region 4 [
    ⟨(some 5), .buildSlice k 0 [] [], none, 0, []⟩,
    ⟨(some 6), .move (.t 0), none, 1, []⟩,
    ⟨(some 7), .append k bytes (.t 5) (.t 6), none, 2, []⟩,
    ⟨(some 2), .move (.t 7), none, 3, []⟩]) (RC.ret))))
def indexL (k : Nat) : RC :=
  RC.seq (RC.region 1 [
    ⟨(some 9), .bin .lss (.t 8) (.t 7), none, 0, []⟩]) (RC.seq (RC.cond (.t 9) (RC.skip) (RC.exit 0)) (RC.seq (RC.block 1 (RC.seq (RC.region 2 [
    ⟨(some 10), .move (.t 8), none, 0, []⟩,
    ⟨(some 5), .move (.t 10), none, 1, []⟩]) (RC.seq (RC.region 6 [
    ⟨(some 11), .move (.t 1), none, 0, []⟩,
    ⟨(some 12), .move (.t 0), none, 1, []⟩,
    ⟨(some 13), .move (.t 5), none, 2, []⟩,
    ⟨(some 14), .indexSl k (.t 12) (.t 13), none, 3, []⟩,
    ⟨(some 15), .load (some k) (.t 14), none, 4, []⟩,
    ⟨(some 16), .callv (.t 11) [(.t 15)], none, 5, []⟩]) (RC.cond (.t 16) (RC.seq (RC.region 2 [
    ⟨(some 17), .move (.t 5), none, 0, []⟩,
    ⟨(some 4), .move (.t 17), none, 1, []⟩]) (RC.ret)) (RC.skip))))) (RC.region 2 [
    ⟨(some 18), .bin .add (.t 8) (.c (.s (.int .i64 1))), none, 0, []⟩,
    ⟨(some 8), .move (.t 18), none, 1, []⟩])))
def indexB (k : Nat) : RFunc := RFunc.mk 19 [.tmp 4] (
  RC.seq (RC.region 1 [
    ⟨(some 4), .move (.c (.s (.int .i64 0))), none, 0, []⟩]) (RC.seq (RC.seq (RC.region 3 [
    ⟨(some 6), .move (.t 0), none, 0, []⟩,
    ⟨(some 7), .len (.t 6), none, 1, []⟩,
    ⟨(some 8), .move (.c (.s (.int .i64 0))), none, 2, []⟩]) (RC.block 0 (RC.loop (indexL k)))) (RC.seq (RC.region 1 [
    ⟨(some 4), .move (.c (.s (.int .i64 (-1)))), none, 0, []⟩]) (RC.ret))))
def deleteB (k bytes : Nat) (z : List SV) : RFunc := RFunc.mk 33 [.tmp 6] (
  RC.seq (RC.region 1 [
    ⟨(some 6), .move (.c (.s (.slice none 0 0 1))), none, 0, []⟩]) (RC.seq (RC.region 6 [
    ⟨(some 8), .move (.t 0), none, 0, []⟩,
    ⟨(some 9), .move (.t 1), none, 1, []⟩,
    ⟨(some 10), .move (.t 2), none, 2, []⟩,
    ⟨(some 11), .move (.t 0), none, 3, []⟩,
    ⟨(some 12), .len (.t 11), none, 4, []⟩,
    ⟨(some 13), .slSl k (.t 8) (some (.t 9)) (some (.t 10)) (some (.t 12)), none, 5, []⟩]) (RC.seq (RC.seq (RC.region 3 [
    ⟨(some 14), .move (.t 1), none, 0, []⟩,
    ⟨(some 15), .move (.t 2), none, 1, []⟩,
    ⟨(some 16), .bin .eql (.t 14) (.t 15), none, 2, []⟩]) (RC.cond (.t 16) (RC.seq (RC.region 2 [
    ⟨(some 17), .move (.t 0), none, 0, []⟩,
    ⟨(some 6), .move (.t 17), none, 1, []⟩]) (RC.ret)) (RC.skip))) (RC.seq (RC.region 3 [
    ⟨(some 18), .move (.t 0), none, 0, []⟩,
    ⟨(some 19), .len (.t 18), none, 1, []⟩,
    ⟨(some 7), .move (.t 19), none, 2, []⟩]) (RC.seq (RC.region 8 [
    ⟨(some 20), .move (.t 0), none, 0, []⟩,
    ⟨(some 21), .move (.t 1), none, 1, []⟩,
    ⟨(some 22), .slSl k (.t 20) none (some (.t 21)) none, none, 2, []⟩,
    ⟨(some 23), .move (.t 0), none, 3, []⟩,
    ⟨(some 24), .move (.t 2), none, 4, []⟩,
    ⟨(some 25), .slSl k (.t 23) (some (.t 24)) none none, none, 5, []⟩,
    ⟨(some 26), .append k bytes (.t 22) (.t 25), none, 6, []⟩,
    ⟨(some 0), .move (.t 26), none, 7, []⟩]) (RC.seq (RC.region 6 [
    ⟨(some 27), .move (.t 0), none, 0, []⟩,
    ⟨(some 28), .move (.t 0), none, 1, []⟩,
    ⟨(some 29), .len (.t 28), none, 2, []⟩,
    ⟨(some 30), .move (.t 7), none, 3, []⟩,
    ⟨(some 31), .slSl k (.t 27) (some (.t 29)) (some (.t 30)) none, none, 4, []⟩,
    ⟨none, .clear k z (.t 31), none, 5, []⟩]) (RC.seq (RC.region 2 [
    ⟨(some 32), .move (.t 0), none, 0, []⟩,
    ⟨(some 6), .move (.t 32), none, 1, []⟩]) (RC.ret))))))))
section
variable {tab : Nat → Option RFunc} {ext : Nat → List AV → AH → Option (AV × AH)} {α : Type} {enc : α → List SV} {k bytes f : Nat}
theorem gClone (ht : tab f = some (cloneB k bytes)) (hk : ∀ e, (enc e).length = k) (s : SV) (r : List α) (hr : r.length * bytes ≤ 70368744177664) : Tri tab ext f [.s s] [Row enc k s r] fun v P' => ∃ s', v = .s s' ∧ P' = [Row enc k s' r, Row enc k s r] := by
  refine Tri.go ht rfl ?_
  refine TC.rw .h (fun e hs hr => ?_) fun b cp j hs h1 h2 => ?_
  · subst hs; subst hr
    refine RUN ?_
    refine rt_r rfl ⟨_, rfl, rfl⟩ ?_
    exact (row_nil _ _).trans (row_nil _ _)
  · subst hs
    refine TC.ent (row_again h1 h2) ?_
    refine RUN ?_
    refine RP.bs rfl rfl rfl fun b' => ?_
    refine RP.ent (row_empty (enc := enc) (k := k)) ?_
    refine RUN ?_
    refine RP.ap rfl rfl rfl (ap_row hk (.c .h (.c .h .e)) (by simpa using hr)) fun s' => ?_
    refine RUN ?_
    refine rt_r rfl ⟨_, rfl, rfl⟩ ?_
    exact LEnt.refl _
def plc : Option Nat → Int
  | some i => i
  | none => -1
end
end Go.AM

/-
  MutexPlays: what is asked of the program besides; kinds; rows held against one another.
-/
namespace Go.AM
set_option maxHeartbeats 8000000
attribute [local irreducible] sq bk lpK mdx rt TC RP WK Cel Ro Row Fre RowsA RowsBut
section
variable {a : Nat} {ms : List Mu} {ts : List Tk}
theorem lSame (s1 s2 : SV) (x y : List Int) (h1 : x.length ≤ 1000) : Tri tab mext F.detentlaw3_Same [.s s1, .s s2] [Row encI 1 s1 x, Row encI 1 s2 y] fun v P' => (x = y → v = bl true) ∧ P' = [Row encI 1 s1 x, Row encI 1 s2 y] := by
  refine Tri.go tab_detentlaw3_Same rfl ?_
  refine RUN ?_
  refine TC.cP rfl (fun h => ?_) fun h => ?_
  · refine RUN ?_
    exact rt_r rfl ⟨fun e => absurd (by rw [e]) h, rfl⟩ (LEnt.refl _)
  · refine RUN ?_
    refine TC.loop (fun i : Nat => x.length - i) (fun i => i ≤ x.length) (fun i => [(0, .s s1), (1, .s s2), (5, i64 i)]) (fun _ => [Row encI 1 s1 x, Row encI 1 s2 y]) 0 (Nat.zero_le _) ⟨rfl, rfl, rfl, trivial⟩ (LEnt.refl _) ?_
    intro i hi
    refine RUN ?_
    refine TC.cP rfl (fun h2 => ?_) fun h2 => ?_
    · obtain ⟨u, hu⟩ : ∃ u, x[i]? = some u := ⟨_, List.getElem?_eq_getElem (by omega)⟩
      obtain ⟨w, hw⟩ : ∃ w, y[i]? = some w := ⟨_, List.getElem?_eq_getElem (by omega)⟩
      refine RUN ?_
      refine TC.cP rfl (fun h3 => ?_) fun h3 => ?_
      · refine RUN ?_
        refine rt_r rfl ⟨fun e => ?_, rfl⟩ (LEnt.refl _)
        rw [e, hw] at hu
        exact absurd (Option.some.inj hu).symm h3
      · refine RUN ?_
        exact lp_n (i + 1) (by omega) (by omega) ⟨rfl, rfl, rfl, trivial⟩ (LEnt.refl _)
    · refine RUN ?_
      exact rt_r rfl ⟨fun _ => rfl, rfl⟩ (LEnt.refl _)
theorem waiting_tri (hv : MuV ms) (m : Int) : Tri tab mext F.mtx_All_Waiting [ptr a, i64 m] [MxA a ms ts] fun v P' => ∃ s, v = .s s ∧ P' = [Row encI 1 s (if 1 ≤ m ∧ m < ms.length then muw ms m.toNat else []), MxA a ms ts] := by
  refine Tri.go tab_mtx_All_Waiting rfl ?_
  refine TC.mx fun sm ws hl ht => ?_
  have hz : (ms.zip ws).length = ms.length := by rw [List.length_zip]; omega
  refine RUNM ?_
  refine RP.c rfl (mIn_tri m hl) (.c .h .e) rfl ?_
  rintro v P' ⟨rfl, rfl⟩
  refine RUNM ?_
  by_cases h : 1 ≤ m ∧ m < ms.length
  · rw [decide_eq_true h, if_pos h]
    obtain ⟨k, rfl, μ, s, hμ, hs⟩ := msGet h hl
    have hw16 := nodup_le16 (hv.nd μ (List.mem_of_getElem? hμ)) (hv.w μ (List.mem_of_getElem? hμ))
    rw [show ((k : Nat) : Int).toNat = k from rfl, muw_some hμ]
    refine RUNM ?_
    refine RP.ent (mx_out hμ hs) ?_
    refine RP.c rfl (xClone_tri s μ.w (by omega)) (.c .h .e) rfl ?_
    rintro v P' ⟨s', rfl, rfl⟩
    refine RUNM ?_
    refine RP.c rfl (xClip_tri s' μ.w) (.c .h .e) rfl ?_
    rintro v P' ⟨s2, rfl, rfl⟩
    refine RUNM ?_
    refine rt_r rfl ⟨s2, rfl, rfl⟩ ?_
    exact LEnt.trans (LEnt.of (P := [Row encI 1 s μ.w, MxO k a ms ts sm ws, Row encI 1 s2 μ.w]) (.c (by ((repeat (first | exact .h | apply In1.n)); fail_if_success refine ?_)) (.c (by ((repeat (first | exact .h | apply In1.n)); fail_if_success refine ?_)) (.c (by ((repeat (first | exact .h | apply In1.n)); fail_if_success refine ?_)) .e)))) (LEnt.trans (mx_back hμ hs) (LEnt.trans mx_hide (LEnt.of (.c (by ((repeat (first | exact .h | apply In1.n)); fail_if_success refine ?_)) (.c (by ((repeat (first | exact .h | apply In1.n)); fail_if_success refine ?_)) .e)))))
  · rw [decide_eq_false h, if_neg h]
    refine RUNM ?_
    exact rt_r rfl ⟨_, rfl, rfl⟩ (LEnt.trans mx_hide (row_nil (enc := encI) (k := 1) 1 _))
theorem bld2 {z T : List SV} {x : SV} {n : Nat} (hz : z.length = n + 1) (hT : T.length = n) : buildA z [(0, 1, .s x), (1, n, .agg T)] = some (.agg (x :: T)) := by
  cases z with
  | nil => cases hz
  | cons z0 z =>
    have hz : z.length = n := by simpa using hz
    have e1 : splice (z0 :: z) 0 [x] = x :: z := rfl
    have e2 : splice (x :: z) 1 T = x :: T := by
      unfold splice
      rw [hT, show (x :: z).drop (1 + n) = [] from List.drop_eq_nil_of_le (by rw [List.length_cons, hz]; omega), List.append_nil]
      rfl
    have h : fillA (z0 :: z) [(0, 1, .s x), (1, n, .agg T)] = some (x :: T) := by
      show (if [x].length = 1 ∧ 0 + 1 ≤ (z0 :: z).length then fillA (splice (z0 :: z) 0 [x]) [(1, n, .agg T)] else none) = _
      rw [if_pos ⟨rfl, by rw [List.length_cons]; omega⟩, e1]
      show (if T.length = n ∧ 1 + n ≤ (x :: z).length then fillA (splice (x :: z) 1 T) [] else none) = _
      rw [if_pos ⟨hT, by rw [List.length_cons, hz]; omega⟩, e2]
      rfl
    unfold buildA
    rw [h]; rfl
theorem xMClone (s : SV) (r : List (Mu × SV)) (hq : r.length ≤ 1000000) : Tri tab mext F.slices_Clone__mtx_mutex_mtx_mutex [.s s] [Row encM 4 s r] fun v P' => ∃ s', v = .s s' ∧ P' = [Row encM 4 s' r, Row encM 4 s r] := gClone (k := 4) (bytes := 48) tab_slices_Clone__mtx_mutex_mtx_mutex encM_len s r (by omega)
theorem twin_tri (hv : MuV ms) : Tri tab mext F.mtx_All_Twin [ptr a] [MxA a ms ts] fun v P' => ∃ b, v = ptr b ∧ P' = [MxA b ms ts, MxA a ms ts] := by
  refine Tri.go tab_mtx_All_Twin rfl ?_
  refine TC.mx fun sm ws hl ht => ?_
  have h9 := hv.l1
  have hz : (ms.zip ws).length = ms.length := by rw [List.length_zip]; omega
  refine TC.ent (L' := [Cel a ([sm] ++ (flat encT ts ++ [])), Row encM 4 sm (ms.zip ws), RowsA ws (ms.map Mu.w)]) (fun ρ H R hs => (Sat.mxOpen hs).2) ?_
  have hf : (flat encT ts).length = 51 := by rw [flat_len encT_len, ht]
  have hle : 1 + 51 ≤ ([sm] ++ (flat encT ts ++ [])).length := by rw [List.length_append, List.append_nil, hf]; exact Nat.le_refl _
  have htk : (([sm] ++ (flat encT ts ++ [])).drop 1).take 51 = flat encT ts := by
    rw [List.append_nil]
    show (flat encT ts).take 51 = _
    rw [List.take_of_length_le (by rw [hf]; exact Nat.le_refl _)]
  refine RUN ?_
  refine RP.ln (l := flat encT ts) rfl (Ldn.c hle htk) rfl ?_
  refine RP.c rfl (xMClone sm (ms.zip ws) (by omega)) (.c (by ((repeat (first | exact .h | apply In1.n)); fail_if_success refine ?_)) .e) rfl ?_
  rintro v P' ⟨sm', rfl, rfl⟩
  refine WK.wq (fun g _ _ => ⟨_, _, _, rfl, rfl, .inr ⟨_, _, rfl, rfl, .n (.n (Ldn.c hle htk))⟩⟩) (fun p h => by cases h) (WK.z ?_)
  refine RP.p (v := .agg (sm' :: flat encT ts)) (bld2 rfl hf) rfl ?_
  refine RP.bx rfl rfl rfl fun b => ?_
  refine RUN ?_
  refine TC.loop (fun q : Nat × List SV => ms.length - q.1) (fun q => q.1 ≤ ms.length ∧ q.2.length = q.1) (fun q => [(3, ptr b), (20, i64 ms.length), (21, i64 q.1)]) (fun q => [Cel b ([sm'] ++ (flat encT ts ++ [])), Row encM 4 sm' (ms.zip (q.2 ++ ws.drop q.1)), RowsA q.2 ((ms.map Mu.w).take q.1), Row encM 4 sm (ms.zip ws), Cel a ([sm] ++ (flat encT ts ++ [])), RowsA ws (ms.map Mu.w)]) (0, []) ⟨Nat.zero_le _, rfl⟩ ⟨rfl, by rw [hz]; rfl, rfl, trivial⟩ ?_ ?_
  · rw [List.append_nil]
    exact LEnt.trans rowsA_nil (LEnt.of (P := [Cel b ([sm'] ++ flat encT ts), Row encM 4 sm' (ms.zip ws), RowsA [] [], Row encM 4 sm (ms.zip ws), Cel a ([sm] ++ flat encT ts), RowsA ws (ms.map Mu.w)]) (.c (by ((repeat (first | exact .h | apply In1.n)); fail_if_success refine ?_)) (.c (by ((repeat (first | exact .h | apply In1.n)); fail_if_success refine ?_)) (.c (by ((repeat (first | exact .h | apply In1.n)); fail_if_success refine ?_)) (.c (by ((repeat (first | exact .h | apply In1.n)); fail_if_success refine ?_)) (.c (by ((repeat (first | exact .h | apply In1.n)); fail_if_success refine ?_)) (.c (by ((repeat (first | exact .h | apply In1.n)); fail_if_success refine ?_)) .e)))))))
  rintro ⟨i, W⟩ ⟨hi, hW⟩
  dsimp only at hi hW ⊢
  refine RUN ?_
  refine TC.cP rfl (fun h => ?_) fun h => ?_
  · obtain ⟨μ, hμ⟩ : ∃ μ, ms[i]? = some μ := ⟨_, List.getElem?_eq_getElem (by omega)⟩
    obtain ⟨s, hs⟩ : ∃ s, ws[i]? = some s := ⟨_, List.getElem?_eq_getElem (by omega)⟩
    have hWi : (W ++ ws.drop i)[i]? = some s := by
      rw [List.getElem?_append_right (by omega), List.getElem?_drop, hW, show i + (i - i) = i by omega, hs]
    have hzi := zip_get hμ hWi
    have hw16 := nodup_le16 (hv.nd μ (List.mem_of_getElem? hμ)) (hv.w μ (List.mem_of_getElem? hμ))
    have hWl : (W ++ ws.drop i).length = ms.length := by rw [List.length_append, List.length_drop]; omega
    have hz2 : (ms.zip (W ++ ws.drop i)).length = ms.length := by rw [List.length_zip]; omega
    refine RUN ?_
    refine RP.c rfl (rows_clone hs (r := μ.w) (by rw [List.getElem?_map, hμ]; rfl) (by omega)) (.c (.n (.n (.n (.n (.n .h))))) .e) rfl ?_
    rintro v P' ⟨s2, rfl, rfl⟩
    refine WK.wq (fun g _ _ => ⟨_, _, _, rfl, rfl, .inl ⟨rfl, _, rfl, by ((repeat (first | exact Ld.c rfl | exact Ld.r rfl | exact Ld.g (by assumption) | exact Ld.w (fun _ => by rfl) (by assumption) (by rfl) | exact Ld.a (by rfl) (fun _ => by rfl) (by assumption) (by rfl) | apply Ld.n)); fail_if_success refine ?_)⟩⟩) (fun p h => by cases h) (WK.z ?_)
    refine RUN ?_
    refine RP.s rfl rfl rfl rfl (by first | exact .n (.n (.n (by refine Stw.w encM_len (μ, s2) hzi ?_ ?_ <;> rfl))) | exact .n (.n (by refine Stw.w encM_len (μ, s2) hzi ?_ ?_ <;> rfl))) ?_
    refine RUN ?_
    refine lp_n (i + 1, W ++ [s2]) ⟨by dsimp only; omega, by rw [List.length_append, hW]; rfl⟩ (by dsimp only; omega) ⟨rfl, rfl, rfl, trivial⟩ ?_
    dsimp only
    have e1 : (ms.zip (W ++ ws.drop i)).set i (μ, s2) = ms.zip ((W ++ [s2]) ++ ws.drop (i + 1)) := by
      rw [zip_set, set_same hμ, List.set_append_right _ _ (by omega), hW, Nat.sub_self, List.drop_eq_getElem_cons (by omega), List.set_cons_zero, List.append_assoc]; rfl
    have e2 : (ms.map Mu.w).take (i + 1) = (ms.map Mu.w).take i ++ [μ.w] := by
      rw [List.take_add_one, List.getElem?_map, hμ]; rfl
    rw [e1, e2]
    exact LEnt.trans (LEnt.of (P := [RowsA W ((ms.map Mu.w).take i), Row encI 1 s2 μ.w, Cel b ([sm'] ++ (flat encT ts ++ [])), Row encM 4 sm' (ms.zip ((W ++ [s2]) ++ ws.drop (i + 1))), Row encM 4 sm (ms.zip ws), Cel a ([sm] ++ (flat encT ts ++ [])), RowsA ws (ms.map Mu.w)]) (.c (by ((repeat (first | exact .h | apply In1.n)); fail_if_success refine ?_)) (.c (by ((repeat (first | exact .h | apply In1.n)); fail_if_success refine ?_)) (.c (by ((repeat (first | exact .h | apply In1.n)); fail_if_success refine ?_)) (.c (by ((repeat (first | exact .h | apply In1.n)); fail_if_success refine ?_)) (.c (by ((repeat (first | exact .h | apply In1.n)); fail_if_success refine ?_)) (.c (by ((repeat (first | exact .h | apply In1.n)); fail_if_success refine ?_)) (.c (by ((repeat (first | exact .h | apply In1.n)); fail_if_success refine ?_)) .e)))))))) (LEnt.trans (rowsA_snoc (by rw [hW, List.length_take, List.length_map]; omega)) (LEnt.of (.c (by ((repeat (first | exact .h | apply In1.n)); fail_if_success refine ?_)) (.c (by ((repeat (first | exact .h | apply In1.n)); fail_if_success refine ?_)) (.c (by ((repeat (first | exact .h | apply In1.n)); fail_if_success refine ?_)) (.c (by ((repeat (first | exact .h | apply In1.n)); fail_if_success refine ?_)) (.c (by ((repeat (first | exact .h | apply In1.n)); fail_if_success refine ?_)) (.c (by ((repeat (first | exact .h | apply In1.n)); fail_if_success refine ?_)) .e))))))))
  · obtain rfl : i = ms.length := by omega
    refine RUN ?_
    refine rt_r rfl ⟨b, rfl, rfl⟩ ?_
    rw [show ws.drop ms.length = [] from List.drop_eq_nil_of_le (by omega), List.append_nil W, List.take_of_length_le (by rw [List.length_map]; exact Nat.le_refl _)]
    refine LEnt.trans (LEnt.of (P := [Cel b ([sm'] ++ (flat encT ts ++ [])), Row encM 4 sm' (ms.zip W), RowsA W (ms.map Mu.w), Cel a ([sm] ++ (flat encT ts ++ [])), Row encM 4 sm (ms.zip ws), RowsA ws (ms.map Mu.w)]) (.c (by ((repeat (first | exact .h | apply In1.n)); fail_if_success refine ?_)) (.c (by ((repeat (first | exact .h | apply In1.n)); fail_if_success refine ?_)) (.c (by ((repeat (first | exact .h | apply In1.n)); fail_if_success refine ?_)) (.c (by ((repeat (first | exact .h | apply In1.n)); fail_if_success refine ?_)) (.c (by ((repeat (first | exact .h | apply In1.n)); fail_if_success refine ?_)) (.c (by ((repeat (first | exact .h | apply In1.n)); fail_if_success refine ?_)) .e))))))) ?_
    refine LEnt.trans (mx_close hW ht) (LEnt.trans mx_hide ?_)
    refine LEnt.trans (LEnt.of (P := [Cel a ([sm] ++ (flat encT ts ++ [])), Row encM 4 sm (ms.zip ws), RowsA ws (ms.map Mu.w), MxA b ms ts]) (.c (by ((repeat (first | exact .h | apply In1.n)); fail_if_success refine ?_)) (.c (by ((repeat (first | exact .h | apply In1.n)); fail_if_success refine ?_)) (.c (by ((repeat (first | exact .h | apply In1.n)); fail_if_success refine ?_)) (.c (by ((repeat (first | exact .h | apply In1.n)); fail_if_success refine ?_)) .e))))) ?_
    exact LEnt.trans (mx_close hl ht) (LEnt.trans mx_hide (LEnt.of (.c (by ((repeat (first | exact .h | apply In1.n)); fail_if_success refine ?_)) (.c (by ((repeat (first | exact .h | apply In1.n)); fail_if_success refine ?_)) .e))))
end
end Go.AM

/-
  MutexPlays: the program's mutexes and the document's tell the same.
-/
namespace Go.AM
set_option maxHeartbeats 8000000
attribute [local irreducible] sq bk lpK mdx rt TC RP WK Cel Ro Row Fre RowsA RowsBut
attribute [local irreducible] R.detentlaw15_same_s0 R.detentlaw15_same_s1 R.detentlaw15_same_s3 R.detentlaw15_same_s4 R.detentlaw15_same_s7
section
variable {a b : Nat} {ms : List Mu} {ts : List Tk}
theorem lS0 (hJ : MJ ms ts) (i : Nat) (_hi : i ≤ ms.length) (q : SV) {K : Pst} (hK : ∀ E' L', ELe [(0, ptr a), (1, ptr b), (5, i64 i)] E' → LEnt L' [MxA a ms ts, RmA b (rfOf ms ts)] → K .norm E' L') :
    TC tab mext R.detentlaw15_same.ntmps [(0, ptr a), (1, ptr b), (5, i64 i), (6, i64 (if 1 ≤ (i : Int) ∧ (i : Int) < ms.length then mow ms i else 0)), (7, .s q)] [Row encI 1 q (if 1 ≤ (i : Int) ∧ (i : Int) < ms.length then muw ms (i : Int).toNat else []), MxA a ms ts, RmA b (rfOf ms ts)] R.detentlaw15_same_s0 K := by
  unfold R.detentlaw15_same_s0
  refine RUN ?_
  refine RP.c rfl (Owner_tri (i : Int)) (.c (by ((repeat (first | exact .h | apply In1.n)); fail_if_success refine ?_)) .e) rfl ?_
  rintro v P' ⟨rfl, rfl⟩
  refine RUN ?_
  generalize (if 1 ≤ (i : Int) ∧ (i : Int) < ms.length then mow ms (i : Int) else 0) = o
  rw [decide_eq_false (show ¬ ¬ o = o from fun h => h rfl)]
  refine RUN ?_
  refine RP.c rfl (waiting_tri hJ.i.v (i : Int)) (.c (by ((repeat (first | exact .h | apply In1.n)); fail_if_success refine ?_)) .e) rfl ?_
  rintro v P' ⟨s2, rfl, rfl⟩
  have hlen : (if 1 ≤ (i : Int) ∧ (i : Int) < ms.length then muw ms (i : Int).toNat else []).length ≤ 1000 := by
    split
    · have h := muw_ok hJ.i.v (i : Int).toNat
      have := nodup_le16 h.2 h.1
      omega
    · decide
  generalize (if 1 ≤ (i : Int) ∧ (i : Int) < ms.length then muw ms (i : Int).toNat else []) = w at *
  refine RUN ?_
  refine RP.c rfl (lSame s2 q w w hlen) (.c (by ((repeat (first | exact .h | apply In1.n)); fail_if_success refine ?_)) (.c (by ((repeat (first | exact .h | apply In1.n)); fail_if_success refine ?_)) .e)) rfl ?_
  rintro v P' ⟨hv, rfl⟩
  obtain rfl := hv rfl
  refine RUN ?_
  exact hK _ _ ⟨rfl, rfl, rfl, trivial⟩ (LEnt.of (.c (by ((repeat (first | exact .h | apply In1.n)); fail_if_success refine ?_)) (.c (by ((repeat (first | exact .h | apply In1.n)); fail_if_success refine ?_)) .e)))
theorem lS3 (hJ : MJ ms ts) (t : Nat) (_ht : t ≤ 17) {K : Pst} (hK : ∀ E' L', ELe [(0, ptr a), (1, ptr b), (8, i64 t)] E' → LEnt L' [MxA a ms ts, RmA b (rfOf ms ts)] → K .norm E' L') :
    TC tab mext R.detentlaw15_same.ntmps [(0, ptr a), (1, ptr b), (8, i64 t), (9, i64 (if 1 ≤ (t : Int) ∧ (t : Int) ≤ 16 then tkb ts t else 0))] [MxA a ms ts, RmA b (rfOf ms ts)] R.detentlaw15_same_s3 K := by
  unfold R.detentlaw15_same_s3
  refine RUN ?_
  refine RP.c rfl (Base_tri (t : Int)) (.c (by ((repeat (first | exact .h | apply In1.n)); fail_if_success refine ?_)) .e) rfl ?_
  rintro v P' ⟨rfl, rfl⟩
  refine RUN ?_
  generalize (if 1 ≤ (t : Int) ∧ (t : Int) ≤ 16 then tkb ts (t : Int) else 0) = o
  rw [decide_eq_false (show ¬ ¬ o = o from fun h => h rfl)]
  refine RUN ?_
  refine RP.c rfl (Pri_tri (t : Int)) (.c (by ((repeat (first | exact .h | apply In1.n)); fail_if_success refine ?_)) .e) rfl ?_
  rintro v P' ⟨rfl, rfl⟩
  refine RUN ?_
  refine RP.c rfl (rmPri (RfL.of hJ) (t : Int)) (.c (by ((repeat (first | exact .h | apply In1.n)); fail_if_success refine ?_)) .e) rfl ?_
  rintro v P' ⟨rfl, rfl⟩
  have hp : rPri (rfOf ms ts) (t : Int) = if 1 ≤ (t : Int) ∧ (t : Int) ≤ 16 then tkp ts (t : Int) else 0 := by
    unfold rPri
    split
    · rename_i h; rw [rpri_eq hJ.toMJ0 h, hJ.st _ h]
    · rfl
  rw [hp]
  refine RUN ?_
  generalize (if 1 ≤ (t : Int) ∧ (t : Int) ≤ 16 then tkp ts (t : Int) else 0) = o2
  rw [decide_eq_false (show ¬ ¬ o2 = o2 from fun h => h rfl)]
  refine RUN ?_
  refine RP.c rfl (held_tri hJ.i.v (t : Int)) (.c (by ((repeat (first | exact .h | apply In1.n)); fail_if_success refine ?_)) .e) rfl ?_
  rintro v P' ⟨s1, rfl, rfl⟩
  refine RUN ?_
  refine RP.c rfl (rmHeld (RfL.of hJ) (t : Int)) (.c (by ((repeat (first | exact .h | apply In1.n)); fail_if_success refine ?_)) .e) rfl ?_
  rintro v P' ⟨s2, rfl, rfl⟩
  rw [held_eq]
  have hlen : (heldF ms (t : Int)).length ≤ 1000 := by have := heldF_len (ms := ms) (n := (t : Int)); have := hJ.i.v.l1; omega
  refine RUN ?_
  refine RP.c rfl (lSame s1 s2 (heldF ms (t : Int)) (heldF ms (t : Int)) hlen) (.c (by ((repeat (first | exact .h | apply In1.n)); fail_if_success refine ?_)) (.c (by ((repeat (first | exact .h | apply In1.n)); fail_if_success refine ?_)) .e)) rfl ?_
  rintro v P' ⟨hv, rfl⟩
  obtain rfl := hv rfl
  refine RUN ?_
  exact hK _ _ ⟨rfl, rfl, rfl, trivial⟩ (LEnt.of (.c (by ((repeat (first | exact .h | apply In1.n)); fail_if_success refine ?_)) (.c (by ((repeat (first | exact .h | apply In1.n)); fail_if_success refine ?_)) .e)))
theorem lsame_tri (hJ : MJ ms ts) : Tri tab mext F.detentlaw15_same [ptr a, ptr b] [MxA a ms ts, RmA b (rfOf ms ts)] fun v P' => v = bl true ∧ P' = [MxA a ms ts, RmA b (rfOf ms ts)] := by
  have hL := RfL.of hJ
  have hl0 := hJ.i.v.l0
  have hl1 := hJ.i.v.l1
  have hkl : (rfOf ms ts).ks.length = ms.length - 1 := rf_len
  have hol := hL.ow
  have hql8 := hL.qs
  refine Tri.go tab_detentlaw15_same rfl ?_
  refine RUN ?_
  refine TC.loop (fun i : Nat => ms.length + 1 - i) (fun i => i ≤ ms.length + 1) (fun i => [(0, ptr a), (1, ptr b), (5, i64 i)]) (fun _ => [MxA a ms ts, RmA b (rfOf ms ts)]) 0 (Nat.zero_le _) ⟨rfl, rfl, rfl, trivial⟩ (LEnt.refl _) ?_
  intro i hi
  refine TC.rm (by ((repeat (first | exact .h | apply In1.n)); fail_if_success refine ?_)) fun sk so sq => ?_
  refine TC.obs (by ((repeat (first | exact .h | apply In1.n)); fail_if_success refine ?_)) fun ps hps => ?_
  refine RUN ?_
  refine TC.cP rfl (fun h => ?_) fun h => ?_
  · have hi2 : i ≤ ms.length := by omega
    refine RUN ?_
    by_cases h1 : (i : Int) ≥ 1
    · rw [decide_eq_true h1]
      refine RUN ?_
      by_cases h2 : (i : Int) ≤ (rfOf ms ts).ks.length
      · rw [decide_eq_true h2]
        obtain ⟨j, μ, e0, e1, e2, e3, e4, e5, e6, e7, e8, e9⟩ := rf_m (ms := ms) (ts := ts) (m := (i : Int)) (by omega)
        obtain ⟨b1, b2, b3⟩ := rf_get3 (ts := ts) e2
        rw [← e1] at b2 b3
        have hw16 := nodup_le16 (hJ.i.v.nd μ (List.mem_of_getElem? e2)) (hJ.i.v.w μ (List.mem_of_getElem? e2))
        obtain ⟨p, hp⟩ := ths_get hps b3
        refine RUN ?_
        refine RP.c rfl (Tri.out (β := SV) (Q := fun s v => v = .s s) (X := fun s => Row encI 1 s ((its ts μ.w).map Prod.fst)) hps hp b3 (roIDs (by rw [its_len]; omega))) (.c (by ((repeat (first | exact .h | apply In1.n)); fail_if_success refine ?_)) .e) rfl ?_
        rintro v P' ⟨sl, rfl, rfl⟩
        rw [its_fst]
        refine RUN ?_
        have hyes : 1 ≤ (i : Int) ∧ (i : Int) < ms.length := by omega
        refine TC.ent (LEnt.trans (LEnt.of (P := [Row encP 1 sq ps, Ths Rq ps (rfOf ms ts).qs, Cel b (rmC (rfOf ms ts) sk so sq), Row encK 2 sk (rfOf ms ts).ks, Row encI 1 so (rfOf ms ts).ow, MxA a ms ts, Row encI 1 sl μ.w]) (.c (by ((repeat (first | exact .h | apply In1.n)); fail_if_success refine ?_)) (.c (by ((repeat (first | exact .h | apply In1.n)); fail_if_success refine ?_)) (.c (by ((repeat (first | exact .h | apply In1.n)); fail_if_success refine ?_)) (.c (by ((repeat (first | exact .h | apply In1.n)); fail_if_success refine ?_)) (.c (by ((repeat (first | exact .h | apply In1.n)); fail_if_success refine ?_)) (.c (by ((repeat (first | exact .h | apply In1.n)); fail_if_success refine ?_)) (.c (by ((repeat (first | exact .h | apply In1.n)); fail_if_success refine ?_)) .e)))))))) (LEnt.trans (rm_in (L := [MxA a ms ts, Row encI 1 sl μ.w]) hps) (LEnt.of (P := [Row encI 1 sl μ.w, MxA a ms ts, RmA b (rfOf ms ts)]) (.c (by ((repeat (first | exact .h | apply In1.n)); fail_if_success refine ?_)) (.c (by ((repeat (first | exact .h | apply In1.n)); fail_if_success refine ?_)) (.c (by ((repeat (first | exact .h | apply In1.n)); fail_if_success refine ?_)) .e)))))) ?_
        have hS := lS0 (a := a) (b := b) hJ i hi2 sl (K := bk 1 (AM.sq tab mext R.detentlaw15_same.ntmps (R.ch [R.detentlaw15_same_s1]) (lpK (fun i => ms.length + 1 - i) (fun i => i ≤ ms.length + 1) (fun i => [(0, ptr a), (1, ptr b), (5, i64 i)]) (fun _ => [MxA a ms ts, RmA b (rfOf ms ts)]) i (bk 0 (AM.sq tab mext R.detentlaw15_same.ntmps (R.ch [R.detentlaw15_same_s7]) (rt R.detentlaw15_same.results fun v P' => v = bl true ∧ P' = [MxA a ms ts, RmA b (rfOf ms ts)])))))) fun E' L' hE hL' => by
          refine bk_n (sq_n (TC.env hE (TC.ent hL' ?_)))
          unfold R.detentlaw15_same_s1
          refine RUN ?_
          exact lp_n (i + 1) (by omega) (by omega) ⟨rfl, rfl, rfl, trivial⟩ (LEnt.refl _)
        rw [if_pos hyes, if_pos hyes, e6, e9] at hS
        refine TC.env ?_ hS
        exact ⟨rfl, rfl, rfl, rfl, rfl, trivial⟩
      · rw [decide_eq_false h2]
        refine RUN ?_
        have hno : ¬ (1 ≤ (i : Int) ∧ (i : Int) < ms.length) := by omega
        refine TC.ent (LEnt.trans (row_nil (enc := encI) (k := 1) 1 _) (LEnt.trans (LEnt.of (P := [Row encP 1 sq ps, Ths Rq ps (rfOf ms ts).qs, Cel b (rmC (rfOf ms ts) sk so sq), Row encK 2 sk (rfOf ms ts).ks, Row encI 1 so (rfOf ms ts).ow, MxA a ms ts, Row encI 1 (.slice none 0 0 1) []]) (.c (by ((repeat (first | exact .h | apply In1.n)); fail_if_success refine ?_)) (.c (by ((repeat (first | exact .h | apply In1.n)); fail_if_success refine ?_)) (.c (by ((repeat (first | exact .h | apply In1.n)); fail_if_success refine ?_)) (.c (by ((repeat (first | exact .h | apply In1.n)); fail_if_success refine ?_)) (.c (by ((repeat (first | exact .h | apply In1.n)); fail_if_success refine ?_)) (.c (by ((repeat (first | exact .h | apply In1.n)); fail_if_success refine ?_)) (.c (by ((repeat (first | exact .h | apply In1.n)); fail_if_success refine ?_)) .e)))))))) (LEnt.trans (rm_in (L := [MxA a ms ts, Row encI 1 (.slice none 0 0 1) []]) hps) (LEnt.of (P := [Row encI 1 (.slice none 0 0 1) [], MxA a ms ts, RmA b (rfOf ms ts)]) (.c (by ((repeat (first | exact .h | apply In1.n)); fail_if_success refine ?_)) (.c (by ((repeat (first | exact .h | apply In1.n)); fail_if_success refine ?_)) (.c (by ((repeat (first | exact .h | apply In1.n)); fail_if_success refine ?_)) .e))))))) ?_
        have hS := lS0 (a := a) (b := b) hJ i hi2 (.slice none 0 0 1) (K := bk 1 (AM.sq tab mext R.detentlaw15_same.ntmps (R.ch [R.detentlaw15_same_s1]) (lpK (fun i => ms.length + 1 - i) (fun i => i ≤ ms.length + 1) (fun i => [(0, ptr a), (1, ptr b), (5, i64 i)]) (fun _ => [MxA a ms ts, RmA b (rfOf ms ts)]) i (bk 0 (AM.sq tab mext R.detentlaw15_same.ntmps (R.ch [R.detentlaw15_same_s7]) (rt R.detentlaw15_same.results fun v P' => v = bl true ∧ P' = [MxA a ms ts, RmA b (rfOf ms ts)])))))) fun E' L' hE hL' => by
          refine bk_n (sq_n (TC.env hE (TC.ent hL' ?_)))
          unfold R.detentlaw15_same_s1
          refine RUN ?_
          exact lp_n (i + 1) (by omega) (by omega) ⟨rfl, rfl, rfl, trivial⟩ (LEnt.refl _)
        rw [if_neg hno, if_neg hno] at hS
        refine TC.env ?_ hS
        exact ⟨rfl, rfl, rfl, rfl, rfl, trivial⟩
    · rw [decide_eq_false h1]
      refine RUN ?_
      have hno : ¬ (1 ≤ (i : Int) ∧ (i : Int) < ms.length) := by omega
      refine TC.ent (LEnt.trans (row_nil (enc := encI) (k := 1) 1 _) (LEnt.trans (LEnt.of (P := [Row encP 1 sq ps, Ths Rq ps (rfOf ms ts).qs, Cel b (rmC (rfOf ms ts) sk so sq), Row encK 2 sk (rfOf ms ts).ks, Row encI 1 so (rfOf ms ts).ow, MxA a ms ts, Row encI 1 (.slice none 0 0 1) []]) (.c (by ((repeat (first | exact .h | apply In1.n)); fail_if_success refine ?_)) (.c (by ((repeat (first | exact .h | apply In1.n)); fail_if_success refine ?_)) (.c (by ((repeat (first | exact .h | apply In1.n)); fail_if_success refine ?_)) (.c (by ((repeat (first | exact .h | apply In1.n)); fail_if_success refine ?_)) (.c (by ((repeat (first | exact .h | apply In1.n)); fail_if_success refine ?_)) (.c (by ((repeat (first | exact .h | apply In1.n)); fail_if_success refine ?_)) (.c (by ((repeat (first | exact .h | apply In1.n)); fail_if_success refine ?_)) .e)))))))) (LEnt.trans (rm_in (L := [MxA a ms ts, Row encI 1 (.slice none 0 0 1) []]) hps) (LEnt.of (P := [Row encI 1 (.slice none 0 0 1) [], MxA a ms ts, RmA b (rfOf ms ts)]) (.c (by ((repeat (first | exact .h | apply In1.n)); fail_if_success refine ?_)) (.c (by ((repeat (first | exact .h | apply In1.n)); fail_if_success refine ?_)) (.c (by ((repeat (first | exact .h | apply In1.n)); fail_if_success refine ?_)) .e))))))) ?_
      have hS := lS0 (a := a) (b := b) hJ i hi2 (.slice none 0 0 1) (K := bk 1 (AM.sq tab mext R.detentlaw15_same.ntmps (R.ch [R.detentlaw15_same_s1]) (lpK (fun i => ms.length + 1 - i) (fun i => i ≤ ms.length + 1) (fun i => [(0, ptr a), (1, ptr b), (5, i64 i)]) (fun _ => [MxA a ms ts, RmA b (rfOf ms ts)]) i (bk 0 (AM.sq tab mext R.detentlaw15_same.ntmps (R.ch [R.detentlaw15_same_s7]) (rt R.detentlaw15_same.results fun v P' => v = bl true ∧ P' = [MxA a ms ts, RmA b (rfOf ms ts)])))))) fun E' L' hE hL' => by
        refine bk_n (sq_n (TC.env hE (TC.ent hL' ?_)))
        unfold R.detentlaw15_same_s1
        refine RUN ?_
        exact lp_n (i + 1) (by omega) (by omega) ⟨rfl, rfl, rfl, trivial⟩ (LEnt.refl _)
      rw [if_neg hno, if_neg hno] at hS
      refine TC.env ?_ hS
      exact ⟨rfl, rfl, rfl, rfl, rfl, trivial⟩
  · refine RUN ?_
    unfold R.detentlaw15_same_s7
    refine RUN ?_
    refine TC.loop (fun t : Nat => 18 - t) (fun t => t ≤ 18) (fun t => [(0, ptr a), (1, ptr b), (8, i64 t)]) (fun _ => [MxA a ms ts, RmA b (rfOf ms ts)]) 0 (Nat.zero_le _) ⟨rfl, rfl, rfl, trivial⟩ (LEnt.trans (rm_in (L := [MxA a ms ts]) hps) (LEnt.of (.c (by ((repeat (first | exact .h | apply In1.n)); fail_if_success refine ?_)) (.c (by ((repeat (first | exact .h | apply In1.n)); fail_if_success refine ?_)) .e)))) ?_
    intro t ht
    refine RUN ?_
    refine TC.cP rfl (fun h2 => ?_) fun h2 => ?_
    · refine RUN ?_
      by_cases h3 : (t : Int) ≥ 1
      · rw [decide_eq_true h3]
        refine RUN ?_
        by_cases h4 : (t : Int) ≤ 16
        · rw [decide_eq_true h4]
          have ht16 : 1 ≤ (t : Int) ∧ (t : Int) ≤ 16 := by omega
          have hbt : (rfOf ms ts).bs[t]? = some (tkb ts (t : Int)) := by
            rw [← (rf_bs (ms := ms) hJ.tl ht16).1]
            unfold rBs
            rw [show ((t : Nat) : Int).toNat = t from rfl, List.getElem?_eq_getElem (by rw [hL.bs]; omega)]; rfl
          refine TC.rm (by ((repeat (first | exact .h | apply In1.n)); fail_if_success refine ?_)) fun sk so sq => ?_
          refine RUN ?_
          refine TC.ent (L' := [MxA a ms ts, RmA b (rfOf ms ts)]) (LEnt.trans (RmA.shut (L := [MxA a ms ts])) (LEnt.of (.c (by ((repeat (first | exact .h | apply In1.n)); fail_if_success refine ?_)) (.c (by ((repeat (first | exact .h | apply In1.n)); fail_if_success refine ?_)) .e)))) ?_
          have hS := lS3 (a := a) (b := b) hJ t (by omega) (K := bk 3 (AM.sq tab mext R.detentlaw15_same.ntmps (R.ch [R.detentlaw15_same_s4]) (lpK (fun t => 18 - t) (fun t => t ≤ 18) (fun t => [(0, ptr a), (1, ptr b), (8, i64 t)]) (fun _ => [MxA a ms ts, RmA b (rfOf ms ts)]) t (bk 2 (AM.sq tab mext R.detentlaw15_same.ntmps (R.ch [R.detentlaw15_same_s6]) (rt R.detentlaw15_same.results fun v P' => v = bl true ∧ P' = [MxA a ms ts, RmA b (rfOf ms ts)])))))) fun E' L' hE hL' => by
            refine bk_n (sq_n (TC.env hE (TC.ent hL' ?_)))
            unfold R.detentlaw15_same_s4
            refine RUN ?_
            exact lp_n (t + 1) (by omega) (by omega) ⟨rfl, rfl, rfl, trivial⟩ (LEnt.refl _)
          rw [if_pos ht16] at hS
          refine TC.env ?_ hS
          exact ⟨rfl, rfl, rfl, rfl, trivial⟩
        · rw [decide_eq_false h4]
          refine RUN ?_
          have hno : ¬ (1 ≤ (t : Int) ∧ (t : Int) ≤ 16) := by omega
          have hS := lS3 (a := a) (b := b) hJ t (by omega) (K := bk 3 (AM.sq tab mext R.detentlaw15_same.ntmps (R.ch [R.detentlaw15_same_s4]) (lpK (fun t => 18 - t) (fun t => t ≤ 18) (fun t => [(0, ptr a), (1, ptr b), (8, i64 t)]) (fun _ => [MxA a ms ts, RmA b (rfOf ms ts)]) t (bk 2 (AM.sq tab mext R.detentlaw15_same.ntmps (R.ch [R.detentlaw15_same_s6]) (rt R.detentlaw15_same.results fun v P' => v = bl true ∧ P' = [MxA a ms ts, RmA b (rfOf ms ts)])))))) fun E' L' hE hL' => by
            refine bk_n (sq_n (TC.env hE (TC.ent hL' ?_)))
            unfold R.detentlaw15_same_s4
            refine RUN ?_
            exact lp_n (t + 1) (by omega) (by omega) ⟨rfl, rfl, rfl, trivial⟩ (LEnt.refl _)
          rw [if_neg hno] at hS
          refine TC.env ?_ hS
          exact ⟨rfl, rfl, rfl, rfl, trivial⟩
      · rw [decide_eq_false h3]
        refine RUN ?_
        have hno : ¬ (1 ≤ (t : Int) ∧ (t : Int) ≤ 16) := by omega
        have hS := lS3 (a := a) (b := b) hJ t (by omega) (K := bk 3 (AM.sq tab mext R.detentlaw15_same.ntmps (R.ch [R.detentlaw15_same_s4]) (lpK (fun t => 18 - t) (fun t => t ≤ 18) (fun t => [(0, ptr a), (1, ptr b), (8, i64 t)]) (fun _ => [MxA a ms ts, RmA b (rfOf ms ts)]) t (bk 2 (AM.sq tab mext R.detentlaw15_same.ntmps (R.ch [R.detentlaw15_same_s6]) (rt R.detentlaw15_same.results fun v P' => v = bl true ∧ P' = [MxA a ms ts, RmA b (rfOf ms ts)])))))) fun E' L' hE hL' => by
          refine bk_n (sq_n (TC.env hE (TC.ent hL' ?_)))
          unfold R.detentlaw15_same_s4
          refine RUN ?_
          exact lp_n (t + 1) (by omega) (by omega) ⟨rfl, rfl, rfl, trivial⟩ (LEnt.refl _)
        rw [if_neg hno] at hS
        refine TC.env ?_ hS
        exact ⟨rfl, rfl, rfl, rfl, trivial⟩
    · refine RUN ?_
      exact rt_r rfl ⟨rfl, rfl⟩ (LEnt.refl _)
end
end Go.AM

/-
  MutexPlays: arguments; the walk.
-/
namespace Go.AM
set_option maxHeartbeats 8000000
attribute [local irreducible] sq bk lpK mdx rt TC RP WK Cel Ro Row Fre RowsA RowsBut
abbrev tyK : Ty := .pair (.int .i64) (.int .i64)
abbrev tyA : Ty := .pair (.int .i64) (.pair (.int .i64) (.pair (.int .i64) (.int .i64)))
def encA (x : Int × Int × Int × Int) : List SV := [.int .i64 x.1, .int .i64 x.2.1, .int .i64 x.2.2.1, .int .i64 x.2.2.2]
theorem Ldn.ga {a : Ty} {enc : a.den → List SV} (he : ∀ ρ x l, At ρ a x l → l = enc x) {xs : List a.den} {s : SV} {L : List Asr} {i : Nat} {x : a.den} (hx : xs[i]? = some x) : Ldn (ArgS a xs s :: L) (sb s) (ix 0 i a.size 0) a.size (enc x) := ⟨fun ρ H R hs => by
  have h := Sat.arg hs
  have hlt := (List.getElem?_eq_some_iff.1 hx).1
  obtain ⟨b, c, l, y, li, rfl, hb, h1, h2, h3, h4⟩ := At.slGet h hlt
  have hy : y = x := by rw [hx] at h1; cases h1; rfl
  subst hy
  have hb' := hs.roOf b l hb
  have e := he ρ y li h2
  show H.ldn b _ _ = _
  rw [ldn_of H hb', ix, if_pos (by omega), ← e, ← h3]
  simp⟩
theorem heK : ∀ (ρ : HF) (x : Int × Int) (l : List SV), At ρ tyK x l → l = encK x := fun ρ x l h => by
  obtain ⟨l1, l2, rfl, ⟨rfl, _⟩, ⟨rfl, _⟩⟩ := h; rfl
theorem heA : ∀ (ρ : HF) (x : Int × Int × Int × Int) (l : List SV), At ρ tyA x l → l = encA x := fun ρ x l h => by
  obtain ⟨l1, l2, rfl, ⟨rfl, _⟩, l3, l4, rfl, ⟨rfl, _⟩, l5, l6, rfl, ⟨rfl, _⟩, ⟨rfl, _⟩⟩ := h; rfl
theorem Ldn.k {ks : List (Int × Int)} {s : SV} {L : List Asr} {i : Nat} {x : Int × Int} (hx : ks[i]? = some x) : Ldn (ArgS tyK ks s :: L) (sb s) (ix 0 i 2 0) 2 (encK x) := Ldn.ga (a := tyK) heK hx
theorem Ldn.act {ks : List (Int × Int × Int × Int)} {s : SV} {L : List Asr} {i : Nat} {x : Int × Int × Int × Int} (hx : ks[i]? = some x) : Ldn (ArgS tyA ks s :: L) (sb s) (ix 0 i 4 0) 4 (encA x) := Ldn.ga (a := tyA) heA hx
theorem Ld.k {ks : List (Int × Int)} {s : SV} {L : List Asr} {i d : Nat} {x : Int × Int} {v : SV} (hx : ks[i]? = some x) (hv : (encK x)[d]? = some v) : Ld (ArgS tyK ks s :: L) (sb s) (ix 0 i 2 d) v := ⟨fun ρ H R hs => by
  have h1 := (Ldn.k (L := L) hx).of ρ H R hs
  obtain ⟨b, l, h2⟩ : ∃ b l, H.blk (sb s) = some (.cells b l) ∧ ix 0 i 2 0 + 2 ≤ l.length ∧ (l.drop (ix 0 i 2 0)).take 2 = encK x := by
    unfold AH.ldn at h1
    split at h1
    · rename_i ro l hb
      split at h1
      · rename_i hle
        exact ⟨ro, l, hb, hle, Option.some.inj h1⟩
      · cases h1
    · cases h1
  obtain ⟨hb, hle, ht⟩ := h2
  have hd : d < 2 := (List.getElem?_eq_some_iff.1 hv).1
  rw [ld_of H hb, ← hv, ← ht, List.getElem?_take_of_lt hd, List.getElem?_drop]
  congr 1
  unfold ix
  omega⟩
section
theorem newA_tri (s : SV) (ks : List (Int × Int)) : Tri tab mext F.mtx_New [.s s] [ArgS tyK ks s] fun v P' =>
    (8 < ks.length ∨ ¬ (∀ k ∈ ks, rightF k = true)) ∧ v = .tup [.s (.ptr none), .s (.int .i64 (-17))] ∧ P' = [ArgS tyK ks s] ∨
    (ks.length ≤ 8 ∧ ∀ k ∈ ks, rightF k = true) ∧ ∃ a, v = .tup [.s (.ptr (some (a, 0))), .s (.int .i64 0)] ∧ P' = [MxA a (mu0 :: ks.map muK) (List.replicate 17 tk0), ArgS tyK ks s] := by
  refine Tri.go tab_mtx_New rfl ?_
  refine RUN ?_
  refine TC.cP rfl (fun h => ?_) fun h => ?_
  · refine RUN ?_
    exact rt_r (resE2 rfl rfl) (.inl ⟨.inl (by omega), rfl, rfl⟩) (LEnt.of (.c (by ((repeat (first | exact .h | apply In1.n)); fail_if_success refine ?_)) .e))
  · have h : ks.length ≤ 8 := by omega
    refine RUN ?_
    refine RP.mk rfl rfl (mkA_ok (l := 1) (c := ks.length + 1) (by omega) (by omega) (by omega) rfl) rfl fun b => ?_
    refine RP.ent (row_made (enc := encM) (k := 4) (c := ks.length + 1) (r := [(mu0, nilS)]) rfl (by rw [rep_length]; simp) (by simp)) ?_
    refine RUN ?_
    refine RP.bx rfl rfl rfl fun a => ?_
    refine RUN ?_
    refine TC.midb (α := SV) (fun _ => ∀ k ∈ ks, rightF k = true) (fun sm => [(2, .s (.ptr none)), (3, i64 0), (4, ptr a)]) (fun sm => [Cel a ([sm] ++ (flat encT (List.replicate 17 ⟨0, 0, 0⟩) ++ [])), Row encM 4 sm ((mu0 :: ks.map muK).map fun μ => (μ, nilS)), ArgS tyK ks s]) ?_ ?_
    · refine TC.loop (fun q : Nat × SV => ks.length - q.1) (fun q => q.1 ≤ ks.length ∧ ∀ k ∈ ks.take q.1, rightF k = true) (fun q => [(2, .s (.ptr none)), (3, i64 0), (4, ptr a), (17, .s s), (18, i64 ks.length), (19, i64 q.1)]) (fun q => [Cel a ([q.2] ++ (flat encT (List.replicate 17 ⟨0, 0, 0⟩) ++ [])), Row encM 4 q.2 ((mu0 :: (ks.take q.1).map muK).map fun μ => (μ, nilS)), ArgS tyK ks s]) (0, .slice (some (b, 0)) 1 (ks.length + 1) 4) ⟨by omega, by simp⟩ ⟨rfl, rfl, rfl, rfl, rfl, rfl, trivial⟩ (LEnt.refl _) ?_
      rintro ⟨i, sm⟩ ⟨h1, h2⟩
      dsimp only at h1 h2 ⊢
      refine RUN ?_
      refine TC.cP rfl (fun h3 => ?_) fun h3 => ?_
      · obtain ⟨k, hk⟩ : ∃ k, ks[i]? = some k := ⟨_, List.getElem?_eq_getElem (by omega)⟩
        refine RUN ?_
        refine RP.ln rfl (by first | exact Ldn.k hk | exact .n (Ldn.k hk) | exact .n (.n (Ldn.k hk)) | exact .n (.n (.n (Ldn.k hk)))) rfl ?_
        refine RUN ?_
        refine RP.nw rfl fun c => ?_
        refine RUN ?_
        refine RP.c rfl (right_tri k) .e rfl ?_
        rintro v P' ⟨rfl, rfl⟩
        refine RUN ?_
        refine TC.cB rfl (fun h4 => ?_) fun h4 => ?_
        · have h4 : ¬ rightF k = true := by simpa using h4
          refine RUN ?_
          exact rt_r (resE2 rfl rfl) (.inl ⟨.inr fun hc => h4 (hc k (List.mem_of_getElem? hk)), rfl, rfl⟩) (LEnt.of (.c (by ((repeat (first | exact .h | apply In1.n)); fail_if_success refine ?_)) .e))
        · have h4 : rightF k = true := by simpa using h4
          refine RUN ?_
          refine RP.bs rfl rfl rfl fun c2 => ?_
          refine RP.ent (L' := [Cel a ([sm] ++ (flat encT (List.replicate 17 ⟨0, 0, 0⟩) ++ [])), Row encM 4 sm ((mu0 :: (ks.take i).map muK).map fun μ => (μ, nilS)), Cel c2 (encM (muK k, nilS)), ArgS tyK ks s]) (LEnt.of (.c (.n (.n .h)) (.c (.n (.n .h)) (.c .h (.c (.n .h) .e))))) ?_
          refine RP.ap rfl rfl rfl (ap_one encM_len (.c (.n .h) (.c (.n .h) .e)) (by simp; omega)) fun sm' => ?_
          refine RUN ?_
          have e : ((mu0 :: (ks.take (i + 1)).map muK).map fun μ => (μ, nilS)) = ((mu0 :: (ks.take i).map muK).map fun μ => (μ, nilS)) ++ [(muK k, nilS)] := by
            rw [List.take_add_one, hk]; simp
          refine lp_n (i + 1, sm') ⟨by simp only; omega, ?_⟩ (by simp only; omega) ⟨rfl, rfl, rfl, rfl, rfl, rfl, trivial⟩ ?_
          · intro x hx
            simp only at hx
            rw [List.take_add_one, hk] at hx
            rcases List.mem_append.1 hx with hx | hx
            · exact h2 x hx
            · simp at hx; rw [hx]; exact h4
          · simp only
            rw [e]
            exact LEnt.of (.c (.n .h) (.c .h (.c .h .e)))
      · have : i = ks.length := by omega
        subst this
        rw [List.take_length] at h2
        rw [List.take_length]
        refine RUN ?_
        exact md_n sm h2 ⟨rfl, rfl, rfl, trivial⟩ (LEnt.refl _)
    · intro sm hr
      refine RUN ?_
      refine TC.loop (fun i : Nat => 17 - i) (fun i => i ≤ 17) (fun i => [(2, .s (.ptr none)), (3, i64 0), (4, ptr a), (38, i64 i)]) (fun i => [Cel a ([sm] ++ (flat encT (List.replicate i tk0 ++ List.replicate (17 - i) ⟨0, 0, 0⟩) ++ [])), Row encM 4 sm ((mu0 :: ks.map muK).map fun μ => (μ, nilS)), ArgS tyK ks s]) 0 (by omega) ⟨rfl, rfl, rfl, rfl, trivial⟩ (LEnt.refl _) ?_
      intro i hi
      refine RUN ?_
      refine TC.cP rfl (fun h3 => ?_) fun h3 => ?_
      · refine RUN ?_
        refine RP.s rfl rfl rfl rfl (Stw.ae (c := 1) (pre := [sm]) rfl encT_len tk0 (by simp; omega)) ?_
        have e : (List.replicate i tk0 ++ List.replicate (17 - i) (⟨0, 0, 0⟩ : Tk)).set i tk0 = List.replicate (i + 1) tk0 ++ List.replicate (17 - (i + 1)) (⟨0, 0, 0⟩ : Tk) := by
          rw [List.set_append_right _ _ (by simp), List.length_replicate, Nat.sub_self, show 17 - i = (17 - (i + 1)) + 1 by omega, List.replicate_succ, List.set_cons_zero, List.replicate_succ', List.append_assoc]
          rfl
        rw [e]
        refine RUN ?_
        exact lp_n (i + 1) (by omega) (by omega) ⟨rfl, rfl, rfl, rfl, trivial⟩ (LEnt.refl _)
      · have : i = 17 := by omega
        subst this
        refine RUN ?_
        refine rt_r (resE2 rfl rfl) (.inr ⟨⟨h, hr⟩, a, rfl, rfl⟩) ?_
        have e1 : (mu0 :: ks.map muK).map Mu.w = List.replicate (ks.length + 1) [] := by
          rw [List.map_cons, List.map_map, List.replicate_succ]
          congr 1
          rw [List.eq_replicate_iff]
          exact ⟨by simp, fun x hx => by obtain ⟨y, _, rfl⟩ := List.mem_map.1 hx; rfl⟩
        have e2 : ((mu0 :: ks.map muK).map fun μ => (μ, nilS)) = (mu0 :: ks.map muK).zip (List.replicate (ks.length + 1) nilS) := by
          have := map_zip_rep (mu0 :: ks.map muK) nilS
          simpa using this
        intro ρ H R hs
        have h5 := rows_nil (ks.length + 1) (L := []) ρ H _ hs
        rw [e2] at h5
        have h6 : Sat ρ H (MxB a (mu0 :: ks.map muK) (List.replicate 17 tk0) sm (List.replicate (ks.length + 1) nilS) :: ArgS tyK ks s :: R) := by
          refine Sat.mxClose (by simp) (by simp) ?_
          rw [e1]
          exact Sat.re h5 [1, 2, 0] (by simp) (by decide)
        exact mx_hide (L := []) ρ H _ h6
theorem lKindsA (s : SV) (ks : List (Int × Int)) (h : ks.length ≤ 1000) : Tri tab mext F.detentlaw15_Kinds [.s s] [ArgS tyK ks s] fun v P' => ∃ s', v = .s s' ∧ P' = [Row encK 2 s' ks, ArgS tyK ks s] := by
  refine Tri.go tab_detentlaw15_Kinds rfl ?_
  refine RUN ?_
  refine TC.loop (fun q : Nat × SV => ks.length - q.1) (fun q => q.1 ≤ ks.length) (fun q => [(0, .s s), (3, .s q.2), (4, i64 q.1)]) (fun q => [Row encK 2 q.2 (ks.take q.1), ArgS tyK ks s]) (0, .slice none 0 0 1) (Nat.zero_le _) ⟨rfl, rfl, rfl, trivial⟩ (row_nil 1 _) ?_
  rintro ⟨i, q⟩ hi
  dsimp only at hi ⊢
  refine RUN ?_
  refine TC.cP rfl (fun h2 => ?_) fun h2 => ?_
  · obtain ⟨k, hk⟩ : ∃ k, ks[i]? = some k := ⟨_, List.getElem?_eq_getElem (by omega)⟩
    refine RUN ?_
    refine RP.l rfl (.n (Ld.k (d := 0) hk rfl)) rfl ?_
    refine RUN ?_
    refine RP.l rfl (.n (Ld.k (d := 1) hk rfl)) rfl ?_
    refine RUN ?_
    refine RP.bs rfl rfl rfl fun c1 => ?_
    refine RP.ap rfl rfl rfl (ap_one (enc := encK) (k := 2) (bytes := 16) (r := ks.take i) (e := k) (fun _ => rfl) (.c (by ((repeat (first | exact .h | apply In1.n)); fail_if_success refine ?_)) (.c (by ((repeat (first | exact .h | apply In1.n)); fail_if_success refine ?_)) .e)) (by rw [List.length_take]; omega)) fun q' => ?_
    refine RUN ?_
    refine lp_n (i + 1, q') (by dsimp only; omega) (by dsimp only; omega) ⟨rfl, rfl, rfl, trivial⟩ ?_
    dsimp only
    rw [List.take_add_one, hk, Option.toList_some]
    exact LEnt.of (.c (by ((repeat (first | exact .h | apply In1.n)); fail_if_success refine ?_)) (.c (by ((repeat (first | exact .h | apply In1.n)); fail_if_success refine ?_)) .e))
  · obtain rfl : i = ks.length := by omega
    refine RUN ?_
    rw [List.take_length]
    exact rt_r rfl ⟨q, rfl, rfl⟩ (LEnt.refl _)
end
end Go.AM

/-
  MutexPlays: the walk.
-/
namespace Go.AM
set_option maxHeartbeats 8000000
attribute [local irreducible] sq bk lpK mdx rt TC RP WK Cel Ro Row Fre RowsA RowsBut
attribute [local irreducible] settleF rsettle tryF lockF unlF setBF dropF freeF heldF rfOf R.detentlaw15_MutexPlays_s2 R.detentlaw15_MutexPlays_s3
structure MpQ where
  i : Nat
  a : Nat
  ms : List Mu
  ts : List Tk
theorem MutexPlays_tri (ks : List (Int × Int)) (as_ : List (Int × Int × Int × Int)) (sk sl : SV) : Tri tab mext F.detentlaw15_MutexPlays [.s sk, .s sl] [ArgS tyK ks sk, ArgS tyA as_ sl] fun v _ => v = bl true := by
  refine Tri.go tab_detentlaw15_MutexPlays rfl ?_
  refine RUN ?_
  refine RP.c rfl known15_tri .e rfl ?_
  rintro v P' ⟨rfl, rfl⟩
  refine RUN ?_
  by_cases h1 : (as_.length : Int) > 80
  · rw [decide_eq_true h1]
    refine RUN ?_
    exact rt_r rfl rfl (LEnt.refl _)
  rw [decide_eq_false h1]
  refine RUN ?_
  by_cases h2 : (ks.length : Int) > 20
  · rw [decide_eq_true h2]
    refine RUN ?_
    exact rt_r rfl rfl (LEnt.refl _)
  rw [decide_eq_false h2]
  refine RUN ?_
  refine RP.c rfl (newA_tri sk ks) (.c (by ((repeat (first | exact .h | apply In1.n)); fail_if_success refine ?_)) .e) rfl ?_
  rintro v P' (⟨hb, rfl, rfl⟩ | ⟨hg, a, rfl, rfl⟩)
  · refine RUN ?_
    refine RP.c rfl (lKindsA sk ks (by omega)) (.c (by ((repeat (first | exact .h | apply In1.n)); fail_if_success refine ?_)) .e) rfl ?_
    rintro v P' ⟨s', rfl, rfl⟩
    refine RUN ?_
    refine RP.c rfl (rmNew s' ks) (.c (by ((repeat (first | exact .h | apply In1.n)); fail_if_success refine ?_)) .e) rfl ?_
    rintro v P' (⟨_, rfl, rfl⟩ | ⟨hg, a, rfl, rfl⟩)
    · refine RUN ?_
      exact rt_r rfl rfl (LEnt.refl _)
    · exfalso
      rcases hb with h | h
      · omega
      · exact h hg.2
  · refine RUN ?_
    refine RP.c rfl (lKindsA sk ks (by omega)) (.c (by ((repeat (first | exact .h | apply In1.n)); fail_if_success refine ?_)) .e) rfl ?_
    rintro v P' ⟨s', rfl, rfl⟩
    refine RUN ?_
    refine RP.c rfl (rmNew s' ks) (.c (by ((repeat (first | exact .h | apply In1.n)); fail_if_success refine ?_)) .e) rfl ?_
    rintro v P' (⟨hb, rfl, rfl⟩ | ⟨_, b, rfl, rfl⟩)
    · exfalso
      rcases hb with h | h
      · omega
      · exact h hg.2
    rw [rf0_eq]
    refine RUN ?_
    refine TC.loop (fun q : MpQ => as_.length - q.i) (fun q => q.i ≤ as_.length ∧ MJ q.ms q.ts) (fun q => [(1, .s sl), (5, ptr q.a), (7, ptr b), (9, i64 q.i)]) (fun q => [MxA q.a q.ms q.ts, RmA b (rfOf q.ms q.ts), ArgS tyA as_ sl]) ⟨0, a, mu0 :: ks.map muK, List.replicate 17 tk0⟩ ⟨Nat.zero_le _, MJ_0 hg.1 hg.2⟩ ⟨rfl, rfl, rfl, rfl, trivial⟩ (LEnt.of (.c (by ((repeat (first | exact .h | apply In1.n)); fail_if_success refine ?_)) (.c (by ((repeat (first | exact .h | apply In1.n)); fail_if_success refine ?_)) (.c (by ((repeat (first | exact .h | apply In1.n)); fail_if_success refine ?_)) .e)))) ?_
    rintro ⟨i, a, ms, ts⟩ ⟨hi, hJ⟩
    dsimp only at hi hJ ⊢
    have hL := RfL.of hJ
    refine RUN ?_
    refine TC.cP rfl (fun h3 => ?_) fun h3 => ?_
    · obtain ⟨⟨op, m, t, n⟩, hx⟩ : ∃ x, as_[i]? = some x := ⟨_, List.getElem?_eq_getElem (by omega)⟩
      refine RUN ?_
      refine RP.ln rfl (by first | exact Ldn.act hx | exact .n (.n (Ldn.act hx))) rfl ?_
      refine RUN ?_
      refine RP.nw rfl fun c => ?_
      refine RUN ?_
      by_cases o1 : op = 1
      · rw [show decide ((op, m, t, n).fst = 1) = true from decide_eq_true o1]
        refine RUN ?_
        refine RP.c rfl (lock_tri hJ.i m t fun h => not_in hJ h) (.c (by ((repeat (first | exact .h | apply In1.n)); fail_if_success refine ?_)) .e) rfl ?_
        rintro v P' ⟨rfl, rfl⟩
        refine RUN ?_
        refine RP.c rfl (rmLock hL m t (room hJ)) (.c (by ((repeat (first | exact .h | apply In1.n)); fail_if_success refine ?_)) .e) rfl ?_
        rintro v P' ⟨rfl, rfl⟩
        have hE := lock_eq hJ m t
        rw [hE.1]
        have hJ1 := hE.2
        clear hE
        dsimp only
        generalize lockF ms ts m t = R at *
        obtain ⟨⟨x, g⟩, ms1, ts1⟩ := R
        dsimp only at hJ1 ⊢
        cases x with
        | true =>
          refine RUN ?_
          rw [decide_eq_false (show ¬ ¬ g = g from fun h => h rfl)]
          refine RUN ?_
          unfold R.detentlaw15_MutexPlays_s2
          refine RUN ?_
          refine RP.c rfl (lsame_tri (a := a) (b := b) hJ1) (.c (by ((repeat (first | exact .h | apply In1.n)); fail_if_success refine ?_)) (.c (by ((repeat (first | exact .h | apply In1.n)); fail_if_success refine ?_)) .e)) rfl ?_
          rintro v P' ⟨rfl, rfl⟩
          refine RUN ?_
          unfold R.detentlaw15_MutexPlays_s3
          refine RUN ?_
          exact lp_n (⟨i + 1, a, ms1, ts1⟩ : MpQ) ⟨by dsimp only; omega, hJ1⟩ (by dsimp only; omega) ⟨rfl, rfl, rfl, rfl, trivial⟩ (LEnt.of (.c (by ((repeat (first | exact .h | apply In1.n)); fail_if_success refine ?_)) (.c (by ((repeat (first | exact .h | apply In1.n)); fail_if_success refine ?_)) (.c (by ((repeat (first | exact .h | apply In1.n)); fail_if_success refine ?_)) .e))))
        | false =>
          refine RUN ?_
          rw [decide_eq_false (show ¬ ¬ g = g from fun h => h rfl)]
          refine RUN ?_
          unfold R.detentlaw15_MutexPlays_s2
          refine RUN ?_
          refine RP.c rfl (lsame_tri (a := a) (b := b) hJ1) (.c (by ((repeat (first | exact .h | apply In1.n)); fail_if_success refine ?_)) (.c (by ((repeat (first | exact .h | apply In1.n)); fail_if_success refine ?_)) .e)) rfl ?_
          rintro v P' ⟨rfl, rfl⟩
          refine RUN ?_
          unfold R.detentlaw15_MutexPlays_s3
          refine RUN ?_
          exact lp_n (⟨i + 1, a, ms1, ts1⟩ : MpQ) ⟨by dsimp only; omega, hJ1⟩ (by dsimp only; omega) ⟨rfl, rfl, rfl, rfl, trivial⟩ (LEnt.of (.c (by ((repeat (first | exact .h | apply In1.n)); fail_if_success refine ?_)) (.c (by ((repeat (first | exact .h | apply In1.n)); fail_if_success refine ?_)) (.c (by ((repeat (first | exact .h | apply In1.n)); fail_if_success refine ?_)) .e))))
      rw [show decide ((op, m, t, n).fst = 1) = false from decide_eq_false o1]
      refine RUN ?_
      by_cases o2 : op = 2
      · rw [show decide ((op, m, t, n).fst = 2) = true from decide_eq_true o2]
        refine RUN ?_
        refine RP.c rfl (try_tri hJ.i m t) (.c (by ((repeat (first | exact .h | apply In1.n)); fail_if_success refine ?_)) .e) rfl ?_
        rintro v P' ⟨rfl, rfl⟩
        refine RUN ?_
        refine RP.c rfl (rmTryLock hL m t) (.c (by ((repeat (first | exact .h | apply In1.n)); fail_if_success refine ?_)) .e) rfl ?_
        rintro v P' ⟨rfl, rfl⟩
        have hE := try_eq hJ m t
        rw [hE.1]
        have hJ1 := hE.2
        clear hE
        dsimp only
        generalize tryF ms ts m t = R at *
        obtain ⟨⟨x, g⟩, ms1, ts1⟩ := R
        dsimp only at hJ1 ⊢
        cases x with
        | true =>
          refine RUN ?_
          rw [decide_eq_false (show ¬ ¬ g = g from fun h => h rfl)]
          refine RUN ?_
          unfold R.detentlaw15_MutexPlays_s2
          refine RUN ?_
          refine RP.c rfl (lsame_tri (a := a) (b := b) hJ1) (.c (by ((repeat (first | exact .h | apply In1.n)); fail_if_success refine ?_)) (.c (by ((repeat (first | exact .h | apply In1.n)); fail_if_success refine ?_)) .e)) rfl ?_
          rintro v P' ⟨rfl, rfl⟩
          refine RUN ?_
          unfold R.detentlaw15_MutexPlays_s3
          refine RUN ?_
          exact lp_n (⟨i + 1, a, ms1, ts1⟩ : MpQ) ⟨by dsimp only; omega, hJ1⟩ (by dsimp only; omega) ⟨rfl, rfl, rfl, rfl, trivial⟩ (LEnt.of (.c (by ((repeat (first | exact .h | apply In1.n)); fail_if_success refine ?_)) (.c (by ((repeat (first | exact .h | apply In1.n)); fail_if_success refine ?_)) (.c (by ((repeat (first | exact .h | apply In1.n)); fail_if_success refine ?_)) .e))))
        | false =>
          refine RUN ?_
          rw [decide_eq_false (show ¬ ¬ g = g from fun h => h rfl)]
          refine RUN ?_
          unfold R.detentlaw15_MutexPlays_s2
          refine RUN ?_
          refine RP.c rfl (lsame_tri (a := a) (b := b) hJ1) (.c (by ((repeat (first | exact .h | apply In1.n)); fail_if_success refine ?_)) (.c (by ((repeat (first | exact .h | apply In1.n)); fail_if_success refine ?_)) .e)) rfl ?_
          rintro v P' ⟨rfl, rfl⟩
          refine RUN ?_
          unfold R.detentlaw15_MutexPlays_s3
          refine RUN ?_
          exact lp_n (⟨i + 1, a, ms1, ts1⟩ : MpQ) ⟨by dsimp only; omega, hJ1⟩ (by dsimp only; omega) ⟨rfl, rfl, rfl, rfl, trivial⟩ (LEnt.of (.c (by ((repeat (first | exact .h | apply In1.n)); fail_if_success refine ?_)) (.c (by ((repeat (first | exact .h | apply In1.n)); fail_if_success refine ?_)) (.c (by ((repeat (first | exact .h | apply In1.n)); fail_if_success refine ?_)) .e))))
      rw [show decide ((op, m, t, n).fst = 2) = false from decide_eq_false o2]
      refine RUN ?_
      by_cases o3 : op = 3
      · rw [show decide ((op, m, t, n).fst = 3) = true from decide_eq_true o3]
        refine RUN ?_
        refine RP.c rfl (unl_tri hJ.i m t) (.c (by ((repeat (first | exact .h | apply In1.n)); fail_if_success refine ?_)) .e) rfl ?_
        rintro v P' ⟨rfl, rfl⟩
        refine RUN ?_
        refine RP.c rfl (rmUnlock hL m t) (.c (by ((repeat (first | exact .h | apply In1.n)); fail_if_success refine ?_)) .e) rfl ?_
        rintro v P' ⟨rfl, rfl⟩
        have hE := unl_eq hJ m t
        rw [hE.1]
        have hJ1 := hE.2
        clear hE
        dsimp only
        generalize unlF ms ts m t = R at *
        obtain ⟨⟨x, g⟩, ms1, ts1⟩ := R
        dsimp only at hJ1 ⊢
        refine RUN ?_
        rw [decide_eq_false (show ¬ ¬ x = x from fun h => h rfl)]
        refine RUN ?_
        rw [decide_eq_false (show ¬ ¬ g = g from fun h => h rfl)]
        refine RUN ?_
        unfold R.detentlaw15_MutexPlays_s2
        refine RUN ?_
        refine RP.c rfl (lsame_tri (a := a) (b := b) hJ1) (.c (by ((repeat (first | exact .h | apply In1.n)); fail_if_success refine ?_)) (.c (by ((repeat (first | exact .h | apply In1.n)); fail_if_success refine ?_)) .e)) rfl ?_
        rintro v P' ⟨rfl, rfl⟩
        refine RUN ?_
        unfold R.detentlaw15_MutexPlays_s3
        refine RUN ?_
        exact lp_n (⟨i + 1, a, ms1, ts1⟩ : MpQ) ⟨by dsimp only; omega, hJ1⟩ (by dsimp only; omega) ⟨rfl, rfl, rfl, rfl, trivial⟩ (LEnt.of (.c (by ((repeat (first | exact .h | apply In1.n)); fail_if_success refine ?_)) (.c (by ((repeat (first | exact .h | apply In1.n)); fail_if_success refine ?_)) (.c (by ((repeat (first | exact .h | apply In1.n)); fail_if_success refine ?_)) .e))))
      rw [show decide ((op, m, t, n).fst = 3) = false from decide_eq_false o3]
      refine RUN ?_
      by_cases o4 : op = 4
      · rw [show decide ((op, m, t, n).fst = 4) = true from decide_eq_true o4]
        refine RUN ?_
        refine RP.c rfl (setB_tri hJ.i t n) (.c (by ((repeat (first | exact .h | apply In1.n)); fail_if_success refine ?_)) .e) rfl ?_
        rintro v P' ⟨rfl, rfl⟩
        refine WK.wq (fun g _ _ => ⟨_, _, _, rfl, rfl, .inl ⟨rfl, _, rfl, by ((repeat (first | exact Ld.c rfl | exact Ld.r rfl | exact Ld.g (by assumption) | exact Ld.w (fun _ => by rfl) (by assumption) (by rfl) | exact Ld.a (by rfl) (fun _ => by rfl) (by assumption) (by rfl) | apply Ld.n)); fail_if_success refine ?_)⟩⟩) (fun p h => by cases h) ?_
        refine WK.wq (fun g _ _ => ⟨_, _, _, rfl, rfl, .inl ⟨rfl, _, rfl, by ((repeat (first | exact Ld.c rfl | exact Ld.r rfl | exact Ld.g (by assumption) | exact Ld.w (fun _ => by rfl) (by assumption) (by rfl) | exact Ld.a (by rfl) (fun _ => by rfl) (by assumption) (by rfl) | apply Ld.n)); fail_if_success refine ?_)⟩⟩) (fun p h => by cases h) (WK.z ?_)
        refine RUN ?_
        refine RP.c rfl (rmSetBase hL t n) (.c (by ((repeat (first | exact .h | apply In1.n)); fail_if_success refine ?_)) .e) rfl ?_
        rintro v P' ⟨rfl, rfl⟩
        have hE := setB_eq hJ t n
        rw [hE.1]
        have hJ1 := hE.2
        clear hE
        dsimp only
        generalize setBF ms ts t n = R at *
        obtain ⟨g, ms1, ts1⟩ := R
        dsimp only at hJ1 ⊢
        refine RUN ?_
        rw [decide_eq_false (show ¬ ¬ g = g from fun h => h rfl)]
        refine RUN ?_
        unfold R.detentlaw15_MutexPlays_s2
        refine RUN ?_
        refine RP.c rfl (lsame_tri (a := a) (b := b) hJ1) (.c (by ((repeat (first | exact .h | apply In1.n)); fail_if_success refine ?_)) (.c (by ((repeat (first | exact .h | apply In1.n)); fail_if_success refine ?_)) .e)) rfl ?_
        rintro v P' ⟨rfl, rfl⟩
        refine RUN ?_
        unfold R.detentlaw15_MutexPlays_s3
        refine RUN ?_
        exact lp_n (⟨i + 1, a, ms1, ts1⟩ : MpQ) ⟨by dsimp only; omega, hJ1⟩ (by dsimp only; omega) ⟨rfl, rfl, rfl, rfl, trivial⟩ (LEnt.of (.c (by ((repeat (first | exact .h | apply In1.n)); fail_if_success refine ?_)) (.c (by ((repeat (first | exact .h | apply In1.n)); fail_if_success refine ?_)) (.c (by ((repeat (first | exact .h | apply In1.n)); fail_if_success refine ?_)) .e))))
      rw [show decide ((op, m, t, n).fst = 4) = false from decide_eq_false o4]
      refine RUN ?_
      by_cases o5 : op = 5
      · rw [show decide ((op, m, t, n).fst = 5) = true from decide_eq_true o5]
        refine RUN ?_
        refine RP.c rfl (drop_tri hJ.i t) (.c (by ((repeat (first | exact .h | apply In1.n)); fail_if_success refine ?_)) .e) rfl ?_
        rintro v P' ⟨rfl, rfl⟩
        refine WK.wq (fun g _ _ => ⟨_, _, _, rfl, rfl, .inl ⟨rfl, _, rfl, by ((repeat (first | exact Ld.c rfl | exact Ld.r rfl | exact Ld.g (by assumption) | exact Ld.w (fun _ => by rfl) (by assumption) (by rfl) | exact Ld.a (by rfl) (fun _ => by rfl) (by assumption) (by rfl) | apply Ld.n)); fail_if_success refine ?_)⟩⟩) (fun p h => by cases h) (WK.z ?_)
        refine RUN ?_
        refine RP.c rfl (rmDrop hL t) (.c (by ((repeat (first | exact .h | apply In1.n)); fail_if_success refine ?_)) .e) rfl ?_
        rintro v P' ⟨rfl, rfl⟩
        have hE := drop_eq hJ t
        rw [hE.1]
        have hJ1 := hE.2
        clear hE
        dsimp only
        generalize dropF ms ts t = R at *
        obtain ⟨x, ms1, ts1⟩ := R
        dsimp only at hJ1 ⊢
        cases x with
        | true =>
          refine RUN ?_
          unfold R.detentlaw15_MutexPlays_s2
          refine RUN ?_
          refine RP.c rfl (lsame_tri (a := a) (b := b) hJ1) (.c (by ((repeat (first | exact .h | apply In1.n)); fail_if_success refine ?_)) (.c (by ((repeat (first | exact .h | apply In1.n)); fail_if_success refine ?_)) .e)) rfl ?_
          rintro v P' ⟨rfl, rfl⟩
          refine RUN ?_
          unfold R.detentlaw15_MutexPlays_s3
          refine RUN ?_
          exact lp_n (⟨i + 1, a, ms1, ts1⟩ : MpQ) ⟨by dsimp only; omega, hJ1⟩ (by dsimp only; omega) ⟨rfl, rfl, rfl, rfl, trivial⟩ (LEnt.of (.c (by ((repeat (first | exact .h | apply In1.n)); fail_if_success refine ?_)) (.c (by ((repeat (first | exact .h | apply In1.n)); fail_if_success refine ?_)) (.c (by ((repeat (first | exact .h | apply In1.n)); fail_if_success refine ?_)) .e))))
        | false =>
          refine RUN ?_
          unfold R.detentlaw15_MutexPlays_s2
          refine RUN ?_
          refine RP.c rfl (lsame_tri (a := a) (b := b) hJ1) (.c (by ((repeat (first | exact .h | apply In1.n)); fail_if_success refine ?_)) (.c (by ((repeat (first | exact .h | apply In1.n)); fail_if_success refine ?_)) .e)) rfl ?_
          rintro v P' ⟨rfl, rfl⟩
          refine RUN ?_
          unfold R.detentlaw15_MutexPlays_s3
          refine RUN ?_
          exact lp_n (⟨i + 1, a, ms1, ts1⟩ : MpQ) ⟨by dsimp only; omega, hJ1⟩ (by dsimp only; omega) ⟨rfl, rfl, rfl, rfl, trivial⟩ (LEnt.of (.c (by ((repeat (first | exact .h | apply In1.n)); fail_if_success refine ?_)) (.c (by ((repeat (first | exact .h | apply In1.n)); fail_if_success refine ?_)) (.c (by ((repeat (first | exact .h | apply In1.n)); fail_if_success refine ?_)) .e))))
      rw [show decide ((op, m, t, n).fst = 5) = false from decide_eq_false o5]
      refine RUN ?_
      by_cases o6 : op = 6
      · rw [show decide ((op, m, t, n).fst = 6) = true from decide_eq_true o6]
        refine RUN ?_
        refine RP.c rfl (free_tri hJ.i t) (.c (by ((repeat (first | exact .h | apply In1.n)); fail_if_success refine ?_)) .e) rfl ?_
        rintro v P' ⟨s1, rfl, rfl⟩
        refine WK.wq (fun g _ _ => ⟨_, _, _, rfl, rfl, .inl ⟨rfl, _, rfl, by ((repeat (first | exact Ld.c rfl | exact Ld.r rfl | exact Ld.g (by assumption) | exact Ld.w (fun _ => by rfl) (by assumption) (by rfl) | exact Ld.a (by rfl) (fun _ => by rfl) (by assumption) (by rfl) | apply Ld.n)); fail_if_success refine ?_)⟩⟩) (fun p h => by cases h) (WK.z ?_)
        refine RUN ?_
        refine RP.c rfl (rmFree hL t) (.c (by ((repeat (first | exact .h | apply In1.n)); fail_if_success refine ?_)) .e) rfl ?_
        rintro v P' ⟨s2, rfl, rfl⟩
        have hlen : (rfree (rfOf ms ts) t).2.length ≤ 1000 := by
          unfold rfree
          split
          · have h5 := (rfree_ok t (List.range (rfOf ms ts).ks.length) (rfOf ms ts, []) hL).2.2
            have h6 := hL.ks
            simp only [List.length_nil, List.length_range] at h5
            omega
          · simp
        have hE := free_eq hJ t
        rw [hE.1] at hlen ⊢
        have hJ1 := hE.2
        clear hE
        dsimp only at hlen ⊢
        generalize freeF ms ts t = R at *
        obtain ⟨⟨ms1, ts1⟩, out⟩ := R
        dsimp only at hJ1 hlen ⊢
        refine RUN ?_
        refine RP.c rfl (lSame s1 s2 out out hlen) (.c (by ((repeat (first | exact .h | apply In1.n)); fail_if_success refine ?_)) (.c (by ((repeat (first | exact .h | apply In1.n)); fail_if_success refine ?_)) .e)) rfl ?_
        rintro v P' ⟨hv, rfl⟩
        obtain rfl := hv rfl
        refine RUN ?_
        unfold R.detentlaw15_MutexPlays_s2
        refine RUN ?_
        refine RP.c rfl (lsame_tri (a := a) (b := b) hJ1) (.c (by ((repeat (first | exact .h | apply In1.n)); fail_if_success refine ?_)) (.c (by ((repeat (first | exact .h | apply In1.n)); fail_if_success refine ?_)) .e)) rfl ?_
        rintro v P' ⟨rfl, rfl⟩
        refine RUN ?_
        unfold R.detentlaw15_MutexPlays_s3
        refine RUN ?_
        exact lp_n (⟨i + 1, a, ms1, ts1⟩ : MpQ) ⟨by dsimp only; omega, hJ1⟩ (by dsimp only; omega) ⟨rfl, rfl, rfl, rfl, trivial⟩ (LEnt.of (.c (by ((repeat (first | exact .h | apply In1.n)); fail_if_success refine ?_)) (.c (by ((repeat (first | exact .h | apply In1.n)); fail_if_success refine ?_)) (.c (by ((repeat (first | exact .h | apply In1.n)); fail_if_success refine ?_)) .e))))
      rw [show decide ((op, m, t, n).fst = 6) = false from decide_eq_false o6]
      refine RUN ?_
      by_cases o7 : op = 7
      · rw [show decide ((op, m, t, n).fst = 7) = true from decide_eq_true o7]
        refine RUN ?_
        refine RP.c rfl (twin_tri hJ.i.v) (.c (by ((repeat (first | exact .h | apply In1.n)); fail_if_success refine ?_)) .e) rfl ?_
        rintro v P' ⟨a2, rfl, rfl⟩
        refine RUN ?_
        refine TC.loop (fun q : Nat × MS => 17 - q.1) (fun q => 1 ≤ q.1 ∧ q.1 ≤ 17 ∧ MJ q.2.1 q.2.2) (fun q => [(1, .s sl), (5, ptr a), (7, ptr b), (9, i64 i), (23, ptr a2), (24, i64 q.1)]) (fun q => [MxA a q.2.1 q.2.2, MxA a2 ms ts, RmA b (rfOf ms ts), ArgS tyA as_ sl]) (1, (ms, ts)) ⟨Nat.le_refl _, by dsimp only; omega, hJ⟩ ⟨rfl, rfl, rfl, rfl, rfl, rfl, trivial⟩ (LEnt.of (.c (by ((repeat (first | exact .h | apply In1.n)); fail_if_success refine ?_)) (.c (by ((repeat (first | exact .h | apply In1.n)); fail_if_success refine ?_)) (.c (by ((repeat (first | exact .h | apply In1.n)); fail_if_success refine ?_)) (.c (by ((repeat (first | exact .h | apply In1.n)); fail_if_success refine ?_)) .e))))) ?_
        rintro ⟨k, ms1, ts1⟩ ⟨hk1, hk2, hJ1⟩
        dsimp only at hk1 hk2 hJ1 ⊢
        refine RUN ?_
        refine TC.cP rfl (fun h5 => ?_) fun h5 => ?_
        · refine RUN ?_
          refine RP.c rfl (free_tri hJ1.i (k : Int)) (.c (by ((repeat (first | exact .h | apply In1.n)); fail_if_success refine ?_)) .e) rfl ?_
          rintro v P' ⟨s1, rfl, rfl⟩
          have hJ2 := (free_eq hJ1 (k : Int)).2
          generalize freeF ms1 ts1 (k : Int) = R at *
          obtain ⟨⟨ms2, ts2⟩, out⟩ := R
          dsimp only at hJ2 ⊢
          refine RUN ?_
          exact lp_n (k + 1, (ms2, ts2)) ⟨by dsimp only; omega, by dsimp only; omega, hJ2⟩ (by dsimp only; omega) ⟨rfl, rfl, rfl, rfl, rfl, rfl, trivial⟩ (LEnt.of (.c (by ((repeat (first | exact .h | apply In1.n)); fail_if_success refine ?_)) (.c (by ((repeat (first | exact .h | apply In1.n)); fail_if_success refine ?_)) (.c (by ((repeat (first | exact .h | apply In1.n)); fail_if_success refine ?_)) (.c (by ((repeat (first | exact .h | apply In1.n)); fail_if_success refine ?_)) .e)))))
        · refine RUN ?_
          unfold R.detentlaw15_MutexPlays_s2
          refine RUN ?_
          refine RP.c rfl (lsame_tri (a := a2) (b := b) hJ) (.c (by ((repeat (first | exact .h | apply In1.n)); fail_if_success refine ?_)) (.c (by ((repeat (first | exact .h | apply In1.n)); fail_if_success refine ?_)) .e)) rfl ?_
          rintro v P' ⟨rfl, rfl⟩
          refine RUN ?_
          unfold R.detentlaw15_MutexPlays_s3
          refine RUN ?_
          exact lp_n (⟨i + 1, a2, ms, ts⟩ : MpQ) ⟨by dsimp only; omega, hJ⟩ (by dsimp only; omega) ⟨rfl, rfl, rfl, rfl, trivial⟩ (LEnt.of (.c (by ((repeat (first | exact .h | apply In1.n)); fail_if_success refine ?_)) (.c (by ((repeat (first | exact .h | apply In1.n)); fail_if_success refine ?_)) (.c (by ((repeat (first | exact .h | apply In1.n)); fail_if_success refine ?_)) .e))))
      rw [show decide ((op, m, t, n).fst = 7) = false from decide_eq_false o7]
      refine RUN ?_
      unfold R.detentlaw15_MutexPlays_s2
      refine RUN ?_
      refine RP.c rfl (lsame_tri (a := a) (b := b) hJ) (.c (by ((repeat (first | exact .h | apply In1.n)); fail_if_success refine ?_)) (.c (by ((repeat (first | exact .h | apply In1.n)); fail_if_success refine ?_)) .e)) rfl ?_
      rintro v P' ⟨rfl, rfl⟩
      refine RUN ?_
      unfold R.detentlaw15_MutexPlays_s3
      refine RUN ?_
      exact lp_n (⟨i + 1, a, ms, ts⟩ : MpQ) ⟨by dsimp only; omega, hJ⟩ (by dsimp only; omega) ⟨rfl, rfl, rfl, rfl, trivial⟩ (LEnt.of (.c (by ((repeat (first | exact .h | apply In1.n)); fail_if_success refine ?_)) (.c (by ((repeat (first | exact .h | apply In1.n)); fail_if_success refine ?_)) (.c (by ((repeat (first | exact .h | apply In1.n)); fail_if_success refine ?_)) .e))))
    · refine RUN ?_
      exact rt_r rfl rfl (LEnt.refl _)
end Go.AM

/-
  FROM A LAW IN THE ABSTRACT MACHINE TO ITS STATEMENT's ROW, whatever its arguments are.
-/
namespace Go.AM
open Go.RowKit Go.ChangeShapes Go.WideShapes
theorem R2_of_all {α β : Type} {R : α → β → Prop} {f : α → β → Bool} (h : ∀ a b, f a b = true → R a b) : ∀ {ya : List α} {bs : List β}, ya.length = bs.length → ((ya.zip bs).all fun p => f p.1 p.2) = true → R2 R ya bs
  | [], [], _, _ => trivial
  | a :: ya, b :: bs, hl, hx => by
    simp only [List.zip_cons_cons, List.all_cons, Bool.and_eq_true] at hx
    exact ⟨h a b hx.1, R2_of_all h (by simpa using hl) hx.2⟩
  | [], _ :: _, hl, _ => by simp at hl
  | _ :: _, [], hl, _ => by simp at hl
theorem trodAll_stays {H : Type} {enc : TypeId × Value → H} {P : Program} (hl : laidOutB P = true) {W W' : World} {sp : Nat → Bool} : ∀ {ts : List TypeId} {vs : List Value} {ds : List (DataW H)} {ps : List MemPlace}, (ts.all fun t => P.readableRec t && decide (t < P.types.size)) = true → DataW.TrodAll enc P W 0 (fun _ => true) true ts vs ds ps → (∀ p ∈ ps, W.sameAt W' p) → (∀ p ∈ ps, sp p.block = true) → DataW.TrodAll enc P W' 0 sp true ts vs ds ps
  | [], vs, ds, ps, _, hA, _, _ => by
    obtain ⟨rfl, rfl, rfl⟩ := trodAll_nil hA
    exact trodAll_mk0
  | t :: ts, vs, ds, ps, hr, hA, hs, hsp => by
    simp only [List.all_cons, Bool.and_eq_true, decide_eq_true_eq] at hr
    obtain ⟨v, vs, d, ds, p, q, rfl, rfl, rfl, h0, h1⟩ := trodAll_cons hA
    exact trodAll_cons_mk (WideElems.Trod_stays hl hr.1.1 hr.1.2 h0 (fun x hx => hs x (by simp [hx])) fun x hx => hsp x (by simp [hx])) (trodAll_stays hl hr.2 h1 (fun x hx => hs x (by simp [hx])) fun x hx => hsp x (by simp [hx]))
theorem law_walk2 {P : Program} {tab : Nat → Option RFunc} {ext : Nat → List AV → AH → Option (AV × AH)} (hext : ∀ B w0, CallsOk P [] B w0 ext) (hfr : FrmOk ext) (hnx : NextOk ext) (htab : TabOk P [] tab) (hmix : P.follows .mixedOrders = true) {f : Nat} {args : List AV} {H0 : AH} {φ0 : Phi} {w : World} {cargs : Array Value}
    (hH : HRel w.heap.size w φ0 H0 w) (hargs : R2 (AVRel φ0) args cargs.toList) (h : CallP tab ext f args H0 fun v _ => v = .s (.bool true)) :
    Calls P f cargs w fun e w' => e = .returned (.bool true) ∧ GrownU w w' ∧ ∀ k, k < w.heap.size → w'.heap[k]? = w.heap[k]? := by
  obtain ⟨n, v, H', h1, rfl⟩ := h
  have hs := run_sound (G := []) (B := w.heap.size) (w0 := w) htab (hext _ _) hfr hnx hmix n
  refine (hs f args H0 _ H' h1 φ0 w cargs hH (fun _ hn => by cases hn) hargs).2.mono ?_
  rintro e w' ⟨φ', cv, rfl, _, h2, h3⟩
  have : cv = .bool true := h3
  subst this
  exact ⟨rfl, h2.grown, h2.old⟩
section
variable {C : Checked} {tab : Nat → Option RFunc} {f : FuncId} {fn : Func} {s : ChangeSpec}
theorem law_liftedX {ext : Nat → List AV → AH → Option (AV × AH)} (hext : ∀ B w0, CallsOk C.prog [] B w0 ext) (hfr : FrmOk ext) (hnx : NextOk ext) (tys : List Ty) (N : Nat) (bt : TypeId)
    (own : ownKnob C.prog.godebug = none) (htab : TabOk C.prog [] tab) (hmix : C.prog.follows .mixedOrders = true) (hlaid : laidOutB C.prog = true)
    (noInit : C.prog.inits.idxOf? f = none) (hfn : C.prog.funcs[f]? = some fn)
    (hread : (fn.params.toList.all fun t => C.prog.readableRec t && decide (t < C.prog.types.size)) = true)
    (hlen : tys.length = fn.params.toList.length) (hfit : ((tys.zip fn.params.toList).all fun p => fits C.prog p.1 p.2) = true)
    (hN : (tys.all Ty.good && decide ((tys.map Ty.cnt).sum ≤ N)) = true)
    (hres : fn.resultTypes = #[bt]) (hbt : C.prog.underlying bt = some .bool)
    (hvars : s.vars = []) (hspec : ∀ (H : Type) (ds : List (DataW H)), ds.length = tys.length → s.fn H ds = { results := [.lit (.bool true)], args := ds })
    (walk : ∀ H avs, WF H → H.next = N → ArgsAt H.blk tys avs → CallP tab ext f avs H fun v _ => v = .s (.bool true))
    (os : Os) (started : os.Started) (H : Type) (enc : TypeId × Value → H)
    (witness : ∃ (w : World) (tape : Tape) (i : Input), w.os = os ∧ (w.forCall tape i).Shaped C.prog ∧ i.vars = [] ∧ Input.okWide C.prog (w.forCall tape i) .any w.heap.size f i ∧
      s.pre6 enc C.prog fn [] false (w.forCall tape i).memory i.args ∧ ({} : Assume).holds C.prog (lone (Frame.enter C.prog f i.args .normal) [] (w.forCall tape i))) :
    ReturnsInHanded {} C os f .any (s.pre6 enc C.prog fn [] false) (s.post enc C.prog fn false true false false) := by
  refine returnsInHanded_of_change (C := C) own started noInit hfn witness ?_
  intro W base args ds gs before hval hW hcnd _
  have hW' := hW
  obtain ⟨p, q, hA, hV, rfl, hfz, hnd⟩ := hW
  rw [hvars] at hV
  obtain ⟨rfl, rfl⟩ := trodVars_none hV
  simp only [List.append_nil] at hW' hfz hnd
  have hfit' : R2 (fun ty t => fits C.prog ty t = true) tys fn.params.toList := R2_of_all (fun _ _ h => h) hlen hfit
  obtain ⟨M, avs, h1, h2, h3, h4⟩ := opens_args (L := []) hfit' (fun j t v ht hv => hval j t v (by simpa using ht) (by simpa using hv)) hA (fun e he => by cases he)
  simp only [List.nil_append] at h1 h2 h3
  simp only [Bool.and_eq_true, decide_eq_true_eq] at hN
  have hML : M.length ≤ N := Nat.le_trans (h4 hN.1) hN.2
  have hrel := roH_rel h1
  have hrel' : HRel W.heap.size W (roPhi M) ⟨roF M, N⟩ W := { hrel with lt := fun b hb => hrel.lt b (Nat.le_trans hML hb) }
  have hwf : WF ⟨roF M, N⟩ := fun b hb => hrel.lt b (Nat.le_trans hML hb)
  have hdl : ds.length = tys.length := by
    have key : ∀ {ts : List TypeId} {vs : List Value} {ds : List (DataW H)} {ps : List MemPlace}, DataW.TrodAll enc C.prog W 0 (fun _ => true) true ts vs ds ps → ds.length = ts.length := by
      intro ts
      induction ts with
      | nil => intro vs ds ps h; obtain ⟨_, rfl, _⟩ := trodAll_nil h; rfl
      | cons t ts ih => intro vs ds ps h; obtain ⟨v, vs, d, ds, p, q, rfl, rfl, rfl, _, hr⟩ := trodAll_cons h; simp [ih hr]
    rw [key hA, hlen]
  have hsp : s.fn H (ds ++ []) = { results := [.lit (.bool true)], args := ds } := by rw [List.append_nil]; exact hspec H ds hdl
  refine (law_walk2 hext hfr hnx htab hmix hrel' h2 (walk _ avs hwf rfl h3)).mono fun e W' ⟨he, hg, hold⟩ => ?_
  subst he
  have hlt : ∀ x ∈ p, x.block < W.heap.size := fun x hx => hW'.lt x hx
  have hsame : ∀ x ∈ p, W.sameAt W' x := fun x hx => by
    cases x with
    | cell b o => exact World.cell?_of_block (w := W) (hold b (hlt _ hx))
    | map b => exact hold b (hlt _ hx)
  refine ⟨_, rfl, post_of_same0 (pa := p) (pv := []) hW' (fun b sp hd => ?_) (fun sp hsp' => ?_) (fun _ _ => ?_) (by simp) hg⟩
  · rw [hsp, hres]
    exact trodAll_cons_mk (shut_bool hbt _) trodAll_mk0
  · rw [hsp]
    exact trodAll_stays hlaid hread hA hsame hsp'
  · rw [hvars, hsp]
    rfl
end
end Go.AM

/-
  slices.Insert of one number: what the abstract machine takes it for is what the model's does.
-/
namespace Go.AM
open Go.Proofs Go.Shelf Go.RowKit
variable {P : Program} {G : List Nat} {B : Nat} {w0 : World} {φ : Phi} {H H' : AH} {w : World}
theorem HRel.row (hH : HRel B w0 φ H w) {b id : Nat} {l new : List SV} (hb : H.blk b = some (.cells false l)) {cb sh cs : Nat} (hφ : φ b = some (cb, sh, cs)) (hid : id < H.next)
    (hn : (H.set b .dead).new id (.cells false new) = some H') {o : Nat} {w' : World} {c2 : Array Value} {e2 : TypeId} (h2 : w'.heap[cb]? = some (.cells c2 e2 (0, 0))) (hs : c2.size = cs) (hfit : sh + o + new.length ≤ cs)
    (hr : ∀ (i : Nat) (x : SV), new[i]? = some x → ∃ v, c2[sh + o + i]? = some v ∧ SVRel φ x v) (hget : ∀ x, x ≠ cb → w'.heap[x]? = w.heap[x]?) (hsz : w'.heap.size = w.heap.size) (hos : w'.os = w.os) (hout : w'.output = w.output) :
    ∃ φ', Ext φ φ' ∧ φ' id = some (cb, sh + o, cs) ∧ HRel B w0 φ' H' w' := by
  obtain ⟨cb', sh', cs', c, e, fr, h1, _, _, _, _, h6⟩ := hH.cells b false l hb
  rw [hφ] at h1
  cases h1
  obtain ⟨_, hB⟩ := h6 rfl
  have hk := hH.kill (b := b) (by rw [hb]; simp)
  unfold AH.new at hn
  split at hn
  · rename_i hidn
    cases hn
    have hφid : φ id = none := hk.dom id hidn
    have hne : id ≠ b := by intro hc; subst hc; rw [hφ] at hφid; cases hφid
    have hext : Ext φ (fun x => if x = id then some (cb, sh + o, cs) else φ x) := by
      intro x y hx
      by_cases hxi : x = id
      · subst hxi; rw [hφid] at hx; cases hx
      · simp [hxi, hx]
    refine ⟨fun x => if x = id then some (cb, sh + o, cs) else φ x, hext, by simp, ?_⟩
    have hoth : ∀ b', b' ≠ b → H.blk b' ≠ some .dead → ∀ x, φ b' = some x → x.1 ≠ cb := by
      intro b' hne' hd x hx heq
      rcases hH.inj b' b x _ hx hφ hd (by rw [hb]; simp) heq with h | ⟨_, _, _, hy⟩
      · exact hne' h
      · rw [hb] at hy; cases hy
    refine { dom := ?_, lt := ?_, cells := ?_, maps := ?_, inj := ?_, old := ?_, bound := by rw [hsz]; exact hH.bound, os := hos.trans hH.os, out := hout.trans hH.out, nf := ?_ }
    · intro b' hb'
      simp only [AH.set, upd] at hb'
      split at hb'
      · cases hb'
      · rename_i hne'
        split at hb'
        · cases hb'
        · simp [hne', hH.dom b' hb']
    · intro b' hb'
      simp only [AH.set, upd] at hb' ⊢
      rw [if_neg (by omega)]
      split
      · rename_i hc; subst hc; rw [hH.lt _ hb'] at hb; cases hb
      · exact hH.lt b' hb'
    · intro b' ro' l'' hb'
      simp only [AH.set, upd] at hb'
      split at hb'
      · rename_i heq
        cases hb'
        exact ⟨cb, sh + o, cs, c2, e2, (0, 0), by simp [heq], h2, hs, hfit, fun i x hx => by obtain ⟨v, hv, hrv⟩ := hr i x hx; exact ⟨v, hv, hrv.mono hext⟩, fun _ => ⟨rfl, hB⟩⟩
      · rename_i hne'
        split at hb'
        · cases hb'
        · rename_i hneb
          obtain ⟨cb', sh', cs', c', e', fr', g1, g2, g3, g4, g5, g6⟩ := hH.cells b' ro' l'' hb'
          have hcb : cb' ≠ cb := hoth b' hneb (by rw [hb']; simp) _ g1
          exact ⟨cb', sh', cs', c', e', fr', by simp [hne', g1], by rw [hget _ hcb]; exact g2, g3, g4, fun i x hx => by obtain ⟨v, hv, hrv⟩ := g5 i x hx; exact ⟨v, hv, hrv.mono hext⟩, g6⟩
    · intro b' es hb'
      simp only [AH.set, upd] at hb'
      split at hb'
      · cases hb'
      · rename_i hne'
        split at hb'
        · cases hb'
        · rename_i hneb
          obtain ⟨cb', sh', cs', ces, clk, g1, g2, g3, g4⟩ := hH.maps b' es hb'
          have hcb : cb' ≠ cb := hoth b' hneb (by rw [hb']; simp) _ g1
          exact ⟨cb', sh', cs', ces, clk, by simp [hne', g1], by rw [hget _ hcb]; exact g2, R2.mono (fun _ _ hp => ⟨hp.1.mono hext, hp.2.mono hext⟩) g3, g4⟩
    · intro b1 b2 x1 x2 hx1 hx2 hd1 hd2 hxe
      simp only [AH.set, upd] at hd1 hd2 ⊢
      by_cases e1 : b1 = id
      · by_cases e2 : b2 = id
        · exact .inl (e1.trans e2.symm)
        · simp only [e1, if_true] at hx1
          simp only [e2, if_false] at hx2
          cases hx1
          exfalso
          rw [if_neg e2] at hd2
          split at hd2
          · exact hd2 rfl
          · rename_i hneb
            exact hoth b2 hneb hd2 _ hx2 hxe.symm
      · by_cases e2 : b2 = id
        · simp only [e2, if_true] at hx2
          simp only [e1, if_false] at hx1
          cases hx2
          exfalso
          rw [if_neg e1] at hd1
          split at hd1
          · exact hd1 rfl
          · rename_i hneb
            exact hoth b1 hneb hd1 _ hx1 hxe
        · simp only [e1, e2, if_false] at hx1 hx2 hd1 hd2 ⊢
          split at hd1
          · exact absurd rfl hd1
          · rename_i n1
            split at hd2
            · exact absurd rfl hd2
            · rename_i n2
              simp only [if_neg n1, if_neg n2]
              exact hH.inj b1 b2 x1 x2 hx1 hx2 hd1 hd2 hxe
    · intro c' hc'
      rw [hget _ (by omega)]
      exact hH.old c' hc'
    · exact fun _ _ _ _ _ _ => rfl
  · cases hn
def setN (c : Array Value) : Nat → List Value → Array Value
  | _, [] => c
  | o, v :: vs => setN (c.setIfInBounds o v) (o + 1) vs
theorem setN_size : ∀ (vs : List Value) (o : Nat) (c : Array Value), (setN c o vs).size = c.size
  | [], _, _ => rfl
  | v :: vs, o, c => by rw [setN, setN_size vs]; simp
theorem setN_get : ∀ (vs : List Value) (o : Nat) (c : Array Value) (j : Nat), o + vs.length ≤ c.size → (setN c o vs)[j]? = if o ≤ j ∧ j < o + vs.length then vs[j - o]? else c[j]?
  | [], o, c, j, _ => by rw [setN, if_neg (by simp)]
  | v :: vs, o, c, j, h => by
    rw [List.length_cons] at h
    rw [setN, setN_get vs (o + 1) _ j (by simp; omega), Array.getElem?_setIfInBounds]
    by_cases h1 : o + 1 ≤ j ∧ j < o + 1 + vs.length
    · rw [if_pos h1, if_pos (by rw [List.length_cons]; omega), show j - o = (j - (o + 1)) + 1 by omega, List.getElem?_cons_succ]
    · rw [if_neg h1]
      by_cases h2 : o = j
      · subst h2
        rw [if_pos rfl, if_pos (by omega), if_pos (by rw [List.length_cons]; omega), Nat.sub_self]; rfl
      · rw [if_neg h2, if_neg (by rw [List.length_cons]; omega)]
theorem setCells_heap (b : Nat) {e : TypeId} {fr : Nat × Nat} : ∀ (vs : List Value) (o : Nat) (w : World) (c : Array Value), w.heap[b]? = some (.cells c e fr) →
    (w.setCells b o vs).heap[b]? = some (.cells (setN c o vs) e fr) ∧ (∀ x, x ≠ b → (w.setCells b o vs).heap[x]? = w.heap[x]?) ∧ (w.setCells b o vs).heap.size = w.heap.size ∧ (w.setCells b o vs).os = w.os ∧ (w.setCells b o vs).output = w.output
  | [], o, w, c, h => ⟨h, fun _ _ => rfl, rfl, rfl, rfl⟩
  | v :: vs, o, w, c, h => by
    have h1 : (w.setCell ⟨b, o, none⟩ v).heap[b]? = some (.cells (c.setIfInBounds o v) e fr) := by
      simp [World.setCell, Array.getElem?_modify, h]
    obtain ⟨g1, g2, g3, g4, g5⟩ := setCells_heap b vs (o + 1) (w.setCell ⟨b, o, none⟩ v) _ h1
    refine ⟨g1, fun x hx => ?_, ?_, g4, g5⟩
    · rw [World.setCells, g2 x hx]
      simp [World.setCell, Array.getElem?_modify, Ne.symm hx]
    · rw [World.setCells, g3]
      simp [World.setCell]
theorem setXY {H : AH} {x y : Nat} (h : x ≠ y) (X Y : Blk) : (H.set x X).set y Y = (H.set y Y).set x X := by
  unfold AH.set
  congr 1
  funext c
  simp only [upd]
  by_cases h1 : c = y
  · rw [if_pos h1, if_neg (fun hc => h (hc.symm.trans h1)), if_pos h1]
  · rw [if_neg h1]
    by_cases h2 : c = x
    · rw [if_pos h2, if_pos h2]
    · rw [if_neg h2, if_neg h2, if_neg h1]
theorem insI_cases {args : List AV} {v : AV} (h : insI args H = some (v, H')) : ∃ a len c e i xb xo xc lx x, args = [.s (.slice a len c e), .s (.int .i64 i), .s (.slice (some (xb, xo)) 1 xc 1)] ∧ H.blk xb = some (.cells false lx) ∧ lx[xo]? = some x ∧
    ((a = none ∧ i = 0 ∧ v = .s (.slice (some (H.next, 0)) 1 1 1) ∧ (H.bump 1).new H.next (.cells false [x]) = some H') ∨
     ∃ b o l, a = some (b, o) ∧ H.blk b = some (.cells false l) ∧ (xb ≠ b ∧ e = 1 ∧ 0 ≤ i ∧ i ≤ (len : Int) ∧ o + len ≤ l.length ∧ (len + 1) * 8 ≤ 70368744177664) ∧ v = .s (.slice (some (H.next, 0)) (len + 1) (len + 1) 1) ∧
       ((H.bump 1).set b .dead).new H.next (.cells false ((l.drop o).take i.toNat ++ (x :: ((l.drop o).take len).drop i.toNat))) = some H') := by
  unfold insI at h
  split at h
  · rename_i a len c e i xb xo xc
    split at h
    · rename_i lx hx
      simp only [Option.bind_eq_some_iff] at h
      obtain ⟨x, hxo, h⟩ := h
      refine ⟨a, len, c, e, i, xb, xo, xc, lx, x, rfl, hx, hxo, ?_⟩
      split at h
      · split at h
        · rename_i h0
          simp only [Option.map_eq_some_iff, Prod.mk.injEq] at h
          obtain ⟨H1, h1, rfl, rfl⟩ := h
          exact .inl ⟨rfl, h0, rfl, h1⟩
        · cases h
      · rename_i b o
        split at h
        · rename_i l hb
          split at h
          · rename_i hc
            simp only [Option.map_eq_some_iff, Prod.mk.injEq] at h
            obtain ⟨H1, h1, rfl, rfl⟩ := h
            exact .inr ⟨b, o, l, rfl, hb, hc, rfl, h1⟩
          · cases h
        · cases h
    · cases h
  · cases h
theorem new_set {id x : Nat} {X Y : Blk} (hne : id ≠ x) (h : H.new id Y = some H') : (H.set x X).new id Y = some (H'.set x X) := by
  unfold AH.new at *
  split at h
  · rename_i hn
    cases h
    have : (H.set x X).blk id = none := by rw [set_blk, if_neg hne]; exact hn
    rw [this]
    exact congrArg some (setXY (Ne.symm hne) X Y)
  · cases h
theorem mext_next : NextOk mext := fun f args H v H' h => by
  unfold mext at h
  split at h
  · obtain ⟨a, len, c, e, i, xb, xo, xc, lx, x, rfl, hx, hxo, h⟩ := insI_cases h
    rcases h with ⟨_, _, _, h⟩ | ⟨b, o, l, _, _, _, _, h⟩
    · rw [new_next h]; simp
    · rw [new_next h]; simp
  · cases h
theorem mext_frame : FrmOk mext := fun f args H v H' y X h hy hlt => by
  unfold mext at *
  split at h
  · rename_i hf
    rw [if_pos hf]
    obtain ⟨a, len, c, e, i, xb, xo, xc, lx, x, rfl, hx, hxo, hq⟩ := insI_cases h
    have hxy : xb ≠ y := fun hc => by rw [hc, hy] at hx; cases hx
    have hx' : (H.set y X).blk xb = some (.cells false lx) := by rw [set_blk, if_neg hxy]; exact hx
    have hnid : H.next ≠ y := by omega
    clear h
    rcases hq with ⟨rfl, h0, rfl, h⟩ | ⟨b, o, l, rfl, hb, hc, rfl, h⟩
    · have h2 := new_set (X := X) hnid h
      refine ⟨?_, ?_⟩
      · simp only [insI, hx', hxo, Option.bind_some]
        rw [if_pos h0]
        show Option.map _ (((H.bump 1).set y X).new H.next _) = _
        rw [h2]; rfl
      · unfold AH.new at h
        split at h
        · cases h; simp only [set_blk]; rw [if_neg (Ne.symm hnid)]; exact hy
        · cases h
    · have hby : b ≠ y := fun hc => by rw [hc, hy] at hb; cases hb
      have hb' : (H.set y X).blk b = some (.cells false l) := by rw [set_blk, if_neg hby]; exact hb
      have h2 := new_set (X := X) hnid h
      refine ⟨?_, ?_⟩
      · simp only [insI, hx', hxo, Option.bind_some, hb']
        rw [if_pos hc]
        show Option.map _ ((((H.bump 1).set y X).set b .dead).new H.next _) = _
        rw [setXY (Ne.symm hby) X .dead, h2]; rfl
      · unfold AH.new at h
        split at h
        · cases h; simp only [set_blk]; rw [if_neg (Ne.symm hnid), if_neg (Ne.symm hby)]; exact hy
        · cases h
  · cases h
theorem cellAt {b : Nat} {l : List SV} {ro : Bool} (hH : HRel B w0 φ H w) (hb : H.blk b = some (.cells ro l)) : ∃ cb sh cs c e fr, φ b = some (cb, sh, cs) ∧ w.heap[cb]? = some (.cells c e fr) ∧ c.size = cs ∧ sh + l.length ≤ cs ∧ (∀ i x, l[i]? = some x → ∃ v, c[sh + i]? = some v ∧ SVRel φ x v) ∧ (ro = false → fr = (0, 0) ∧ B ≤ cb) := hH.cells b ro l hb
theorem frozenAt {cb i : Nat} {c : Array Value} {e : TypeId} (h : w.heap[cb]? = some (.cells c e (0, 0))) : w.frozen? ⟨cb, i, none⟩ = false := by
  unfold World.frozen?; rw [h]; simp
theorem mext_calls {ρ : Ren} (L : Lays2.n21 P ρ) (hρ : ρ.f 21 = F.slices_Insert__int_int) : CallsOk P G B w0 mext := by
  intro f args H v H' h φ w cargs hH _ hargs
  unfold mext at h
  split at h
  · rename_i hf
    subst hf
    refine ⟨⟨_, hρ ▸ L.f21, by kernel_rfl, by kernel_rfl⟩, ?_⟩
    obtain ⟨a, len, c, e, i, xb, xo, xc, lx, x, rfl, hx, hxo, hq⟩ := insI_cases h
    clear h
    obtain ⟨ca, hca⟩ : ∃ ca, cargs = ca := ⟨_, rfl⟩
    match hl : cargs.toList, hargs with
    | [v0, v1, v2], hargs =>
      have hcargs : cargs = #[v0, v1, v2] := by apply Array.ext'; simpa using hl
      subst hcargs
      obtain ⟨h0, h1, h2, _⟩ := hargs
      have h1 : v1 = .int .i64 i := h1
      subst h1
      obtain ⟨_, hxc, xcb, xsh, xcs, z2, c2, k1, k2, k3, k4⟩ := h2
      obtain ⟨xcb', xsh', xcs', cx, ex, frx, j1, j2, j3, j4, j5, j6⟩ := cellAt hH hx
      rw [k1] at j1
      cases j1
      obtain ⟨hfrx, hBx⟩ := j6 rfl
      subst hfrx
      obtain ⟨hz2, hfit2, _⟩ := k4 (by omega)
      have hz2 : z2 = ⟨xcb, xsh + xo, none⟩ := hz2
      subst hz2
      subst k3
      obtain ⟨xv, hxv, hxr⟩ := j5 xo x hxo
      have hxcell : w.cell? ⟨xcb, xsh + xo, none⟩ = some xv := by rw [cell?_of j2]; exact hxv
      have hxvs : ∀ j u, [xv][j]? = some u → w.cell? ⟨xcb, xsh + xo + j, none⟩ = some u := by
        intro j u hj
        cases j with
        | zero => simp at hj; subst hj; simpa using hxcell
        | succ j => simp at hj
      have hx1 := hxr.oneCell
      have hx1' : ∀ u ∈ [xv], u.oneCell' = true := by intro u hu; simp at hu; subst hu; exact hx1
      have zc : ∀ n, (Builtin.zeroCells (Value.int .i64 0).cells n).size = n := by intro n; simp [Builtin.zeroCells, Value.cells]
      have hge : ∀ n c, n ≤ grownCap w n c (ρ.t 3) := fun n c => grownCap_ge w n c _
      have hle : ∀ n c, n ≤ 70368744177664 → grownCap w n c (ρ.t 3) ≤ 9223372036854775807 := fun n c hn => by
        have := grownCap_le_maxLen w n c (ρ.t 3) (by simp only [maxLen]; omega)
        simpa [maxLen] using this
      rcases hq with ⟨rfl, rfl, rfl, hnew⟩ | ⟨b, o, l, rfl, hb, ⟨hne, rfl, hi0, hil, hol, hbig⟩, rfl, hnew⟩
      · obtain ⟨rfl, rfl, rfl⟩ := slice_none h0
        have hcall := Any2.slices_Insert_int_end_grow L none 0 0 xcb (xsh + xo) 1 c2 [] [xv] w (by omega) (by omega) (by omega) (by omega) rfl rfl (fun _ => rfl) (fun a ha => by cases ha) hxvs hx1'
        rw [hρ] at hcall
        refine hcall.mono ?_
        rintro e' w' ⟨rfl, rfl⟩
        obtain ⟨φ', g1, g2, g3⟩ := (hH.bump 1).new hnew (by simp) (c := ([] ++ [xv]).toArray ++ Builtin.zeroCells (Value.int .i64 0).cells (grownCap w (0 + 1) 0 (ρ.t 3) - (0 + 1))) (by simp)
          (fun j y hy => by
            cases j with
            | zero => simp at hy; subst hy; exact ⟨xv, by rw [Array.getElem?_append_left (by simp)]; rfl, hxr⟩
            | succ j => simp at hy) (ρ.t 3) (w.drew.alloc (.cells (([] ++ [xv]).toArray ++ Builtin.zeroCells (Value.int .i64 0).cells (grownCap w (0 + 1) 0 (ρ.t 3) - (0 + 1))) (ρ.t 3))) rfl rfl rfl
        have hg := hge (0 + 1) 0
        refine ⟨φ', _, rfl, g1, g3, ⟨by omega, Nat.le_refl _, w.heap.size, 0, _, _, _, g2, by omega, rfl, fun _ => ⟨rfl, ?_, hle _ _ (by omega)⟩⟩⟩
        simp only [Array.size_append, List.size_toArray, zc, List.nil_append, List.length_singleton]
        omega
      · obtain ⟨_, hlc, cb, sh, cs, z, c', q3, q4, q5, q6⟩ := slice_of h0
        subst q5
        obtain ⟨cb', sh', cs', c0, e0, fr0, p1, p2, p3, p4, p5, p6⟩ := cellAt hH hb
        rw [q3] at p1
        cases p1
        obtain ⟨hfr0, hB0⟩ := p6 rfl
        subst hfr0
        obtain ⟨k, rfl⟩ : ∃ k : Nat, i = k := ⟨i.toNat, by omega⟩
        have hk : k ≤ len := by omega
        rw [Int.toNat_natCast] at hnew
        obtain ⟨csl, hcsl⟩ : ∃ csl, csl = (c0.toList.drop (sh + o)).take len := ⟨_, rfl⟩
        have hcl : csl.length = len := by rw [hcsl]; simp; omega
        have hcg : ∀ j, j < len → csl[j]? = c0[sh + o + j]? := by
          intro j hj
          rw [hcsl, List.getElem?_take, if_pos hj, List.getElem?_drop, Array.getElem?_toList]
        have hR : R2 (SVRel φ) ((l.drop o).take len) csl := by
          refine R2.of_get (by rw [hcl, List.length_take, List.length_drop]; omega) fun j y u hy hu => ?_
          have hj : j < len := by have := (List.getElem?_eq_some_iff.1 hu).1; omega
          rw [List.getElem?_take, if_pos hj, List.getElem?_drop] at hy
          obtain ⟨u', g1, g2⟩ := p5 (o + j) y hy
          rw [hcg j hj, Nat.add_assoc, g1] at hu
          cases hu; exact g2
        have h1c : ∀ u ∈ csl, u.oneCell' = true := hR.oneCell
        have hN : R2 (SVRel φ) ((l.drop o).take k ++ (x :: ((l.drop o).take len).drop k)) (csl.take k ++ (xv :: csl.drop k)) := by
          have h3 := R2.take k hR
          rw [List.take_take, Nat.min_eq_left hk] at h3
          exact R2.append h3 ⟨hxr, R2.drop k hR⟩
        have hNl : ((l.drop o).take k ++ (x :: ((l.drop o).take len).drop k)).length = len + 1 := by
          rw [hN.length]; simp [hcl]; omega
        have hvals : ∀ j, j < len + 1 → (csl.take k ++ (xv :: csl.drop k))[j]? = if j < k then csl[j]? else if j = k then some xv else csl[j - 1]? := by
          intro j hj
          rw [List.getElem?_append, List.length_take, Nat.min_eq_left (by omega)]
          split
          · rename_i h3; rw [List.getElem?_take, if_pos h3]
          · rename_i h3
            split
            · rename_i h4; subst h4; simp
            · rename_i h4
              rw [show j - k = (j - k - 1) + 1 by omega, List.getElem?_cons_succ, List.getElem?_drop, show k + (j - k - 1) = j - 1 by omega]
        have hneb : xcb ≠ cb := by
          intro hc
          rcases hH.inj xb b _ _ k1 q3 (by rw [hx]; simp) (by rw [hb]; simp) hc with h3 | ⟨_, _, h3, _⟩
          · exact hne h3
          · rw [hx] at h3; cases h3
        by_cases room : len + 1 ≤ c'
        · obtain ⟨hz, hfit, hcm⟩ := q6 (by omega)
          subst hz
          have fin : ∀ (w' : World) (c3 : Array Value), w'.heap[cb]? = some (.cells c3 e0 (0, 0)) → c3.size = c0.size → (∀ j, j < len + 1 → c3[sh + o + j]? = (csl.take k ++ (xv :: csl.drop k))[j]?) → (∀ y, y ≠ cb → w'.heap[y]? = w.heap[y]?) → w'.heap.size = w.heap.size → w'.os = w.os → w'.output = w.output →
              ∃ φ' cv, Ending.returned (Value.slice (some ⟨cb, sh + o, none⟩) (len + 1) c') = .returned cv ∧ Ext φ φ' ∧ HRel B w0 φ' H' w' ∧ AVRel φ' (.s (.slice (some (H.next, 0)) (len + 1) (len + 1) 1)) cv := by
            intro w' c3 r1 r2 r3 r4 r5 r6 r7
            obtain ⟨φ', g1, g2, g3⟩ := (hH.bump 1).row (id := H.next) hb q3 (by simp) hnew (o := o) r1 (by rw [r2, p3]) (by rw [hNl]; omega) (fun j y hy => by
              have hj : j < len + 1 := by have := (List.getElem?_eq_some_iff.1 hy).1; omega
              obtain ⟨u, g1, g2⟩ := hN.get j y hy
              exact ⟨u, by rw [r3 j hj]; exact g1, g2⟩) r4 r5 r6 r7
            exact ⟨φ', _, rfl, g1, g3, by omega, Nat.le_refl _, cb, sh + o, cs, _, c', g2, room, rfl, fun _ => ⟨rfl, by omega, hcm⟩⟩
          by_cases hkl : k < len
          · have hcall := Any2.slices_Insert_int_shift L cb (sh + o) len c' k xcb (xsh + xo) 1 c2 csl [xv] w hkl (by omega) room hcm hneb hcl rfl
              (fun j u hj => by
                have hj' : j < len := by have := (List.getElem?_eq_some_iff.1 hj).1; omega
                rw [cell?_of p2, ← hcg j hj']; exact hj)
              (fun j hj => by rw [cell?_of p2, Array.getElem?_eq_getElem (by omega)]; rfl) (fun j hj => frozenAt p2) hxvs h1c hx1' ex e0 cx.size c0.size
              (by unfold World.shape?; rw [j2]) (by unfold World.shape?; rw [p2]) (by omega) (frozenAt j2) (frozenAt j2)
            rw [hρ] at hcall
            refine hcall.mono ?_
            rintro e' w' ⟨rfl, rfl⟩
            obtain ⟨a1, a2, a3, a4, a5⟩ := setCells_heap cb (csl.drop k) (sh + o + (k + 1)) w.drew c0 p2
            obtain ⟨b1, b2, b3, b4, b5⟩ := setCells_heap cb [xv] (sh + o + k) _ _ a1
            refine fin _ _ b1 (by rw [setN_size, setN_size]) (fun j hj => ?_) (fun y hy => (b2 y hy).trans (a2 y hy)) (b3.trans a3) (b4.trans a4) (b5.trans a5)
            have hdl : (csl.drop k).length = len - k := by rw [List.length_drop, hcl]
            rw [setN_get _ _ _ _ (by rw [setN_size]; simp; omega), setN_get _ _ _ _ (by rw [hdl]; omega), hvals j hj]
            by_cases g1 : j < k
            · rw [if_neg (by simp; omega), if_neg (by rw [hdl]; omega), if_pos g1, hcg j (by omega)]
            · rw [if_neg g1]
              by_cases g2 : j = k
              · subst g2
                rw [if_pos (by simp), if_pos rfl]; simp
              · rw [if_neg (by simp; omega), if_neg g2, if_pos (by rw [hdl]; omega), List.getElem?_drop]
                congr 1; omega
          · have hke : k = len := by omega
            subst hke
            have hcall := Any2.slices_Insert_int_end_room L cb (sh + o) k c' xcb (xsh + xo) 1 c2 [xv] w (by omega) room hcm rfl
              (fun j hj => by rw [cell?_of p2, Array.getElem?_eq_getElem (by omega)]; rfl) (fun j hj => frozenAt p2) hxvs hx1'
            rw [hρ] at hcall
            refine hcall.mono ?_
            rintro e' w' ⟨rfl, rfl⟩
            obtain ⟨b1, b2, b3, b4, b5⟩ := setCells_heap cb [xv] (sh + o + k) w c0 p2
            refine fin _ _ b1 (by rw [setN_size]) (fun j hj => ?_) b2 b3 b4 b5
            rw [setN_get _ _ _ _ (by simp; omega), hvals j hj]
            by_cases g1 : j < k
            · rw [if_neg (by simp; omega), if_pos g1, hcg j g1]
            · rw [if_neg g1, if_pos (by simp; omega), if_pos (by omega), show sh + o + j - (sh + o + k) = 0 by omega]; rfl
        · have hcl' : c' = len := by omega
          subst hcl'
          have hk2 := (hH.kill (b := b) (by rw [hb]; simp)).bump 1
          have hnew' : ((H.set b .dead).bump 1).new H.next (.cells false ((l.drop o).take k ++ (x :: ((l.drop o).take c').drop k))) = some H' := hnew
          have fin : ∀ (w' : World) (gc : Nat) (c3 : Array Value) (e3 : TypeId), w'.heap = w.heap.push (.cells c3 e3 (0, 0)) → c3.size = gc → c' + 1 ≤ gc → gc ≤ 9223372036854775807 → (∀ j, j < c' + 1 → c3[j]? = (csl.take k ++ (xv :: csl.drop k))[j]?) → w'.os = w.os → w'.output = w.output →
              ∃ φ' cv, Ending.returned (Value.slice (some ⟨w.heap.size, 0, none⟩) (c' + 1) gc) = .returned cv ∧ Ext φ φ' ∧ HRel B w0 φ' H' w' ∧ AVRel φ' (.s (.slice (some (H.next, 0)) (c' + 1) (c' + 1) 1)) cv := by
            intro w' gc c3 e3 r1 r2 r3 r4 r5 r6 r7
            obtain ⟨φ', g1, g2, g3⟩ := hk2.new hnew' (by simp [AH.set]) (c := c3) (by rw [hNl]; omega) (fun j y hy => by
              have hj : j < c' + 1 := by have := (List.getElem?_eq_some_iff.1 hy).1; omega
              obtain ⟨u, g1, g2⟩ := hN.get j y hy
              exact ⟨u, by rw [r5 j hj]; exact g1, g2⟩) e3 w' r1 r6 r7
            exact ⟨φ', _, rfl, g1, g3, by omega, Nat.le_refl _, w.heap.size, 0, _, _, gc, g2, r3, rfl, fun _ => ⟨rfl, by omega, r4⟩⟩
          have hg := hge (c' + 1) c'
          have hl2 := hle (c' + 1) c' (by omega)
          by_cases hkl : k < c'
          · obtain ⟨hz, hfit, hcm⟩ := q6 (by omega)
            subst hz
            have hcall := Any2.slices_Insert_int_grow L cb (sh + o) c' c' k xcb (xsh + xo) 1 c2 csl [xv] w hkl (by omega) (Nat.le_refl _) (by omega) (by omega) hcl rfl
              (fun j u hj => by
                have hj' : j < c' := by have := (List.getElem?_eq_some_iff.1 hj).1; omega
                rw [cell?_of p2, ← hcg j hj']; exact hj) hxvs h1c hx1'
            rw [hρ] at hcall
            refine hcall.mono ?_
            rintro e' w' ⟨rfl, rfl⟩
            obtain ⟨A, hA⟩ : ∃ A, A = (csl.take k).toArray ++ Builtin.zeroCells (Value.int .i64 0).cells (c' + 1 - k) ++ Builtin.zeroCells (Value.int .i64 0).cells (grownCap w (c' + 1) c' (ρ.t 3) - (c' + 1)) := ⟨_, rfl⟩
            have hAs : A.size = grownCap w (c' + 1) c' (ρ.t 3) := by
              rw [hA]; simp only [Array.size_append, List.size_toArray, List.length_take, hcl, zc]; omega
            have hAg : ∀ j, j < k → A[j]? = csl[j]? := by
              intro j hj
              rw [hA, Array.append_assoc, Array.getElem?_append_left (by simp [hcl]; omega)]
              simp [hj]
            rw [← hA]
            have hW : (w.alloc (.cells A (ρ.t 3))).drew.heap[w.heap.size]? = some (.cells A (ρ.t 3) (0, 0)) := by
              show (w.heap.push _)[w.heap.size]? = _
              simp
            obtain ⟨a1, a2, a3, a4, a5⟩ := setCells_heap w.heap.size [xv] k _ _ hW
            obtain ⟨b1, b2, b3, b4, b5⟩ := setCells_heap w.heap.size (csl.drop k) (k + 1) ((w.alloc (.cells A (ρ.t 3))).drew.setCells w.heap.size k [xv]).drew _ a1
            have hdl : (csl.drop k).length = c' - k := by rw [List.length_drop, hcl]
            refine fin _ _ (setN (setN A k [xv]) (k + 1) (csl.drop k)) (ρ.t 3) ?_ (by rw [setN_size, setN_size, hAs]) hg hl2 (fun j hj => ?_) (b4.trans a4) (b5.trans a5)
            · apply Array.ext_getElem?
              intro y
              by_cases h3 : y = w.heap.size
              · subst h3
                rw [b1]; simp
              · rw [b2 y h3]
                have e9 := a2 y h3
                show ((w.alloc (.cells A (ρ.t 3))).drew.setCells w.heap.size k [xv]).heap[y]? = _
                rw [e9]
                show (w.heap.push _)[y]? = _
                rw [Array.getElem?_push, Array.getElem?_push, if_neg h3, if_neg h3]
            · rw [setN_get _ _ _ _ (by rw [setN_size, hdl, hAs]; omega), setN_get _ _ _ _ (by rw [hAs]; simp; omega), hvals j hj]
              by_cases g1 : j < k
              · rw [if_neg (by omega), if_neg (by simp; omega), if_pos g1, hAg j g1]
              · rw [if_neg g1]
                by_cases g2 : j = k
                · subst g2
                  rw [if_neg (by omega), if_pos (by simp), if_pos rfl]; simp
                · rw [if_neg g2, if_pos (by rw [hdl]; omega), List.getElem?_drop]
                  congr 1; omega
          · have hke : k = c' := by omega
            subst hke
            have hcall := Any2.slices_Insert_int_end_grow L (some z) k k xcb (xsh + xo) 1 c2 csl [xv] w (by omega) (Nat.le_refl _) (by omega) (by omega) hcl rfl (fun hc => by cases hc)
              (fun a ha j u hj => by
                cases ha
                have hj' : j < k := by have := (List.getElem?_eq_some_iff.1 hj).1; omega
                obtain ⟨hz, _, _⟩ := q6 (by omega)
                rw [hz, add_eq, cell?_of p2, ← Nat.add_assoc, ← hcg j hj']; exact hj) hxvs hx1'
            rw [hρ] at hcall
            refine hcall.mono ?_
            rintro e' w' ⟨rfl, rfl⟩
            refine fin _ _ ((csl ++ [xv]).toArray ++ Builtin.zeroCells (Value.int .i64 0).cells (grownCap w (k + 1) k (ρ.t 3) - (k + 1))) (ρ.t 3) rfl ?_ hg hl2 (fun j hj => ?_) rfl rfl
            · simp only [Array.size_append, List.size_toArray, List.length_append, hcl, zc, List.length_singleton]; omega
            · rw [Array.getElem?_append_left (by simp [hcl]; omega), List.take_of_length_le (by omega), List.drop_eq_nil_of_le (by omega)]
              simp
    | [], hargs => exact hargs.elim
    | [_], hargs => exact hargs.2.elim
    | [_, _], hargs => exact hargs.2.2.elim
    | _ :: _ :: _ :: _ :: _, hargs => exact hargs.2.2.2.elim
  · cases h
end Go.AM

/-
  slices.Insert stands in this program.
-/
namespace Go.AM
open Go.Proofs Go.Shelf
def insRen : Ren := ⟨fun x => if x = 21 then 63 else if x = 27 then 71 else if x = 28 then 72 else if x = 35 then 73 else if x = 39 then 74 else x, fun t => if t = 22 then 39 else t, fun x => x⟩
theorem laysIns : Lays2.n21 Try.prog insRen where
  mixed := by kernel_rfl
  f21 := by kernel_rfl
  f27 := by kernel_rfl
  f28 := by kernel_rfl
  f35 := by kernel_rfl
  f39 := by kernel_rfl
  t0 := by kernel_rfl
  a0 := Try.isAgg0
  z0 := Try.sizeOf0
  v0 := Try.zeroValue0
  t3 := by kernel_rfl
  a3 := Try.isAgg3
  z3 := Try.sizeOf3
  v3 := Try.zeroValue3
  t4 := by kernel_rfl
  a4 := Try.isAgg4
  z4 := Try.sizeOf4
  v4 := Try.zeroValue4
  t22 := by kernel_rfl
  a22 := Try.isAgg39
  z22 := Try.sizeOf39
  v22 := Try.zeroValue39
  i3 := by kernel_rfl
theorem mext_ok (B : Nat) (w0 : World) : CallsOk Try.prog [] B w0 mext := mext_calls laysIns rfl
end Go.AM

/-
  MutexPlays in the abstract machine.
-/
namespace Go.AM
theorem R2.mapl {α β γ : Type} {R : α → γ → Prop} {S : β → γ → Prop} (g : α → β) (h : ∀ x y, R x y → S (g x) y) : ∀ {xs : List α} {ys : List γ}, R2 R xs ys → R2 S (xs.map g) ys
  | [], [], _ => trivial
  | _ :: _, _ :: _, hx => ⟨h _ _ hx.1, R2.mapl g h hx.2⟩
  | [], _ :: _, hx => hx.elim
  | _ :: _, [], hx => hx.elim
theorem at_map {f : HF} {a b : Ty} (g : a.den → b.den) (hs : a.size = b.size) (h : ∀ x l, At f a x l → At f b (g x) l) {xs : List a.den} {s : SV} (hx : At f (.slice a) xs [s]) : At f (.slice b) (xs.map g) [s] := by
  obtain ⟨s', e, h2⟩ := hx
  refine ⟨s', e, ?_⟩
  rcases h2 with ⟨o, rfl, rfl⟩ | ⟨b', c, j, ls, rfl, hb, h3, h4, h5⟩
  · exact .inl ⟨o, by rw [hs], rfl⟩
  · exact .inr ⟨b', c, j, ls, by rw [List.length_map, hs], hb, by rw [List.length_map]; exact h3, by rw [← hs]; exact h4, R2.mapl g h h5⟩
abbrev tyK1 : Ty := .pair (.int .i64) (.pair (.int .i64) .unit)
abbrev tyA1 : Ty := .pair (.int .i64) (.pair (.int .i64) (.pair (.int .i64) (.pair (.int .i64) .unit)))
theorem MutexPlays_abs (H : AH) (hw : WF H) (_hn : H.next = 2) (avs : List AV) (ha : ArgsAt H.blk [.slice tyK1, .slice tyA1] avs) : CallP tab mext F.detentlaw15_MutexPlays avs H fun v _ => v = bl true := by
  obtain ⟨ks, sk, vs, rfl, hs, ha1⟩ := ha.slice
  obtain ⟨as_, sl, vs2, rfl, hs2, ha2⟩ := ha1.slice
  obtain rfl := ha2.nil'
  have h1 := at_map (a := tyK1) (b := tyK) (fun x => (x.1, x.2.1)) rfl (fun x l h => by
    obtain ⟨l1, l2, rfl, h1, l3, l4, rfl, h2, h3⟩ := h
    rw [show l4 = [] from h3, List.append_nil]
    exact ⟨l1, l3, rfl, h1, h2⟩) hs
  have h2 := at_map (a := tyA1) (b := tyA) (fun x => (x.1, x.2.1, x.2.2.1, x.2.2.2.1)) rfl (fun x l h => by
    obtain ⟨l1, l2, rfl, h1, l3, l4, rfl, h2, l5, l6, rfl, h3, l7, l8, rfl, h4, h5⟩ := h
    rw [show l8 = [] from h5, List.append_nil]
    exact ⟨l1, _, rfl, h1, l3, _, rfl, h2, l5, l7, rfl, h3, h4⟩) hs2
  exact (MutexPlays_tri _ _ sk sl).use (ρ := H.blk) (R := []) (Sat.mkArg h1 (Sat.mkArg h2 (Sat.nil hw fun _ _ h => h))) fun v H' P' h _ => h
end Go.AM
