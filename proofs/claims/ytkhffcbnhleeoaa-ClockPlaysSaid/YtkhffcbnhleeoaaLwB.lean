/-
  The law TimerFull, in the abstract machine.
-/
import Derived.Test.YtkhffcbnhleeoaaLwA
namespace Go.AM
attribute [local simp] AH.ld AH.ldn AH.stn AH.new Nat.add_assoc resA resA1 fillA buildA slSlA boundsA boundA callvP

theorem known7_at0 : CallP tab noExt F.detentlaw7_known [] ((H00.bump 1).bump 2) fun v _ => v = bl true :=
  CallP_eval 50 (by kernel_rfl)

theorem takeWhile_all {α : Type} (p : α → Bool) : ∀ (l : List α), (∀ x ∈ l, p x = true) → l.takeWhile p = l
  | [], _ => rfl
  | x :: l, h => by rw [List.takeWhile_cons, if_pos (h x (by simp)), takeWhile_all p l fun y hy => h y (by simp [hy])]
theorem dropWhile_all {α : Type} (p : α → Bool) : ∀ (l : List α), (∀ x ∈ l, p x = true) → l.dropWhile p = []
  | [], _ => rfl
  | x :: l, h => by rw [List.dropWhile_cons, if_pos (h x (by simp)), dropWhile_all p l fun y hy => h y (by simp [hy])]

/-- So many entries of one time. -/
def sameL (a : Int) (n : Nat) : List Ent := (List.range n).map fun (i : Nat) => ⟨a, (i : Int) + 1, (i : Int)⟩

theorem sameL_len (a : Int) (n : Nat) : (sameL a n).length = n := by simp [sameL]

theorem sameL_ins (a : Int) (n : Nat) : insE ⟨a, (n : Int) + 1, n⟩ (sameL a n) = sameL a (n + 1) := by
  have h : ∀ x ∈ sameL a n, aheadB x ⟨a, (n : Int) + 1, n⟩ = true := by
    intro x hx
    simp only [sameL, List.mem_map, List.mem_range] at hx
    obtain ⟨i, hi, rfl⟩ := hx
    rw [ahead_iff]; simp; omega
  unfold insE
  rw [takeWhile_all _ _ h, dropWhile_all _ _ h]
  simp [sameL, List.range_succ]

theorem sameL_due (a : Int) (n : Nat) : dueL (sameL a n) a = sameL a n := by
  unfold dueL
  refine takeWhile_all _ _ ?_
  intro x hx
  simp only [sameL, List.mem_map, List.mem_range] at hx
  obtain ⟨i, hi, rfl⟩ := hx
  simp

theorem sameL_to (a : Int) (n : Nat) : toL (sameL a n) a = [] := by
  unfold toL
  refine dropWhile_all _ _ ?_
  intro x hx
  simp only [sameL, List.mem_map, List.mem_range] at hx
  obtain ⟨i, hi, rfl⟩ := hx
  simp

theorem sameL_due_no (a b : Int) (n : Nat) (h : b < a) : dueL (sameL a n) b = [] ∧ toL (sameL a n) b = sameL a n := by
  cases n with
  | zero => exact ⟨rfl, rfl⟩
  | succ n =>
    have : sameL a (n + 1) = ⟨a, 1, 0⟩ :: ((List.range n).map Nat.succ).map fun (i : Nat) => ⟨a, (i : Int) + 1, i⟩ := by simp [sameL, List.range_succ_eq_map]
    have hb : ¬ a ≤ b := by omega
    constructor
    · rw [this]; simp [dueL, hb]
    · rw [this]; simp [toL, hb]

theorem sameL_arg (a : Int) (n : Nat) : (sameL a n).map Ent.arg = (List.range n).map fun (i : Nat) => (i : Int) := by simp [sameL]

theorem full_s3 (a : Int) (t : Nat) (s : SV) (S : List Nat) (T : List AV) (H : AH) (hT : T.length = 103) (s0 : sl T 0 = u64 a) (s5 : sl T 5 = ptr t) (s12 : sl T 12 = .s s) (hlen : lenA (.s s) = some (i64 256)) (hwf : WF H) (htm : Tm H t [] 256 S) :
    wpC tab noExt R.detentlaw7_TimerFull_s3 T H (retK [.tmp 4] fun v _ => v = bl true) := by
  rw [detentlaw7_TimerFull_s3_at hT]
  simp [s0, s5, s12]
  refine (Insert_spec (H.bump 8) (hwf.bump _) t [] 256 S (htm.frame (by (first | (simp; done) | omega | (simp <;> omega))) fun _ _ => rfl) a 7 (by simp) (by omega)).mono_wf tab_wf noExt_wf noExt_next (hwf.bump _) ?_
  rintro v H3 hw3 _ ⟨rfl, _⟩
  simp [hlen]

theorem full_s4 (a over : Int) (ha : 0 ≤ a ∧ a < 18446744073709551616) (t : Nat) (S : List Nat) (T : List AV) (H : AH) (hT : T.length = 103) (s0 : sl T 0 = u64 a) (s5 : sl T 5 = ptr t) (hwf : WF H) (htm : Tm H t (sameL a 256) 256 S) :
    wpC tab noExt R.detentlaw7_TimerFull_s4 T H (retK [.tmp 4] fun v _ => v = bl true) := by
  rw [detentlaw7_TimerFull_s4_at hT]
  have tail : ∀ (T1 : List AV) (H1 : AH), T1.length = 103 → sl T1 0 = u64 a → sl T1 5 = ptr t → ∀ s So, sl T1 12 = .s s → sl T1 13 = i64 0 → WF H1 → Tm H1 t [] 256 S → RowAt encI 1 H1 s ((List.range 256).map fun (i : Nat) => (i : Int)) So →
      loopP tab noExt R.detentlaw7_TimerFull_l2 T1 H1 (blockK 4 (seqK (fun T H => wpC tab noExt R.detentlaw7_TimerFull_s3 T H (retK [.tmp 4] fun v _ => v = bl true)) (retK [.tmp 4] fun v _ => v = bl true))) := by
    intro T1 H1 hT1 t0 t5 s So t12 t13 hw1 htm1 hro
    have hlen := hro.len
    simp at hlen
    refine loopP_inv (I := fun m T H => T.length = 103 ∧ sl T 0 = u64 a ∧ sl T 5 = ptr t ∧ sl T 12 = .s s ∧ ∃ i : Nat, sl T 13 = i64 i ∧ i ≤ 256 ∧ m = 256 - i ∧ WF H ∧ Tm H t [] 256 S ∧ RowAt encI 1 H s ((List.range 256).map fun (i : Nat) => (i : Int)) So) ?_ 256 _ _ ⟨hT1, t0, t5, t12, 0, t13, by omega, rfl, hw1, htm1, hro⟩
    intro m T H ⟨hT, s0, s5, s12, i, s13, hi, hm, hwf, htm, hro⟩
    rw [detentlaw7_TimerFull_l2_at hT]
    by_cases hlt : i < 256
    · have hro' := hro
      rcases hro' with ⟨_, _, hno, _⟩ | ⟨b, c, j, rfl, rfl, h3, hb, h5, h6⟩
      · simp at hno
      have hlt' : (i : Int) < 256 := by omega
      have hfl : (flat encI ((List.range 256).map fun (i : Nat) => (i : Int)) ++ j)[i]? = some (.int .i64 i) := by
        have g1 := flat_ldn encI_len ((List.range 256).map fun (i : Nat) => (i : Int)) j i (by simp; omega)
        have : (((flat encI ((List.range 256).map fun (i : Nat) => (i : Int)) ++ j).drop (i * 1)).take 1)[0]? = some (.int .i64 i) := by
          rw [g1]; simp [encI]
        rw [List.getElem?_take, if_pos (by omega), List.getElem?_drop] at this
        simpa using this
      have w : IntKind.i64.wrap ((i : Int) + 1) = (i : Int) + 1 := wrap_i64 (by omega) (by omega)
      generalize hfl2 : flat encI ((List.range 256).map fun (i : Nat) => (i : Int)) ++ j = fl at *
      generalize hrow : ((List.range 256).map fun (i : Nat) => (i : Int)) = row at *
      have hrl : row.length = 256 := by rw [← hrow]; simp
      simp [s0, s5, s12, s13, hrl, hlt', hb, hfl, w]
      rw [hrl] at hro
      refine ⟨256 - (i + 1), by omega, rfl, rfl, rfl, i + 1, by simp [sl], by omega, rfl, ((hwf.bump _).bump _).bump _, htm.frame (by (first | (simp; done) | omega | (simp <;> omega))) fun _ _ => rfl, hro.frame (by (first | (simp; done) | omega | (simp <;> omega))) fun _ _ => rfl⟩
    · have hie : i = 256 := by omega
      subst hie
      simp [s0, s5, s12, s13, hlen]
      exact full_s3 a t s S _ _ rfl rfl rfl rfl hlen (hwf.bump _) (htm.frame (by (first | (simp; done) | omega | (simp <;> omega))) fun _ _ => rfl)
  by_cases ha0 : 0 < a
  · have w : IntKind.u64.wrap (a - 1) = a - 1 := wrap_u64 (by omega) (by omega)
    simp [s0, s5, ha0, w]
    obtain ⟨hd1, hd2⟩ := sameL_due_no a (a - 1) 256 (by omega)
    refine (Due_spec (H.bump 10) (hwf.bump _) t (sameL a 256) 256 S (htm.frame (by (first | (simp; done) | omega | (simp <;> omega))) fun _ _ => rfl) (a - 1)).mono_wf tab_wf noExt_wf noExt_next (hwf.bump _) ?_
    rintro v H2 hw2 _ ⟨s, So, rfl, hro, htm2, _, _⟩
    rw [hd1] at hro
    rw [hd2] at htm2
    have hlen := hro.len
    simp at hlen
    simp [hlen]
    refine (Due_spec (H2.bump 4) (hw2.bump _) t (sameL a 256) 256 S (htm2.frame (by (first | (simp; done) | omega | (simp <;> omega))) fun _ _ => rfl) a).mono_wf tab_wf noExt_wf noExt_next (hw2.bump _) ?_
    rintro v H3 hw3 _ ⟨s, So, rfl, hro, htm3, _, _⟩
    rw [sameL_due, sameL_arg] at hro
    rw [sameL_to] at htm3
    exact tail _ _ rfl rfl rfl s So rfl rfl (hw3.bump _) (htm3.frame (by (first | (simp; done) | omega | (simp <;> omega))) fun _ _ => rfl) (hro.frame (by (first | (simp; done) | omega | (simp <;> omega))) fun _ _ => rfl)
  · simp [s0, s5, ha0]
    refine (Due_spec ((H.bump 10).bump 4) ((hwf.bump _).bump _) t (sameL a 256) 256 S (htm.frame (by (first | (simp; done) | omega | (simp <;> omega))) fun _ _ => rfl) a).mono_wf tab_wf noExt_wf noExt_next ((hwf.bump _).bump _) ?_
    rintro v H3 hw3 _ ⟨s, So, rfl, hro, htm3, _, _⟩
    rw [sameL_due, sameL_arg] at hro
    rw [sameL_to] at htm3
    exact tail _ _ rfl rfl rfl s So rfl rfl (hw3.bump _) (htm3.frame (by (first | (simp; done) | omega | (simp <;> omega))) fun _ _ => rfl) (hro.frame (by (first | (simp; done) | omega | (simp <;> omega))) fun _ _ => rfl)

theorem full_s5 (a over : Int) (ha : 0 ≤ a ∧ a < 18446744073709551616) (ho : 0 ≤ over ∧ over ≤ 20) (t : Nat) (S : List Nat) (T : List AV) (H : AH) (hT : T.length = 103) (s0 : sl T 0 = u64 a) (s1 : sl T 1 = i64 over) (s5 : sl T 5 = ptr t) (hwf : WF H) (htm : Tm H t (sameL a 256) 256 S) :
    wpC tab noExt R.detentlaw7_TimerFull_s5 T H (retK [.tmp 4] fun v _ => v = bl true) := by
  rw [detentlaw7_TimerFull_s5_at hT]
  refine loopP_inv (I := fun m T H => T.length = 103 ∧ sl T 0 = u64 a ∧ sl T 1 = i64 over ∧ sl T 5 = ptr t ∧ ∃ i : Int, sl T 9 = i64 i ∧ 0 ≤ i ∧ i ≤ over ∧ (m : Int) = over - i ∧ WF H ∧ Tm H t (sameL a 256) 256 S) ?_ over.toNat _ _ ⟨rfl, s0, s1, s5, 0, rfl, by omega, by omega, by omega, hwf.bump _, htm.frame (by (first | (simp; done) | omega | (simp <;> omega))) fun _ _ => rfl⟩
  intro m T H ⟨hT, s0, s1, s5, i, s9, hi0, hi, hm, hwf, htm⟩
  rw [detentlaw7_TimerFull_l1_at hT]
  by_cases hlt : i < over
  · simp [s0, s1, s5, s9, hlt]
    refine (Insert_no ((H.bump 3).bump 8) ((hwf.bump _).bump _) t (sameL a 256) 256 S (htm.frame (by (first | (simp; done) | omega | (simp <;> omega))) fun _ _ => rfl) a 0 (by rw [sameL_len]; omega)).mono_wf tab_wf noExt_wf noExt_next ((hwf.bump _).bump _) ?_
    rintro v H3 hw3 _ ⟨rfl, hs⟩
    have htm3 := hs.tm (htm.frame (H' := (H.bump 3).bump 8) (by (first | (simp; done) | omega | (simp <;> omega))) fun _ _ => rfl)
    have w : IntKind.i64.wrap (i + 1) = i + 1 := wrap_i64 (by omega) (by omega)
    simp [w]
    exact ⟨m - 1, by omega, rfl, rfl, rfl, i + 1, rfl, by omega, by omega, by omega, (hw3.bump _).bump _, htm3.frame (by (first | (simp; done) | omega | (simp <;> omega))) fun _ _ => rfl⟩
  · simp [s0, s1, s5, s9, hlt]
    exact full_s4 a over ha t S _ _ rfl rfl rfl (hwf.bump _) (htm.frame (by (first | (simp; done) | omega | (simp <;> omega))) fun _ _ => rfl)

theorem TimerFull_abs (a over : Int) (ha : 0 ≤ a ∧ a < 18446744073709551616) :
    CallP tab noExt F.detentlaw7_TimerFull [u64 a, i64 over] H00 fun v _ => v = bl true := by
  apply detentlaw7_TimerFull_call
  refine known7_at0.mono_wf tab_wf noExt_wf noExt_next ((WF_H00.bump _).bump _) ?_
  rintro v H1 hw1 _ rfl
  simp
  by_cases g1 : over < 0
  · simp [g1]
  by_cases g2 : 20 < over
  · simp [g1, g2]
  simp [g1, g2]
  refine (New_spec _ ((hw1.bump _).bump _)).mono_wf tab_wf noExt_wf noExt_next ((hw1.bump _).bump _) ?_
  rintro v H2 hw2 _ ⟨t, S, rfl, htm, _, _⟩
  refine loopP_inv (I := fun m T H => T.length = 103 ∧ sl T 0 = u64 a ∧ sl T 1 = i64 over ∧ sl T 5 = ptr t ∧ ∃ i : Nat, sl T 6 = i64 i ∧ i ≤ 256 ∧ m = 256 - i ∧ WF H ∧ ∃ S, Tm H t (sameL a i) i S) ?_ 256 _ _ ⟨rfl, rfl, rfl, rfl, 0, rfl, by omega, rfl, hw2.bump _, S, htm.frame (by (first | (simp; done) | omega | (simp <;> omega))) fun _ _ => rfl⟩
  intro m T H ⟨hT, s0, s1, s5, i, s6, hi, hm, hwf, S, htm⟩
  rw [detentlaw7_TimerFull_l0_at hT]
  by_cases hlt : i < 256
  · have hlt' : (i : Int) < 256 := by omega
    simp [s0, s1, s5, s6, hlt']
    refine (Insert_spec ((H.bump 2).bump 9) ((hwf.bump _).bump _) t (sameL a i) i S (htm.frame (by (first | (simp; done) | omega | (simp <;> omega))) fun _ _ => rfl) a i (by rw [sameL_len]; omega) (by omega)).mono_wf tab_wf noExt_wf noExt_next ((hwf.bump _).bump _) ?_
    rintro v H3 hw3 _ ⟨rfl, S', htm3, _⟩
    rw [sameL_ins] at htm3
    have w : IntKind.i64.wrap ((i : Int) + 1) = (i : Int) + 1 := wrap_i64 (by omega) (by omega)
    simp [w]
    exact ⟨256 - (i + 1), by omega, rfl, rfl, rfl, i + 1, by simp [sl], by omega, rfl, (hw3.bump _).bump _, S', (htm3.frame (by (first | (simp; done) | omega | (simp <;> omega))) fun _ _ => rfl : Tm ((H3.bump 8).bump 3) t (sameL a (i + 1)) ((i : Int) + 1) S')⟩
  · have hie : i = 256 := by omega
    subst hie
    simp [s0, s1, s5, s6]
    exact full_s5 a over ha (by omega) t S _ _ rfl rfl rfl rfl (hwf.bump _) (htm.frame (by (first | (simp; done) | omega | (simp <;> omega))) fun _ _ => rfl)

end Go.AM
