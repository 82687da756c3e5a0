/-
  heap: find.
-/
import Derived.Test.YtkhffcbnhleeoaaHpB
namespace Go.AM
attribute [local simp] AH.ld AH.ldn AH.stn AH.new Nat.add_assoc resA resA1 fillA buildA slSlA boundsA boundA callvP

theorem find1_spec (H : AH) (hw : WF H) (x : Nat) (h : Int) (hx : x < H.next) (hb : H.blk x = some (.cells false [.int .i64 h])) (e : Ent) :
    CallP tab noExt F.heap_Timers_find_1 [.agg (encE e), ptr x] H fun v H' => v = bl (decide (e.handle = h)) ∧ Same H H' := by
  apply heap_Timers_find_1_call
  have n1 : ∀ m, ¬ H.next + m = x := fun m => by omega
  have n2 : ∀ m, ¬ x = H.next + m := fun m => by omega
  have hf := hw.free
  have hf0 := hf 0
  have n3 : ¬ x = H.next := by omega
  simp at hf0
  simp [hb, encE, hf, hf0, n1, n2, n3]
  (repeat (first | assumption | exact Same.refl _ | exact But.refl _ _ | refine Same.bump ?_ _ | refine Same.set ?_ (by first | omega | (simp <;> omega)) _ | refine But.bump ?_ _ | refine But.set ?_ (by simp) _ | refine But.set ?_ (by first | omega | (simp <;> omega)) _ | refine WF.bump ?_ _ | refine WF.set ?_ (by first | omega | (simp <;> omega)) _))



def oidx : Option Nat → Int
  | some i => i
  | none => -1

theorem IndexFunc_spec (H0 : AH) (hw : WF H0) (x : Nat) (h : Int) (s : SV) (r : List Ent) (S : List Nat) (hr : RowAt encE 3 H0 s r S) (hx : x < H0.next) (hb : H0.blk x = some (.cells false [.int .i64 h])) (hl : r.length ≤ 256) :
    CallP tab noExt F.slices_IndexFunc_heap_row_heap_entry [.s s, .s (.fn F.heap_Timers_find_1 [(x, 0)])] H0 fun v H' => v = i64 (oidx (fidx r h)) ∧ Same H0 H' := by
  apply slices_IndexFunc_heap_row_heap_entry_call
  have hlen := hr.len
  simp [hlen]
  refine loopP_inv (I := fun m T H => T.length = 19 ∧ sl T 0 = .s s ∧ sl T 1 = .s (.fn F.heap_Timers_find_1 [(x, 0)]) ∧ sl T 7 = i64 r.length ∧ ∃ i : Nat, sl T 8 = i64 i ∧ i ≤ r.length ∧ m = r.length - i ∧ (∀ k, k < i → ¬ (gE r k).handle = h) ∧ WF H ∧ Same H0 H) ?_ r.length _ _ ?_
  · intro m T H ⟨hT, s0, s1, s7, i, s8, hi, hm, hno, hwf, hs⟩
    rw [slices_IndexFunc_heap_row_heap_entry_l0_at hT]
    by_cases hlt : i < r.length
    · rcases hr with ⟨_, _, rfl, _⟩ | ⟨b, c, j, rfl, rfl, h3, hb3, h5, h6⟩
      · simp at hlt
      have f1 : i * 3 + 3 ≤ (flat encE r).length + j.length := by simpa using flat_fit encE_len r j i hlt
      have g1 := flat_ldn encE_len r j i hlt
      have hb4 : H.blk b = some (.cells false (flat encE r ++ j)) := (hs.2 b h3).trans hb3
      have hbx : H.blk x = some (.cells false [.int .i64 h]) := (hs.2 x hx).trans hb
      simp [s0, s1, s7, s8, hlt, hb4, f1, g1]
      have hw9 : WF (((H.bump 1).bump 2).bump 6) := ((hwf.bump _).bump _).bump _
      refine (find1_spec _ hw9 x h (by have := hs.1; simp; omega) hbx r[i]).mono_wf tab_wf noExt_wf noExt_next hw9 ?_
      rintro v H1 hw1 hle ⟨rfl, hs1⟩
      have hs2 : Same H0 H1 := (((hs.bump 1).bump 2).bump 6).trans hs1
      have w1 : IntKind.i64.wrap ((i : Int) + 1) = ((i + 1 : Nat) : Int) := by rw [wrap_i64 (by omega) (by omega)]; omega
      by_cases he : r[i].handle = h
      · simp [he, w1]
        refine ⟨?_, hs2.bump _⟩
        have : fidx r h = some i := by
          unfold fidx
          rw [List.findIdx?_eq_some_iff_getElem]
          refine ⟨hlt, by simpa using he, fun k hk => ?_⟩
          have := hno k hk
          unfold gE at this
          rw [getD_get (by omega)] at this
          simpa using this
        rw [this]; rfl
      · simp [he, w1]
        refine ⟨r.length - (i + 1), by omega, rfl, rfl, rfl, i + 1, by simp [sl], by omega, rfl, ?_, hw1.bump _, hs2.bump _⟩
        intro k hk
        by_cases hki : k = i
        · subst hki; simpa [hlt] using he
        · simpa using hno k (by omega)
    · have hlt' : ¬ (i : Int) < (r.length : Int) := by omega
      simp [s0, s1, s7, s8, hlt, hlt']
      rw [slices_IndexFunc_heap_row_heap_entry_s1_at rfl]
      simp
      refine ⟨?_, (hs.bump _).bump _⟩
      have : fidx r h = none := by
        unfold fidx
        rw [List.findIdx?_eq_none_iff]
        intro e he
        obtain ⟨k, hk, rfl⟩ := List.getElem_of_mem he
        have := hno k (by omega)
        unfold gE at this
        rw [getD_get hk] at this
        simpa using this
      rw [this]; rfl
  · exact ⟨rfl, rfl, rfl, rfl, 0, rfl, by omega, rfl, by omega, (hw.bump _).bump _, ((Same.refl _).bump _).bump _⟩

theorem find_raw (H : AH) (hw : WF H) (t : Nat) (r : List Ent) (last : Int) (S : List Nat) (ht : TmR H t r last S) (h : Int) (hl : r.length ≤ 256) :
    CallP tab noExt F.heap_Timers_find [ptr t, i64 h] H fun v H' => v = i64 (oidx (fidx r h)) ∧ Same H H' := by
  obtain ⟨h0, s, Sr, h1, h2, rfl, h4⟩ := ht
  apply heap_Timers_find_call
  have hf0 := hw.free 0
  have n3 : ¬ t = H.next := by omega
  simp at hf0
  simp [h1, hf0, n3]
  have hw2 : WF (((H.bump 2).set H.next (Blk.cells false [SV.int IntKind.i64 h])).bump 7) := by (repeat (first | assumption | exact Same.refl _ | exact But.refl _ _ | refine Same.bump ?_ _ | refine Same.set ?_ (by first | omega | (simp <;> omega)) _ | refine But.bump ?_ _ | refine But.set ?_ (by simp) _ | refine But.set ?_ (by first | omega | (simp <;> omega)) _ | refine WF.bump ?_ _ | refine WF.set ?_ (by first | omega | (simp <;> omega)) _))
  have hs : Same H (((H.bump 2).set H.next (Blk.cells false [SV.int IntKind.i64 h])).bump 7) := by (repeat (first | assumption | exact Same.refl _ | exact But.refl _ _ | refine Same.bump ?_ _ | refine Same.set ?_ (by first | omega | (simp <;> omega)) _ | refine But.bump ?_ _ | refine But.set ?_ (by simp) _ | refine But.set ?_ (by first | omega | (simp <;> omega)) _ | refine WF.bump ?_ _ | refine WF.set ?_ (by first | omega | (simp <;> omega)) _))
  refine (IndexFunc_spec _ hw2 H.next h s r Sr (h2.frame hs.1 fun b hb => hs.2 b (h2.lt b hb)) (by simp) (by simp) hl).mono_wf tab_wf noExt_wf noExt_next hw2 ?_
  rintro v H1 hw1 hle ⟨rfl, hs1⟩
  simp
  exact hs.trans hs1

end Go.AM
