/-
  clock: what its methods give.
-/
import Derived.Test.YtkhffcbnhleeoaaHpD
namespace Go.AM
attribute [local simp] AH.ld AH.ldn AH.stn AH.new Nat.add_assoc resA resA1 fillA buildA slSlA boundsA boundA callvP

/-- A clock. -/
def Ck (H : AH) (c : Nat) (L : List Ent) (last tic up base : Int) (S : List Nat) : Prop :=
  c < H.next ∧ ∃ t St, H.blk c = some (.cells false [.ptr (some (t, 0)), .int .u64 tic, .int .u64 up, .int .u64 base]) ∧ Tm H t L last St ∧ S = c :: St ∧ c ∉ St

theorem Ck.frame {H H' : AH} {c : Nat} {L : List Ent} {last tic up base : Int} {S : List Nat} (h : Ck H c L last tic up base S) (hn : H.next ≤ H'.next) (hb : ∀ b ∈ S, H'.blk b = H.blk b) : Ck H' c L last tic up base S := by
  obtain ⟨h0, t, St, h1, h2, rfl, h4⟩ := h
  exact ⟨by omega, t, St, by rw [hb c (by simp)]; exact h1, h2.frame hn fun b hb' => hb b (by simp [hb']), rfl, h4⟩
theorem Ck.lt {H : AH} {c : Nat} {L : List Ent} {last tic up base : Int} {S : List Nat} (h : Ck H c L last tic up base S) : ∀ b ∈ S, b < H.next := by
  obtain ⟨h0, t, St, h1, h2, rfl, h4⟩ := h
  intro b hb
  simp at hb
  rcases hb with rfl | hb
  · exact h0
  · exact h2.lt b hb
theorem Same.ck {H H' : AH} (h : Same H H') {c : Nat} {L : List Ent} {last tic up base : Int} {S : List Nat} (ht : Ck H c L last tic up base S) : Ck H' c L last tic up base S := ht.frame h.1 fun b hb => h.2 b (ht.lt b hb)

theorem NewClock_spec (H : AH) (hw : WF H) (tic : Int) (h1 : 1 ≤ tic) (h2 : tic ≤ 1000) :
    CallP tab noExt F.clock_NewClock [i64 tic] H fun v H' => ∃ c S, v = .tup [.s (.ptr (some (c, 0))), .s (.int .i64 0)] ∧ Ck H' c [] 0 tic 0 0 S ∧ Same H H' ∧ ∀ b ∈ S, H.next ≤ b := by
  apply clock_NewClock_call
  have g1 : ¬ tic < 1 := by omega
  have g2 : ¬ 1000 < tic := by omega
  have w : IntKind.u64.wrap tic = tic := wrap_u64 (by omega) (by omega)
  simp [g1, g2, w]
  have hw1 : WF (((H.bump 2).bump 6).bump 7) := by (repeat (first | assumption | exact Same.refl _ | exact But.refl _ _ | refine Same.bump ?_ _ | refine Same.set ?_ (by first | omega | (simp <;> omega)) _ | refine But.bump ?_ _ | refine But.set ?_ (by simp) _ | refine But.set ?_ (by first | omega | (simp <;> omega)) _ | refine WF.bump ?_ _ | refine WF.set ?_ (by first | omega | (simp <;> omega)) _))
  refine (New_spec _ hw1).mono_wf tab_wf noExt_wf noExt_next hw1 ?_
  rintro v H1 hw2 hle ⟨t, S, rfl, htm, hs, hS⟩
  have hf : H1.blk (H.next + 12) = none := by rw [hs.2 _ (by (first | (simp; done) | omega | (simp <;> omega)))]; exact hw.free 12
  have hlt := htm.lt
  simp at hle hS
  simp [hf]
  refine ⟨(H.next + 12) :: S, ⟨by (first | (simp; done) | omega | (simp <;> omega)), t, S, by simp, ?_, rfl, fun hm => by have := hS _ hm; omega⟩, ?_, ?_⟩
  · exact htm.frame (by (first | (simp; done) | omega | (simp <;> omega))) fun b hb => by have := hS b hb; simp; omega
  · refine ⟨by simp; omega, fun b hb => ?_⟩
    rw [set_blk, if_neg (by omega), hs.2 b (by simp; omega)]; rfl
  · intro b hb
    simp at hb
    rcases hb with rfl | hb
    · omega
    · have := hS b hb; omega

theorem Now_spec (H : AH) (c : Nat) (L : List Ent) (last tic up base : Int) (S : List Nat) (hc : Ck H c L last tic up base S) :
    CallP tab noExt F.clock_Clock_Now [ptr c] H fun v H' => v = u64 ((IntKind.u64.wrap (base + up)).tmod 281474976710656) ∧ Same H H' := by
  obtain ⟨h0, t, St, h1, h2, rfl, h4⟩ := hc
  apply clock_Clock_Now_call
  simp [h1]
  apply nums_Add_call
  simp
  (repeat (first | assumption | exact Same.refl _ | exact But.refl _ _ | refine Same.bump ?_ _ | refine Same.set ?_ (by first | omega | (simp <;> omega)) _ | refine But.bump ?_ _ | refine But.set ?_ (by simp) _ | refine But.set ?_ (by first | omega | (simp <;> omega)) _ | refine WF.bump ?_ _ | refine WF.set ?_ (by first | omega | (simp <;> omega)) _))

theorem Up_spec (H : AH) (c : Nat) (L : List Ent) (last tic up base : Int) (S : List Nat) (hc : Ck H c L last tic up base S) :
    CallP tab noExt F.clock_Clock_Up [ptr c] H fun v H' => v = u64 up ∧ Same H H' := by
  obtain ⟨h0, t, St, h1, h2, rfl, h4⟩ := hc
  apply clock_Clock_Up_call
  simp [h1]
  (repeat (first | assumption | exact Same.refl _ | exact But.refl _ _ | refine Same.bump ?_ _ | refine Same.set ?_ (by first | omega | (simp <;> omega)) _ | refine But.bump ?_ _ | refine But.set ?_ (by simp) _ | refine But.set ?_ (by first | omega | (simp <;> omega)) _ | refine WF.bump ?_ _ | refine WF.set ?_ (by first | omega | (simp <;> omega)) _))

theorem Set_spec (H : AH) (c : Nat) (L : List Ent) (last tic up base : Int) (S : List Nat) (hc : Ck H c L last tic up base S) (x : Int) :
    CallP tab noExt F.clock_Clock_Set [ptr c, u64 x] H fun v H' => v = unit ∧ Ck H' c L last tic up ((IntKind.u64.wrap (x + IntKind.u64.wrap (0 - up))).tmod 281474976710656) S ∧ But S H H' := by
  obtain ⟨h0, t, St, h1, h2, rfl, h4⟩ := hc
  apply clock_Clock_Set_call
  simp [h1]
  apply nums_Add_call
  simp [h1]
  refine ⟨⟨by (first | (simp; done) | omega | (simp <;> omega)), t, St, by simp, h2.frame (by (first | (simp; done) | omega | (simp <;> omega))) fun b hb => ?_, rfl, h4⟩, ?_⟩
  · have : b ≠ c := fun he => h4 (he ▸ hb)
    simp [this]
  · (repeat (first | assumption | exact Same.refl _ | exact But.refl _ _ | refine Same.bump ?_ _ | refine Same.set ?_ (by first | omega | (simp <;> omega)) _ | refine But.bump ?_ _ | refine But.set ?_ (by simp) _ | refine But.set ?_ (by first | omega | (simp <;> omega)) _ | refine WF.bump ?_ _ | refine WF.set ?_ (by first | omega | (simp <;> omega)) _))

theorem Tick_spec (H : AH) (hw : WF H) (c : Nat) (L : List Ent) (last tic up base : Int) (S : List Nat) (hc : Ck H c L last tic up base S) :
    CallP tab noExt F.clock_Clock_Tick [ptr c] H fun v H' => ∃ s So, v = .s s ∧ RowAt encI 1 H' s ((dueL L (IntKind.u64.wrap (up + tic))).map Ent.arg) So ∧ Ck H' c (toL L (IntKind.u64.wrap (up + tic))) last tic (IntKind.u64.wrap (up + tic)) base S ∧ But S H H' ∧ ∀ b ∈ So, H.next ≤ b := by
  obtain ⟨h0, t, St, h1, h2, rfl, h4⟩ := hc
  apply clock_Clock_Tick_call
  simp [h1]
  have hw1 : WF ((((H.bump 1).bump 12).set c (Blk.cells false [SV.ptr (some (t, 0)), SV.int IntKind.u64 tic, SV.int IntKind.u64 (IntKind.u64.wrap (up + tic)), SV.int IntKind.u64 base])).bump 10) := by (repeat (first | assumption | exact Same.refl _ | exact But.refl _ _ | refine Same.bump ?_ _ | refine Same.set ?_ (by first | omega | (simp <;> omega)) _ | refine But.bump ?_ _ | refine But.set ?_ (by simp) _ | refine But.set ?_ (by first | omega | (simp <;> omega)) _ | refine WF.bump ?_ _ | refine WF.set ?_ (by first | omega | (simp <;> omega)) _))
  generalize hH1 : ((((H.bump 1).bump 12).set c (Blk.cells false [SV.ptr (some (t, 0)), SV.int IntKind.u64 tic, SV.int IntKind.u64 (IntKind.u64.wrap (up + tic)), SV.int IntKind.u64 base])).bump 10) = H1 at *
  have e1 : H1.next = H.next + 23 := by rw [← hH1]; simp [Nat.add_assoc]
  have e2 : ∀ b, b ≠ c → H1.blk b = H.blk b := fun b hb => by rw [← hH1]; simp [hb]
  have ec : H1.blk c = some (.cells false [SV.ptr (some (t, 0)), SV.int IntKind.u64 tic, SV.int IntKind.u64 (IntKind.u64.wrap (up + tic)), SV.int IntKind.u64 base]) := by rw [← hH1]; simp
  have hl := h2.lt
  refine (Due_spec H1 hw1 t L last St (h2.frame (by omega) fun b hb => e2 b fun he => h4 (he ▸ hb)) (IntKind.u64.wrap (up + tic))).mono_wf tab_wf noExt_wf noExt_next hw1 ?_
  rintro v H2 hw2 hle ⟨s, So, rfl, hr, htm, hbut, hSo⟩
  simp
  refine ⟨So, hr, ⟨by omega, t, St, by rw [hbut.2 c (by omega) h4]; exact ec, htm, rfl, h4⟩, ⟨by omega, fun b hb hn => ?_⟩, fun b hb => by have := hSo b hb; omega⟩
  simp at hn
  rw [hbut.2 b (by omega) hn.2, e2 b hn.1]

theorem After_spec (H : AH) (hw : WF H) (c : Nat) (L : List Ent) (last tic up base : Int) (S : List Nat) (hc : Ck H c L last tic up base S) (d x : Int) (hd : 0 ≤ d) (hd2 : d ≤ 2147483647) (hl : L.length < 256) (hlast : last < 4611686018427387904) :
    CallP tab noExt F.clock_Clock_After [ptr c, i64 d, i64 x] H fun v H' => v = .tup [.s (.int .i64 (last + 1)), .s (.int .i64 0)] ∧ ∃ S', Ck H' c (insE ⟨IntKind.u64.wrap (IntKind.u64.wrap (up + d) + tic), last + 1, x⟩ L) (last + 1) tic up base S' ∧ Own H H' S S' := by
  obtain ⟨h0, t, St, h1, h2, rfl, h4⟩ := hc
  apply clock_Clock_After_call
  refine (nums_Rel_spec d _ (by omega) (by omega)).mono_wf tab_wf noExt_wf noExt_next ((hw.bump _).bump _) ?_
  rintro v H1 hw1 hle ⟨rfl, hs⟩
  rw [if_neg (by omega)]
  have hs1 : Same H H1 := (((Same.refl H).bump _).bump _).trans hs
  have h1' := (hs1.2 c h0).trans h1
  simp [h1']
  have hw2 : WF ((H1.bump 2).bump 21) := by (repeat (first | assumption | exact Same.refl _ | exact But.refl _ _ | refine Same.bump ?_ _ | refine Same.set ?_ (by first | omega | (simp <;> omega)) _ | refine But.bump ?_ _ | refine But.set ?_ (by simp) _ | refine But.set ?_ (by first | omega | (simp <;> omega)) _ | refine WF.bump ?_ _ | refine WF.set ?_ (by first | omega | (simp <;> omega)) _))
  simp at hle
  refine (Insert_spec _ hw2 t L last St ((hs1.tm h2).frame (by (first | (simp; done) | omega | (simp <;> omega))) (fun _ _ => rfl)) _ x hl hlast).mono_wf tab_wf noExt_wf noExt_next hw2 ?_
  rintro v H2 hw3 hle2 ⟨rfl, S', htm, hown, hsub⟩
  have hl2 := h2.lt
  simp at hle2 hsub
  simp
  have hcS : c ∉ S' := fun hm => by
    rcases hsub c hm with h | h
    · exact h4 h
    · omega
  refine ⟨c :: S', ⟨by omega, t, S', by rw [hown.2 c (by simp; omega) h4]; exact h1', htm, rfl, hcS⟩, ⟨by omega, fun b hb hn => ?_⟩, fun b hb => ?_⟩
  · simp at hn
    rw [hown.2 b (by simp; omega) hn.2]
    exact hs1.2 b hb
  · simp at hb
    rcases hb with rfl | hb
    · simp
    · rcases hsub b hb with h | h
      · simp [h]
      · right; omega

end Go.AM
