/-
  heap: rows on the heap; Insert, remove, find.
-/
import Derived.Test.YtkhffcbnhleeoaaHpA
namespace Go.AM
attribute [local simp] AH.ld AH.ldn AH.stn AH.new Nat.add_assoc resA fillA buildA slSlA boundsA boundA

theorem andThen_of {α : Type} {o : Option α} {a : α} {K : α → Prop} (h : o = some a) (hk : K a) : andThen o K := ⟨a, h, hk⟩

section
variable {α : Type} (enc : α → List SV) (k : Nat)
/-- A row of structs lies behind a slice; the blocks that it has. -/
def RowAt (H : AH) (s : SV) (r : List α) (S : List Nat) : Prop :=
  (∃ e, s = .slice none 0 0 e ∧ r = [] ∧ S = []) ∨ ∃ b c j, s = .slice (some (b, 0)) r.length c k ∧ S = [b] ∧ b < H.next ∧ H.blk b = some (.cells false (flat enc r ++ j)) ∧ c * k ≤ (flat enc r ++ j).length ∧ r.length ≤ c
variable {enc k}

theorem RowAt.frame {H H' : AH} {s : SV} {r : List α} {S : List Nat} (h : RowAt enc k H s r S) (hn : H.next ≤ H'.next) (hb : ∀ b ∈ S, H'.blk b = H.blk b) : RowAt enc k H' s r S := by
  rcases h with h | ⟨b, c, j, h1, h2, h3, h4, h5⟩
  · exact .inl h
  · exact .inr ⟨b, c, j, h1, h2, by omega, by rw [hb b (by simp [h2])]; exact h4, h5⟩

theorem RowAt.lt {H : AH} {s : SV} {r : List α} {S : List Nat} (h : RowAt enc k H s r S) : ∀ b ∈ S, b < H.next := by
  rcases h with ⟨_, _, _, rfl⟩ | ⟨b, c, j, h1, rfl, h3, h4, h5⟩
  · simp
  · simpa using h3

theorem RowAt.len {H : AH} {s : SV} {r : List α} {S : List Nat} (h : RowAt enc k H s r S) : lenA (.s s) = some (i64 r.length) := by
  rcases h with ⟨_, rfl, rfl, _⟩ | ⟨b, c, j, rfl, _⟩ <;> rfl

theorem RowAt.append (hk : ∀ e, (enc e).length = k) {H : AH} {s : SV} {r : List α} {S : List Nat} (h : RowAt enc k H s r S) (e : α) {x id bytes : Nat} {ro : Bool} (hx : H.blk x = some (.cells ro (enc e))) (hxS : x ∉ S) (hid : H.blk id = none) (hidn : id < H.next) (hb : (r.length + 1) * bytes ≤ 70368744177664) :
    ∃ s' H' S', appendA k bytes id (.s s) (.s (.slice (some (x, 0)) 1 1 k)) H = some (.s s', H') ∧ RowAt enc k H' s' (r ++ [e]) S' ∧ H'.next = H.next ∧ (∀ b, b ∉ S → b ≠ id → H'.blk b = H.blk b) ∧ (∀ b ∈ S', b ∈ S ∨ b = id) := by
  have hcells : sliceCells k (.s (.slice (some (x, 0)) 1 1 k)) 1 H = some (enc e) := by
    simp only [sliceCells, ldn_of H hx, Nat.zero_add, Nat.one_mul, hk e]
    rw [if_pos (by simp), if_pos (by omega)]
    simp [← hk e]
  have hsl : slLen (.s (.slice (some (x, 0)) 1 1 k)) = some 1 := rfl
  rcases h with ⟨e0, rfl, rfl, rfl⟩ | ⟨b, c, j, rfl, rfl, h3, h4, h5, h6⟩
  · refine ⟨.slice (some (id, 0)) 1 1 k, H.set id (.cells false (enc e)), [id], ?_, .inr ⟨id, 1, [], rfl, rfl, hidn, by simp [flat], by simp [flat, hk], by simp⟩, rfl, ?_, by simp⟩
    · simp only [appendA, hcells, hsl, Option.bind_some]
      rw [if_pos (by simpa using hb), if_neg (by simp), new_of H hid]
      rfl
    · intro b _ hne; simp [hne]
  · have hfl := flat_len hk r
    by_cases hc : r.length + 1 ≤ c
    · have hle : (r.length + 1) * k ≤ c * k := Nat.mul_le_mul_right _ hc
      have hl : r.length * k + (enc e).length ≤ (flat enc r ++ j).length := by rw [hk]; rw [Nat.add_mul] at hle; omega
      refine ⟨.slice (some (b, 0)) (r.length + 1) c k, H.set b (.cells false (splice (flat enc r ++ j) (r.length * k) (enc e))), [b], ?_, .inr ⟨b, c, j.drop k, by simp, rfl, h3, ?_, ?_, by simpa using hc⟩, rfl, ?_, by simp⟩
      · simp only [appendA, hcells, hsl, Option.bind_some]
        rw [if_pos ⟨trivial, hb⟩, if_pos hc, Nat.zero_add, stn_of H h4 hl]
        rfl
      · rw [set_blk, if_pos rfl]
        congr 2
        unfold splice
        rw [← hfl, List.take_left, hk, ← List.drop_drop, List.drop_left, flat_snoc, List.append_assoc]
      · rw [flat_snoc]
        simp only [List.length_append, hk, List.length_drop] at h5 hl ⊢
        omega
      · intro b' hb' _; simp at hb'; simp [hb']
    · have hne : id ≠ b := fun he => by rw [he, h4] at hid; cases hid
      refine ⟨.slice (some (id, 0)) (r.length + 1) (r.length + 1) k, (H.set b .dead).set id (.cells false (flat enc r ++ enc e)), [id], ?_, .inr ⟨id, r.length + 1, [], by simp, rfl, hidn, ?_, ?_, by simp⟩, rfl, ?_, by simp⟩
      · simp only [appendA, hcells, hsl, Option.bind_some]
        rw [if_pos ⟨trivial, hb⟩, if_neg hc, h4]
        simp only [Nat.zero_add]
        rw [if_pos (by simp [hfl]), new_of _ (by rw [set_blk, if_neg hne]; exact hid)]
        simp only [List.drop_zero, ← hfl, List.take_left, Option.map_some]
      · rw [set_blk, if_pos rfl, flat_snoc, List.append_nil]
      · rw [flat_snoc]; simp [hfl, hk, Nat.add_mul]
      · intro b' hb' hb2; simp at hb'; simp [hb', hb2]
end

theorem RowAt.ofBlk {r : List Ent} {H : AH} {b c : Nat} {j : List SV} (hb : b < H.next) (h : H.blk b = some (.cells false (flat encE r ++ j))) (h1 : c * 3 ≤ (flat encE r ++ j).length) (h2 : r.length ≤ c) : RowAt encE 3 H (.slice (some (b, 0)) r.length c 3) r [b] := .inr ⟨b, c, j, rfl, rfl, hb, h, h1, h2⟩

/-- Timers, as they lie on the heap, with their row. -/
def TmR (H : AH) (t : Nat) (r : List Ent) (last : Int) (S : List Nat) : Prop :=
  t < H.next ∧ ∃ s Sr, H.blk t = some (.cells false [s, .int .i64 last]) ∧ RowAt encE 3 H s r Sr ∧ S = t :: Sr ∧ t ∉ Sr

theorem TmR.frame {H H' : AH} {t : Nat} {r : List Ent} {last : Int} {S : List Nat} (h : TmR H t r last S) (hn : H.next ≤ H'.next) (hb : ∀ b ∈ S, H'.blk b = H.blk b) : TmR H' t r last S := by
  obtain ⟨h0, s, Sr, h1, h2, rfl, h4⟩ := h
  exact ⟨by omega, s, Sr, by rw [hb t (by simp)]; exact h1, h2.frame hn fun b hb' => hb b (by simp [hb']), rfl, h4⟩

theorem TmR.lt {H : AH} {t : Nat} {r : List Ent} {last : Int} {S : List Nat} (h : TmR H t r last S) : ∀ b ∈ S, b < H.next := by
  obtain ⟨h0, s, Sr, h1, h2, rfl, h4⟩ := h
  intro b hb
  simp at hb
  rcases hb with rfl | hb
  · exact h0
  · exact h2.lt b hb

theorem Same.tmR {H H' : AH} (h : Same H H') {t : Nat} {r : List Ent} {last : Int} {S : List Nat} (ht : TmR H t r last S) : TmR H' t r last S := ht.frame h.1 fun b hb => h.2 b (ht.lt b hb)

/-- What a call on an object that has S may have changed. -/
def Own (H H' : AH) (S S' : List Nat) : Prop := But S H H' ∧ ∀ b ∈ S', b ∈ S ∨ H.next ≤ b

theorem Insert_full (H : AH) (hw : WF H) (t : Nat) (r : List Ent) (last : Int) (S : List Nat) (ht : TmR H t r last S) (a x : Int) (hl : 256 ≤ r.length) :
    CallP tab noExt F.heap_Timers_Insert [ptr t, u64 a, i64 x] H fun v H' => v = .tup [.s (.int .i64 0), .s (.int .i64 (-33))] ∧ Same H H' := by
  obtain ⟨h0, s, Sr, h1, h2, rfl, h4⟩ := ht
  apply heap_Timers_Insert_call
  have hlen := h2.len
  have hl' : (256 : Int) ≤ (r.length : Int) := by omega
  simp [h1, hlen, hl, hl']
  (repeat (first | assumption | exact Same.refl _ | exact But.refl _ _ | refine Same.bump ?_ _ | refine Same.set ?_ (by first | omega | (simp <;> omega)) _ | refine But.bump ?_ _ | refine But.set ?_ (by simp) _ | refine But.set ?_ (by first | omega | (simp <;> omega)) _ | refine WF.bump ?_ _ | refine WF.set ?_ (by first | omega | (simp <;> omega)) _))

theorem Insert_raw (H : AH) (hw : WF H) (t : Nat) (r : List Ent) (last : Int) (S : List Nat) (ht : TmR H t r last S) (a x : Int) (hl : r.length < 256) (hlast : 0 ≤ last ∧ last < 4611686018427387904) :
    CallP tab noExt F.heap_Timers_Insert [ptr t, u64 a, i64 x] H fun v H' => v = .tup [.s (.int .i64 (last + 1)), .s (.int .i64 0)] ∧ ∃ S', TmR H' t (upF (r ++ [⟨a, last + 1, x⟩]) r.length) (last + 1) S' ∧ Own H H' S S' := by
  obtain ⟨h0, s, Sr, h1, h2, rfl, h4⟩ := ht
  apply heap_Timers_Insert_call
  have hlen := h2.len
  have hl' : ¬ (256 : Int) ≤ (r.length : Int) := by omega
  have n1 : ∀ m, ¬ H.next + m = t := fun m => by omega
  have n2 : ∀ m, ¬ t = H.next + m := fun m => by omega
  have hf := hw.free
  have w1 : IntKind.i64.wrap (last + 1) = last + 1 := wrap_i64 (by omega) (by omega)
  simp [h1, hlen, hl, hl', w1, hf, n1, n2]
  generalize hH1 : ((((((H.bump 2).bump 6).bump 8).set t (Blk.cells false [s, SV.int IntKind.i64 (last + 1)])).bump 17).set (H.next + 28) (Blk.cells false [SV.int IntKind.u64 a, SV.int IntKind.i64 (last + 1), SV.int IntKind.i64 x])) = H1
  have e1 : H1.next = H.next + 33 := by rw [← hH1]; simp [Nat.add_assoc]
  have e2 : ∀ b, H1.blk b = if b = H.next + 28 then some (.cells false [SV.int IntKind.u64 a, SV.int IntKind.i64 (last + 1), SV.int IntKind.i64 x]) else if b = t then some (.cells false [s, SV.int IntKind.i64 (last + 1)]) else H.blk b := by intro b; rw [← hH1]; simp
  have l2 := h2.lt
  have h2' : RowAt encE 3 H1 s r Sr := h2.frame (by omega) fun b hb => by
    have := l2 b hb
    rw [e2, if_neg (by omega), if_neg (fun (he : b = t) => h4 (he ▸ hb))]
  obtain ⟨s', H2, S2, ap, hr2, hnx, hoth, hsub⟩ := h2'.append encE_len ⟨a, last + 1, x⟩ (x := H.next + 28) (id := H.next + 29) (bytes := 24) (ro := false) (by rw [e2, if_pos rfl]; rfl) (fun hm => by have := l2 _ hm; omega) (by rw [e2, if_neg (by omega), if_neg (by omega)]; exact hf 29) (by omega) (by omega)
  refine andThen_of ap ?_
  have ht2 : H2.blk t = some (.cells false [s, SV.int IntKind.i64 (last + 1)]) := by rw [hoth t h4 (by omega), e2, if_neg (by omega), if_pos rfl]
  have htS2 : t ∉ S2 := fun hm => by rcases hsub t hm with h | h; exact h4 h; omega
  have hr3 := hr2.frame (H' := (H2.set t (.cells false [s', SV.int IntKind.i64 (last + 1)])).bump 11) (by simp) fun b hb => by simp; intro he; exact absurd (he ▸ hb) htS2
  have hwf2 : WF H2 := fun b hb => by rw [hoth b (fun hm => by have := l2 _ hm; omega) (by omega), e2, if_neg (by omega), if_neg (by omega)]; exact hw b (by omega)
  rcases hr3 with ⟨_, _, hno, _⟩ | ⟨b, c, j, rfl, rfl, hb3, hb4, hb5, hb6⟩
  · simp at hno
  have hl2 : (r ++ [(⟨a, last + 1, x⟩ : Ent)]).length = r.length + 1 := by simp
  have w2 : IntKind.i64.wrap (r.length : Int) = r.length := wrap_i64 (by omega) (by omega)
  rw [hl2] at hb3 hb4 hb6
  simp only [ht2, hl2]
  simp [ht2, w2]
  refine (up_spec b (r.length + 1) c j _ hb3 _ hl2 (by omega) r.length (.inl (by omega)) ((hwf2.set (by omega) _).bump _) (by simpa using hb4)).mono_wf tab_wf noExt_wf noExt_next ((hwf2.set (by omega) _).bump _) ?_
  rintro v H4 hw4 hle ⟨rfl, hb7, hbut⟩
  have htb : t ≠ b := fun he => htS2 (by simp [he])
  have ht4 : H4.blk t = some (.cells false [.slice (some (b, 0)) (r.length + 1) c 3, SV.int IntKind.i64 (last + 1)]) := by
    rw [hbut.2 t (by simp; omega) (by simp [htb])]; simp
  simp [ht4]
  have hnx4 : H2.next + 11 ≤ H4.next := by simpa using hle
  have hul : (upF (r ++ [(⟨a, last + 1, x⟩ : Ent)]) r.length).length = r.length + 1 := by rw [upF_len]; simp
  refine ⟨[t, b], ⟨by simp; omega, _, [b], by simpa using ht4, ?_, rfl, by simpa using htb⟩, ?_, ?_⟩
  · refine .inr ⟨b, c, j, by rw [hul], rfl, by simp at hb3 ⊢; omega, by simpa using hb7, ?_, by rw [hul]; simpa using hb6⟩
    simp only [List.length_append, flat_len encE_len, hul] at hb5 ⊢
    simpa using hb5
  · refine ⟨by simp; omega, fun b' hb' hn' => ?_⟩
    simp at hn'
    have hbn : b' ≠ b := fun he => by
      subst he
      rcases hsub b' (by simp) with h | h
      · exact hn'.2 h
      · omega
    have := hbut.2 b' (by simp; omega) (by simpa using hbn)
    simp only [bump_blk]
    rw [this]
    simp only [bump_blk, set_blk]
    rw [if_neg hn'.1, hoth b' hn'.2 (by omega), e2, if_neg (by omega), if_neg hn'.1]
  · intro b' hb'
    simp at hb'
    rcases hb' with rfl | rfl
    · simp
    · rcases hsub b' (by simp) with h | h
      · simp [h]
      · right; omega

theorem remove_raw (H : AH) (hw : WF H) (t : Nat) (r : List Ent) (last : Int) (S : List Nat) (ht : TmR H t r last S) (i : Nat) (hi : i < r.length) (hl : r.length ≤ 256) :
    CallP tab noExt F.heap_Timers_remove [ptr t, i64 i] H fun v H' => v = unit ∧ TmR H' t (remF r i) last S ∧ But S H H' := by
  obtain ⟨h0, s, Sr, h1, h2, rfl, h4⟩ := ht
  apply heap_Timers_remove_call
  rcases h2 with ⟨_, _, rfl, _⟩ | ⟨b, c, j, rfl, rfl, h3, hb, h5, h6⟩
  · simp at hi
  obtain ⟨n, hn⟩ : ∃ n, r.length = n + 1 := ⟨r.length - 1, by omega⟩
  have htb : ¬ t = b := by simpa using h4
  have hbt : ¬ b = t := fun h => htb h.symm
  rw [hn] at h6
  have hnc : n ≤ c := by omega
  have hnr : n < r.length := by omega
  have hi' : i < n + 1 := by omega
  have hii : (i : Int) < (n : Int) + 1 := by omega
  have w1 : IntKind.i64.wrap (n : Int) = n := wrap_i64 (by omega) (by omega)
  have f1 : i * 3 + 3 ≤ (flat encE r).length + j.length := by simpa using flat_fit encE_len r j i hi
  have f2 : n * 3 + 3 ≤ (flat encE r).length + j.length := by simpa using flat_fit encE_len r j n hnr
  have g2 := flat_ldn encE_len r j n hnr
  have q1 := flat_splice encE_len r j i hi r[n]
  simp [h1, hb, hn, w1, hi', hii, hnc, f1, f2, g2, q1, encE_len, htb, hbt]
  refine ⟨by omega, ?_⟩
  generalize hq : (r.set i r[n]).take n = q
  have hql : q.length = n := by rw [← hq]; simp; omega
  obtain ⟨j', hj', hjl⟩ : ∃ j', flat encE (r.set i r[n]) ++ j = flat encE q ++ j' ∧ True := by
    refine ⟨flat encE ((r.set i r[n]).drop n) ++ j, ?_, trivial⟩
    rw [← List.append_assoc]
    congr 1
    rw [← hq]
    unfold flat
    rw [← List.flatMap_append, List.take_append_drop]
  have hjl2 : (flat encE q ++ j').length = (flat encE r ++ j).length := by rw [← hj']; simp [flat_len encE_len]
  have hrem : remF r i = if i < n then downF (upF q i) i else q := by
    unfold remF
    simp only [hn, Nat.add_sub_cancel]
    rw [getD_get hnr, hq]
  rw [hj']
  have hw2 : WF ((((((H.bump 7).bump 14).set b (Blk.cells false (flat encE q ++ j'))).bump 10).set t (Blk.cells false [SV.slice (some (b, 0)) n c 3, SV.int IntKind.i64 last])).bump 3) := by (repeat (first | assumption | exact Same.refl _ | exact But.refl _ _ | refine Same.bump ?_ _ | refine Same.set ?_ (by first | omega | (simp <;> omega)) _ | refine But.bump ?_ _ | refine But.set ?_ (by simp) _ | refine But.set ?_ (by first | omega | (simp <;> omega)) _ | refine WF.bump ?_ _ | refine WF.set ?_ (by first | omega | (simp <;> omega)) _))
  generalize hH1 : ((((((H.bump 7).bump 14).set b (Blk.cells false (flat encE q ++ j'))).bump 10).set t (Blk.cells false [SV.slice (some (b, 0)) n c 3, SV.int IntKind.i64 last])).bump 3) = H1 at *
  have e1 : H1.next = H.next + 34 := by rw [← hH1]; simp [Nat.add_assoc]
  have eb : H1.blk b = some (.cells false (flat encE q ++ j')) := by rw [← hH1]; simp [hbt]
  have et : H1.blk t = some (.cells false [SV.slice (some (b, 0)) n c 3, SV.int IntKind.i64 last]) := by rw [← hH1]; simp
  have eo : But [t, b] H H1 := ⟨by omega, fun b' _ hb' => by
    simp at hb'
    rw [← hH1]; simp [hb']⟩
  split
  · rename_i hin
    refine (up_spec b n c j' _ (by simp; omega) q hql (by omega) i (.inl hin) (hw2.bump _) eb).mono_wf tab_wf noExt_wf noExt_next (hw2.bump _) ?_
    rintro v H2 hw3 hle ⟨rfl, eb2, but2⟩
    simp at hle
    have et2 : H2.blk t = some (.cells false [SV.slice (some (b, 0)) n c 3, SV.int IntKind.i64 last]) := by rw [but2.2 t (by simp; omega) (by simpa using htb)]; exact et
    simp [et2]
    refine (down_spec b n c j' _ (by simp; omega) (upF q i) (by rw [upF_len, hql]) (by omega) i hin (hw3.bump _) eb2).mono_wf tab_wf noExt_wf noExt_next (hw3.bump _) ?_
    rintro v H3 hw4 hle3 ⟨rfl, eb3, but3⟩
    simp at hle3
    have et3 : H3.blk t = some (.cells false [SV.slice (some (b, 0)) n c 3, SV.int IntKind.i64 last]) := by rw [but3.2 t (by simp; omega) (by simpa using htb)]; exact et2
    rw [hrem, if_pos hin]
    have hdl : (downF (upF q i) i).length = n := by rw [downF_len, upF_len, hql]
    refine ⟨⟨by omega, _, [b], et3, .inr ⟨b, c, j', by rw [hdl], rfl, by omega, eb3, ?_, by omega⟩, rfl, by simpa using htb⟩, ?_⟩
    · simp only [List.length_append, flat_len encE_len, hdl, hql] at hjl2 h5 ⊢
      omega
    · have b1 : But [t, b] H H2 := eo.trans (((But.refl _ H1).bump 6).trans (but2.mono (by simp)))
      exact b1.trans (((But.refl _ H2).bump 6).trans (but3.mono (by simp)))
  · rename_i hin
    rw [hrem, if_neg hin]
    refine ⟨⟨by omega, _, [b], et, .inr ⟨b, c, j', by rw [hql], rfl, by omega, eb, by rw [hjl2]; exact h5, by omega⟩, rfl, by simpa using htb⟩, eo⟩

end Go.AM
