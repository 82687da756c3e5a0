/-
  heap, clock: their contracts over things side by side.
-/
import Derived.Test.YtkhffcbnhleeoaaCkA
import Derived.Test.YtkhffcbnhleeoaaAmS
namespace Go.AM

theorem RowAt.next {α : Type} {enc : α → List SV} {k : Nat} {f : HF} {n m : Nat} {s : SV} {r : List α} {S : List Nat} (h : RowAt enc k ⟨f, n⟩ s r S) (hb : ∀ b ∈ S, b < m) : RowAt enc k ⟨f, m⟩ s r S := by
  rcases h with h | ⟨b, c, j, h1, rfl, h3, h4⟩
  · exact .inl h
  · exact .inr ⟨b, c, j, h1, rfl, hb b (by simp), h4⟩

theorem Tm.next {f : HF} {n m : Nat} {t : Nat} {L : List Ent} {last : Int} {S : List Nat} (h : Tm ⟨f, n⟩ t L last S) (hb : ∀ b ∈ S, b < m) : Tm ⟨f, m⟩ t L last S := by
  obtain ⟨r, ⟨h0, s, Sr, h1, h2, rfl, h4⟩, h5⟩ := h
  exact ⟨r, ⟨hb t (by simp), s, Sr, h1, h2.next fun b hb' => hb b (by simp [hb']), rfl, h4⟩, h5⟩

theorem Ck.nextOf {f : HF} {n m : Nat} {c : Nat} {L : List Ent} {last tic up base : Int} {S : List Nat} (h : Ck ⟨f, n⟩ c L last tic up base S) (hb : ∀ b ∈ S, b < m) : Ck ⟨f, m⟩ c L last tic up base S := by
  obtain ⟨h0, t, St, h1, h2, rfl, h4⟩ := h
  exact ⟨hb c (by simp), t, St, h1, h2.next fun b hb' => hb b (by simp [hb']), rfl, h4⟩

/-- A row behind a slice. -/
def RowA {α : Type} (enc : α → List SV) (k : Nat) (s : SV) (r : List α) : Asr := ⟨fun f S => ∃ n, RowAt enc k ⟨f, n⟩ s r S, fun hg ⟨n, h⟩ => ⟨n, h.frame (Nat.le_refl _) hg⟩⟩
def TmA (t : Nat) (L : List Ent) (last : Int) : Asr := ⟨fun f S => ∃ n, Tm ⟨f, n⟩ t L last S, fun hg ⟨n, h⟩ => ⟨n, h.frame (Nat.le_refl _) hg⟩⟩
def CkA (c : Nat) (L : List Ent) (last tic up base : Int) : Asr := ⟨fun f S => ∃ n, Ck ⟨f, n⟩ c L last tic up base S, fun hg ⟨n, h⟩ => ⟨n, h.frame (Nat.le_refl _) hg⟩⟩

theorem SatL.one {f : HF} {A : Asr} {S : List Nat} (h : A.p f S) : SatL f [A] S := by simpa using SatL.cons h .nil (by simp)
theorem SatL.one_inv {f : HF} {A : Asr} {S : List Nat} (h : SatL f [A] S) : A.p f S := by
  obtain ⟨S1, S2, rfl, h1, h2, _⟩ := h.cons_inv
  rw [h2.nil_inv, List.append_nil]; exact h1

section
variable {f : Nat} {args : List AV}

/-- A call that leaves all as it was. -/
theorem Tri.keep {A : Asr} {v0 : AV} (h : ∀ H S, WF H → A.p H.blk S → (∀ b ∈ S, b < H.next) → CallP tab noExt f args H fun v H' => v = v0 ∧ Same H H') : Tri tab noExt f args [A] fun v P' => v = v0 ∧ P' = [A] :=
  Tri.of tab_wf noExt_wf noExt_next noExt_ro fun H S hw hs hb => (h H S hw hs.one_inv hb).mono fun v H' ⟨h1, h2⟩ => ⟨[A], ⟨h1, rfl⟩, S, hs.loc fun b hb' => h2.2 b (hb b hb'), fun b hb => .inl hb, fun b hb' => Nat.lt_of_lt_of_le (hb b hb') h2.1, fun b hb _ => h2.2 b hb⟩

/-- A call that turns a thing. -/
theorem Tri.turn {A A' : Asr} {v0 : AV} (h : ∀ H S, WF H → A.p H.blk S → (∀ b ∈ S, b < H.next) → CallP tab noExt f args H fun v H' => v = v0 ∧ ∃ S', A'.p H'.blk S' ∧ (∀ b ∈ S', b < H'.next) ∧ Own H H' S S') : Tri tab noExt f args [A] fun v P' => v = v0 ∧ P' = [A'] :=
  Tri.of tab_wf noExt_wf noExt_next noExt_ro fun H S hw hs hb => (h H S hw hs.one_inv hb).mono fun _ _ ⟨h1, S', h2, h3, h4⟩ => ⟨[A'], ⟨h1, rfl⟩, S', .one h2, h4.2, h3, h4.1.2⟩

theorem But.own {S : List Nat} {H H' : AH} (h : But S H H') : Own H H' S S := ⟨h, fun _ hb => .inl hb⟩
end

theorem New_tri : Tri tab noExt F.heap_New [] [] fun v P' => ∃ t, v = ptr t ∧ P' = [TmA t [] 0] :=
  Tri.of tab_wf noExt_wf noExt_next noExt_ro fun H S hw hs hb => (New_spec H hw).mono fun v H' ⟨t, S', h1, h2, h3, h4⟩ => ⟨_, ⟨t, h1, rfl⟩, S', .one ⟨_, h2⟩, fun b hb => .inr (h4 b hb), h2.lt, fun b hb _ => h3.2 b hb⟩

section
variable (t : Nat) (L : List Ent) (last : Int)

theorem Insert_tri (a x : Int) (hl : L.length < 256) (hlast : last < 4611686018427387904) : Tri tab noExt F.heap_Timers_Insert [ptr t, u64 a, i64 x] [TmA t L last] fun v P' => v = .tup [.s (.int .i64 (last + 1)), .s (.int .i64 0)] ∧ P' = [TmA t (insE ⟨a, last + 1, x⟩ L) (last + 1)] :=
  Tri.turn fun H S hw ⟨_, h⟩ hb => (Insert_spec H hw t L last S (h.next hb) a x hl hlast).mono fun _ _ ⟨h1, S', h2, h3⟩ => ⟨h1, S', ⟨_, h2⟩, h2.lt, h3⟩

theorem Insert_no_tri (a x : Int) (hl : 256 ≤ L.length) : Tri tab noExt F.heap_Timers_Insert [ptr t, u64 a, i64 x] [TmA t L last] fun v P' => v = .tup [.s (.int .i64 0), .s (.int .i64 (-33))] ∧ P' = [TmA t L last] :=
  Tri.keep fun H S hw ⟨_, h⟩ hb => Insert_no H hw t L last S (h.next hb) a x hl

theorem Len_tri : Tri tab noExt F.heap_Timers_Len [ptr t] [TmA t L last] fun v P' => v = i64 L.length ∧ P' = [TmA t L last] :=
  Tri.keep fun H S _ ⟨_, h⟩ hb => Len_spec H t L last S (h.next hb)

theorem Next_tri : Tri tab noExt F.heap_Timers_Next [ptr t] [TmA t L last] fun v P' => v = nextV L ∧ P' = [TmA t L last] :=
  Tri.keep fun H S _ ⟨_, h⟩ hb => Next_spec H t L last S (h.next hb)

theorem Left_tri (h now : Int) : Tri tab noExt F.heap_Timers_Left [ptr t, i64 h, u64 now] [TmA t L last] fun v P' => v = leftV L h now ∧ P' = [TmA t L last] :=
  Tri.keep fun H S hw ⟨_, hh⟩ hb => Left_spec H hw t L last S (hh.next hb) h now

theorem Cancel_tri (h : Int) : Tri tab noExt F.heap_Timers_Cancel [ptr t, i64 h] [TmA t L last] fun v P' => v = bl (byH L h).isSome ∧ P' = [TmA t (L.filter fun e => decide (e.handle ≠ h)) last] :=
  Tri.turn fun H S hw ⟨_, hh⟩ hb => (Cancel_spec H hw t L last S (hh.next hb) h).mono fun _ _ ⟨h1, h2, h3⟩ => ⟨h1, S, ⟨_, h2⟩, h2.lt, h3.own⟩

theorem Due_tri (now : Int) : Tri tab noExt F.heap_Timers_Due [ptr t, u64 now] [TmA t L last] fun v P' => ∃ s, v = .s s ∧ P' = [RowA encI 1 s ((dueL L now).map Ent.arg), TmA t (toL L now) last] :=
  Tri.of tab_wf noExt_wf noExt_next noExt_ro fun H S hw hs hb => by
    obtain ⟨_, h⟩ := hs.one_inv
    refine (Due_spec H hw t L last S (h.next hb) now).mono fun v H' ⟨s, So, h1, h2, h3, h4, h5⟩ => ⟨_, ⟨s, h1, rfl⟩, So ++ S, .cons ⟨_, h2⟩ (.one ⟨_, h3⟩) fun b hb1 hb2 => ?_, fun b hb' => ?_, fun b hb' => ?_, fun b hb' => h4.2 b hb'⟩
    · have := h5 b hb1; have := hb b hb2; omega
    · rcases List.mem_append.1 hb' with h | h
      · exact .inr (h5 b h)
      · exact .inl h
    · rcases List.mem_append.1 hb' with h | h
      · exact h2.lt b h
      · exact h3.lt b h
end

section
variable (c : Nat) (L : List Ent) (last tic up base : Int)

theorem NewClock_tri (h1 : 1 ≤ tic) (h2 : tic ≤ 1000) : Tri tab noExt F.clock_NewClock [i64 tic] [] fun v P' => ∃ c, v = .tup [.s (.ptr (some (c, 0))), .s (.int .i64 0)] ∧ P' = [CkA c [] 0 tic 0 0] :=
  Tri.of tab_wf noExt_wf noExt_next noExt_ro fun H S hw hs hb => (NewClock_spec H hw tic h1 h2).mono fun v H' ⟨t, S', h1, h2, h3, h4⟩ => ⟨_, ⟨t, h1, rfl⟩, S', .one ⟨_, h2⟩, fun b hb => .inr (h4 b hb), h2.lt, fun b hb _ => h3.2 b hb⟩

theorem Now_tri : Tri tab noExt F.clock_Clock_Now [ptr c] [CkA c L last tic up base] fun v P' => v = u64 ((IntKind.u64.wrap (base + up)).tmod 281474976710656) ∧ P' = [CkA c L last tic up base] :=
  Tri.keep fun H S _ ⟨_, h⟩ hb => Now_spec H c L last tic up base S (h.nextOf hb)

theorem Up_tri : Tri tab noExt F.clock_Clock_Up [ptr c] [CkA c L last tic up base] fun v P' => v = u64 up ∧ P' = [CkA c L last tic up base] :=
  Tri.keep fun H S _ ⟨_, h⟩ hb => Up_spec H c L last tic up base S (h.nextOf hb)

theorem Set_tri (x : Int) : Tri tab noExt F.clock_Clock_Set [ptr c, u64 x] [CkA c L last tic up base] fun v P' => v = unit ∧ P' = [CkA c L last tic up ((IntKind.u64.wrap (x + IntKind.u64.wrap (0 - up))).tmod 281474976710656)] :=
  Tri.turn fun H S _ ⟨_, hh⟩ hb => (Set_spec H c L last tic up base S (hh.nextOf hb) x).mono fun _ _ ⟨h1, h2, h3⟩ => ⟨h1, S, ⟨_, h2⟩, h2.lt, h3.own⟩

theorem Tick_tri : Tri tab noExt F.clock_Clock_Tick [ptr c] [CkA c L last tic up base] fun v P' => ∃ s, v = .s s ∧ P' = [RowA encI 1 s ((dueL L (IntKind.u64.wrap (up + tic))).map Ent.arg), CkA c (toL L (IntKind.u64.wrap (up + tic))) last tic (IntKind.u64.wrap (up + tic)) base] :=
  Tri.of tab_wf noExt_wf noExt_next noExt_ro fun H S hw hs hb => by
    obtain ⟨_, h⟩ := hs.one_inv
    refine (Tick_spec H hw c L last tic up base S (h.nextOf hb)).mono fun v H' ⟨s, So, h1, h2, h3, h4, h5⟩ => ⟨_, ⟨s, h1, rfl⟩, So ++ S, .cons ⟨_, h2⟩ (.one ⟨_, h3⟩) fun b hb1 hb2 => ?_, fun b hb' => ?_, fun b hb' => ?_, fun b hb' => h4.2 b hb'⟩
    · have := h5 b hb1; have := hb b hb2; omega
    · rcases List.mem_append.1 hb' with h | h
      · exact .inr (h5 b h)
      · exact .inl h
    · rcases List.mem_append.1 hb' with h | h
      · exact h2.lt b h
      · exact h3.lt b h

theorem After_tri (d x : Int) (hd : 0 ≤ d) (hd2 : d ≤ 2147483647) (hl : L.length < 256) (hlast : last < 4611686018427387904) :
    Tri tab noExt F.clock_Clock_After [ptr c, i64 d, i64 x] [CkA c L last tic up base] fun v P' => v = .tup [.s (.int .i64 (last + 1)), .s (.int .i64 0)] ∧ P' = [CkA c (insE ⟨IntKind.u64.wrap (IntKind.u64.wrap (up + d) + tic), last + 1, x⟩ L) (last + 1) tic up base] :=
  Tri.turn fun H S hw ⟨_, h⟩ hb => (After_spec H hw c L last tic up base S (h.nextOf hb) d x hd hd2 hl hlast).mono fun _ _ ⟨h1, S', h2, h3⟩ => ⟨h1, S', ⟨_, h2⟩, h2.lt, h3⟩
end

/- ---- what things tell ---- -/
section
variable {ρ : HF} {H : AH} {R : List Asr}

theorem Sat.row {α : Type} {enc : α → List SV} {k : Nat} {s : SV} {r : List α} (h : Sat ρ H (RowA enc k s r :: R)) : lenA (.s s) = some (i64 r.length) ∧ ∃ S, RowAt enc k H s r S := by
  obtain ⟨hw, S, h1, h2⟩ := h
  obtain ⟨S1, S2, rfl, ⟨n, k1⟩, _⟩ := h1.cons_inv
  exact ⟨k1.len, S1, (k1.next (m := H.next) fun b hb => h2 b (by simp [hb]))⟩

theorem Sat.good {t : Nat} {L : List Ent} {last : Int} (h : Sat ρ H (TmA t L last :: R)) : Good L last := by
  obtain ⟨hw, S, h1, h2⟩ := h
  obtain ⟨S1, S2, rfl, ⟨n, k1⟩, _⟩ := h1.cons_inv
  exact k1.good

/-- An element of a row of numbers. -/
theorem Sat.rowI {s : SV} {r : List Int} (h : Sat ρ H (RowA encI 1 s r :: R)) {i : Nat} (hi : i < r.length) : ∃ b c l, s = .slice (some (b, 0)) r.length c 1 ∧ H.blk b = some (.cells false l) ∧ l[i]? = some (.int .i64 (r.getD i 0)) := by
  obtain ⟨_, S, h1⟩ := h.row
  rcases h1 with ⟨_, _, rfl, _⟩ | ⟨b, c, j, h1, _, _, h4, _⟩
  · simp at hi
  · refine ⟨b, c, _, h1, h4, ?_⟩
    have g1 := flat_ldn encI_len r j i hi
    have : (((flat encI r ++ j).drop (i * 1)).take 1)[0]? = some (.int .i64 r[i]) := by rw [g1]; simp [encI]
    rw [List.getElem?_take, if_pos (by omega), List.getElem?_drop] at this
    rw [List.getD_eq_getElem?_getD, List.getElem?_eq_getElem hi]
    simpa using this
end

end Go.AM
