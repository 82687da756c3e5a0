/-
  slices: Clip, Clone, Index, Delete of numbers.
-/
import Derived.Test.YtlkpeondecnhnaaDoorBtC
namespace Go.AM
attribute [local simp] AH.ld AH.ldn AH.stn AH.new Nat.add_assoc resA resA1 fillA buildA slSlA boundsA boundA callvP

theorem Clip_tri (s : SV) (r : List Int) (_hr : r.length ≤ 1000) : Tri tab noExt F.slices_Clip__int_int [.s s] [Row encI 1 s r] fun v P' => ∃ s', v = .s s' ∧ P' = [Row encI 1 s' r] := by
  refine Tri.intro fun ρ H Rs K hs hk => ?_
  apply slices_Clip__int_int_call
  have hs : Sat ρ H (Row encI 1 s r :: Rs) := hs
  rcases hs.rowInv with ⟨e, rfl, rfl, h1⟩ | ⟨b, c, j, rfl, h1, h2, h3⟩
  · simp
    exact hk _ _ _ ⟨_, rfl, rfl⟩ (Sat.mkNil ((h1.bump _).bump _) 1)
  · have h4 : (r.length : Int) ≤ (c : Int) := by omega
    simp [h4]
    refine hk _ _ _ ⟨_, rfl, rfl⟩ (((h1.mkRow (c := r.length) ?_ (Nat.le_refl _)).bump _).bump _)
    rw [List.length_append, flat_len encI_len]; omega

theorem CloneI_tri (s : SV) (r : List Int) (hr : r.length ≤ 1000) : Tri tab noExt F.slices_Clone__int_int [.s s] [Row encI 1 s r] fun v P' => ∃ s', v = .s s' ∧ P' = [Row encI 1 s' r, Row encI 1 s r] := by
  refine Tri.intro fun ρ H Rs K hs hk => ?_
  apply slices_Clone__int_int_call
  have hs : Sat ρ H (Row encI 1 s r :: Rs) := hs
  rcases hs.rowInv with ⟨e, rfl, rfl, h1⟩ | ⟨b, c, j, rfl, h1, h2, h3⟩
  · simp
    exact hk _ _ _ ⟨_, rfl, rfl⟩ (Sat.mkNil ((hs.bump _).bump _ |>.bump _) 1)
  · simp [-AH.new]
    have hs2 := ((hs.bump 1).bump 2).frees 4 [0, 2] (by decide) (by decide)
    simp only [List.map_cons, List.map_nil, List.cons_append, List.nil_append, bump_next, Nat.add_assoc, Nat.reduceAdd] at hs2
    refine Sat.copy encI_len hs2 (r2 := r) (fun H' h => ?_) rfl (by omega) ?_
    · exact (h.front 1 (by simp)).rowSrc encI_len
    · intro s' H' _ hs3
      exact hk _ _ _ ⟨s', rfl, rfl⟩ hs3

theorem RowI.get {ρ : HF} {H : AH} {R : List Asr} {s : SV} {xs : List Int} (h : Sat ρ H (Row encI 1 s xs :: R)) {i : Nat} {x : Int} (hx : xs[i]? = some x) : ∃ b c ro l, s = .slice (some (b, 0)) xs.length c 1 ∧ H.blk b = some (.cells ro l) ∧ l[i]? = some (.int .i64 x) ∧ b < H.next := (Sat.rdRow h).rdGet hx

theorem IndexI_tri (s : SV) (r : List Int) (x : Int) (i : Nat) (hr : r.length ≤ 1000) (hi : r[i]? = some x) (hb : ∀ j, j < i → r[j]? ≠ some x) : Tri tab noExt F.slices_Index__int_int [.s s, i64 x] [Row encI 1 s r] fun v P' => v = i64 i ∧ P' = [Row encI 1 s r] := by
  refine Tri.intro fun ρ H Rs K hs hk => ?_
  apply slices_Index__int_int_call
  have hs : Sat ρ H (Row encI 1 s r :: Rs) := hs
  have hlen := hs.rowLen
  have hil := (List.getElem?_eq_some_iff.1 hi).1
  simp [hlen]
  refine loopP_invK (I := fun n T H' => T.length = 19 ∧ sl T 0 = .s s ∧ sl T 1 = i64 x ∧ sl T 7 = i64 r.length ∧ ∃ k : Nat, sl T 8 = i64 k ∧ k ≤ i ∧ n = i - k ∧ Sat ρ H' (Row encI 1 s r :: Rs)) ?_ i _ _ ⟨rfl, rfl, rfl, rfl, 0, rfl, Nat.zero_le _, rfl, (hs.bump _).bump _⟩
  intro n T H' ⟨hT, s0, s1, s7, k, s8, hk2, hn, hs⟩ K' kn kr ko
  rw [slices_Index__int_int_l0_at hT]
  have hlt : (k : Int) < (r.length : Int) := by omega
  obtain ⟨y, hy⟩ := get_ex (show k < r.length by omega)
  obtain ⟨b, c, ro, l, rfl, hbk, hl, _⟩ := RowI.get hs hy
  have hlt' : k < r.length := by omega
  have w1 : IntKind.i64.wrap ((k : Int) + 1) = (k : Int) + 1 := wrap_i64 (by omega) (by omega)
  by_cases he : k = i
  · subst he
    rw [hi] at hy
    cases hy
    simp [s0, s1, s7, s8, hlt', hbk, hl]
    refine kr _ _ ?_
    simp
    exact hk _ _ _ ⟨rfl, rfl⟩ (by (repeat refine Sat.bump ?_ _); exact hs)
  · have hne : ¬ x = y := fun e => hb k (by omega) (by rw [hy, e])
    simp [s0, s1, s7, s8, hlt', hbk, hl, hne, w1]
    exact kn (i - (k + 1)) _ _ (by omega) ⟨rfl, rfl, rfl, rfl, k + 1, rfl, by omega, rfl, by (repeat refine Sat.bump ?_ _); exact hs⟩

theorem splice_del (r : List Int) (j : List SV) (i : Nat) (hi : i < r.length) : splice (flat encI r ++ j) i (flat encI (r.drop (i + 1))) = flat encI (r.take i ++ r.drop (i + 1)) ++ (flat encI r ++ j).drop (r.length - 1) := by
  unfold splice
  have e1 : (flat encI (r.drop (i + 1))).length = r.length - (i + 1) := by rw [flat_len encI_len, List.length_drop]; omega
  have e2 : (flat encI r ++ j).take i = flat encI (r.take i) := by
    have : flat encI r ++ j = flat encI (r.take i) ++ (flat encI (r.drop i) ++ j) := by rw [← List.append_assoc, ← flat_append, List.take_append_drop]
    rw [this, List.take_append_of_le_length (by rw [flat_len encI_len, List.length_take]; omega)]
    apply List.take_of_length_le
    rw [flat_len encI_len, List.length_take]; omega
  rw [e1, e2, flat_append, show i + (r.length - (i + 1)) = r.length - 1 by omega, List.append_assoc]

theorem splice_zero (A B : List SV) (n : Nat) (z : SV) (hn : A.length = n) : splice (A ++ B) n [z] = A ++ (z :: B.drop 1) := by
  unfold splice
  subst hn
  rw [List.take_left, ← List.drop_drop, List.drop_left]
  simp

theorem clear_one (b o c : Nat) (z : SV) (H : AH) : clearA 1 [z] (.s (.slice (some (b, o)) 1 c 1)) H = H.stn b o [z] := by
  simp only [clearA]
  rw [if_neg (by omega), if_pos ⟨trivial, rfl⟩]
  rfl

theorem DeleteI_tri (s : SV) (r : List Int) (i : Nat) (hr : r.length ≤ 1000) (hi : i < r.length) : Tri tab noExt F.slices_Delete__int_int [.s s, i64 i, i64 ((i : Int) + 1)] [Row encI 1 s r] fun v P' => ∃ s', v = .s s' ∧ P' = [Row encI 1 s' (r.take i ++ r.drop (i + 1))] := by
  refine Tri.intro fun ρ H Rs K hs hk => ?_
  apply slices_Delete__int_int_call
  have hs : Sat ρ H (Row encI 1 s r :: Rs) := hs
  rcases hs.rowInv with ⟨e, rfl, rfl, h1⟩ | ⟨b, c, j, rfl, h1, h2, h3⟩
  · simp at hi
  have b1 : (i : Int) + 1 ≤ (r.length : Int) := by omega
  have b2 : (i : Int) ≤ (r.length : Int) := by omega
  have b3 : (r.length : Int) ≤ (c : Int) := by omega
  have b4 : ¬ (i : Int) = (i : Int) + 1 := by omega
  have b5 : (i : Int) ≤ (i : Int) + 1 := by omega
  have t1 : ((i : Int) + 1).toNat = i + 1 := by omega
  have b6 : (0 : Int) ≤ (i : Int) + 1 := by omega
  have hsrc : ∀ n c', sliceCells 1 (.s (.slice (some (b, i + 1)) n c' 1)) n (((((H.bump 1).bump 6).bump 3).bump 3).bump 8) = sliceCells 1 (.s (.slice (some (b, i + 1)) n c' 1)) n H := fun n c' => rfl
  have hpart : sliceCells 1 (.s (.slice (some (b, i + 1)) (r.length - (i + 1)) (c - (i + 1)) 1)) (r.length - (i + 1)) H = some (flat encI ((r.drop (i + 1)).take (r.length - (i + 1)))) := hs.partSrc encI_len (by omega) (by omega)
  rw [List.take_of_length_le (by rw [List.length_drop]; exact Nat.le_refl _)] at hpart
  have e1 : (flat encI (r.drop (i + 1))).length = r.length - (i + 1) := by rw [flat_len encI_len, List.length_drop]; omega
  have efl : (flat encI r).length = r.length := by rw [flat_len encI_len]; omega
  have hbl : i + (flat encI (r.drop (i + 1))).length ≤ (flat encI r ++ j).length := by rw [e1, List.length_append, efl]; omega
  have h1' := (((((h1.bump 1).bump 6).bump 3).bump 3).bump 8)
  have hst := stn_of (((((H.bump 1).bump 6).bump 3).bump 3).bump 8) h1'.cel hbl
  have happ : appendA 1 8 (H.next + 19) (.s (.slice (some (b, 0)) i c 1)) (.s (.slice (some (b, i + 1)) (r.length - (i + 1)) (c - (i + 1)) 1)) (((((H.bump 1).bump 6).bump 3).bump 3).bump 8) =
      some (.s (.slice (some (b, 0)) (r.length - 1) c 1), (((((H.bump 1).bump 6).bump 3).bump 3).bump 8).set b (.cells false (splice (flat encI r ++ j) i (flat encI (r.drop (i + 1)))))) := by
    simp only [appendA]
    rw [show slLen (.s (.slice (some (b, i + 1)) (r.length - (i + 1)) (c - (i + 1)) 1)) = some (r.length - (i + 1)) from rfl, Option.bind_some, hsrc, hpart, Option.bind_some, if_pos ⟨trivial, by omega⟩, if_pos (by omega), Nat.zero_add, Nat.mul_one, hst, Option.map_some, show i + (r.length - (i + 1)) = r.length - 1 by omega]
  rw [splice_del r j i hi] at happ
  have h2' := Sat.set h1' (flat encI (r.take i ++ r.drop (i + 1)) ++ (flat encI r ++ j).drop (r.length - 1))
  have e3 : (flat encI (r.take i ++ r.drop (i + 1))).length = r.length - 1 := by rw [flat_len encI_len, List.length_append, List.length_take, List.length_drop]; omega
  have e4 : ((flat encI r ++ j).drop (r.length - 1)).length = (flat encI r ++ j).length - (r.length - 1) := by rw [List.length_drop]
  have e5 : (flat encI r ++ j).length = r.length + j.length := by rw [List.length_append, efl]
  have b7 : i ≤ c := by omega
  have hst2 := stn_of (((((((H.bump 1).bump 6).bump 3).bump 3).bump 8).set b (.cells false (flat encI (r.take i ++ r.drop (i + 1)) ++ (flat encI r ++ j).drop (r.length - 1)))).bump 6) (h2'.bump 6).cel (o := r.length - 1) (vs := [.int .i64 0]) (by rw [List.length_append, e3, e4, e5, List.length_singleton]; omega)
  rw [splice_zero _ _ _ _ e3] at hst2
  have b8 : ((r.length - 1 : Nat) : Int) ≤ (r.length : Int) := by omega
  simp [b1, b2, b3, b4, b5, b6, t1]
  refine ⟨b7, _, happ, ?_⟩
  have b9 : r.length - (r.length - 1) = 1 := by omega
  simp [h3, b8, b9]
  refine andThen_of' ((clear_one _ _ _ _ _).trans hst2) ?_
  · have h5 := Sat.set (h2'.bump 6) (flat encI (r.take i ++ r.drop (i + 1)) ++ SV.int .i64 0 :: List.drop 1 (List.drop (r.length - 1) (flat encI r ++ j)))
    have hl : (r.take i ++ r.drop (i + 1)).length = r.length - 1 := by rw [List.length_append, List.length_take, List.length_drop]; omega
    have h6 := h5.mkRow (enc := encI) (k := 1) (c := c) (by rw [List.length_append, e3, List.length_cons, List.length_drop, e4, e5]; rw [e5] at h2; omega) (by rw [hl]; omega)
    rw [hl] at h6
    exact hk _ _ _ ⟨_, rfl, rfl⟩ (h6.bump 2)
end Go.AM
