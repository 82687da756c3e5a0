/-
  Rows of things behind slices, side by side with others: read, stored to, appended to.
-/
import Derived.Test.YtineacililniiaaGreatDoorAmS
namespace Go.AM

abbrev i64 (n : Int) : AV := .s (.int .i64 n)
abbrev u64 (n : Int) : AV := .s (.int .u64 n)
abbrev bl (b : Bool) : AV := .s (.bool b)
abbrev ptr (p : Nat) : AV := .s (.ptr (some (p, 0)))
abbrev unit : AV := .tup []

/- ---- rows of structs ---- -/
section
variable {α : Type} (enc : α → List SV) (k : Nat)

def flat (r : List α) : List SV := r.flatMap enc

variable {enc k}
theorem flat_len (hk : ∀ e, (enc e).length = k) (r : List α) : (flat enc r).length = r.length * k := by
  induction r with
  | nil => simp [flat]
  | cons e r ih => simp only [flat, List.flatMap_cons, List.length_append, hk, List.length_cons] at ih ⊢; rw [ih, Nat.add_mul]; omega

theorem flat_split (hk : ∀ e, (enc e).length = k) (r : List α) (i : Nat) (hi : i < r.length) : flat enc r = flat enc (r.take i) ++ (enc r[i] ++ flat enc (r.drop (i + 1))) ∧ (flat enc (r.take i)).length = i * k := by
  refine ⟨?_, by rw [flat_len hk, List.length_take, Nat.min_eq_left (by omega)]⟩
  have h : r = r.take i ++ r[i] :: r.drop (i + 1) := by simp
  have h2 : flat enc (r.take i ++ r[i] :: r.drop (i + 1)) = flat enc (r.take i) ++ (enc r[i] ++ flat enc (r.drop (i + 1))) := by
    unfold flat; rw [List.flatMap_append, List.flatMap_cons]
  rw [← h2, ← h]

theorem flat_ldn (hk : ∀ e, (enc e).length = k) (r : List α) (j : List SV) (i : Nat) (hi : i < r.length) : ((flat enc r ++ j).drop (i * k)).take k = enc r[i] := by
  obtain ⟨h1, h2⟩ := flat_split hk r i hi
  rw [h1, List.append_assoc, ← h2, List.drop_left, List.append_assoc, ← hk r[i], List.take_left]

theorem flat_fit (hk : ∀ e, (enc e).length = k) (r : List α) (j : List SV) (i : Nat) (hi : i < r.length) : i * k + k ≤ (flat enc r ++ j).length := by
  rw [List.length_append, flat_len hk]
  have : (i + 1) * k ≤ r.length * k := Nat.mul_le_mul_right _ hi
  rw [Nat.add_mul] at this; omega

theorem flat_splice (hk : ∀ e, (enc e).length = k) (r : List α) (j : List SV) (i : Nat) (hi : i < r.length) (e : α) : splice (flat enc r ++ j) (i * k) (enc e) = flat enc (r.set i e) ++ j := by
  obtain ⟨h1, h2⟩ := flat_split hk r i hi
  have h3 : flat enc (r.set i e) = flat enc (r.take i) ++ (enc e ++ flat enc (r.drop (i + 1))) := by
    rw [List.set_eq_take_append_cons_drop, if_pos hi]
    simp [flat]
  unfold splice
  rw [h3, hk, h1]
  have e1 : ((flat enc (r.take i) ++ (enc r[i] ++ flat enc (r.drop (i + 1)))) ++ j).take (i * k) = flat enc (r.take i) := by
    rw [List.append_assoc, ← h2, List.take_left]
  have e2 : ((flat enc (r.take i) ++ (enc r[i] ++ flat enc (r.drop (i + 1)))) ++ j).drop (i * k + k) = flat enc (r.drop (i + 1)) ++ j := by
    rw [← List.drop_drop, List.append_assoc, ← h2, List.drop_left, ← hk r[i], List.append_assoc, List.drop_left]
  rw [e1, e2]; simp

theorem flat_snoc (r : List α) (e : α) : flat enc (r ++ [e]) = flat enc r ++ enc e := by simp [flat]
end


section
variable {α : Type} {enc : α → List SV} {k : Nat}

theorem flat_nil : flat enc [] = [] := rfl
theorem flat_append (r r2 : List α) : flat enc (r ++ r2) = flat enc r ++ flat enc r2 := by simp [flat]
theorem flat_one (e : α) : flat enc [e] = enc e := by simp [flat]

/-- A cell of an element. -/
theorem flat_cell (hk : ∀ e, (enc e).length = k) {r : List α} {j : List SV} {i : Nat} {x : α} (hx : r[i]? = some x) (d : Nat) (hd : d < k) : (flat enc r ++ j)[i * k + d]? = (enc x)[d]? := by
  obtain ⟨hi, rfl⟩ := List.getElem?_eq_some_iff.1 hx
  have g1 := flat_ldn hk r j i hi
  rw [← g1, List.getElem?_take, if_pos hd, List.getElem?_drop]

theorem flat_part (hk : ∀ e, (enc e).length = k) (r : List α) (j : List SV) (l n : Nat) (h : l + n ≤ r.length) : ((flat enc r ++ j).drop (l * k)).take (n * k) = flat enc ((r.drop l).take n) := by
  have h1 : r = r.take l ++ ((r.drop l).take n ++ (r.drop l).drop n) := by rw [List.take_append_drop, List.take_append_drop]
  have h2 : (flat enc (r.take l)).length = l * k := by rw [flat_len hk, List.length_take, Nat.min_eq_left (by omega)]
  have h3 : (flat enc ((r.drop l).take n)).length = n * k := by rw [flat_len hk, List.length_take, List.length_drop, Nat.min_eq_left (by omega)]
  conv => lhs; rw [h1, flat_append, flat_append]
  rw [List.append_assoc, ← h2, List.drop_left, List.append_assoc, ← h3, List.take_left]

variable (enc k)
/-- A row behind a slice, from its block's beginning. -/
def Row (s : SV) (r : List α) : Asr := ⟨fun _ f S => (∃ e, s = .slice none 0 0 e ∧ r = [] ∧ S = []) ∨ ∃ b c j, s = .slice (some (b, 0)) r.length c k ∧ S = [b] ∧ f b = some (.cells false (flat enc r ++ j)) ∧ c * k ≤ (flat enc r ++ j).length ∧ r.length ≤ c,
  fun hg h => h.elim .inl fun ⟨b, c, j, h1, h2, h3, h4⟩ => .inr ⟨b, c, j, h1, h2, by rw [hg b (by simp [h2])]; exact h3, h4⟩⟩
variable {enc k}
/-- So many names are free. -/
theorem Sat.frees {ρ : HF} {H : AH} {R : List Asr} (h : Sat ρ H R) (n : Nat) (l : List Nat) (hl : ∀ i ∈ l, i < n) (hn : l.Nodup) : Sat ρ (H.bump n) (l.map (fun i => Fre (H.next + i)) ++ R) := by
  obtain ⟨hw, S, h1, h2⟩ := h
  have key : ∀ l : List Nat, l.Nodup → SatL ρ H.blk (l.map (fun i => Fre (H.next + i)) ++ R) (l.map (fun i => H.next + i) ++ S) := by
    intro l hn
    induction l with
    | nil => exact h1
    | cons i l ih =>
      rw [List.nodup_cons] at hn
      refine SatL.cons (S := [H.next + i]) ⟨rfl, hw.1 _ (Nat.le_add_right _ _)⟩ (ih hn.2) ?_
      intro b hb hs
      simp at hb
      subst hb
      rcases List.mem_append.1 hs with hs | hs
      · obtain ⟨i', hi', he⟩ := List.mem_map.1 hs
        have : i' = i := by omega
        exact hn.1 (this ▸ hi')
      · have := h2 _ hs; omega
  refine ⟨⟨hw.1.bump _, hw.2⟩, _, key l hn, fun b hb => ?_⟩
  rcases List.mem_append.1 hb with hb | hb
  · obtain ⟨i, hi, rfl⟩ := List.mem_map.1 hb
    have := hl i hi
    simp; omega
  · have := h2 b hb
    simp; omega

variable {ρ : HF} {H : AH} {R : List Asr} {s : SV} {r : List α}

theorem Sat.rowInv (h : Sat ρ H (Row enc k s r :: R)) : (∃ e, s = .slice none 0 0 e ∧ r = [] ∧ Sat ρ H R) ∨ ∃ b c j, s = .slice (some (b, 0)) r.length c k ∧ Sat ρ H (Cel b (flat enc r ++ j) :: R) ∧ c * k ≤ (flat enc r ++ j).length ∧ r.length ≤ c := by
  obtain ⟨hw, S, h1, h2⟩ := h
  obtain ⟨S1, S2, rfl, k1, k2, k3⟩ := h1.cons_inv
  rcases k1 with ⟨e, rfl, rfl, rfl⟩ | ⟨b, c, j, rfl, rfl, h3, h4, h5⟩
  · exact .inl ⟨e, rfl, rfl, hw, S2, k2, by simpa using h2⟩
  · exact .inr ⟨b, c, j, rfl, ⟨hw, _, .cons (A := Cel b _) ⟨rfl, h3⟩ k2 k3, h2⟩, h4, h5⟩

theorem Sat.mkRow {b c : Nat} {j : List SV} (h : Sat ρ H (Cel b (flat enc r ++ j) :: R)) (h1 : c * k ≤ (flat enc r ++ j).length) (h2 : r.length ≤ c) : Sat ρ H (Row enc k (.slice (some (b, 0)) r.length c k) r :: R) :=
  Sat.imp (A := Cel b _) (B := Row enc k _ r) (fun _ _ ⟨h3, h4⟩ => .inr ⟨b, c, j, rfl, h3, h4, h1, h2⟩) h

theorem Sat.mkNil (h : Sat ρ H R) (e : Nat) : Sat ρ H (Row enc k (.slice none 0 0 e) [] :: R) := by
  obtain ⟨hw, S, h1, h2⟩ := h
  exact ⟨hw, [] ++ S, .cons (A := Row enc k _ _) (.inl ⟨e, rfl, rfl, rfl⟩) h1 (by simp), h2⟩

theorem Sat.rowLen (h : Sat ρ H (Row enc k s r :: R)) : lenA (.s s) = some (i64 r.length) := by
  rcases h.rowInv with ⟨e, rfl, rfl, _⟩ | ⟨b, c, j, rfl, _⟩ <;> rfl

/-- What a row's block holds. -/
theorem Sat.rowBlk (h : Sat ρ H (Row enc k s r :: R)) (hr : 0 < r.length) : ∃ b c j, s = .slice (some (b, 0)) r.length c k ∧ H.blk b = some (.cells false (flat enc r ++ j)) ∧ c * k ≤ (flat enc r ++ j).length ∧ r.length ≤ c := by
  rcases h.rowInv with ⟨e, rfl, rfl, _⟩ | ⟨b, c, j, h1, h2, h3⟩
  · simp at hr
  · exact ⟨b, c, j, h1, h2.cel, h3⟩

/-- A row as a source. -/
theorem Sat.rowSrc (hk : ∀ e, (enc e).length = k) (h : Sat ρ H (Row enc k s r :: R)) : sliceCells k (.s s) r.length H = some (flat enc r) := by
  rcases h.rowInv with ⟨e, rfl, rfl, _⟩ | ⟨b, c, j, rfl, h2, h3⟩
  · rfl
  · simp only [sliceCells, ldn_of H h2.cel, Nat.zero_add]
    rw [if_pos ⟨trivial, Nat.le_refl _⟩, if_pos (by rw [List.length_append, flat_len hk]; omega), List.drop_zero, ← flat_len hk r, List.take_left]

/-- A part of a row as a source. -/
theorem Sat.partSrc (hk : ∀ e, (enc e).length = k) {b len c : Nat} (h : Sat ρ H (Row enc k (.slice (some (b, 0)) len c k) r :: R)) {o l n c' : Nat} (ho : o = l * k) (hl : l + n ≤ r.length) : sliceCells k (.s (.slice (some (b, o)) n c' k)) n H = some (flat enc ((r.drop l).take n)) := by
  subst ho
  rcases h.rowInv with ⟨e, he, _⟩ | ⟨b', c2, j, he, h2, h3⟩
  · cases he
  · cases he
    have h4 : (l + n) * k ≤ r.length * k := Nat.mul_le_mul_right _ hl
    rw [Nat.add_mul] at h4
    simp only [sliceCells, ldn_of H h2.cel]
    rw [if_pos ⟨trivial, Nat.le_refl _⟩, if_pos (by rw [List.length_append, flat_len hk]; omega), flat_part hk r j l n hl]

theorem Sat.rowSl (h : Sat ρ H (Row enc k s r :: R)) : slLen (.s s) = some r.length := by
  rcases h.rowInv with ⟨e, rfl, rfl, _⟩ | ⟨b, c, j, rfl, _⟩ <;> rfl

/-- More is put behind a row. -/
theorem Sat.append (hk : ∀ e, (enc e).length = k) {id n bytes : Nat} {x : AV} {r2 : List α} (h : Sat ρ H (Row enc k s r :: Fre id :: R)) (hx : sliceCells k x r2.length H = some (flat enc r2)) (hn : slLen x = some r2.length) (hb : (r.length + r2.length) * bytes ≤ 70368744177664) :
    ∃ s' H', appendA k bytes id (.s s) x H = some (.s s', H') ∧ Sat ρ H' (Row enc k s' (r ++ r2) :: R) ∧ H'.next = H.next := by
  rcases h.rowInv with ⟨e, rfl, rfl, h1⟩ | ⟨b, c, j, rfl, h1, h2, h3⟩
  · by_cases h0 : r2.length = 0
    · have : r2 = [] := List.length_eq_zero_iff.1 h0
      subst this
      refine ⟨.slice none 0 0 k, H, ?_, h1.drop.mkNil k, rfl⟩
      simp only [appendA, hx, hn, Option.bind_some]
      rw [if_pos (by simp), if_pos h0]
    · refine ⟨.slice (some (id, 0)) r2.length r2.length k, H.set id (.cells false (flat enc r2)), ?_, ?_, rfl⟩
      · simp only [appendA, hx, hn, Option.bind_some]
        rw [if_pos (by simpa using hb), if_neg h0, new_of H h1.fre]
        rfl
      · have h4 := Sat.mk h1 (flat enc r2)
        rw [← List.append_nil (flat enc r2)] at h4
        simpa using h4.mkRow (by simp [flat_len hk]) (Nat.le_refl _)
  · have hfl := flat_len hk r
    have hfl2 := flat_len hk r2
    have hl2 : (r ++ r2).length = r.length + r2.length := by simp
    by_cases hc : r.length + r2.length ≤ c
    · have hle : (r.length + r2.length) * k ≤ c * k := Nat.mul_le_mul_right _ hc
      have hl : r.length * k + (flat enc r2).length ≤ (flat enc r ++ j).length := by rw [hfl2]; rw [Nat.add_mul] at hle; omega
      refine ⟨.slice (some (b, 0)) (r.length + r2.length) c k, H.set b (.cells false (splice (flat enc r ++ j) (r.length * k) (flat enc r2))), ?_, ?_, rfl⟩
      · simp only [appendA, hx, hn, Option.bind_some]
        rw [if_pos ⟨trivial, hb⟩, if_pos hc, Nat.zero_add, stn_of H h1.cel hl]
        rfl
      · have e : splice (flat enc r ++ j) (r.length * k) (flat enc r2) = flat enc (r ++ r2) ++ j.drop (flat enc r2).length := by
          unfold splice
          rw [← hfl, List.take_left, ← List.drop_drop, List.drop_left, flat_append, List.append_assoc]
        have h4 := (Sat.set h1 (splice (flat enc r ++ j) (r.length * k) (flat enc r2)))
        rw [e] at h4 ⊢
        rw [← hl2]
        have h5 : Sat ρ _ (Cel b (flat enc (r ++ r2) ++ j.drop (flat enc r2).length) :: R) := (h4.perm (List.Perm.swap _ _ _)).drop
        refine h5.mkRow ?_ (by rw [hl2]; exact hc)
        rw [flat_append]
        simp only [List.length_append, List.length_drop] at h2 hl ⊢
        omega
    · have hne : id ≠ b := fun he => by
        have h6 := (h1.perm (List.Perm.swap _ _ _)).fre
        rw [he, h1.cel] at h6; cases h6
      refine ⟨.slice (some (id, 0)) (r.length + r2.length) (r.length + r2.length) k, (H.set b .dead).set id (.cells false (flat enc r ++ flat enc r2)), ?_, ?_, rfl⟩
      · have hf := (h1.perm (List.Perm.swap _ _ _)).fre
        simp only [appendA, hx, hn, Option.bind_some]
        rw [if_pos ⟨trivial, hb⟩, if_neg hc, h1.cel]
        simp only [Nat.zero_add]
        rw [if_pos (by simp [hfl]), new_of _ (by rw [set_blk, if_neg hne]; exact hf)]
        simp only [List.drop_zero, ← hfl, List.take_left, Option.map_some]
      · have h4 := Sat.mk (Sat.kill h1) (flat enc r ++ flat enc r2)
        rw [← flat_append, ← List.append_nil (flat enc (r ++ r2))] at h4
        rw [← hl2, ← flat_append]
        simpa using h4.mkRow (by simp [flat_append, hfl, hfl2, Nat.add_mul]) (Nat.le_refl _)

/-- One more. -/
theorem Sat.append1 (hk : ∀ e, (enc e).length = k) {id bytes x : Nat} {e : α} {o : Nat} {l : List SV} {c : Nat} (h : Sat ρ H (Row enc k s r :: Fre id :: Cel x l :: R)) (hl : (l.drop o).take k = enc e) (ho : o + k ≤ l.length) (hb : (r.length + 1) * bytes ≤ 70368744177664) :
    ∃ s' H', appendA k bytes id (.s s) (.s (.slice (some (x, o)) 1 c k)) H = some (.s s', H') ∧ Sat ρ H' (Row enc k s' (r ++ [e]) :: Cel x l :: R) ∧ H'.next = H.next := by
  have hx : H.blk x = some (.cells false l) := (h.drop.drop).cel
  refine Sat.append hk (r2 := [e]) (n := 1) (x := .s (.slice (some (x, o)) 1 c k)) h ?_ rfl hb
  simp only [sliceCells, ldn_of H hx, List.length_singleton, Nat.one_mul, flat_one]
  rw [if_pos ⟨trivial, Nat.le_refl _⟩, if_pos ho, hl]

/-- A row is copied: append([]T{}, s...). -/
theorem Sat.copy (hk : ∀ e, (enc e).length = k) {b1 b2 bytes : Nat} {x : AV} {r2 : List α} (h : Sat ρ H (Fre b1 :: Fre b2 :: R)) (hx : ∀ H', Sat ρ H' (Fre b2 :: R) → sliceCells k x r2.length H' = some (flat enc r2)) (hn : slLen x = some r2.length) (hb : r2.length * bytes ≤ 70368744177664) {K : AV × AH → Prop} (hK : ∀ s' H', H'.next = H.next → Sat ρ H' (Row enc k s' r2 :: R) → K (.s s', H')) :
    andThen (H.new b1 (.cells false [])) fun H1 => andThen (appendA k bytes b2 (.s (.slice (some (b1, 0)) 0 0 k)) x H1) K := by
  refine ⟨_, new_of H h.fre, ?_⟩
  have h1 := Sat.mk h []
  have h2 : Sat ρ _ (Row enc k (.slice (some (b1, 0)) 0 0 k) [] :: Fre b2 :: R) := Sat.mkRow (r := []) (j := []) (c := 0) h1 (by simp) (by simp)
  obtain ⟨s', H', e1, h3, e2⟩ := Sat.append hk (n := 0) h2 (hx _ h1.drop) hn (by simpa using hb)
  exact ⟨_, e1, hK s' H' e2 h3⟩

/-- The front of a row. -/
theorem Sat.rowTake (hk : ∀ e, (enc e).length = k) {b c : Nat} (h : Sat ρ H (Row enc k (.slice (some (b, 0)) r.length c k) r :: R)) (n : Nat) (hn : n ≤ r.length) : Sat ρ H (Row enc k (.slice (some (b, 0)) n c k) (r.take n) :: R) := by
  rcases h.rowInv with ⟨e, h1, _⟩ | ⟨b', c', j, he, h1, h2, h3⟩
  · cases h1
  · cases he
    have e : flat enc r ++ j = flat enc (r.take n) ++ (flat enc (r.drop n) ++ j) := by rw [← List.append_assoc, ← flat_append, List.take_append_drop]
    rw [e] at h1 h2
    have h4 := h1.mkRow h2 (by rw [List.length_take]; omega)
    rwa [List.length_take, Nat.min_eq_left hn] at h4

/-- An element is stored to. -/
theorem Sat.rowSet (hk : ∀ e, (enc e).length = k) {b c : Nat} {j : List SV} (h : Sat ρ H (Cel b (flat enc r ++ j) :: R)) (h1 : c * k ≤ (flat enc r ++ j).length) (h2 : r.length ≤ c) (i : Nat) (hi : i < r.length) (e : α) (l : List SV) (hl : l = splice (flat enc r ++ j) (i * k) (enc e)) : Sat ρ (H.set b (.cells false l)) (Row enc k (.slice (some (b, 0)) r.length c k) (r.set i e) :: R) := by
  subst hl
  have h3 := Sat.set h (splice (flat enc r ++ j) (i * k) (enc e))
  rw [flat_splice hk r j i hi e] at h3 ⊢
  have h4 := h3.mkRow (c := c) (by simpa [flat_len hk] using h1) (by simpa using h2)
  rwa [List.length_set] at h4

/-- A contract, with what comes behind it left shut. -/
theorem Tri.intro {tab : Nat → Option RFunc} {ext : Nat → List AV → AH → Option (AV × AH)} {f : Nat} {args : List AV} {P : List Asr} {Q : AV → List Asr → Prop}
    (h : ∀ (ρ : HF) (H : AH) (Rs : List Asr) (K : AV → AH → Prop), Sat ρ H (P ++ Rs) → (∀ v H' P', Q v P' → Sat ρ H' (P' ++ Rs) → K v H') → CallP tab ext f args H K) : Tri tab ext f args P Q :=
  fun ρ H Rs hs => h ρ H Rs _ hs fun _ _ P' hq hs => ⟨P', hq, hs⟩

/-- A loop, with what comes behind it left shut. -/
theorem loopP_invK {tab : Nat → Option RFunc} {ext : Nat → List AV → AH → Option (AV × AH)} {c : RC} {K : Ex → List AV → AH → Prop} (I : Nat → List AV → AH → Prop) (step : ∀ n T H, I n T H → ∀ K' : Ex → List AV → AH → Prop, (∀ m T' H', m < n → I m T' H' → K' .norm T' H') → (∀ T' H', K .ret T' H' → K' .ret T' H') → (∀ id T' H', K (.out id) T' H' → K' (.out id) T' H') → wpC tab ext c T H K') (n : Nat) (T : List AV) (H : AH) (h : I n T H) : loopP tab ext c T H K :=
  loopP_inv I (fun n T H h => step n T H h _ (fun m _ _ hm hi => ⟨m, hm, hi⟩) (fun _ _ h => h) (fun _ _ _ h => h)) n T H h

theorem Sat.swap {A B : Asr} (h : Sat ρ H (A :: B :: R)) : Sat ρ H (B :: A :: R) := h.perm (List.Perm.swap _ _ _)
end

end Go.AM
