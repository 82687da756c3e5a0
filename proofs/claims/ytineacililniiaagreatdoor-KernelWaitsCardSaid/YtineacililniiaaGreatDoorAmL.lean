/-
  THE ABSTRACT MACHINE: a region that draws its order, whole code, whole functions. The machine is sound.
-/
import Derived.Test.YtineacililniiaaGreatDoorAmK
namespace Go.AM

/- ---- which operation must come ahead of which ---- -/

def predsOf (o : Oper) : List Nat := o.after.toList.filterMap fun e => if Region.binds .any e then some e.on else none

def maskOf (acc : List Nat) (o : Oper) : Nat := (predsOf o).foldl (fun m k => m ||| 2 ^ k ||| acc.getD k 0) 0

def masks : List Oper → List Nat → List Nat
  | [], acc => acc
  | o :: os, acc => masks os (acc ++ [maskOf acc o])

theorem maskOf_bit {acc : List Nat} {o : Oper} {i : Nat} (h : (maskOf acc o).testBit i = true) : ∃ k ∈ predsOf o, i = k ∨ (acc.getD k 0).testBit i = true := by
  unfold maskOf at h
  have key : ∀ (l : List Nat) (m : Nat), (l.foldl (fun m k => m ||| 2 ^ k ||| acc.getD k 0) m).testBit i = true → m.testBit i = true ∨ ∃ k ∈ l, i = k ∨ (acc.getD k 0).testBit i = true := by
    intro l
    induction l with
    | nil => intro m h; exact .inl h
    | cons k l ih =>
      intro m h
      rcases ih _ h with h | ⟨k', hk', h⟩
      · simp only [Nat.testBit_or, Bool.or_eq_true, Nat.testBit_two_pow, decide_eq_true_eq] at h
        rcases h with (h | h) | h
        · exact .inl h
        · exact .inr ⟨k, by simp, .inl h.symm⟩
        · exact .inr ⟨k, by simp, .inr h⟩
      · exact .inr ⟨k', by simp [hk'], h⟩
  rcases key _ 0 h with h | h
  · simp at h
  · exact h

/-- What a mask names comes ahead, in whatever row keeps the operations' own order. -/
theorem masks_closed {X : Nat → Prop} : ∀ (l : List Oper) (acc : List Nat), (∀ j o, l[j]? = some o → X (acc.length + j) → ∀ k ∈ predsOf o, X k) → (∀ j i, (acc.getD j 0).testBit i = true → X j → X i) →
    ∀ j i, ((masks l acc).getD j 0).testBit i = true → X j → X i
  | [], acc, _, h2, j, i, h, hx => h2 j i h hx
  | o :: l, acc, h1, h2, j, i, h, hx => by
    refine masks_closed l (acc ++ [maskOf acc o]) ?_ ?_ j i h hx
    · intro j' o' ho' hX k hk
      refine h1 (j' + 1) o' (by simpa using ho') ?_ k hk
      simp at hX
      rw [show acc.length + (j' + 1) = acc.length + 1 + j' by omega]; exact hX
    · intro j' i' hb hX
      by_cases hj : j' < acc.length
      · refine h2 j' i' ?_ hX
        simpa [List.getD_eq_getElem?_getD, List.getElem?_append_left hj] using hb
      · by_cases hj' : j' = acc.length
        · subst hj'
          simp [List.getD_eq_getElem?_getD] at hb
          obtain ⟨k, hk, hk'⟩ := maskOf_bit hb
          have hXk := h1 0 o (by simp) (by simpa using hX) k hk
          rcases hk' with rfl | hk'
          · exact hXk
          · exact h2 k i' hk' hXk
        · have : (acc ++ [maskOf acc o])[j']? = none := by simp; omega
          simp [List.getD_eq_getElem?_getD, this] at hb

def bitOf (M : List Nat) (i j : Nat) : Bool := (M.getD j 0).testBit i

/-- A row of numbers in which each comes behind what it hangs on. -/
def respOk (ops : Array Oper) : List Nat → List Nat → Bool
  | _, [] => true
  | seen, j :: l => (match ops[j]? with | some o => (predsOf o).all (seen.contains ·) | none => false) && respOk ops (j :: seen) l

theorem resp_pairwise {ops : Array Oper} : ∀ (l seen : List Nat), (∀ j ∈ seen, ∀ o, ops[j]? = some o → ∀ k ∈ predsOf o, k ∈ seen) → respOk ops seen l = true → (l ++ seen).Nodup →
    l.Pairwise (fun x y => bitOf (masks ops.toList []) y x = false)
  | [], _, _, _, _ => List.Pairwise.nil
  | j :: l, seen, hs, h, hn => by
    simp only [respOk, Bool.and_eq_true] at h
    obtain ⟨h1, h2⟩ := h
    have hcl : ∀ j' ∈ j :: seen, ∀ o, ops[j']? = some o → ∀ k ∈ predsOf o, k ∈ j :: seen := by
      intro j' hj' o ho k hk
      rcases List.mem_cons.1 hj' with rfl | hj'
      · rw [ho] at h1
        simp only [List.all_eq_true, List.contains_iff_mem] at h1
        exact List.mem_cons_of_mem _ (h1 k hk)
      · exact List.mem_cons_of_mem _ (hs j' hj' o ho k hk)
    refine List.pairwise_cons.2 ⟨fun y hy => ?_, resp_pairwise l (j :: seen) hcl h2 ?_⟩
    · rw [Bool.eq_false_iff]
      intro hb
      have := masks_closed (X := fun x => x ∈ j :: seen) ops.toList [] (fun j' o ho hX k hk => hcl j' (by simpa using hX) o (by simpa using ho) k hk) (fun j' i hb => by simp at hb) j y hb (by simp)
      have hn' := List.nodup_cons.1 (by simpa using hn : (j :: (l ++ seen)).Nodup)
      rcases List.mem_cons.1 this with rfl | hm
      · exact hn'.1 (by simp [hy])
      · have := List.nodup_append.1 hn'.2
        exact this.2.2 y hy y hm rfl
    · have : (j :: (l ++ seen)).Nodup := by simpa using hn
      exact (List.perm_middle.symm.nodup_iff).1 this

theorem resp_filter {ops : Array Oper} {A : List Nat} : ∀ (l seen seen' : List Nat), respOk ops seen l = true → (∀ k ∈ seen, k ∈ seen') → (∀ k ∈ A, k ∈ seen') → respOk ops seen' (l.filter fun j => !A.contains j) = true
  | [], _, _, _, _, _ => rfl
  | j :: l, seen, seen', h, hs, hA => by
    simp only [respOk, Bool.and_eq_true] at h
    obtain ⟨h1, h2⟩ := h
    by_cases hj : A.contains j = true
    · have hj' : j ∈ A := List.contains_iff_mem.1 hj
      rw [List.filter_cons_of_neg (by simp [hj'])]
      refine resp_filter l (j :: seen) seen' h2 ?_ hA
      intro k hk
      rcases List.mem_cons.1 hk with rfl | hk
      · exact hA _ (by simpa using hj)
      · exact hs k hk
    · have hj' : ¬ j ∈ A := fun h => hj (List.contains_iff_mem.2 h)
      rw [List.filter_cons_of_pos (by simp [hj'])]
      simp only [respOk, Bool.and_eq_true]
      refine ⟨?_, resp_filter l (j :: seen) (j :: seen') h2 ?_ (fun k hk => List.mem_cons_of_mem _ (hA k hk))⟩
      · split at h1
        · simp only [List.all_eq_true, List.contains_iff_mem] at h1 ⊢
          exact fun k hk => hs k (h1 k hk)
        · cases h1
      · intro k hk
        rcases List.mem_cons.1 hk with rfl | hk
        · simp
        · exact List.mem_cons_of_mem _ (hs k hk)

theorem resp_append {ops : Array Oper} : ∀ (l m seen : List Nat), respOk ops seen (l ++ m) = (respOk ops seen l && respOk ops (l.reverse ++ seen) m)
  | [], m, seen => by simp [respOk]
  | j :: l, m, seen => by
    simp only [List.cons_append, respOk]
    rw [resp_append l m (j :: seen)]
    simp [Bool.and_assoc]

def chkDraw (P : Program) (G : List Nat) (ops : Array Oper) (n L : Nat) (rops : List ROper) : Bool :=
  n == ops.size && rops.length == n && rops.all (fun r => match ops[r.idx]? with | some o => chkOper P G ops o r | none => false) &&
  respOk ops [] (rops.map (·.idx)) && (List.range n).all (fun i => (rops.map (·.idx)).contains i) && ops.toList.zipIdx.all (fun p => (predsOf p.1).all (· < p.2)) && planOk (bitOf (masks ops.toList [])) L rops.reverse

variable {P : Program} {G : List Nat} {φ : Phi} {T : List AV} {a : Act} {w : World} {B : Nat} {w0 : World} {H H' : AH}

structure DrawOk (P : Program) (G : List Nat) (ops : Array Oper) (n L : Nat) (rops : List ROper) : Prop where
  size : n = ops.size
  len : rops.length = n
  opers : ∀ r ∈ rops, ∃ o, ops[r.idx]? = some o ∧ chkOper P G ops o r = true
  resp : respOk ops [] (rops.map (·.idx)) = true
  full : ∀ i, i < n → i ∈ rops.map (·.idx)
  back : ∀ j o, ops[j]? = some o → ∀ k ∈ predsOf o, k < j
  plan : planOk (bitOf (masks ops.toList [])) L rops.reverse = true

theorem chkDraw_ok {ops : Array Oper} {n L : Nat} {rops : List ROper} (h : chkDraw P G ops n L rops = true) : DrawOk P G ops n L rops := by
  simp only [chkDraw, Bool.and_eq_true, beq_iff_eq, List.all_eq_true] at h
  obtain ⟨⟨⟨⟨⟨⟨h1, h2⟩, h3⟩, h4⟩, hf⟩, h5⟩, h6⟩ := h
  refine ⟨h1, h2, ?_, h4, fun i hi => List.contains_iff_mem.1 (hf i (List.mem_range.2 hi)), ?_, h6⟩
  · intro r hr
    have := h3 r hr
    split at this
    · rename_i o ho; exact ⟨o, ho, this⟩
    · cases this
  · intro j o ho k hk
    have := h5 (o, j) (List.mem_iff_getElem?.2 ⟨j, by simp [ho]⟩) k hk
    simpa using this

section
variable {rec : Nat → List AV → AH → Option (AV × AH)} {base : Nat} {ops : Array Oper} {n L : Nat} {rops : List ROper}

theorem DrawOk.nodup (hd : DrawOk P G ops n L rops) : (rops.map (·.idx)).Nodup := by
  have h1 := plan_pair hd.plan
  have h2 : rops.Pairwise (fun x y => x.idx ≠ y.idx) := by
    have := List.pairwise_reverse.1 (h1.imp (S := fun q p => p.idx ≠ q.idx) (fun {q p} h => by simp [pairOk] at h; exact h.1.1))
    exact this
  exact List.pairwise_map.2 h2

theorem map_filter_idx (A : List Nat) (l : List ROper) : (l.filter fun r => !A.contains r.idx).map (·.idx) = (l.map (·.idx)).filter fun j => !A.contains j := by
  induction l with
  | nil => rfl
  | cons r l ih =>
    by_cases h : A.contains r.idx = true
    · have h' : r.idx ∈ A := List.contains_iff_mem.1 h
      rw [List.filter_cons_of_neg (by simp [h']), List.map_cons, List.filter_cons_of_neg (by simp [h']), ih]
    · have h' : ¬ r.idx ∈ A := fun hh => h (List.contains_iff_mem.2 hh)
      rw [List.filter_cons_of_pos (by simp [h']), List.map_cons, List.map_cons, List.filter_cons_of_pos (by simp [h']), ih]

theorem nodup_of_map {l : List ROper} (h : (l.map (·.idx)).Nodup) : l.Nodup := (List.pairwise_map.1 h).imp fun h hc => h (by rw [hc])

theorem mem_idx {l : List ROper} (h : (l.map (·.idx)).Nodup) {x y : ROper} (hx : x ∈ l) (hy : y ∈ l) (he : x.idx = y.idx) : x = y := by
  by_cases hne : x = y
  · exact hne
  · rcases pairwise_either (List.pairwise_map.1 h) x hx y hy hne with h1 | h1
    · exact absurd he h1
    · exact absurd he.symm h1

/-- What has come, and what is still to come, make the whole. -/
theorem perm_rest (hd : DrawOk P G ops n L rops) {α : List ROper} (hα : ∀ r ∈ α, r ∈ rops) (hn : (α.map (·.idx)).Nodup) : (α ++ rops.filter fun r => !(α.map (·.idx)).contains r.idx).Perm rops := by
  have hnd := nodup_of_map hd.nodup
  refine (List.perm_ext_iff_of_nodup ?_ hnd).2 ?_
  · refine List.nodup_append.2 ⟨nodup_of_map hn, hnd.sublist List.filter_sublist, ?_⟩
    intro x hx y hy hxy
    subst hxy
    have := (List.mem_filter.1 hy).2
    simp only [Bool.not_eq_true', Bool.eq_false_iff, ne_eq, List.contains_iff_mem] at this
    exact this (List.mem_map.2 ⟨x, hx, rfl⟩)
  · intro x
    constructor
    · intro hx
      rcases List.mem_append.1 hx with h | h
      · exact hα x h
      · exact (List.mem_filter.1 h).1
    · intro hx
      by_cases hc : (α.map (·.idx)).contains x.idx = true
      · simp only [List.contains_iff_mem] at hc
        obtain ⟨y, hy, he⟩ := List.mem_map.1 hc
        have := mem_idx hd.nodup (hα y hy) hx he
        subst this
        exact List.mem_append_left _ hy
      · exact List.mem_append_right _ (List.mem_filter.2 ⟨hx, by simp at hc ⊢; exact hc⟩)

theorem draw_run (hr : FrmOk rec) (hnx : NextOk rec) (hd : DrawOk P G ops n L rops) {T0 : List AV} {H0 : AH} (hL : L ≤ T0.length) (hfree : ∀ i, i < n → H0.blk (base + i) = none ∧ base + i < H0.next) {sn : List AV × AH}
    (h : regA rec base rops T0 H0 = some sn) {α : List ROper} (hα : ∀ r ∈ α, r ∈ rops) (hn : (α.map (·.idx)).Nodup) (hresp : respOk ops [] (α.map (·.idx)) = true) :
    runL rec base (α ++ rops.filter fun r => !(α.map (·.idx)).contains r.idx) (T0, H0) = some sn := by
  have hperm := perm_rest hd hα hn
  refine reorder hr hnx hL rops.reverse sn hd.plan (by rw [List.reverse_reverse]; exact h) ?_ _ (by rw [List.reverse_reverse]; exact hperm) ?_
  · intro r hr'
    obtain ⟨o, ho, _⟩ := hd.opers r (by simpa using hr')
    exact hfree _ (by rw [hd.size]; exact (Array.getElem?_eq_some_iff.1 ho).1)
  · have h2 : respOk ops [] ((α ++ rops.filter fun r => !(α.map (·.idx)).contains r.idx).map (·.idx)) = true := by
      rw [List.map_append, resp_append, hresp, Bool.true_and, map_filter_idx]
      refine resp_filter _ [] _ hd.resp (by simp) ?_
      intro k hk; simp at hk ⊢; exact hk
    have h3 := resp_pairwise _ [] (by simp) h2 (by simp only [List.append_nil]; exact (hperm.map _).nodup_iff.2 hd.nodup)
    exact List.pairwise_map.1 h3

/-- A region that draws its order. -/
theorem draw_any (hrec : CallsOk P G B w0 rec) (hr : FrmOk rec) (hnx : NextOk rec) (hd : DrawOk P G ops n L rops) {T0 : List AV} {H0 : AH} (hL : L ≤ T0.length) (hfree : ∀ i, i < n → H0.blk (base + i) = none ∧ base + i < H0.next)
    {Tz : List AV} {Hz : AH} (h : regA rec base rops T0 H0 = some (Tz, Hz)) {Q : Exit → Act → World → Prop} :
    ∀ (fuel : Nat) (α : List ROper) (listed : Array Bool) (φ : Phi) (sa : List AV × AH) (a : Act) (w : World), (∀ r ∈ α, r ∈ rops) → (α.map (·.idx)).Nodup → respOk ops [] (α.map (·.idx)) = true → α.length + fuel = n →
      listed.size = n → (∀ i, i < n → (listed.getD i false = true ↔ i ∈ α.map (·.idx))) → runL rec base α (T0, H0) = some sa → St B w0 G φ sa.1 sa.2 a w → (∀ φ' a' w', Ext φ φ' → St B w0 G φ' Tz Hz a' w' → Q .normal a' w') →
      wpAny P .any ops Q fuel listed a w := by
  have hidx : ∀ r ∈ rops, r.idx < n := fun r hr' => by
    obtain ⟨o, ho, _⟩ := hd.opers r hr'
    rw [hd.size]; exact (Array.getElem?_eq_some_iff.1 ho).1
  -- all have come
  have hdone : ∀ (α : List ROper) (listed : Array Bool) (φ : Phi) (sa : List AV × AH) (a : Act) (w : World), (∀ r ∈ α, r ∈ rops) → (α.map (·.idx)).Nodup → respOk ops [] (α.map (·.idx)) = true → listed.size = n →
      (∀ i, i < n → (listed.getD i false = true ↔ i ∈ α.map (·.idx))) → runL rec base α (T0, H0) = some sa → St B w0 G φ sa.1 sa.2 a w → (∀ φ' a' w', Ext φ φ' → St B w0 G φ' Tz Hz a' w' → Q .normal a' w') →
      Region.ready .any ops listed = [] → Q .normal a w := by
    intro α listed φ sa a w hα hn hresp hls hli hrun hst hQ hre
    have hall : ∀ i, i < n → i ∈ α.map (·.idx) := by
      intro i
      induction i using Nat.strongRecOn with
      | _ i ih =>
        intro hi
        apply Classical.byContradiction
        intro hno
        have ho : ∃ o, ops[i]? = some o := by rw [hd.size] at hi; exact ⟨ops[i], by simp [hi]⟩
        obtain ⟨o, ho⟩ := ho
        have hlf : listed.getD i true = false := by
          have : listed.getD i false ≠ true := fun hc => hno ((hli i hi).1 hc)
          have hi' : i < listed.size := by omega
          simp [Array.getD_eq_getD_getElem?, hi'] at this ⊢
          exact this
        have : i ∈ Region.ready .any ops listed := mem_ready.2 ⟨hlf, o, ho, fun e he hb => by
          have hk : e.on ∈ predsOf o := List.mem_filterMap.2 ⟨e, by simpa using he, by simp [hb]⟩
          have hlt := hd.back i o ho _ hk
          exact (hli e.on (by omega)).2 (ih e.on hlt (by omega))⟩
        rw [hre] at this
        cases this
    have hcomp : (rops.filter fun r => !(α.map (·.idx)).contains r.idx) = [] := by
      rw [List.filter_eq_nil_iff]
      intro r hr'
      simp only [Bool.not_eq_true, Bool.not_eq_false', List.contains_iff_mem]
      exact hall _ (hidx r hr')
    have hrun' := draw_run hr hnx hd hL hfree h hα hn hresp
    rw [hcomp, List.append_nil, hrun] at hrun'
    cases hrun'
    exact hQ φ a w (Ext.refl _) hst
  intro fuel
  induction fuel with
  | zero =>
    intro α listed φ sa a w hα hn hresp hlen hls hli hrun hst hQ
    have hcomp : (rops.filter fun r => !(α.map (·.idx)).contains r.idx) = [] := by
      have := (perm_rest hd hα hn).length_eq
      rw [List.length_append, hd.len] at this
      exact List.eq_nil_of_length_eq_zero (by omega)
    have hre : Region.ready .any ops listed = [] := by
      rw [List.eq_nil_iff_forall_not_mem]
      intro i hi
      obtain ⟨h0, o, ho, _⟩ := mem_ready.1 hi
      have hi' : i < n := by rw [hd.size]; exact (Array.getElem?_eq_some_iff.1 ho).1
      -- i is some operation's number
      have hnum : i ∈ rops.map (·.idx) := hd.full i hi'
      obtain ⟨r, hr', hri⟩ := List.mem_map.1 hnum
      have : ¬ r ∈ (rops.filter fun r => !(α.map (·.idx)).contains r.idx) := by rw [hcomp]; simp
      rw [List.mem_filter] at this
      have hc : (α.map (·.idx)).contains r.idx = true := by
        apply Classical.byContradiction
        intro hc; exact this ⟨hr', by simp at hc ⊢; exact hc⟩
      have hlt := (hli i hi').2 (by rw [← hri]; simpa using hc)
      have hi2 : i < listed.size := by omega
      simp [Array.getD_eq_getD_getElem?, hi2] at hlt h0
      rw [hlt] at h0; cases h0
    exact ⟨hre, hdone α listed φ sa a w hα hn hresp hls hli hrun hst hQ hre⟩
  | succ fuel ih =>
    intro α listed φ sa a w hα hn hresp hlen hls hli hrun hst hQ
    refine ⟨hdone α listed φ sa a w hα hn hresp hls hli hrun hst hQ, ?_⟩
    intro i hi
    obtain ⟨h0, o, ho, hpre⟩ := mem_ready.1 hi
    have hi' : i < n := by rw [hd.size]; exact (Array.getElem?_eq_some_iff.1 ho).1
    obtain ⟨r, hr', rfl⟩ := List.mem_map.1 (hd.full i hi')
    have hi2 : r.idx < listed.size := by omega
    have hnew : r.idx ∉ α.map (·.idx) := by
      intro hc
      have := (hli r.idx hi').2 hc
      simp [Array.getD_eq_getD_getElem?, hi2] at this h0
      rw [this] at h0; cases h0
    have hα' : ∀ x ∈ α ++ [r], x ∈ rops := by
      intro x hx
      rcases List.mem_append.1 hx with h | h
      · exact hα x h
      · rw [List.mem_singleton.1 h]; exact hr'
    have hn' : ((α ++ [r]).map (·.idx)).Nodup := by
      rw [List.map_append]
      refine List.nodup_append.2 ⟨hn, by simp, ?_⟩
      intro x hx y hy hxy
      simp only [List.map_cons, List.map_nil, List.mem_singleton] at hy
      exact hnew (by rw [← hy, ← hxy]; exact hx)
    have hresp' : respOk ops [] ((α ++ [r]).map (·.idx)) = true := by
      rw [List.map_append, resp_append, hresp, Bool.true_and]
      simp only [List.map_cons, List.map_nil, respOk, ho, Bool.and_true, List.all_eq_true, List.contains_iff_mem, List.append_nil, List.mem_reverse]
      intro k hk
      obtain ⟨e, he, hke⟩ := List.mem_filterMap.1 hk
      split at hke
      · rename_i hb
        cases hke
        exact (hli e.on (Nat.lt_trans (hd.back _ o ho _ hk) hi')).1 (hpre e (by simpa using he) hb)
      · cases hke
    have hrun' := draw_run hr hnx hd hL hfree h hα' hn' hresp'
    rw [runL_append, Option.bind_eq_some_iff] at hrun'
    obtain ⟨s', hs', _⟩ := hrun'
    have hs2 := hs'
    rw [runL_append, hrun] at hs2
    simp only [Option.bind_some, runL, Option.bind_eq_some_iff, Option.some.injEq, exists_eq_right] at hs2
    obtain ⟨o', ho', hc⟩ := hd.opers r hr'
    rw [ho] at ho'
    cases ho'
    have hlt : base + r.idx < sa.2.next := Nat.lt_of_lt_of_le (hfree r.idx hi').2 (runL_next hnx _ hrun)
    have hstep := step_sim hrec hst hc hlt (T' := s'.1) (H' := s'.2) hs2 (K := wpAny P .any ops Q fuel (listed.setIfInBounds r.idx true)) (Q := Q) (by
      intro φ' a' w' e1 hst'
      refine ih (α ++ [r]) _ φ' s' a' w' hα' hn' hresp' (by simp; omega) (by simpa using hls) ?_ hs' hst' (fun φ'' a'' w'' e2 => hQ φ'' a'' w'' (e1.trans e2))
      intro j hj
      have hj2 : j < listed.size := by omega
      have hold := hli j hj
      simp only [List.map_append, List.map_cons, List.map_nil, List.mem_append, List.mem_singleton]
      by_cases hjr : r.idx = j
      · subst hjr
        simp [Array.getD_eq_getD_getElem?, Array.getElem?_setIfInBounds, hi2]
      · have : (listed.setIfInBounds r.idx true).getD j false = listed.getD j false := getD_set_ne false hjr
        rw [this, hold]
        constructor
        · exact .inl
        · rintro (h | h)
          · exact h
          · exact absurd h.symm hjr)
    unfold wpOp
    simp only [ho]
    by_cases hw : Region.wanted o (yielded ops a.tmps) = true
    · rw [if_pos hw] at hstep ⊢; exact .inl hstep
    · rw [if_neg hw] at hstep ⊢; exact hstep

end

end Go.AM
