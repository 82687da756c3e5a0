/-
  THE ABSTRACT MACHINE: a region's run in its planned order is its run in every order that is let.
-/
import Derived.Test.YtbihokcagceoaaaMg0
import Derived.RowKit3
import Derived.Test.YtbihokcagceoaaaProg
import Derived.KernelRfl
namespace Go.AM
section
variable {rec : Nat → List AV → AH → Option (AV × AH)} {base : Nat}
theorem put_length (T : List AV) (d : Option Nat) (v : AV) : (put T d v).length = T.length := by cases d <;> simp [put]
theorem stepA_length {r : ROper} {T : List AV} {H : AH} {s : List AV × AH} (h : stepA rec base r T H = some s) : s.1.length = T.length := by
  rw [stepA_eq] at h
  simp only [Option.map_eq_some_iff] at h
  obtain ⟨x, _, rfl⟩ := h
  exact put_length _ _ _
theorem runL_length : ∀ (l : List ROper) {s s' : List AV × AH}, runL rec base l s = some s' → s'.1.length = s.1.length
  | [], _, _, h => by cases h; rfl
  | r :: l, s, s', h => by
    simp only [runL, Option.bind_eq_some_iff] at h
    obtain ⟨s1, h1, h2⟩ := h
    rw [runL_length l h2, stepA_length h1]
theorem stepA_quiet {r : ROper} (hk : r.op.kind = .pure ∨ r.op.kind = .load) {T : List AV} {H : AH} {s : List AV × AH} (h : stepA rec base r T H = some s) : s.2 = H ∧ ∃ v, s.1 = put T r.dst v ∧ opR rec base r T H = some (v, H) := by
  rw [stepA_eq] at h
  simp only [Option.map_eq_some_iff] at h
  obtain ⟨⟨v, H1⟩, h1, rfl⟩ := h
  have : H1 = H := by
    rcases hk with hk | hk
    · exact (opR_pure hk h1).1
    · exact opR_load hk h1
  subst this
  exact ⟨rfl, v, rfl, h1⟩
structure Again (z y : ROper) (L : Nat) (w : Watch) : Prop where
  of : watchOf y = some w
  self : selfOk y = true
  small : y.dst.all (· < L) = true
  listed : w ∈ z.watch
theorem move_ok (hr : FrmOk rec) (hn : NextOk rec) {z : ROper} {L : Nat} : ∀ (rb : List ROper) (s s1 s2 : List AV × AH), runL rec base rb.reverse s = some s1 → stepA rec base z s1.1 s1.2 = some s2 → L ≤ s.1.length →
    (∀ y ∈ rb, apart y z = true ∧ kindOk y.op.kind z.op.kind = true ∧ y.idx ≠ z.idx) → (z.op.kind = .alloc → s.2.blk (base + z.idx) = none) → base + z.idx < s.2.next →
    (∀ y ∈ rb, y.op.kind = .load → z.op.kind = .eff → ∃ w, Again z y L w ∧ watchOk s1.1 s2.2 w = true) →
    rb.Pairwise (fun x y => y.op.kind = .load → z.op.kind = .eff → hits x.dst y.looks = false ∧ hits x.dst y.dst.toList = false) →
    ∃ s', stepA rec base z s.1 s.2 = some s' ∧ runL rec base rb.reverse s' = some s2
  | [], s, s1, s2, h1, h2, _, _, _, _, _, _ => by
    simp only [List.reverse_nil, runL, Option.some.injEq] at h1
    subst h1
    exact ⟨s2, h2, rfl⟩
  | y :: rb, s, s1, s2, h1, h2, hL, hp, hz, hlt, hw, hst => by
    rw [List.reverse_cons, runL_append, Option.bind_eq_some_iff] at h1
    obtain ⟨sm, hm, h1⟩ := h1
    simp only [runL, Option.bind_eq_some_iff] at h1
    obtain ⟨s1', h1, h1e⟩ := h1
    cases h1e
    obtain ⟨hpa, hpk, hpi⟩ := hp y (by simp)
    have hLm : L ≤ sm.1.length := by rw [runL_length _ hm]; exact hL
    have hltm : base + z.idx < sm.2.next := Nat.lt_of_lt_of_le hlt (runL_next hn _ hm)
    have hzm : z.op.kind = .alloc → sm.2.blk (base + z.idx) = none := fun hk => runL_free hr hn _ hm (hz hk) hlt (fun r hr' => by
      have := (hp r (by simp at hr'; simp [hr'])).2.2; omega)
    -- y and z
    obtain ⟨sz, g1, g2⟩ := swap_ok hr hpa hpk hpi hltm hzm h1 h2 (by
      intro hyl hze v H1 ho
      obtain ⟨w, ha, hok⟩ := hw y (by simp) hyl hze
      obtain ⟨q1, v', q2, q3⟩ := stepA_quiet (.inr hyl) h1
      rw [ho] at q3
      simp only [Option.some.injEq, Prod.mk.injEq] at q3
      obtain ⟨rfl, _⟩ := q3
      refine watch_load ha.of ha.self ho (by
        have h1 := ha.small
        cases hd : y.dst with
        | none => rfl
        | some d => rw [hd] at h1; simp at h1 ⊢; omega) ?_
      rw [← q2]; exact hok)
    -- those ahead of y
    have hpw := List.pairwise_cons.1 hst
    obtain ⟨s', k1, k2⟩ := move_ok hr hn rb s sm sz hm g1 hL (fun y' hy' => hp y' (by simp [hy'])) hz hlt (by
      intro y' hy' hyl hze
      obtain ⟨w, ha, hok⟩ := hw y' (by simp [hy']) hyl hze
      refine ⟨w, ha, ?_⟩
      -- y leaves the heap
      have hyq : y.op.kind = .pure ∨ y.op.kind = .load := by
        rw [hze] at hpk
        cases hyk : y.op.kind with
        | pure => exact .inl rfl
        | load => exact .inr rfl
        | alloc => rw [hyk] at hpk; cases hpk
        | eff => rw [hyk] at hpk; cases hpk
      obtain ⟨q1, v, q2, q3⟩ := stepA_quiet hyq h1
      obtain ⟨r1, v', r2, r3⟩ := stepA_quiet hyq g2
      obtain ⟨t1, t2⟩ := hpw.1 y' hy' hyl hze
      rw [q2, watch_put ha.of t1 t2, r1] at hok
      exact hok) hpw.2
    refine ⟨s', k1, ?_⟩
    rw [List.reverse_cons, runL_append, k2]
    simp only [Option.bind_some, runL, g2]
def pairOk (bit : Nat → Nat → Bool) (L : Nat) (p q : ROper) : Bool :=
  p.idx != q.idx && !bit q.idx p.idx && (bit p.idx q.idx ||
    (apart p q && kindOk p.op.kind q.op.kind &&
      (if p.op.kind = .load ∧ q.op.kind = .eff then selfOk p && p.dst.all (· < L) && (match watchOf p with | some w => q.watch.contains w | none => false) else true)))
def stabOk (bit : Nat → Nat → Bool) (z : ROper) : List ROper → Bool
  | [] => true
  | x :: rest => rest.all (fun y => if y.op.kind = .load ∧ z.op.kind = .eff ∧ bit y.idx z.idx = false then !hits x.dst y.looks && !hits x.dst y.dst.toList else true) && stabOk bit z rest
def planOk (bit : Nat → Nat → Bool) (L : Nat) : List ROper → Bool
  | [] => true
  | z :: rest => rest.all (fun p => pairOk bit L p z) && stabOk bit z rest && planOk bit L rest
theorem plan_pair {bit : Nat → Nat → Bool} {L : Nat} : ∀ {l : List ROper}, planOk bit L l = true → l.Pairwise (fun q p => pairOk bit L p q = true)
  | [], _ => List.Pairwise.nil
  | z :: rest, h => by
    simp only [planOk, Bool.and_eq_true, List.all_eq_true] at h
    exact List.pairwise_cons.2 ⟨fun p hp => h.1.1 p hp, plan_pair h.2⟩
theorem pairwise_either {R : ROper → ROper → Prop} : ∀ {l : List ROper}, l.Pairwise R → ∀ x ∈ l, ∀ y ∈ l, x ≠ y → R x y ∨ R y x
  | [], _, x, hx, _, _, _ => by cases hx
  | z :: l, h, x, hx, y, hy, hne => by
    obtain ⟨h1, h2⟩ := List.pairwise_cons.1 h
    rcases List.mem_cons.1 hx with hxz | hx'
    · rcases List.mem_cons.1 hy with hyz | hy'
      · exact absurd (hxz.trans hyz.symm) hne
      · rw [hxz]; exact .inl (h1 y hy')
    · rcases List.mem_cons.1 hy with hyz | hy'
      · rw [hyz]; exact .inr (h1 x hx')
      · exact pairwise_either h2 x hx' y hy' hne
theorem stab_pair {bit : Nat → Nat → Bool} {z : ROper} : ∀ {l : List ROper}, stabOk bit z l = true → l.Pairwise (fun x y => y.op.kind = .load → z.op.kind = .eff → bit y.idx z.idx = false → hits x.dst y.looks = false ∧ hits x.dst y.dst.toList = false)
  | [], _ => List.Pairwise.nil
  | x :: rest, h => by
    simp only [stabOk, Bool.and_eq_true, List.all_eq_true] at h
    refine List.pairwise_cons.2 ⟨fun y hy h1 h2 h3 => ?_, stab_pair h.2⟩
    have := h.1 y hy
    rw [if_pos ⟨h1, h2, h3⟩] at this
    simpa using this
theorem reorder (hr : FrmOk rec) (hn : NextOk rec) {bit : Nat → Nat → Bool} {L : Nat} {T0 : List AV} {H0 : AH} (hL : L ≤ T0.length) : ∀ (rev : List ROper) (sn : List AV × AH), planOk bit L rev = true → regA rec base rev.reverse T0 H0 = some sn →
    (∀ r ∈ rev, H0.blk (base + r.idx) = none ∧ base + r.idx < H0.next) → ∀ σ : List ROper, σ.Perm rev.reverse → σ.Pairwise (fun x y => bit y.idx x.idx = false) → runL rec base σ (T0, H0) = some sn
  | [], sn, _, h, _, σ, hp, _ => by
    have : σ = [] := List.Perm.eq_nil (by simpa using hp)
    subst this
    simpa [regA, runL] using h
  | z :: rest, sn, hpl, h, hfree, σ, hp, hord => by
    have hpair := plan_pair hpl
    simp only [planOk, Bool.and_eq_true, List.all_eq_true] at hpl
    obtain ⟨⟨p1, p2⟩, p3⟩ := hpl
    rw [List.reverse_cons, regA_append, Option.bind_eq_some_iff] at h
    obtain ⟨sm, hm, h⟩ := h
    simp only [regA, Option.bind_eq_some_iff] at h
    obtain ⟨s2, hz, h⟩ := h
    split at h
    · rename_i hwatch
      cases h
      -- z in σ
      have hzm : z ∈ σ := hp.mem_iff.2 (by simp)
      obtain ⟨α, β, rfl⟩ := List.append_of_mem hzm
      have hp' : (α ++ β).Perm rest.reverse := by
        have h1 : (z :: (α ++ β)).Perm (z :: rest.reverse) := by
          refine (List.perm_middle.symm.trans hp).trans ?_
          rw [List.reverse_cons]
          exact (List.perm_append_comm (l₁ := rest.reverse) (l₂ := [z]))
        exact List.Perm.cons_inv h1
      have hord' : (α ++ β).Pairwise (fun x y => bit y.idx x.idx = false) := hord.sublist (by simp)
      have ih := reorder hr hn hL rest sm p3 hm (fun r hr' => hfree r (by simp [hr'])) (α ++ β) hp' hord'
      rw [runL_append, Option.bind_eq_some_iff] at ih
      obtain ⟨sa, ha, hb⟩ := ih
      have hβ : ∀ y ∈ β, y ∈ rest := fun y hy => by have := hp'.mem_iff.1 (List.mem_append_right α hy); simpa using this
      have hα : ∀ y ∈ α, y ∈ rest := fun y hy => by have := hp'.mem_iff.1 (List.mem_append_left β hy); simpa using this
      have hzβ := (List.pairwise_cons.1 (List.pairwise_append.1 hord).2.1).1
      have hno : ∀ y ∈ β, bit y.idx z.idx = false := hzβ
      have hpo : ∀ y ∈ β, y.idx ≠ z.idx ∧ apart y z = true ∧ kindOk y.op.kind z.op.kind = true ∧ (y.op.kind = .load → z.op.kind = .eff → ∃ w, Again z y L w) := by
        intro y hy
        have h1 := p1 y (hβ y hy)
        simp only [pairOk, Bool.and_eq_true, bne_iff_ne, hno y hy, Bool.false_or] at h1
        obtain ⟨⟨h1, h2⟩, ⟨h3, h4⟩, h5⟩ := h1
        refine ⟨h1, h3, h4, fun hl he => ?_⟩
        rw [if_pos ⟨hl, he⟩] at h5
        simp only [Bool.and_eq_true] at h5
        obtain ⟨⟨h6, h7⟩, h8⟩ := h5
        split at h8
        · rename_i w hw; exact ⟨w, hw, h6, h7, by simpa using h8⟩
        · cases h8
      have hLa : L ≤ sa.1.length := by rw [runL_length _ ha]; exact hL
      -- the heap behind α knows nothing of z's name
      have hza : sa.2.blk (base + z.idx) = none := runL_free hr hn _ ha (hfree z (by simp)).1 (hfree z (by simp)).2 (fun r hr' => by
        have := p1 r (hα r hr')
        simp only [pairOk, Bool.and_eq_true, bne_iff_ne] at this
        have := this.1.1; omega)
      have hlt : base + z.idx < sa.2.next := Nat.lt_of_lt_of_le (hfree z (by simp)).2 (runL_next hn _ ha)
      obtain ⟨s', k1, k2⟩ := move_ok (base := base) hr hn (L := L) β.reverse sa sm s2 (by rw [List.reverse_reverse]; exact hb) hz hLa
        (fun y hy => by have := hpo y (by simpa using hy); exact ⟨this.2.1, this.2.2.1, this.1⟩) (fun _ => hza) hlt
        (fun y hy hl he => by
          obtain ⟨w, hw⟩ := (hpo y (by simpa using hy)).2.2.2 hl he
          refine ⟨w, hw, ?_⟩
          rw [List.all_eq_true] at hwatch
          exact hwatch w hw.listed)
        (by
          rw [List.pairwise_reverse]
          have hstab := stab_pair p2
          have hbo : β.Pairwise (fun x y => bit y.idx x.idx = false) := (List.pairwise_cons.1 (List.pairwise_append.1 hord).2.1).2
          have hpair' := (List.pairwise_cons.1 hpair).2
          have hnd : β.Pairwise (fun x y => x ≠ y) := by
            have h1 : rest.Pairwise (fun x y => x ≠ y) := hpair'.imp (fun {q p} h hc => by
              subst hc
              simp [pairOk] at h)
            have h2 : rest.reverse.Pairwise (fun x y => x ≠ y) := List.pairwise_reverse.2 (h1.imp (fun h => Ne.symm h))
            have h3 : (α ++ β).Pairwise (fun x y => x ≠ y) := (hp'.pairwise_iff (fun h => Ne.symm h)).2 h2
            exact (List.pairwise_append.1 h3).2.1
          refine (hbo.and hnd).imp_of_mem ?_
          intro y x hy hx hyx hl he
          obtain ⟨hyx, hne⟩ := hyx
          rcases pairwise_either (hpair'.and hstab) x (hβ x hx) y (hβ y hy) (Ne.symm hne) with h1 | h1
          · exact h1.2 hl he (hno y hy)
          · have h2 := h1.1
            simp only [pairOk, Bool.and_eq_true, hyx, Bool.false_or] at h2
            obtain ⟨a1, a2, a3⟩ := apart_spec h2.2.1.1
            exact ⟨a1, a3⟩)
      rw [List.reverse_reverse] at k2
      rw [runL_append, ha]
      simp only [Option.bind_some, runL, k1]
      exact k2
    · cases h
end
end Go.AM

/-
  THE ABSTRACT MACHINE: a region that draws its order, whole code, whole functions. The machine is sound.
-/
namespace Go.AM
def predsOf (o : Oper) : List Nat := o.after.toList.filterMap fun e => if Region.binds .any e then some e.on else none
def maskOf (acc : List Nat) (o : Oper) : Nat := (predsOf o).foldl (fun m k => m ||| 2 ^ k ||| acc.getD k 0) 0
def masks : List Oper → List Nat → List Nat
  | [], acc => acc
  | o :: os, acc => masks os (acc ++ [maskOf acc o])
theorem maskOf_bit {acc : List Nat} {o : Oper} {i : Nat} (h : (maskOf acc o).testBit i = true) : ∃ k ∈ predsOf o, i = k ∨ (acc.getD k 0).testBit i = true := by
  unfold maskOf at h
  have key : ∀ (l : List Nat) (m : Nat), (l.foldl (fun m k => m ||| 2 ^ k ||| acc.getD k 0) m).testBit i = true → m.testBit i = true ∨ ∃ k ∈ l, i = k ∨ (acc.getD k 0).testBit i = true := by
    intro l
    induction l with
    | nil => intro m h; exact .inl h
    | cons k l ih =>
      intro m h
      rcases ih _ h with h | ⟨k', hk', h⟩
      · simp only [Nat.testBit_or, Bool.or_eq_true, Nat.testBit_two_pow, decide_eq_true_eq] at h
        rcases h with (h | h) | h
        · exact .inl h
        · exact .inr ⟨k, by simp, .inl h.symm⟩
        · exact .inr ⟨k, by simp, .inr h⟩
      · exact .inr ⟨k', by simp [hk'], h⟩
  rcases key _ 0 h with h | h
  · simp at h
  · exact h
theorem masks_closed {X : Nat → Prop} : ∀ (l : List Oper) (acc : List Nat), (∀ j o, l[j]? = some o → X (acc.length + j) → ∀ k ∈ predsOf o, X k) → (∀ j i, (acc.getD j 0).testBit i = true → X j → X i) →
    ∀ j i, ((masks l acc).getD j 0).testBit i = true → X j → X i
  | [], acc, _, h2, j, i, h, hx => h2 j i h hx
  | o :: l, acc, h1, h2, j, i, h, hx => by
    refine masks_closed l (acc ++ [maskOf acc o]) ?_ ?_ j i h hx
    · intro j' o' ho' hX k hk
      refine h1 (j' + 1) o' (by simpa using ho') ?_ k hk
      simp at hX
      rw [show acc.length + (j' + 1) = acc.length + 1 + j' by omega]; exact hX
    · intro j' i' hb hX
      by_cases hj : j' < acc.length
      · refine h2 j' i' ?_ hX
        simpa [List.getD_eq_getElem?_getD, List.getElem?_append_left hj] using hb
      · by_cases hj' : j' = acc.length
        · subst hj'
          simp [List.getD_eq_getElem?_getD] at hb
          obtain ⟨k, hk, hk'⟩ := maskOf_bit hb
          have hXk := h1 0 o (by simp) (by simpa using hX) k hk
          rcases hk' with rfl | hk'
          · exact hXk
          · exact h2 k i' hk' hXk
        · have : (acc ++ [maskOf acc o])[j']? = none := by simp; omega
          simp [List.getD_eq_getElem?_getD, this] at hb
def bitOf (M : List Nat) (i j : Nat) : Bool := (M.getD j 0).testBit i
def respOk (ops : Array Oper) : List Nat → List Nat → Bool
  | _, [] => true
  | seen, j :: l => (match ops[j]? with | some o => (predsOf o).all (seen.contains ·) | none => false) && respOk ops (j :: seen) l
theorem resp_pairwise {ops : Array Oper} : ∀ (l seen : List Nat), (∀ j ∈ seen, ∀ o, ops[j]? = some o → ∀ k ∈ predsOf o, k ∈ seen) → respOk ops seen l = true → (l ++ seen).Nodup →
    l.Pairwise (fun x y => bitOf (masks ops.toList []) y x = false)
  | [], _, _, _, _ => List.Pairwise.nil
  | j :: l, seen, hs, h, hn => by
    simp only [respOk, Bool.and_eq_true] at h
    obtain ⟨h1, h2⟩ := h
    have hcl : ∀ j' ∈ j :: seen, ∀ o, ops[j']? = some o → ∀ k ∈ predsOf o, k ∈ j :: seen := by
      intro j' hj' o ho k hk
      rcases List.mem_cons.1 hj' with rfl | hj'
      · rw [ho] at h1
        simp only [List.all_eq_true, List.contains_iff_mem] at h1
        exact List.mem_cons_of_mem _ (h1 k hk)
      · exact List.mem_cons_of_mem _ (hs j' hj' o ho k hk)
    refine List.pairwise_cons.2 ⟨fun y hy => ?_, resp_pairwise l (j :: seen) hcl h2 ?_⟩
    · rw [Bool.eq_false_iff]
      intro hb
      have := masks_closed (X := fun x => x ∈ j :: seen) ops.toList [] (fun j' o ho hX k hk => hcl j' (by simpa using hX) o (by simpa using ho) k hk) (fun j' i hb => by simp at hb) j y hb (by simp)
      have hn' := List.nodup_cons.1 (by simpa using hn : (j :: (l ++ seen)).Nodup)
      rcases List.mem_cons.1 this with rfl | hm
      · exact hn'.1 (by simp [hy])
      · have := List.nodup_append.1 hn'.2
        exact this.2.2 y hy y hm rfl
    · have : (j :: (l ++ seen)).Nodup := by simpa using hn
      exact (List.perm_middle.symm.nodup_iff).1 this
theorem resp_filter {ops : Array Oper} {A : List Nat} : ∀ (l seen seen' : List Nat), respOk ops seen l = true → (∀ k ∈ seen, k ∈ seen') → (∀ k ∈ A, k ∈ seen') → respOk ops seen' (l.filter fun j => !A.contains j) = true
  | [], _, _, _, _, _ => rfl
  | j :: l, seen, seen', h, hs, hA => by
    simp only [respOk, Bool.and_eq_true] at h
    obtain ⟨h1, h2⟩ := h
    by_cases hj : A.contains j = true
    · have hj' : j ∈ A := List.contains_iff_mem.1 hj
      rw [List.filter_cons_of_neg (by simp [hj'])]
      refine resp_filter l (j :: seen) seen' h2 ?_ hA
      intro k hk
      rcases List.mem_cons.1 hk with rfl | hk
      · exact hA _ (by simpa using hj)
      · exact hs k hk
    · have hj' : ¬ j ∈ A := fun h => hj (List.contains_iff_mem.2 h)
      rw [List.filter_cons_of_pos (by simp [hj'])]
      simp only [respOk, Bool.and_eq_true]
      refine ⟨?_, resp_filter l (j :: seen) (j :: seen') h2 ?_ (fun k hk => List.mem_cons_of_mem _ (hA k hk))⟩
      · split at h1
        · simp only [List.all_eq_true, List.contains_iff_mem] at h1 ⊢
          exact fun k hk => hs k (h1 k hk)
        · cases h1
      · intro k hk
        rcases List.mem_cons.1 hk with rfl | hk
        · simp
        · exact List.mem_cons_of_mem _ (hs k hk)
theorem resp_append {ops : Array Oper} : ∀ (l m seen : List Nat), respOk ops seen (l ++ m) = (respOk ops seen l && respOk ops (l.reverse ++ seen) m)
  | [], m, seen => by simp [respOk]
  | j :: l, m, seen => by
    simp only [List.cons_append, respOk]
    rw [resp_append l m (j :: seen)]
    simp [Bool.and_assoc]
def chkDraw (P : Program) (G : List Nat) (ops : Array Oper) (n L : Nat) (rops : List ROper) : Bool :=
  n == ops.size && rops.length == n && rops.all (fun r => match ops[r.idx]? with | some o => chkOper P G ops o r | none => false) &&
  respOk ops [] (rops.map (·.idx)) && (List.range n).all (fun i => (rops.map (·.idx)).contains i) && ops.toList.zipIdx.all (fun p => (predsOf p.1).all (· < p.2)) && planOk (bitOf (masks ops.toList [])) L rops.reverse
variable {P : Program} {G : List Nat} {φ : Phi} {T : List AV} {a : Act} {w : World} {B : Nat} {w0 : World} {H H' : AH}
structure DrawOk (P : Program) (G : List Nat) (ops : Array Oper) (n L : Nat) (rops : List ROper) : Prop where
  size : n = ops.size
  len : rops.length = n
  opers : ∀ r ∈ rops, ∃ o, ops[r.idx]? = some o ∧ chkOper P G ops o r = true
  resp : respOk ops [] (rops.map (·.idx)) = true
  full : ∀ i, i < n → i ∈ rops.map (·.idx)
  back : ∀ j o, ops[j]? = some o → ∀ k ∈ predsOf o, k < j
  plan : planOk (bitOf (masks ops.toList [])) L rops.reverse = true
theorem chkDraw_ok {ops : Array Oper} {n L : Nat} {rops : List ROper} (h : chkDraw P G ops n L rops = true) : DrawOk P G ops n L rops := by
  simp only [chkDraw, Bool.and_eq_true, beq_iff_eq, List.all_eq_true] at h
  obtain ⟨⟨⟨⟨⟨⟨h1, h2⟩, h3⟩, h4⟩, hf⟩, h5⟩, h6⟩ := h
  refine ⟨h1, h2, ?_, h4, fun i hi => List.contains_iff_mem.1 (hf i (List.mem_range.2 hi)), ?_, h6⟩
  · intro r hr
    have := h3 r hr
    split at this
    · rename_i o ho; exact ⟨o, ho, this⟩
    · cases this
  · intro j o ho k hk
    have := h5 (o, j) (List.mem_iff_getElem?.2 ⟨j, by simp [ho]⟩) k hk
    simpa using this
section
variable {rec : Nat → List AV → AH → Option (AV × AH)} {base : Nat} {ops : Array Oper} {n L : Nat} {rops : List ROper}
theorem DrawOk.nodup (hd : DrawOk P G ops n L rops) : (rops.map (·.idx)).Nodup := by
  have h1 := plan_pair hd.plan
  have h2 : rops.Pairwise (fun x y => x.idx ≠ y.idx) := by
    have := List.pairwise_reverse.1 (h1.imp (S := fun q p => p.idx ≠ q.idx) (fun {q p} h => by simp [pairOk] at h; exact h.1.1))
    exact this
  exact List.pairwise_map.2 h2
theorem map_filter_idx (A : List Nat) (l : List ROper) : (l.filter fun r => !A.contains r.idx).map (·.idx) = (l.map (·.idx)).filter fun j => !A.contains j := by
  induction l with
  | nil => rfl
  | cons r l ih =>
    by_cases h : A.contains r.idx = true
    · have h' : r.idx ∈ A := List.contains_iff_mem.1 h
      rw [List.filter_cons_of_neg (by simp [h']), List.map_cons, List.filter_cons_of_neg (by simp [h']), ih]
    · have h' : ¬ r.idx ∈ A := fun hh => h (List.contains_iff_mem.2 hh)
      rw [List.filter_cons_of_pos (by simp [h']), List.map_cons, List.map_cons, List.filter_cons_of_pos (by simp [h']), ih]
theorem nodup_of_map {l : List ROper} (h : (l.map (·.idx)).Nodup) : l.Nodup := (List.pairwise_map.1 h).imp fun h hc => h (by rw [hc])
theorem mem_idx {l : List ROper} (h : (l.map (·.idx)).Nodup) {x y : ROper} (hx : x ∈ l) (hy : y ∈ l) (he : x.idx = y.idx) : x = y := by
  by_cases hne : x = y
  · exact hne
  · rcases pairwise_either (List.pairwise_map.1 h) x hx y hy hne with h1 | h1
    · exact absurd he h1
    · exact absurd he.symm h1
theorem perm_rest (hd : DrawOk P G ops n L rops) {α : List ROper} (hα : ∀ r ∈ α, r ∈ rops) (hn : (α.map (·.idx)).Nodup) : (α ++ rops.filter fun r => !(α.map (·.idx)).contains r.idx).Perm rops := by
  have hnd := nodup_of_map hd.nodup
  refine (List.perm_ext_iff_of_nodup ?_ hnd).2 ?_
  · refine List.nodup_append.2 ⟨nodup_of_map hn, hnd.sublist List.filter_sublist, ?_⟩
    intro x hx y hy hxy
    subst hxy
    have := (List.mem_filter.1 hy).2
    simp only [Bool.not_eq_true', Bool.eq_false_iff, ne_eq, List.contains_iff_mem] at this
    exact this (List.mem_map.2 ⟨x, hx, rfl⟩)
  · intro x
    constructor
    · intro hx
      rcases List.mem_append.1 hx with h | h
      · exact hα x h
      · exact (List.mem_filter.1 h).1
    · intro hx
      by_cases hc : (α.map (·.idx)).contains x.idx = true
      · simp only [List.contains_iff_mem] at hc
        obtain ⟨y, hy, he⟩ := List.mem_map.1 hc
        have := mem_idx hd.nodup (hα y hy) hx he
        subst this
        exact List.mem_append_left _ hy
      · exact List.mem_append_right _ (List.mem_filter.2 ⟨hx, by simp at hc ⊢; exact hc⟩)
theorem draw_run (hr : FrmOk rec) (hnx : NextOk rec) (hd : DrawOk P G ops n L rops) {T0 : List AV} {H0 : AH} (hL : L ≤ T0.length) (hfree : ∀ i, i < n → H0.blk (base + i) = none ∧ base + i < H0.next) {sn : List AV × AH}
    (h : regA rec base rops T0 H0 = some sn) {α : List ROper} (hα : ∀ r ∈ α, r ∈ rops) (hn : (α.map (·.idx)).Nodup) (hresp : respOk ops [] (α.map (·.idx)) = true) :
    runL rec base (α ++ rops.filter fun r => !(α.map (·.idx)).contains r.idx) (T0, H0) = some sn := by
  have hperm := perm_rest hd hα hn
  refine reorder hr hnx hL rops.reverse sn hd.plan (by rw [List.reverse_reverse]; exact h) ?_ _ (by rw [List.reverse_reverse]; exact hperm) ?_
  · intro r hr'
    obtain ⟨o, ho, _⟩ := hd.opers r (by simpa using hr')
    exact hfree _ (by rw [hd.size]; exact (Array.getElem?_eq_some_iff.1 ho).1)
  · have h2 : respOk ops [] ((α ++ rops.filter fun r => !(α.map (·.idx)).contains r.idx).map (·.idx)) = true := by
      rw [List.map_append, resp_append, hresp, Bool.true_and, map_filter_idx]
      refine resp_filter _ [] _ hd.resp (by simp) ?_
      intro k hk; simp at hk ⊢; exact hk
    have h3 := resp_pairwise _ [] (by simp) h2 (by simp only [List.append_nil]; exact (hperm.map _).nodup_iff.2 hd.nodup)
    exact List.pairwise_map.1 h3
theorem draw_any (hrec : CallsOk P G B w0 rec) (hr : FrmOk rec) (hnx : NextOk rec) (hd : DrawOk P G ops n L rops) {T0 : List AV} {H0 : AH} (hL : L ≤ T0.length) (hfree : ∀ i, i < n → H0.blk (base + i) = none ∧ base + i < H0.next)
    {Tz : List AV} {Hz : AH} (h : regA rec base rops T0 H0 = some (Tz, Hz)) {Q : Exit → Act → World → Prop} :
    ∀ (fuel : Nat) (α : List ROper) (listed : Array Bool) (φ : Phi) (sa : List AV × AH) (a : Act) (w : World), (∀ r ∈ α, r ∈ rops) → (α.map (·.idx)).Nodup → respOk ops [] (α.map (·.idx)) = true → α.length + fuel = n →
      listed.size = n → (∀ i, i < n → (listed.getD i false = true ↔ i ∈ α.map (·.idx))) → runL rec base α (T0, H0) = some sa → St B w0 G φ sa.1 sa.2 a w → (∀ φ' a' w', Ext φ φ' → St B w0 G φ' Tz Hz a' w' → Q .normal a' w') →
      wpAny P .any ops Q fuel listed a w := by
  have hidx : ∀ r ∈ rops, r.idx < n := fun r hr' => by
    obtain ⟨o, ho, _⟩ := hd.opers r hr'
    rw [hd.size]; exact (Array.getElem?_eq_some_iff.1 ho).1
  -- all have come
  have hdone : ∀ (α : List ROper) (listed : Array Bool) (φ : Phi) (sa : List AV × AH) (a : Act) (w : World), (∀ r ∈ α, r ∈ rops) → (α.map (·.idx)).Nodup → respOk ops [] (α.map (·.idx)) = true → listed.size = n →
      (∀ i, i < n → (listed.getD i false = true ↔ i ∈ α.map (·.idx))) → runL rec base α (T0, H0) = some sa → St B w0 G φ sa.1 sa.2 a w → (∀ φ' a' w', Ext φ φ' → St B w0 G φ' Tz Hz a' w' → Q .normal a' w') →
      Region.ready .any ops listed = [] → Q .normal a w := by
    intro α listed φ sa a w hα hn hresp hls hli hrun hst hQ hre
    have hall : ∀ i, i < n → i ∈ α.map (·.idx) := by
      intro i
      induction i using Nat.strongRecOn with
      | _ i ih =>
        intro hi
        apply Classical.byContradiction
        intro hno
        have ho : ∃ o, ops[i]? = some o := by rw [hd.size] at hi; exact ⟨ops[i], by simp [hi]⟩
        obtain ⟨o, ho⟩ := ho
        have hlf : listed.getD i true = false := by
          have : listed.getD i false ≠ true := fun hc => hno ((hli i hi).1 hc)
          have hi' : i < listed.size := by omega
          simp [Array.getD_eq_getD_getElem?, hi'] at this ⊢
          exact this
        have : i ∈ Region.ready .any ops listed := mem_ready.2 ⟨hlf, o, ho, fun e he hb => by
          have hk : e.on ∈ predsOf o := List.mem_filterMap.2 ⟨e, by simpa using he, by simp [hb]⟩
          have hlt := hd.back i o ho _ hk
          exact (hli e.on (by omega)).2 (ih e.on hlt (by omega))⟩
        rw [hre] at this
        cases this
    have hcomp : (rops.filter fun r => !(α.map (·.idx)).contains r.idx) = [] := by
      rw [List.filter_eq_nil_iff]
      intro r hr'
      simp only [Bool.not_eq_true, Bool.not_eq_false', List.contains_iff_mem]
      exact hall _ (hidx r hr')
    have hrun' := draw_run hr hnx hd hL hfree h hα hn hresp
    rw [hcomp, List.append_nil, hrun] at hrun'
    cases hrun'
    exact hQ φ a w (Ext.refl _) hst
  intro fuel
  induction fuel with
  | zero =>
    intro α listed φ sa a w hα hn hresp hlen hls hli hrun hst hQ
    have hcomp : (rops.filter fun r => !(α.map (·.idx)).contains r.idx) = [] := by
      have := (perm_rest hd hα hn).length_eq
      rw [List.length_append, hd.len] at this
      exact List.eq_nil_of_length_eq_zero (by omega)
    have hre : Region.ready .any ops listed = [] := by
      rw [List.eq_nil_iff_forall_not_mem]
      intro i hi
      obtain ⟨h0, o, ho, _⟩ := mem_ready.1 hi
      have hi' : i < n := by rw [hd.size]; exact (Array.getElem?_eq_some_iff.1 ho).1
      -- i is some operation's number
      have hnum : i ∈ rops.map (·.idx) := hd.full i hi'
      obtain ⟨r, hr', hri⟩ := List.mem_map.1 hnum
      have : ¬ r ∈ (rops.filter fun r => !(α.map (·.idx)).contains r.idx) := by rw [hcomp]; simp
      rw [List.mem_filter] at this
      have hc : (α.map (·.idx)).contains r.idx = true := by
        apply Classical.byContradiction
        intro hc; exact this ⟨hr', by simp at hc ⊢; exact hc⟩
      have hlt := (hli i hi').2 (by rw [← hri]; simpa using hc)
      have hi2 : i < listed.size := by omega
      simp [Array.getD_eq_getD_getElem?, hi2] at hlt h0
      rw [hlt] at h0; cases h0
    exact ⟨hre, hdone α listed φ sa a w hα hn hresp hls hli hrun hst hQ hre⟩
  | succ fuel ih =>
    intro α listed φ sa a w hα hn hresp hlen hls hli hrun hst hQ
    refine ⟨hdone α listed φ sa a w hα hn hresp hls hli hrun hst hQ, ?_⟩
    intro i hi
    obtain ⟨h0, o, ho, hpre⟩ := mem_ready.1 hi
    have hi' : i < n := by rw [hd.size]; exact (Array.getElem?_eq_some_iff.1 ho).1
    obtain ⟨r, hr', rfl⟩ := List.mem_map.1 (hd.full i hi')
    have hi2 : r.idx < listed.size := by omega
    have hnew : r.idx ∉ α.map (·.idx) := by
      intro hc
      have := (hli r.idx hi').2 hc
      simp [Array.getD_eq_getD_getElem?, hi2] at this h0
      rw [this] at h0; cases h0
    have hα' : ∀ x ∈ α ++ [r], x ∈ rops := by
      intro x hx
      rcases List.mem_append.1 hx with h | h
      · exact hα x h
      · rw [List.mem_singleton.1 h]; exact hr'
    have hn' : ((α ++ [r]).map (·.idx)).Nodup := by
      rw [List.map_append]
      refine List.nodup_append.2 ⟨hn, by simp, ?_⟩
      intro x hx y hy hxy
      simp only [List.map_cons, List.map_nil, List.mem_singleton] at hy
      exact hnew (by rw [← hy, ← hxy]; exact hx)
    have hresp' : respOk ops [] ((α ++ [r]).map (·.idx)) = true := by
      rw [List.map_append, resp_append, hresp, Bool.true_and]
      simp only [List.map_cons, List.map_nil, respOk, ho, Bool.and_true, List.all_eq_true, List.contains_iff_mem, List.append_nil, List.mem_reverse]
      intro k hk
      obtain ⟨e, he, hke⟩ := List.mem_filterMap.1 hk
      split at hke
      · rename_i hb
        cases hke
        exact (hli e.on (Nat.lt_trans (hd.back _ o ho _ hk) hi')).1 (hpre e (by simpa using he) hb)
      · cases hke
    have hrun' := draw_run hr hnx hd hL hfree h hα' hn' hresp'
    rw [runL_append, Option.bind_eq_some_iff] at hrun'
    obtain ⟨s', hs', _⟩ := hrun'
    have hs2 := hs'
    rw [runL_append, hrun] at hs2
    simp only [Option.bind_some, runL, Option.bind_eq_some_iff, Option.some.injEq, exists_eq_right] at hs2
    obtain ⟨o', ho', hc⟩ := hd.opers r hr'
    rw [ho] at ho'
    cases ho'
    have hlt : base + r.idx < sa.2.next := Nat.lt_of_lt_of_le (hfree r.idx hi').2 (runL_next hnx _ hrun)
    have hstep := step_sim hrec hst hc hlt (T' := s'.1) (H' := s'.2) hs2 (K := wpAny P .any ops Q fuel (listed.setIfInBounds r.idx true)) (Q := Q) (by
      intro φ' a' w' e1 hst'
      refine ih (α ++ [r]) _ φ' s' a' w' hα' hn' hresp' (by simp; omega) (by simpa using hls) ?_ hs' hst' (fun φ'' a'' w'' e2 => hQ φ'' a'' w'' (e1.trans e2))
      intro j hj
      have hj2 : j < listed.size := by omega
      have hold := hli j hj
      simp only [List.map_append, List.map_cons, List.map_nil, List.mem_append, List.mem_singleton]
      by_cases hjr : r.idx = j
      · subst hjr
        simp [Array.getD_eq_getD_getElem?, Array.getElem?_setIfInBounds, hi2]
      · have : (listed.setIfInBounds r.idx true).getD j false = listed.getD j false := getD_set_ne false hjr
        rw [this, hold]
        constructor
        · exact .inl
        · rintro (h | h)
          · exact h
          · exact absurd h.symm hjr)
    unfold wpOp
    simp only [ho]
    by_cases hw : Region.wanted o (yielded ops a.tmps) = true
    · rw [if_pos hw] at hstep ⊢; exact .inl hstep
    · rw [if_neg hw] at hstep ⊢; exact hstep
end
end Go.AM

/-
  THE ABSTRACT MACHINE IS SOUND: where its run of a function gives a value, every call of the model's function gives it.
-/
namespace Go.AM
variable {P : Program} {G : List Nat} {φ : Phi} {T : List AV} {a : Act} {w : World} {B : Nat} {w0 : World} {H H' : AH}
def chkCode (P : Program) (G : List Nat) (L : Nat) : Code → RC → Bool
  | .skip, .skip => true
  | .label _, .skip => true
  | .ret, .ret => true
  | .exit id, .exit id' => id == id'
  | .region _ ops draw, .region n rops => if draw then chkDraw P G ops n L rops else plainOpers P G ops n ops.toList rops
  | .seq a b, .seq a' b' => chkCode P G L a a' && chkCode P G L b b'
  | .cond c a b, .cond c' a' b' => chkOpd G c' c && chkCode P G L a a' && chkCode P G L b b'
  | .block id a, .block id' a' => id == id' && chkCode P G L a a'
  | .loop a, .loop a' => chkCode P G L a a'
  | _, _ => false
section
variable {rec : Nat → List AV → AH → Option (AV × AH)} {fuel : Nat}
theorem regA_length {base : Nat} {l : List ROper} {T : List AV} {H : AH} {s : List AV × AH} (h : regA rec base l T H = some s) : s.1.length = T.length := runL_length (base := base) l (regA_run l T H s h)
theorem iterA_length {f : List AV → AH → Option (Ex × List AV × AH)} (hf : ∀ T H e T' H', f T H = some (e, T', H') → T'.length = T.length) : ∀ (n : Nat) {T T' : List AV} {H H' : AH} {e : Ex}, iterA f n T H = some (e, T', H') → T'.length = T.length
  | 0, _, _, _, _, _, h => by simp [iterA] at h
  | n + 1, T, T', H, H', e, h => by
    simp only [iterA, Option.bind_eq_some_iff] at h
    obtain ⟨⟨e1, T1, H1⟩, h1, h2⟩ := h
    have k := hf _ _ _ _ _ h1
    cases e1 with
    | norm => exact (iterA_length hf n h2).trans k
    | ret => simp only at h2; cases h2; exact k
    | out id => simp only at h2; cases h2; exact k
theorem rcA_length : ∀ (c : RC) {T T' : List AV} {H H' : AH} {e : Ex}, rcA rec fuel c T H = some (e, T', H') → T'.length = T.length
  | .skip, _, _, _, _, _, h => by simp only [rcA] at h; cases h; rfl
  | .ret, _, _, _, _, _, h => by simp only [rcA] at h; cases h; rfl
  | .exit _, _, _, _, _, _, h => by simp only [rcA] at h; cases h; rfl
  | .region n ops, T, T', H, H', e, h => by
    simp only [rcA, Option.map_eq_some_iff] at h
    obtain ⟨s, h1, h2⟩ := h
    cases h2
    exact regA_length h1
  | .seq a b, T, T', H, H', e, h => by
    simp only [rcA, Option.bind_eq_some_iff] at h
    obtain ⟨⟨e1, T1, H1⟩, h1, h2⟩ := h
    have k := rcA_length a h1
    cases e1 with
    | norm => exact (rcA_length b h2).trans k
    | ret => simp only at h2; cases h2; exact k
    | out id => simp only at h2; cases h2; exact k
  | .cond c a b, T, T', H, H', e, h => by
    simp only [rcA] at h
    split at h
    · exact rcA_length a h
    · exact rcA_length b h
    · cases h
  | .block id a, T, T', H, H', e, h => by
    simp only [rcA, Option.map_eq_some_iff] at h
    obtain ⟨⟨e1, T1, H1⟩, h1, h2⟩ := h
    cases h2
    exact rcA_length a h1
  | .loop a, T, T', H, H', e, h => by
    simp only [rcA] at h
    exact iterA_length (fun _ _ _ _ _ h => rcA_length a h) fuel h
theorem code_sim (hrec : CallsOk P G B w0 rec) (hr : FrmOk rec) (hnx : NextOk rec) (hmix : P.follows .mixedOrders = true) {L : Nat} : ∀ (c : Code) (r : RC), chkCode P G L c r = true →
    ∀ (φ : Phi) (T : List AV) (H : AH) (a : Act) (w : World) (e : Ex) (Tz : List AV) (Hz : AH) (Q : Exit → Act → World → Prop), St B w0 G φ T H a w → L ≤ T.length → rcA rec fuel r T H = some (e, Tz, Hz) →
      (∀ φ' a' w', Ext φ φ' → St B w0 G φ' Tz Hz a' w' → Q (exOf e) a' w') → c.wp P Q a w := by
  intro c
  induction c with
  | skip =>
    intro r hc φ T H a w e Tz Hz Q hs hL h hQ
    cases r <;> simp only [chkCode, Bool.false_eq_true] at hc
    simp only [rcA, Option.some.injEq, Prod.mk.injEq] at h
    obtain ⟨rfl, rfl, rfl⟩ := h
    exact wp_skip (hQ φ a w (Ext.refl _) hs)
  | label l =>
    intro r hc φ T H a w e Tz Hz Q hs hL h hQ
    cases r <;> simp only [chkCode, Bool.false_eq_true] at hc
    simp only [rcA, Option.some.injEq, Prod.mk.injEq] at h
    obtain ⟨rfl, rfl, rfl⟩ := h
    exact wp_label (hQ φ a w (Ext.refl _) hs)
  | ret =>
    intro r hc φ T H a w e Tz Hz Q hs hL h hQ
    cases r <;> simp only [chkCode, Bool.false_eq_true] at hc
    simp only [rcA, Option.some.injEq, Prod.mk.injEq] at h
    obtain ⟨rfl, rfl, rfl⟩ := h
    exact wp_ret (hQ φ a w (Ext.refl _) hs)
  | exit id =>
    intro r hc φ T H a w e Tz Hz Q hs hL h hQ
    cases r <;> simp only [chkCode, Bool.false_eq_true] at hc
    have hid := eq_of_beq hc
    subst hid
    simp only [rcA, Option.some.injEq, Prod.mk.injEq] at h
    obtain ⟨rfl, rfl, rfl⟩ := h
    exact wp_exit (hQ φ a w (Ext.refl _) hs)
  | region id ops draw =>
    intro r hc φ T H a w e Tz Hz Q hs hL h hQ
    cases r <;> simp only [chkCode, Bool.false_eq_true] at hc
    rename_i n rops
    simp only [rcA, Option.map_eq_some_iff] at h
    obtain ⟨⟨T1, H1⟩, h1, h2⟩ := h
    simp only [Prod.mk.injEq] at h2
    obtain ⟨rfl, rfl, rfl⟩ := h2
    have hs' : St B w0 G φ T (H.bump n) a w := ⟨hs.heap.bump n, hs.tmps, hs.glob, hs.defs⟩
    cases draw with
    | false =>
      simp only [Bool.false_eq_true, if_false] at hc
      exact wp_region_list (plain_sim hrec hnx ops.toList rops φ T _ a w hc (Nat.le_refl _) hs' h1 hQ)
    | true =>
      simp only [if_true] at hc
      have hd := chkDraw_ok hc
      refine wp_region_any hmix ?_
      have hs2 : St B w0 G φ T (H.bump n) a { w with drawn := w.drawn + 1 } := ⟨hs'.heap.heap_eq rfl rfl rfl, hs'.tmps, hs'.glob, hs'.defs⟩
      refine draw_any (H0 := H.bump n) hrec hr hnx hd hL (fun i hi => ⟨hs.heap.lt _ (Nat.le_add_right _ _), ?_⟩) h1 ops.size [] _ φ (T, H.bump n) a _ (by simp) (by simp) rfl ?_ ?_ ?_ rfl hs2 hQ
      · simp only [AH.bump]; omega
      · simp [hd.size]
      · simp [hd.size]
      · intro i hi
        simp [Array.getD_eq_getD_getElem?, Array.getElem?_replicate]
        split <;> rfl
  | seq c1 c2 ih1 ih2 =>
    intro r hc φ T H a w e Tz Hz Q hs hL h hQ
    cases r <;> simp only [chkCode, Bool.false_eq_true, Bool.and_eq_true] at hc
    obtain ⟨hc1, hc2⟩ := hc
    simp only [rcA, Option.bind_eq_some_iff] at h
    obtain ⟨⟨e1, T1, H1⟩, h1, h2⟩ := h
    refine wp_seq ?_
    refine ih1 _ hc1 φ T H a w e1 T1 H1 _ hs hL h1 ?_
    intro φ' a' w' he hs'
    cases e1 with
    | norm => exact ih2 _ hc2 φ' T1 H1 a' w' e Tz Hz Q hs' (by rw [rcA_length _ h1]; exact hL) h2 (fun φ'' a'' w'' he' => hQ φ'' a'' w'' (he.trans he'))
    | ret => simp only at h2; cases h2; exact hQ φ' a' w' he hs'
    | out id => simp only at h2; cases h2; exact hQ φ' a' w' he hs'
  | cond x c1 c2 ih1 ih2 =>
    intro r hc φ T H a w e Tz Hz Q hs hL h hQ
    cases r <;> simp only [chkCode, Bool.false_eq_true, Bool.and_eq_true] at hc
    obtain ⟨⟨hx, hc1⟩, hc2⟩ := hc
    have hv := opd_rel hx hs.tmps hs.glob
    simp only [rcA] at h
    split at h
    · rename_i hb
      rw [hb] at hv
      exact wp_cond_true hv (ih1 _ hc1 φ T H a w e Tz Hz Q hs hL h hQ)
    · rename_i hb
      rw [hb] at hv
      exact wp_cond_false hv (ih2 _ hc2 φ T H a w e Tz Hz Q hs hL h hQ)
    · cases h
  | block id c1 ih1 =>
    intro r hc φ T H a w e Tz Hz Q hs hL h hQ
    cases r <;> simp only [chkCode, Bool.false_eq_true, Bool.and_eq_true, beq_iff_eq] at hc
    obtain ⟨rfl, hc1⟩ := hc
    simp only [rcA, Option.map_eq_some_iff] at h
    obtain ⟨⟨e1, T1, H1⟩, h1, h2⟩ := h
    simp only [Prod.mk.injEq] at h2
    obtain ⟨h3, rfl, rfl⟩ := h2
    refine wp_block (ih1 _ hc1 φ T H a w e1 _ _ _ hs hL h1 ?_)
    intro φ' a' w' he hs'
    have hq := hQ φ' a' w' he hs'
    cases e1 with
    | norm => simp at h3; subst h3; exact hq
    | ret => simp at h3; subst h3; exact hq
    | out id' =>
      simp only [exOf, Exit.inBlock]
      by_cases hid : id' = id
      · subst hid; simp at h3; subst h3; rw [if_pos rfl]; exact hq
      · have : (Ex.out id' : Ex) ≠ .out id := fun hc => hid (by cases hc; rfl)
        rw [if_neg this] at h3; subst h3; rw [if_neg hid]; exact hq
  | loop c1 ih1 =>
    intro r hc φ T H a w e Tz Hz Q hs hL h hQ
    cases r <;> simp only [chkCode, Bool.false_eq_true] at hc
    rename_i r1
    simp only [rcA] at h
    have key : ∀ (n : Nat) (φ' : Phi) (T : List AV) (H : AH) (a : Act) (w : World), Ext φ φ' → iterA (rcA rec fuel r1) n T H = some (e, Tz, Hz) → St B w0 G φ' T H a w → L ≤ T.length → Code.rounds P c1 Q n a w := by
      intro n
      induction n with
      | zero => intro φ' T H a w _ h; simp [iterA] at h
      | succ n ih =>
        intro φ' T H a w hext h hs hL
        simp only [iterA, Option.bind_eq_some_iff] at h
        obtain ⟨⟨e1, T1, H1⟩, h1, h2⟩ := h
        rw [rounds_succ]
        refine ih1 _ hc φ' T H a w e1 T1 H1 _ hs hL h1 ?_
        intro φ'' a' w' he hs'
        cases e1 with
        | norm => exact ih φ'' T1 H1 a' w' (hext.trans he) h2 hs' (by rw [rcA_length _ h1]; exact hL)
        | ret => simp only at h2; cases h2; exact hQ φ'' a' w' (hext.trans he) hs'
        | out id => simp only at h2; cases h2; exact hQ φ'' a' w' (hext.trans he) hs'
    exact wp_loop_rounds fuel (key fuel φ T H a w (Ext.refl _) h hs hL)
  | _ =>
    intro r hc
    cases r <;> simp [chkCode] at hc
end
def chkRes (P : Program) : List ResultVar → List RRes → Bool
  | [], [] => true
  | .tmp t :: rs, .tmp t' :: rs' => t == t' && chkRes P rs rs'
  | .cell t ty :: rs, .cell t' m :: rs' => t == t' && decide (aggM P ty = some m) && chkRes P rs rs'
  | _, _ => false
def chkFunc (P : Program) (G : List Nat) (fn : Func) (rf : RFunc) : Bool :=
  (match fn.body with | some c => chkCode P G rf.ntmps c rf.body | none => false) && fn.ntmps == rf.ntmps && chkRes P fn.results.toList rf.results && !(fn.name == "runtime.NumGoroutine")
def res1 (tmps : Array Value) : ResultVar → Sem Value
  | .tmp t => pure (tmps.getD t Go.undef)
  | .cell a t => do loadVar t (← asAddr (tmps.getD a Go.undef))
theorem loadVar_sim (hH : HRel B w0 φ H w) {m : Option Nat} {ty : TypeId} (hm : aggM P ty = some m) {x v : AV} {u : Value} (hx : AVRel φ x u) (h : loadA m x H = some v) : ∃ cv, (do loadVar ty (← asAddr u) : Sem Value).run P w = .ok cv w ∧ AVRel φ v cv := by
  unfold loadA at h
  split at h
  · rename_i b o'
    obtain ⟨cb, sh, cs, hφ, hv⟩ := ptr_of hx
    subst hv
    cases m with
    | none =>
      simp only [Option.map_eq_some_iff] at h
      obtain ⟨s, hs, rfl⟩ := h
      obtain ⟨cb', sh', cs', u, h1, h3, h4⟩ := hH.ld hs
      rw [hφ] at h1
      cases h1
      refine ⟨u, ?_, h4⟩
      simp only [asAddr, loadVar, Sem.run_bind, Sem.run_pure, Result.andThen_ok, run_isAgg' hm]
      simp [h3]
    | some n =>
      simp only [Option.map_eq_some_iff] at h
      obtain ⟨l, hl, rfl⟩ := h
      obtain ⟨cb', sh', cs', vs, h1, h3, h4, h5, h6⟩ := hH.ldn hl
      rw [hφ] at h1
      cases h1
      refine ⟨.agg vs.toArray, ?_, vs, h6, rfl⟩
      have hld := run_loadCells_list (P := P) w ⟨cb, sh + o', none⟩ vs (fun j v' hj => by rw [add_eq, ← Nat.add_assoc]; exact h5 j v' hj)
      rw [h4] at hld
      simp only [asAddr, loadVar, Sem.run_bind, Sem.run_pure, Result.andThen_ok, run_isAgg' hm]
      simp [run_szOf (aggM_size hm), hld]
  · cases h
theorem res1_sim (hH : HRel B w0 φ H w) (hT : TRel φ T a.tmps) {rv : ResultVar} {r : RRes} (hc : chkRes P [rv] [r] = true) {v : AV} (h : resA1 T H r = some v) : ∃ cv, (res1 a.tmps rv).run P w = .ok cv w ∧ AVRel φ v cv := by
  cases rv with
  | tmp t =>
    cases r <;> simp only [chkRes, Bool.and_true, Bool.false_eq_true, beq_iff_eq] at hc
    subst hc
    simp only [resA1, Option.some.injEq] at h
    subst h
    exact ⟨_, rfl, hT.get t⟩
  | cell t ty =>
    cases r <;> simp only [chkRes, Bool.and_true, Bool.false_eq_true, Bool.and_eq_true, beq_iff_eq, decide_eq_true_eq] at hc
    obtain ⟨rfl, hm⟩ := hc
    simp only [resA1] at h
    exact loadVar_sim hH hm (hT.get t) h
theorem ress_sim (hH : HRel B w0 φ H w) (hT : TRel φ T a.tmps) : ∀ (rvs : List ResultVar) (rs : List RRes) (vs : List AV), chkRes P rvs rs = true → rs.mapM (resA1 T H) = some vs → ∃ cvs : List Value, (rvs.mapM (res1 a.tmps)).run P w = .ok cvs w ∧ R2 (AVRel φ) vs cvs
  | [], [], vs, _, h => by
    simp at h; subst h
    exact ⟨[], rfl, trivial⟩
  | rv :: rvs, r :: rs, vs, hc, h => by
    simp only [List.mapM_cons, Option.pure_def, Option.bind_eq_bind, Option.bind_eq_some_iff] at h
    obtain ⟨v, h1, vs', h2, h3⟩ := h
    have hc1 : chkRes P [rv] [r] = true ∧ chkRes P rvs rs = true := by
      cases rv <;> cases r <;> simp_all [chkRes]
    obtain ⟨cv, e1, e2⟩ := res1_sim hH hT hc1.1 h1
    obtain ⟨cvs, e3, e4⟩ := ress_sim hH hT rvs rs vs' hc1.2 h2
    cases h3
    refine ⟨cv :: cvs, ?_, e2, e4⟩
    simp only [List.mapM_cons, Sem.run_bind, e1, Result.andThen_ok, e3, Sem.run_pure]
  | [], _ :: _, _, hc, _ => by simp [chkRes] at hc
  | .tmp _ :: _, [], _, hc, _ => by simp [chkRes] at hc
  | .cell _ _ :: _, [], _, hc, _ => by simp [chkRes] at hc
theorem parts_sim : ∀ (vs : List AV) (ps : List Part) (cvs : List Value), partsA vs = some ps → R2 (AVRel φ) vs cvs → R2 (PartRel φ) ps cvs
  | [], ps, [], h, _ => by simp only [partsA, Option.some.injEq] at h; subst h; trivial
  | v :: vs, ps, cv :: cvs, h, hr => by
    simp only [partsA, Option.bind_eq_some_iff, Option.map_eq_some_iff] at h
    obtain ⟨p, h1, ps', h2, rfl⟩ := h
    refine ⟨?_, parts_sim vs ps' cvs h2 hr.2⟩
    cases v <;> simp only [AV.part?, Option.some.injEq, reduceCtorEq] at h1 <;> subst h1 <;> exact hr.1
  | [], _, _ :: _, _, hr => hr.elim
  | _ :: _, _, [], _, hr => hr.elim
theorem results_run {fn : Func} {tmps : Array Value} {cvs : List Value} (h : (fn.results.toList.mapM (res1 tmps)).run P w = .ok cvs w) :
    (results fn tmps).run P w = .ok (if h : cvs.toArray.size = 1 then cvs.toArray[0] else .tuple cvs.toArray) w := by
  have : (fn.results.mapM (res1 tmps)).run P w = .ok cvs.toArray w := by
    rw [Array.mapM_eq_mapM_toList, Sem.run_map, h]; rfl
  have hres : results fn tmps = (do let vs ← fn.results.mapM (res1 tmps); pure (if h : vs.size = 1 then vs[0] else .tuple vs)) := by
    unfold results
    congr 1
  rw [hres, Sem.run_bind, this]
  rfl
theorem res_sim (hH : HRel B w0 φ H w) (hT : TRel φ T a.tmps) {fn : Func} {rs : List RRes} (hc : chkRes P fn.results.toList rs = true) {v : AV} (h : resA rs T H = some v) :
    ∃ cv, (results fn a.tmps).run P w = .ok cv w ∧ AVRel φ v cv := by
  unfold resA at h
  split at h
  · rename_i r
    cases hl : fn.results.toList with
    | nil => rw [hl] at hc; simp [chkRes] at hc
    | cons rv rvs =>
      rw [hl] at hc
      have hc1 : chkRes P [rv] [r] = true ∧ rvs = [] := by
        cases rv <;> cases r <;> simp_all [chkRes] <;> (cases rvs <;> simp_all [chkRes])
      obtain ⟨cv, e1, e2⟩ := res1_sim hH hT hc1.1 h
      refine ⟨cv, ?_, e2⟩
      have := results_run (fn := fn) (tmps := a.tmps) (P := P) (w := w) (cvs := [cv]) (by rw [hl, hc1.2]; simp only [List.mapM_cons, List.mapM_nil, Sem.run_bind, e1, Result.andThen_ok, Sem.run_pure])
      rw [this]; simp
  · rename_i hne
    simp only [Option.bind_eq_some_iff, Option.map_eq_some_iff] at h
    obtain ⟨vs, h1, ps, h2, rfl⟩ := h
    obtain ⟨cvs, e1, e2⟩ := ress_sim hH hT _ _ _ hc h1
    have hlen : cvs.length ≠ 1 := by
      intro hl
      have h3 : vs.length = 1 := by rw [e2.length, hl]
      have h4 : rs.length = 1 := by
        have : ∀ (rs : List RRes) (vs : List AV), rs.mapM (resA1 T H) = some vs → vs.length = rs.length := by
          intro rs
          induction rs with
          | nil => intro vs h; simp at h; subst h; rfl
          | cons r rs ih =>
            intro vs h
            simp only [List.mapM_cons, Option.pure_def, Option.bind_eq_bind, Option.bind_eq_some_iff] at h
            obtain ⟨v, _, vs', h2, h3⟩ := h
            cases h3
            simp [ih vs' h2]
        rw [← this rs vs h1, h3]
      match rs, h4 with
      | [r], _ => exact hne r rfl
    refine ⟨.tuple cvs.toArray, ?_, cvs, parts_sim vs ps cvs h2 e2, rfl⟩
    rw [results_run e1]
    rw [dif_neg (by simpa using hlen)]
def TabOk (P : Program) (G : List Nat) (tab : Nat → Option RFunc) : Prop := ∀ f rf, tab f = some rf → ∃ fn, P.funcs[f]? = some fn ∧ chkFunc P G fn rf = true
theorem args_rel {args : List AV} {cargs : Array Value} (h : R2 (AVRel φ) args cargs.toList) (n : Nat) : TRel φ (args ++ List.replicate (n - args.length) undef) (cargs ++ Array.replicate (n - cargs.size) Go.undef) := by
  have hl : args.length = cargs.size := by have := h.length; simpa using this
  refine ⟨by simp [hl], fun t => ?_⟩
  simp only [List.getD_eq_getElem?_getD, Array.getD_eq_getD_getElem?]
  rw [List.getElem?_append, Array.getElem?_append, hl]
  split
  · rename_i ht
    obtain ⟨v, hv, hr⟩ := h.get t args[t] (by simp [hl, ht])
    have e1 : args[t]? = some args[t] := by simp [hl, ht]
    rw [e1, show cargs[t]? = some v by simpa using hv]
    exact hr
  · rw [List.getElem?_replicate, Array.getElem?_replicate]
    split
    · exact AVRel_undef φ
    · exact AVRel_undef φ
def AllOk (P : Program) (G : List Nat) : Nat → List (Option RFunc) → Prop
  | _, [] => True
  | i, none :: l => AllOk P G (i + 1) l
  | i, some rf :: l => (∃ fn, P.funcs[i]? = some fn ∧ chkFunc P G fn rf = true) ∧ AllOk P G (i + 1) l
theorem allOk_get : ∀ (l : List (Option RFunc)) (i f : Nat) (rf : RFunc), AllOk P G i l → l[f]? = some (some rf) → ∃ fn, P.funcs[i + f]? = some fn ∧ chkFunc P G fn rf = true
  | [], _, _, _, _, h => by simp at h
  | none :: l, i, 0, rf, h, hf => by simp at hf
  | none :: l, i, f + 1, rf, h, hf => by
    have := allOk_get l (i + 1) f rf h (by simpa using hf)
    rw [show i + 1 + f = i + (f + 1) by omega] at this; exact this
  | some r :: l, i, 0, rf, h, hf => by
    simp at hf; subst hf; exact h.1
  | some r :: l, i, f + 1, rf, h, hf => by
    have := allOk_get l (i + 1) f rf h.2 (by simpa using hf)
    rw [show i + 1 + f = i + (f + 1) by omega] at this; exact this
theorem tabOk_of {l : List (Option RFunc)} (h : AllOk P G 0 l) : TabOk P G (fun f => (l[f]?).join) := by
  intro f rf hf
  have hf : (l[f]?).join = some rf := hf
  have : l[f]? = some (some rf) := by
    cases hl : l[f]? with
    | none => rw [hl] at hf; cases hf
    | some x => rw [hl] at hf; simp at hf; rw [hf]
  have := allOk_get l 0 f rf h this
  simpa using this
theorem run_sound {tab : Nat → Option RFunc} {ext : Nat → List AV → AH → Option (AV × AH)} (htab : TabOk P G tab) (hext : CallsOk P G B w0 ext) (hfr : FrmOk ext) (hnx : NextOk ext) (hmix : P.follows .mixedOrders = true) :
    ∀ n, CallsOk P G B w0 (run tab ext n)
  | 0 => fun _ _ _ _ _ h => by simp [run] at h
  | n + 1 => by
    intro f args H v H' h φ w cargs hH hG hargs
    simp only [run] at h
    split at h
    · exact hext f args H v H' h φ w cargs hH hG hargs
    · rename_i rf hrf
      obtain ⟨fn, hfn, hck⟩ := htab f rf hrf
      simp only [chkFunc, Bool.and_eq_true, beq_iff_eq, Bool.not_eq_true'] at hck
      obtain ⟨⟨⟨h1, h2⟩, h3⟩, h4⟩ := hck
      split at h1
      · rename_i c hc
        refine ⟨⟨fn, hfn, by rw [hc]; rfl, h4⟩, ?_⟩
        simp only [Option.bind_eq_some_iff] at h
        obtain ⟨⟨e, T1, H1⟩, h5, h6⟩ := h
        refine calls_of_wp hfn hc ?_
        refine code_sim (run_sound htab hext hfr hnx hmix n) (run_frame hfr hnx n) (run_next hnx n) hmix c rf.body h1 φ _ H _ w e T1 H1 _ ⟨hH, by rw [h2]; exact args_rel hargs _, hG, rfl⟩ (by simp; omega) h5 ?_
        intro φ' a' w' he hs
        cases e with
        | out id => simp at h6
        | norm =>
          simp only [Option.map_eq_some_iff, Prod.mk.injEq] at h6
          obtain ⟨v', h7, rfl, rfl⟩ := h6
          obtain ⟨cv, r1, r2⟩ := res_sim hs.heap hs.tmps h3 h7
          exact ⟨hs.defs, cv, r1, φ', cv, rfl, he, hs.heap, r2⟩
        | ret =>
          simp only [Option.map_eq_some_iff, Prod.mk.injEq] at h6
          obtain ⟨v', h7, rfl, rfl⟩ := h6
          obtain ⟨cv, r1, r2⟩ := res_sim hs.heap hs.tmps h3 h7
          exact ⟨hs.defs, cv, r1, φ', cv, rfl, he, hs.heap, r2⟩
      · cases h1
end Go.AM

/-
  THE ABSTRACT MACHINE: more fuel gives the same; names that are still to come are free; what must hold ahead of a code, so that something holds behind it.
-/
namespace Go.AM
def Le (r r' : Nat → List AV → AH → Option (AV × AH)) : Prop := ∀ f args H x, r f args H = some x → r' f args H = some x
section
variable {rec rec' : Nat → List AV → AH → Option (AV × AH)}
theorem opA_mono (h : Le rec rec') {ρ : Opd → AV} {id : Nat} {H : AH} {o : ROp} {x : AV × AH} (hx : opA rec ρ id H o = some x) : opA rec' ρ id H o = some x := by
  cases o <;> simp only [opA, ROp.kind, effO] at hx ⊢ <;> first
    | exact hx
    | exact h _ _ _ _ hx
    | (split at hx
       · exact h _ _ _ _ hx
       · exact h _ _ _ _ hx
       · cases hx)
theorem stepA_mono (h : Le rec rec') {base : Nat} {o : ROper} {T : List AV} {H : AH} {x : List AV × AH} (hx : stepA rec base o T H = some x) : stepA rec' base o T H = some x := by
  unfold stepA at *
  split at hx
  · rename_i hw
    rw [if_pos hw]
    simp only [Option.map_eq_some_iff] at hx ⊢
    obtain ⟨r, h1, h2⟩ := hx
    exact ⟨r, opA_mono h h1, h2⟩
  · rename_i hw; rw [if_neg hw]; exact hx
theorem regA_mono (h : Le rec rec') {base : Nat} : ∀ {l : List ROper} {T : List AV} {H : AH} {x : List AV × AH}, regA rec base l T H = some x → regA rec' base l T H = some x
  | [], _, _, _, hx => hx
  | o :: l, T, H, x, hx => by
    simp only [regA, Option.bind_eq_some_iff] at hx ⊢
    obtain ⟨r, h1, h2⟩ := hx
    refine ⟨r, stepA_mono h h1, ?_⟩
    split at h2
    · rename_i hw; rw [if_pos hw]; exact regA_mono h h2
    · cases h2
theorem iterA_mono {f f' : List AV → AH → Option (Ex × List AV × AH)} (h : ∀ T H x, f T H = some x → f' T H = some x) : ∀ {n m : Nat} (_ : n ≤ m) {T : List AV} {H : AH} {x : Ex × List AV × AH}, iterA f n T H = some x → iterA f' m T H = some x
  | 0, _, _, _, _, _, hx => by simp [iterA] at hx
  | n + 1, 0, hnm, _, _, _, _ => by omega
  | n + 1, m + 1, hnm, T, H, x, hx => by
    simp only [iterA, Option.bind_eq_some_iff] at hx ⊢
    obtain ⟨⟨e, T1, H1⟩, h1, h2⟩ := hx
    refine ⟨_, h _ _ _ h1, ?_⟩
    cases e with
    | norm => exact iterA_mono h (by omega) h2
    | ret => exact h2
    | out id => exact h2
theorem rcA_mono (h : Le rec rec') {n m : Nat} (hnm : n ≤ m) : ∀ (c : RC) {T : List AV} {H : AH} {x : Ex × List AV × AH}, rcA rec n c T H = some x → rcA rec' m c T H = some x
  | .skip, _, _, _, hx => hx
  | .ret, _, _, _, hx => hx
  | .exit _, _, _, _, hx => hx
  | .region k ops, T, H, x, hx => by
    simp only [rcA, Option.map_eq_some_iff] at hx ⊢
    obtain ⟨r, h1, h2⟩ := hx
    exact ⟨r, regA_mono h h1, h2⟩
  | .seq a b, T, H, x, hx => by
    simp only [rcA, Option.bind_eq_some_iff] at hx ⊢
    obtain ⟨⟨e, T1, H1⟩, h1, h2⟩ := hx
    refine ⟨_, rcA_mono h hnm a h1, ?_⟩
    cases e with
    | norm => exact rcA_mono h hnm b h2
    | ret => exact h2
    | out id => exact h2
  | .cond c a b, T, H, x, hx => by
    simp only [rcA] at hx ⊢
    split at hx
    · exact rcA_mono h hnm a hx
    · exact rcA_mono h hnm b hx
    · cases hx
  | .block id a, T, H, x, hx => by
    simp only [rcA, Option.map_eq_some_iff] at hx ⊢
    obtain ⟨r, h1, h2⟩ := hx
    exact ⟨r, rcA_mono h hnm a h1, h2⟩
  | .loop a, T, H, x, hx => by
    simp only [rcA] at hx ⊢
    exact iterA_mono (f := rcA rec n a) (fun T H x hx => rcA_mono h hnm a hx) hnm hx
end
section
variable {tab : Nat → Option RFunc} {ext : Nat → List AV → AH → Option (AV × AH)}
theorem run_mono : ∀ {n m : Nat}, n ≤ m → Le (run tab ext n) (run tab ext m)
  | 0, _, _ => fun _ _ _ _ hx => by simp [run] at hx
  | n + 1, 0, h => by omega
  | n + 1, m + 1, h => by
    intro f args H x hx
    simp only [run] at hx ⊢
    split at hx
    · exact hx
    · simp only [Option.bind_eq_some_iff] at hx ⊢
      obtain ⟨r, h1, h2⟩ := hx
      exact ⟨r, rcA_mono (run_mono (by omega)) (by omega) _ h1, h2⟩
end
def WF (H : AH) : Prop := ∀ b, H.next ≤ b → H.blk b = none
def WFrec (rec : Nat → List AV → AH → Option (AV × AH)) : Prop := ∀ f args H v H', rec f args H = some (v, H') → WF H → WF H'
theorem WF.bump {H : AH} (h : WF H) (n : Nat) : WF (H.bump n) := fun b hb => h b (Nat.le_trans (Nat.le_add_right _ _) hb)
theorem WF.set {H : AH} (h : WF H) {b : Nat} (hb : b < H.next) (x : Blk) : WF (H.set b x) := by
  intro c hc
  have hc' : H.next ≤ c := hc
  simp only [AH.set, upd]
  rw [if_neg (by omega)]
  exact h c hc'
theorem stn_wf {H H' : AH} (h : WF H) {b o : Nat} {l : List SV} (hs : H.stn b o l = some H') : WF H' := by
  unfold AH.stn at hs
  split at hs
  · rename_i l' hb
    split at hs
    · cases hs
      refine h.set ?_ _
      apply Classical.byContradiction
      intro hn
      rw [h b (by omega)] at hb; cases hb
    · cases hs
  · cases hs
theorem new_wf {H H' : AH} (h : WF H) {b : Nat} (hb : b < H.next) {x : Blk} (hs : H.new b x = some H') : WF H' := by
  unfold AH.new at hs
  split at hs
  · cases hs; exact h.set hb _
  · cases hs
theorem opA_wf {rec : Nat → List AV → AH → Option (AV × AH)} (hr : WFrec rec) {ρ : Opd → AV} {id : Nat} {H H' : AH} {r : ROp} {v : AV} (h : opA rec ρ id H r = some (v, H')) (hw : WF H) (hid : id < H.next) : WF H' := by
  unfold opA at h
  split at h
  · simp only [Option.map_eq_some_iff, Prod.mk.injEq] at h
    obtain ⟨_, _, _, rfl⟩ := h; exact hw
  · simp only [Option.map_eq_some_iff, Prod.mk.injEq] at h
    obtain ⟨_, _, _, rfl⟩ := h; exact hw
  · simp only [Option.bind_eq_some_iff, Option.map_eq_some_iff, Prod.mk.injEq] at h
    obtain ⟨_, _, _, h1, _, rfl⟩ := h; exact new_wf hw hid h1
  · cases r with
    | store n b u =>
      simp only [effO, Option.map_eq_some_iff, Prod.mk.injEq] at h
      obtain ⟨_, h1, _, rfl⟩ := h
      unfold storeA at h1
      split at h1
      · split at h1
        · split at h1
          · exact stn_wf hw h1
          · cases h1
        · cases h1
      · cases h1
    | append esz bytes s x =>
      simp only [effO, appendA] at h
      split at h
      · simp only [Option.bind_eq_some_iff] at h
        obtain ⟨_, _, _, _, h⟩ := h
        split at h
        · split at h
          · cases h; exact hw
          · simp only [Option.map_eq_some_iff, Prod.mk.injEq] at h
            obtain ⟨_, h1, _, rfl⟩ := h; exact new_wf hw hid h1
        · cases h
      · simp only [Option.bind_eq_some_iff] at h
        obtain ⟨_, _, _, _, h⟩ := h
        split at h
        · split at h
          · simp only [Option.map_eq_some_iff, Prod.mk.injEq] at h
            obtain ⟨_, h1, _, rfl⟩ := h; exact stn_wf hw h1
          · split at h
            · rename_i b o _ _ hs _ _ _ l hb
              split at h
              · simp only [Option.map_eq_some_iff, Prod.mk.injEq] at h
                obtain ⟨_, h1, _, rfl⟩ := h
                refine new_wf (WF.set hw ?_ _) hid h1
                apply Classical.byContradiction
                intro hn
                rw [hw _ (by omega)] at hb; cases hb
              · cases h
            · cases h
        · cases h
      · cases h
    | copy esz d s =>
      simp only [effO, copyA] at h
      split at h
      · simp only [Option.bind_eq_some_iff] at h
        obtain ⟨_, _, _, _, h⟩ := h
        cases h; exact hw
      · simp only [Option.bind_eq_some_iff] at h
        obtain ⟨_, _, _, _, h⟩ := h
        split at h
        · simp only [Option.map_eq_some_iff, Prod.mk.injEq] at h
          obtain ⟨_, h1, _, rfl⟩ := h; exact stn_wf hw h1
        · cases h
      · cases h
    | clear esz z x =>
      simp only [effO, Option.map_eq_some_iff, Prod.mk.injEq] at h
      obtain ⟨_, h1, _, rfl⟩ := h
      unfold clearA at h1
      split at h1
      · cases h1; exact hw
      · split at h1
        · cases h1; exact hw
        · split at h1
          · exact stn_wf hw h1
          · cases h1
      · cases h1
    | call f args => exact hr _ _ _ _ _ h hw
    | callv x args =>
      simp only [effO] at h
      split at h
      · exact hr _ _ _ _ _ h hw
      · exact hr _ _ _ _ _ h hw
      · cases h
    | hop g args =>
      simp only [effO] at h
      rcases hopA_cases h with rfl | h1 | ⟨r, es, es', hb, rfl⟩
      · exact hw
      · exact new_wf hw hid h1
      · refine hw.set ?_ _
        apply Classical.byContradiction
        intro hn
        rw [hw _ (by omega)] at hb; cases hb
    | _ => simp [effO] at h
def andThen {α : Type} (o : Option α) (K : α → Prop) : Prop := ∃ a, o = some a ∧ K a
@[simp] theorem andThen_some {α : Type} (a : α) (K : α → Prop) : andThen (some a) K = K a := by simp [andThen]
@[simp] theorem andThen_none {α : Type} (K : α → Prop) : andThen none K = False := by simp [andThen]
@[simp] theorem andThen_map {α β : Type} (o : Option α) (f : α → β) (K : β → Prop) : andThen (o.map f) K = andThen o (fun a => K (f a)) := by cases o <;> simp
@[simp] theorem andThen_bind {α β : Type} (o : Option α) (f : α → Option β) (K : β → Prop) : andThen (o.bind f) K = andThen o (fun a => andThen (f a) K) := by cases o <;> simp
@[simp] theorem andThen_ite {α : Type} (c : Prop) [Decidable c] (x y : Option α) (K : α → Prop) : andThen (if c then x else y) K = if c then andThen x K else andThen y K := by split <;> rfl
theorem andThen.mono {α : Type} {o : Option α} {K K' : α → Prop} (h : ∀ a, K a → K' a) (hk : andThen o K) : andThen o K' := let ⟨a, h1, h2⟩ := hk; ⟨a, h1, h a h2⟩
def gd (v : AV) (b : Bool) : Bool :=
  match v with
  | .s (.bool c) => c == b
  | _ => false
@[simp] theorem gd_bool (c b : Bool) : gd (.s (.bool c)) b = (c == b) := rfl
theorem wanted_gd (T : List AV) (t : Nat) (b : Bool) : wantedA T (some (t, b)) = gd (T.getD t undef) b := rfl
section
variable (tab : Nat → Option RFunc) (ext : Nat → List AV → AH → Option (AV × AH))
def CallP (f : Nat) (args : List AV) (H : AH) (K : AV → AH → Prop) : Prop := ∃ n v H', run tab ext n f args H = some (v, H') ∧ K v H'
def callvP (x : AV) (args : List AV) (H : AH) (K : AV → AH → Prop) : Prop :=
  match x with
  | .s (.fn f caps) => CallP tab ext f (args ++ caps.map fun a => .s (.ptr (some a))) H K
  | .s (.bfn f a) => CallP tab ext f (.s (.ptr (some a)) :: args) H K
  | _ => False
def wpO (ρ : Opd → AV) (id : Nat) (H : AH) (o : ROp) (K : AV → AH → Prop) : Prop :=
  match o with
  | .move x => K (ρ x) H
  | .load m a => andThen (loadA m (ρ a) H) fun v => K v H
  | .newc l => andThen (H.new id (.cells false l)) fun H => K (.s (.ptr (some (id, 0)))) H
  | .box x => andThen ((ρ x).cells?) fun l => andThen (H.new id (.cells false l)) fun H => K (.s (.ptr (some (id, 0)))) H
  | .buildSlice esz len z ps => andThen (fillA z (ps.map fun p => (p.1, p.2.1, ρ p.2.2))) fun l => andThen (H.new id (.cells false l)) fun H => K (.s (.slice (some (id, 0)) len len esz)) H
  | .makeSlice esz bytes z l c => andThen (makeA esz bytes z (ρ l) (ρ c)) fun r => andThen (H.new id (.cells false r.1)) fun H => K (.s (.slice (some (id, 0)) r.2.1 r.2.2 esz)) H
  | .store n a v => andThen (storeA n (ρ a) (ρ v) H) fun H => K undef H
  | .append esz bytes s x => andThen (appendA esz bytes id (ρ s) (ρ x) H) fun r => K r.1 r.2
  | .copy esz d s => andThen (copyA esz (ρ d) (ρ s) H) fun r => K r.1 r.2
  | .clear esz z x => andThen (clearA esz z (ρ x) H) fun H => K undef H
  | .call f args => CallP tab ext f (args.map ρ) H K
  | .callv x args => callvP tab ext (ρ x) (args.map ρ) H K
  | .hop h args => andThen (hopA h id (args.map ρ) H) fun r => K r.1 r.2
  | o => andThen (pureA ρ o) fun v => K v H
def watchP (T : List AV) (H : AH) : List Watch → Prop → Prop
  | [], P => P
  | w :: ws, P => (match w.guard with
    | none => loadA w.m (ev T w.a) H = some (T.getD w.dst undef)
    | some (t, b) => gd (T.getD t undef) b = true → loadA w.m (ev T w.a) H = some (T.getD w.dst undef)) ∧ watchP T H ws P
def gP (c : Bool) (H : AH) (P : (AV → AH → Prop) → Prop) (K : AV → AH → Prop) : Prop := if c then P K else K undef H
def wpR (base : Nat) : List ROper → List AV → AH → (List AV → AH → Prop) → Prop
  | [], T, H, K => K T H
  | o :: os, T, H, K =>
    match o.guard with
    | none => wpO tab ext (ev T) (base + o.idx) H o.op fun v H' => watchP T H' o.watch (wpR base os (put T o.dst v) H' K)
    | some (t, b) => gP (gd (T.getD t undef) b) H (wpO tab ext (ev T) (base + o.idx) H o.op) fun v H' => watchP T H' o.watch (wpR base os (put T o.dst v) H' K)
def loopP (c : RC) (T : List AV) (H : AH) (K : Ex → List AV → AH → Prop) : Prop := ∃ n e T' H', iterA (rcA (run tab ext n) n c) n T H = some (e, T', H') ∧ K e T' H'
def condP (v : AV) (A B : Prop) : Prop :=
  match v with
  | .s (.bool true) => A
  | .s (.bool false) => B
  | _ => False
def seqK (b : List AV → AH → Prop) (K : Ex → List AV → AH → Prop) (e : Ex) (T : List AV) (H : AH) : Prop :=
  match e with
  | .norm => b T H
  | .ret => K .ret T H
  | .out id => K (.out id) T H
def blockK (id : Nat) (K : Ex → List AV → AH → Prop) (e : Ex) (T : List AV) (H : AH) : Prop :=
  match e with
  | .norm => K .norm T H
  | .ret => K .ret T H
  | .out id' => if id' = id then K .norm T H else K (.out id') T H
def wpC : RC → List AV → AH → (Ex → List AV → AH → Prop) → Prop
  | .skip, T, H, K => K .norm T H
  | .ret, T, H, K => K .ret T H
  | .exit id, T, H, K => K (.out id) T H
  | .region n ops, T, H, K => wpR tab ext H.next ops T (H.bump n) (K .norm)
  | .seq a b, T, H, K => wpC a T H (seqK (fun T H => wpC b T H K) K)
  | .cond c a b, T, H, K => condP (ev T c) (wpC a T H K) (wpC b T H K)
  | .block id a, T, H, K => wpC a T H (blockK id K)
  | .loop a, T, H, K => loopP tab ext a T H K
end
section
variable {tab : Nat → Option RFunc} {ext : Nat → List AV → AH → Option (AV × AH)}
theorem CallP.mono {f : Nat} {args : List AV} {H : AH} {K K' : AV → AH → Prop} (h : CallP tab ext f args H K) (hk : ∀ v H', K v H' → K' v H') : CallP tab ext f args H K' :=
  let ⟨n, v, H', h1, h2⟩ := h; ⟨n, v, H', h1, hk v H' h2⟩
@[simp] theorem condP_bool (b : Bool) (A B : Prop) : condP (.s (.bool b)) A B = if b then A else B := by cases b <;> simp [condP]
theorem wpO_sound {ρ : Opd → AV} {id : Nat} {H : AH} {o : ROp} {K : AV → AH → Prop} (h : wpO tab ext ρ id H o K) : ∃ n v H', opA (run tab ext n) ρ id H o = some (v, H') ∧ K v H' := by
  cases o with
  | call f args =>
    obtain ⟨n, v, H', h1, h2⟩ := h
    exact ⟨n, v, H', h1, h2⟩
  | callv x args =>
    simp only [wpO, callvP] at h
    split at h
    · rename_i f caps hx
      obtain ⟨n, v, H', h1, h2⟩ := h
      exact ⟨n, v, H', by simp only [opA, ROp.kind, effO, hx]; exact h1, h2⟩
    · rename_i f p hx
      obtain ⟨n, v, H', h1, h2⟩ := h
      exact ⟨n, v, H', by simp only [opA, ROp.kind, effO, hx]; exact h1, h2⟩
    · exact h.elim
  | move x => exact ⟨0, _, _, by simp [opA, ROp.kind, pureA], h⟩
  | load m a => obtain ⟨v, h1, h2⟩ := h; exact ⟨0, v, H, by simp [opA, ROp.kind, loadO, h1], h2⟩
  | newc l => obtain ⟨H', h1, h2⟩ := h; exact ⟨0, _, H', by simp [opA, ROp.kind, allocO, h1], h2⟩
  | box x => obtain ⟨l, h0, H', h1, h2⟩ := h; exact ⟨0, _, H', by simp [opA, ROp.kind, allocO, h0, h1], h2⟩
  | buildSlice esz len z ps => obtain ⟨l, h0, H', h1, h2⟩ := h; exact ⟨0, _, H', by simp [opA, ROp.kind, allocO, h0, h1], h2⟩
  | makeSlice esz bytes z l c => obtain ⟨r, h0, H', h1, h2⟩ := h; exact ⟨0, _, H', by simp [opA, ROp.kind, allocO, h0, h1], h2⟩
  | store n a v => obtain ⟨H', h1, h2⟩ := h; exact ⟨0, _, H', by simp [opA, ROp.kind, effO, h1], h2⟩
  | append esz bytes s x => obtain ⟨r, h1, h2⟩ := h; exact ⟨0, r.1, r.2, by simp [opA, ROp.kind, effO, h1], h2⟩
  | copy esz d s => obtain ⟨r, h1, h2⟩ := h; exact ⟨0, r.1, r.2, by simp [opA, ROp.kind, effO, h1], h2⟩
  | clear esz z x => obtain ⟨H', h1, h2⟩ := h; exact ⟨0, _, H', by simp [opA, ROp.kind, effO, h1], h2⟩
  | hop g args => obtain ⟨r, h1, h2⟩ := h; exact ⟨0, r.1, r.2, by simp only [opA, ROp.kind, effO, h1], h2⟩
  | _ => obtain ⟨v, h1, h2⟩ := h; exact ⟨0, v, H, by simp only [opA, ROp.kind, h1, Option.map_some], h2⟩
theorem watchP_sound {T : List AV} {H : AH} {P : Prop} : ∀ {ws : List Watch}, watchP T H ws P → ws.all (watchOk T H) = true ∧ P
  | [], h => ⟨rfl, h⟩
  | w :: ws, h => by
    obtain ⟨h1, h2⟩ := h
    obtain ⟨h3, h4⟩ := watchP_sound h2
    refine ⟨?_, h4⟩
    simp only [List.all_cons, h3, Bool.and_true]
    unfold watchOk
    cases hg : w.guard with
    | none => rw [hg] at h1; simp only [wantedA]; simpa using h1
    | some p =>
      obtain ⟨t, b⟩ := p
      rw [hg] at h1
      rw [wanted_gd]
      split
      · rename_i hgd; simpa using h1 hgd
      · rfl
theorem wpR_sound {base : Nat} : ∀ {l : List ROper} {T : List AV} {H : AH} {K : List AV → AH → Prop}, wpR tab ext base l T H K → ∃ n T' H', regA (run tab ext n) base l T H = some (T', H') ∧ K T' H'
  | [], T, H, K, h => ⟨0, T, H, rfl, h⟩
  | o :: l, T, H, K, h => by
    have key : ∃ n v H', (wantedA T o.guard = true ∧ opA (run tab ext n) (ev T) (base + o.idx) H o.op = some (v, H') ∨ wantedA T o.guard = false ∧ v = undef ∧ H' = H) ∧ watchP T H' o.watch (wpR tab ext base l (put T o.dst v) H' K) := by
      simp only [wpR] at h
      split at h
      · rename_i hg
        obtain ⟨n, v, H', h1, h2⟩ := wpO_sound h
        exact ⟨n, v, H', .inl ⟨by simp [hg, wantedA], h1⟩, h2⟩
      · rename_i t b hg
        unfold gP at h
        split at h
        · rename_i hgd
          obtain ⟨n, v, H', h1, h2⟩ := wpO_sound h
          exact ⟨n, v, H', .inl ⟨by rw [hg, wanted_gd]; exact hgd, h1⟩, h2⟩
        · rename_i hgd
          exact ⟨0, undef, H, .inr ⟨by rw [hg, wanted_gd]; simpa using hgd, rfl, rfl⟩, h⟩
    obtain ⟨n, v, H', h1, h2⟩ := key
    obtain ⟨h3, h4⟩ := watchP_sound h2
    obtain ⟨m, T2, H2, h5, h6⟩ := wpR_sound h4
    refine ⟨max n m, T2, H2, ?_, h6⟩
    simp only [regA, Option.bind_eq_some_iff]
    refine ⟨(put T o.dst v, H'), ?_, ?_⟩
    · unfold stepA
      rcases h1 with ⟨hw, h1⟩ | ⟨hw, rfl, rfl⟩
      · rw [if_pos hw, opA_mono (run_mono (Nat.le_max_left n m)) h1]; rfl
      · rw [if_neg (by simp [hw])]
    · simp only
      rw [if_pos h3]
      exact regA_mono (run_mono (Nat.le_max_right n m)) h5
theorem wpC_sound : ∀ {c : RC} {T : List AV} {H : AH} {K : Ex → List AV → AH → Prop}, wpC tab ext c T H K → ∃ n e T' H', rcA (run tab ext n) n c T H = some (e, T', H') ∧ K e T' H'
  | .skip, T, H, K, h => ⟨0, _, _, _, rfl, h⟩
  | .ret, T, H, K, h => ⟨0, _, _, _, rfl, h⟩
  | .exit _, T, H, K, h => ⟨0, _, _, _, rfl, h⟩
  | .region k ops, T, H, K, h => by
    obtain ⟨n, T', H', h1, h2⟩ := wpR_sound h
    exact ⟨n, .norm, T', H', by simp [rcA, h1], h2⟩
  | .seq a b, T, H, K, h => by
    obtain ⟨n, e, T1, H1, h1, h2⟩ := wpC_sound (c := a) h
    cases e with
    | norm =>
      obtain ⟨m, e, T2, H2, h3, h4⟩ := wpC_sound (c := b) h2
      refine ⟨max n m, e, T2, H2, ?_, h4⟩
      simp only [rcA, Option.bind_eq_some_iff]
      exact ⟨_, rcA_mono (run_mono (Nat.le_max_left n m)) (Nat.le_max_left n m) a h1, rcA_mono (run_mono (Nat.le_max_right n m)) (Nat.le_max_right n m) b h3⟩
    | ret => exact ⟨n, .ret, T1, H1, by simp [rcA, h1], h2⟩
    | out id => exact ⟨n, .out id, T1, H1, by simp [rcA, h1], h2⟩
  | .cond c a b, T, H, K, h => by
    simp only [wpC, condP] at h
    split at h
    · rename_i hv
      obtain ⟨n, e, T1, H1, h1, h2⟩ := wpC_sound (c := a) h
      exact ⟨n, e, T1, H1, by simp only [rcA, hv]; exact h1, h2⟩
    · rename_i hv
      obtain ⟨n, e, T1, H1, h1, h2⟩ := wpC_sound (c := b) h
      exact ⟨n, e, T1, H1, by simp only [rcA, hv]; exact h1, h2⟩
    · exact h.elim
  | .block id a, T, H, K, h => by
    obtain ⟨n, e, T1, H1, h1, h2⟩ := wpC_sound (c := a) h
    refine ⟨n, if e = .out id then .norm else e, T1, H1, by simp [rcA, h1], ?_⟩
    cases e with
    | norm => simpa [blockK] using h2
    | ret => simpa [blockK] using h2
    | out id' =>
      simp only [blockK] at h2
      by_cases hid : id' = id
      · subst hid; simpa using h2
      · have : (Ex.out id' : Ex) ≠ .out id := fun hc => hid (by cases hc; rfl)
        rw [if_neg this]; rw [if_neg hid] at h2; exact h2
  | .loop a, T, H, K, h => by
    obtain ⟨n, e, T', H', h1, h2⟩ := h
    exact ⟨n, e, T', H', h1, h2⟩
theorem loopP_inv {c : RC} {K : Ex → List AV → AH → Prop} (I : Nat → List AV → AH → Prop) (step : ∀ n T H, I n T H → wpC tab ext c T H (seqK (fun T' H' => ∃ m, m < n ∧ I m T' H') K)) :
    ∀ (n : Nat) (T : List AV) (H : AH), I n T H → loopP tab ext c T H K := by
  intro n
  induction n using Nat.strongRecOn with
  | _ n ih =>
    intro T H h
    obtain ⟨k, e, T1, H1, h1, h2⟩ := wpC_sound (step n T H h)
    cases e with
    | norm =>
      obtain ⟨m, hm, hI⟩ := h2
      obtain ⟨j, e, T2, H2, h3, h4⟩ := ih m hm T1 H1 hI
      refine ⟨max k j + 1, e, T2, H2, ?_, h4⟩
      simp only [iterA, Option.bind_eq_some_iff]
      refine ⟨_, rcA_mono (run_mono (by omega)) (by omega) c h1, ?_⟩
      exact iterA_mono (f := rcA (run tab ext j) j c) (fun T H x hx => rcA_mono (run_mono (by omega)) (by omega) c hx) (by omega) h3
    | ret =>
      refine ⟨k + 1, .ret, T1, H1, ?_, h2⟩
      simp only [iterA, Option.bind_eq_some_iff]
      exact ⟨_, rcA_mono (run_mono (by omega)) (by omega) c h1, rfl⟩
    | out id =>
      refine ⟨k + 1, .out id, T1, H1, ?_, h2⟩
      simp only [iterA, Option.bind_eq_some_iff]
      exact ⟨_, rcA_mono (run_mono (by omega)) (by omega) c h1, rfl⟩
def retK (rs : List RRes) (K : AV → AH → Prop) (e : Ex) (T : List AV) (H : AH) : Prop :=
  match e with
  | .out _ => False
  | _ => andThen (resA rs T H) fun v => K v H
theorem CallP_of {f : Nat} {rf : RFunc} {args : List AV} {H : AH} {K : AV → AH → Prop} (hf : tab f = some rf) (h : wpC tab ext rf.body (args ++ List.replicate (rf.ntmps - args.length) undef) H (retK rf.results K)) : CallP tab ext f args H K := by
  obtain ⟨n, e, T', H', h1, h2⟩ := wpC_sound h
  have hne : ∀ id, e ≠ .out id := by rintro id rfl; exact h2
  have h3 : andThen (resA rf.results T' H') fun v => K v H' := by
    cases e with
    | norm => exact h2
    | ret => exact h2
    | out id => exact absurd rfl (hne id)
  obtain ⟨v, h4, h5⟩ := h3
  refine ⟨n + 1, v, H', ?_, h5⟩
  simp only [run, hf, h1, Option.bind_some]
  cases e with
  | norm => simp [h4]
  | ret => simp [h4]
  | out id => exact absurd rfl (hne id)
end
def rcOk : RC → Bool
  | .region n ops => ops.all fun o => decide (o.idx < n)
  | .seq a b => rcOk a && rcOk b
  | .cond _ a b => rcOk a && rcOk b
  | .block _ a => rcOk a
  | .loop a => rcOk a
  | _ => true
section
variable {rec : Nat → List AV → AH → Option (AV × AH)}
theorem regA_wf (hr : WFrec rec) (hn : NextOk rec) {base n : Nat} : ∀ {l : List ROper} {T T' : List AV} {H H' : AH}, regA rec base l T H = some (T', H') → (∀ o ∈ l, o.idx < n) → base + n ≤ H.next → WF H → WF H'
  | [], T, T', H, H', h, _, _, hw => by simp only [regA] at h; cases h; exact hw
  | r :: l, T, T', H, H', h, hi, hb, hw => by
    simp only [regA, Option.bind_eq_some_iff] at h
    obtain ⟨⟨T1, H1⟩, h1, h2⟩ := h
    split at h2
    · have hidx := hi r (by simp)
      have hw1 : WF H1 := by
        unfold stepA at h1
        split at h1
        · simp only [Option.map_eq_some_iff, Prod.mk.injEq] at h1
          obtain ⟨⟨v, H2⟩, h3, _, rfl⟩ := h1
          exact opA_wf hr h3 hw (by omega)
        · cases h1; exact hw
      exact regA_wf hr hn h2 (fun o ho => hi o (by simp [ho])) (Nat.le_trans hb (stepA_next hn h1)) hw1
    · cases h2
theorem iterA_wf {f : List AV → AH → Option (Ex × List AV × AH)} (hf : ∀ T H e T' H', f T H = some (e, T', H') → WF H → WF H') : ∀ (n : Nat) {T T' : List AV} {H H' : AH} {e : Ex}, iterA f n T H = some (e, T', H') → WF H → WF H'
  | 0, _, _, _, _, _, h, _ => by simp [iterA] at h
  | n + 1, T, T', H, H', e, h, hw => by
    simp only [iterA, Option.bind_eq_some_iff] at h
    obtain ⟨⟨e1, T1, H1⟩, h1, h2⟩ := h
    have k := hf _ _ _ _ _ h1 hw
    cases e1 with
    | norm => exact iterA_wf hf n h2 k
    | ret => simp only at h2; cases h2; exact k
    | out id => simp only at h2; cases h2; exact k
theorem rcA_wf (hr : WFrec rec) (hn : NextOk rec) {fuel : Nat} : ∀ (c : RC) {T T' : List AV} {H H' : AH} {e : Ex}, rcOk c = true → rcA rec fuel c T H = some (e, T', H') → WF H → WF H'
  | .skip, _, _, _, _, _, _, h, hw => by simp only [rcA] at h; cases h; exact hw
  | .ret, _, _, _, _, _, _, h, hw => by simp only [rcA] at h; cases h; exact hw
  | .exit _, _, _, _, _, _, _, h, hw => by simp only [rcA] at h; cases h; exact hw
  | .region n ops, T, T', H, H', e, hc, h, hw => by
    simp only [rcA, Option.map_eq_some_iff] at h
    obtain ⟨⟨T1, H1⟩, h1, h2⟩ := h
    cases h2
    refine regA_wf hr hn (n := n) h1 ?_ (Nat.le_refl _) (hw.bump n)
    intro o ho
    simp only [rcOk, List.all_eq_true, decide_eq_true_eq] at hc
    exact hc o ho
  | .seq a b, T, T', H, H', e, hc, h, hw => by
    simp only [rcOk, Bool.and_eq_true] at hc
    simp only [rcA, Option.bind_eq_some_iff] at h
    obtain ⟨⟨e1, T1, H1⟩, h1, h2⟩ := h
    have k := rcA_wf hr hn a hc.1 h1 hw
    cases e1 with
    | norm => exact rcA_wf hr hn b hc.2 h2 k
    | ret => simp only at h2; cases h2; exact k
    | out id => simp only at h2; cases h2; exact k
  | .cond c a b, T, T', H, H', e, hc, h, hw => by
    simp only [rcOk, Bool.and_eq_true] at hc
    simp only [rcA] at h
    split at h
    · exact rcA_wf hr hn a hc.1 h hw
    · exact rcA_wf hr hn b hc.2 h hw
    · cases h
  | .block id a, T, T', H, H', e, hc, h, hw => by
    simp only [rcA, Option.map_eq_some_iff] at h
    obtain ⟨⟨e1, T1, H1⟩, h1, h2⟩ := h
    cases h2
    exact rcA_wf hr hn a hc h1 hw
  | .loop a, T, T', H, H', e, hc, h, hw => by
    simp only [rcA] at h
    exact iterA_wf (f := rcA rec fuel a) (fun _ _ _ _ _ h => rcA_wf hr hn a hc h) fuel h hw
end
section
variable {tab : Nat → Option RFunc} {ext : Nat → List AV → AH → Option (AV × AH)}
def tabWfL (l : List (Option RFunc)) : Bool := l.all fun o => match o with | none => true | some rf => rcOk rf.body
def TabWf (tab : Nat → Option RFunc) : Prop := ∀ f rf, tab f = some rf → rcOk rf.body = true
theorem tabWf_of {l : List (Option RFunc)} (h : tabWfL l = true) : TabWf (fun f => (l[f]?).join) := by
  intro f rf hf
  have hf : (l[f]?).join = some rf := hf
  have hl : l[f]? = some (some rf) := by
    cases hl : l[f]? with
    | none => rw [hl] at hf; cases hf
    | some x => rw [hl] at hf; simp at hf; rw [hf]
  simp only [tabWfL, List.all_eq_true] at h
  exact h _ (List.mem_of_getElem? hl)
theorem run_wf (ht : TabWf tab) (he : WFrec ext) (hn : NextOk ext) : ∀ n, WFrec (run tab ext n)
  | 0, _, _, _, _, _, h, _ => by simp [run] at h
  | n + 1, f, args, H, v, H', h, hw => by
    simp only [run] at h
    split at h
    · exact he _ _ _ _ _ h hw
    · rename_i rf hrf
      simp only [Option.bind_eq_some_iff] at h
      obtain ⟨⟨e1, T1, H1⟩, h1, h2⟩ := h
      have k := rcA_wf (run_wf ht he hn n) (run_next hn n) _ (ht f rf hrf) h1 hw
      split at h2
      · cases h2
      · simp only [Option.map_eq_some_iff, Prod.mk.injEq] at h2
        obtain ⟨_, _, _, rfl⟩ := h2
        exact k
theorem CallP.mono_wf (ht : TabWf tab) (he : WFrec ext) (hn : NextOk ext) {f : Nat} {args : List AV} {H : AH} (hw : WF H) {K K' : AV → AH → Prop} (h : CallP tab ext f args H K) (hk : ∀ v H', WF H' → H.next ≤ H'.next → K v H' → K' v H') : CallP tab ext f args H K' :=
  let ⟨n, v, H', h1, h2⟩ := h; ⟨n, v, H', h1, hk v H' (run_wf ht he hn n _ _ _ _ _ h1 hw) (run_next hn n _ _ _ _ _ h1) h2⟩
end
def noExt : Nat → List AV → AH → Option (AV × AH) := fun _ _ _ => none
theorem noExt_calls {P : Program} {G : List Nat} {B : Nat} {w0 : World} : CallsOk P G B w0 noExt := fun _ _ _ _ _ h => by cases h
theorem noExt_frame : FrmOk noExt := fun _ _ _ _ _ _ _ h => by cases h
theorem noExt_next : NextOk noExt := fun _ _ _ _ _ h => by cases h
theorem noExt_wf : WFrec noExt := fun _ _ _ _ _ h => by cases h
end Go.AM

/-
  THE ABSTRACT MACHINE: from its run of a law to the law's call in the model; and rules by which a run is worked out.
-/
namespace Go.AM
open Go.RowKit
theorem HRel.grown {w w' : World} {φ : Phi} {H : AH} (h : HRel w.heap.size w φ H w') : Grown w w' := by
  refine ⟨⟨h.os, h.out, fun i hi => ?_⟩, fun a => ?_, h.bound⟩
  · rw [h.old i hi]
    cases hw : w.heap[i]? with
    | none => rfl
    | some o => cases o <;> first | exact ⟨rfl, rfl, rfl, fun _ _ => rfl⟩ | exact .inr ⟨rfl, rfl⟩ | rfl
  · by_cases ha : a.block < w.heap.size
    · unfold World.frozen?; rw [h.old _ ha]
    · have e1 : w.frozen? a = false := by unfold World.frozen?; rw [Array.getElem?_eq_none (by omega)]
      rw [e1]
      unfold World.frozen?
      cases hw : w'.heap[a.block]? with
      | none => rfl
      | some o =>
        cases o with
        | cells c e fr =>
          have := h.nf _ c e fr (by omega) hw
          subst this
          simp
        | _ => rfl
def H00 : AH := ⟨fun _ => none, 0⟩
section
variable (H : AH)
@[simp] theorem nilCheckA_ptr (a : Nat × Nat) : nilCheckA (.s (.ptr (some a))) = some (.s (.ptr (some a))) := rfl
@[simp] theorem nilCheckA_fn (f : Nat) (c : List (Nat × Nat)) : nilCheckA (.s (.fn f c)) = some (.s (.fn f c)) := rfl
@[simp] theorem fieldAddrA_ptr (off b o : Nat) : fieldAddrA off (.s (.ptr (some (b, o)))) = some (.s (.ptr (some (b, o + off)))) := rfl
@[simp] theorem loadA_one (b o : Nat) : loadA none (.s (.ptr (some (b, o)))) H = (H.ld b o).map .s := rfl
@[simp] theorem loadA_n (n b o : Nat) : loadA (some n) (.s (.ptr (some (b, o)))) H = (H.ldn b o n).map .agg := rfl
@[simp] theorem storeA_s (n b o : Nat) (x : SV) : storeA n (.s (.ptr (some (b, o)))) (.s x) H = if 1 = n then H.stn b o [x] else none := rfl
@[simp] theorem storeA_agg (n b o : Nat) (l : List SV) : storeA n (.s (.ptr (some (b, o)))) (.agg l) H = if l.length = n then H.stn b o l else none := rfl
@[simp] theorem cells_s (x : SV) : AV.cells? (.s x) = some [x] := rfl
@[simp] theorem cells_agg (l : List SV) : AV.cells? (.agg l) = some l := rfl
@[simp] theorem part_s (x : SV) : AV.part? (.s x) = some (.s x) := rfl
@[simp] theorem part_agg (l : List SV) : AV.part? (.agg l) = some (.agg l) := rfl
@[simp] theorem av_s (x : SV) : Part.av (.s x) = .s x := rfl
@[simp] theorem av_agg (l : List SV) : Part.av (.agg l) = .agg l := rfl
@[simp] theorem gd_tup (l : List Part) (b : Bool) : gd (.tup l) b = false := rfl
@[simp] theorem pickA_bool (b : Bool) (x y : AV) : pickA (.s (.bool b)) x y = some (if b then x else y) := by cases b <;> rfl
@[simp] theorem fieldA_agg (m : Option Nat) (off : Nat) (l : List SV) : fieldA m off (.agg l) = partA m l off := rfl
@[simp] theorem partA_none (l : List SV) (off : Nat) : partA none l off = (l[off]?).map .s := rfl
@[simp] theorem partA_some (n : Nat) (l : List SV) (off : Nat) : partA (some n) l off = if off + n ≤ l.length then some (.agg ((l.drop off).take n)) else none := rfl
@[simp] theorem indexSlA_eq (esz b o len cap e : Nat) (k : IntKind) (n : Int) : indexSlA esz (.s (.slice (some (b, o)) len cap e)) (.s (.int k n)) = if 0 ≤ n ∧ n < (len : Int) then some (.s (.ptr (some (b, o + n.toNat * esz)))) else none := rfl
@[simp] theorem indexArrA_eq (len esz b o : Nat) (k : IntKind) (n : Int) : indexArrA len esz (.s (.ptr (some (b, o)))) (.s (.int k n)) = if 0 ≤ n ∧ n < (len : Int) then some (.s (.ptr (some (b, o + n.toNat * esz)))) else none := rfl
@[simp] theorem lenA_slice (a : Option (Nat × Nat)) (n c e : Nat) : lenA (.s (.slice a n c e)) = some (.s (.int .i64 n)) := rfl
@[simp] theorem unA_not (b : Bool) : unA .not (.s (.bool b)) = some (.s (.bool !b)) := rfl
@[simp] theorem unA_neg (k : IntKind) (n : Int) : unA .neg (.s (.int k n)) = some (.s (.int k (k.wrap (0 - n)))) := rfl
@[simp] theorem convA_int (k k' : IntKind) (n : Int) : convA k (.s (.int k' n)) = some (.s (.int k (k.wrap n))) := rfl
@[simp] theorem extractA_tup (i : Nat) (l : List Part) : extractA i (.tup l) = (l[i]?).map Part.av := rfl
@[simp] theorem minmaxA_max (k k' : IntKind) (a b : Int) : minmaxA true (.s (.int k a)) (.s (.int k' b)) = some (.s (.int k (if b > a then b else a))) := rfl
@[simp] theorem minmaxA_min (k k' : IntKind) (a b : Int) : minmaxA false (.s (.int k a)) (.s (.int k' b)) = some (.s (.int k (if b < a then b else a))) := rfl
@[simp] theorem capsA_nil : capsA [] = some [] := rfl
@[simp] theorem capsA_cons (a : Nat × Nat) (l : List AV) : capsA (.s (.ptr (some a)) :: l) = (capsA l).map (a :: ·) := rfl
@[simp] theorem partsA_nil : partsA [] = some [] := rfl
@[simp] theorem partsA_cons (v : AV) (l : List AV) : partsA (v :: l) = (v.part?).bind fun p => (partsA l).map (p :: ·) := rfl
section
variable (k : IntKind) (a b : Int)
@[simp] theorem binA_add : binA .add (.s (.int k a)) (.s (.int k b)) = some (.s (.int k (k.wrap (a + b)))) := by simp [binA, arithA]
@[simp] theorem binA_sub : binA .sub (.s (.int k a)) (.s (.int k b)) = some (.s (.int k (k.wrap (a - b)))) := by simp [binA, arithA]
@[simp] theorem binA_mul : binA .mul (.s (.int k a)) (.s (.int k b)) = some (.s (.int k (k.wrap (a * b)))) := by simp [binA, arithA]
@[simp] theorem binA_quo : binA .quo (.s (.int k a)) (.s (.int k b)) = if b = 0 then none else some (.s (.int k (k.wrap (a.tdiv b)))) := by simp [binA, arithA]; split <;> rfl
@[simp] theorem binA_rem : binA .rem (.s (.int k a)) (.s (.int k b)) = if b = 0 then none else some (.s (.int k (a.tmod b))) := by simp [binA, arithA]; split <;> rfl
@[simp] theorem binA_eql : binA .eql (.s (.int k a)) (.s (.int k b)) = some (.s (.bool (decide (a = b)))) := by simp [binA, arithA]; rfl
@[simp] theorem binA_neq : binA .neq (.s (.int k a)) (.s (.int k b)) = some (.s (.bool (decide (¬ a = b)))) := by simp [binA, arithA]; rfl
@[simp] theorem binA_lss : binA .lss (.s (.int k a)) (.s (.int k b)) = some (.s (.bool (decide (a < b)))) := by simp [binA, arithA]
@[simp] theorem binA_leq : binA .leq (.s (.int k a)) (.s (.int k b)) = some (.s (.bool (decide (a ≤ b)))) := by simp [binA, arithA]
@[simp] theorem binA_gtr : binA .gtr (.s (.int k a)) (.s (.int k b)) = some (.s (.bool (decide (a > b)))) := by simp [binA, arithA]
@[simp] theorem binA_geq : binA .geq (.s (.int k a)) (.s (.int k b)) = some (.s (.bool (decide (a ≥ b)))) := by simp [binA, arithA]
end
@[simp] theorem eqsA_bool (ng a b : Bool) : eqsA .bool ng (.s (.bool a)) (.s (.bool b)) = some (.s (.bool (ng ^^ (a == b)))) := rfl
@[simp] theorem eqsA_ptr_none (ng : Bool) (b : Option (Nat × Nat)) : eqsA .ptr ng (.s (.ptr none)) (.s (.ptr b)) = some (.s (.bool (ng ^^ b.isNone))) := rfl
@[simp] theorem eqsA_ptr_some (ng : Bool) (a : Nat × Nat) : eqsA .ptr ng (.s (.ptr (some a))) (.s (.ptr none)) = some (.s (.bool ng)) := rfl
@[simp] theorem eqsA_sl_none (ng : Bool) (l c e l' c' e' : Nat) (b : Option (Nat × Nat)) : eqsA .slice ng (.s (.slice none l c e)) (.s (.slice b l' c' e')) = some (.s (.bool (ng ^^ b.isNone))) := rfl
@[simp] theorem eqsA_sl_some (ng : Bool) (a : Nat × Nat) (l c e l' c' e' : Nat) : eqsA .slice ng (.s (.slice (some a) l c e)) (.s (.slice none l' c' e')) = some (.s (.bool ng)) := rfl
@[simp] theorem bump_blk (n c : Nat) : (H.bump n).blk c = H.blk c := rfl
@[simp] theorem bump_next (n : Nat) : (H.bump n).next = H.next + n := rfl
@[simp] theorem set_blk (b c : Nat) (x : Blk) : (H.set b x).blk c = if c = b then some x else H.blk c := rfl
@[simp] theorem set_next (b : Nat) (x : Blk) : (H.set b x).next = H.next := rfl
@[simp] theorem bump_ld (n b o : Nat) : (H.bump n).ld b o = H.ld b o := rfl
@[simp] theorem bump_ldn (n b o k : Nat) : (H.bump n).ldn b o k = H.ldn b o k := rfl
theorem ld_of {b o : Nat} {ro : Bool} {l : List SV} (h : H.blk b = some (.cells ro l)) : H.ld b o = l[o]? := by unfold AH.ld; rw [h]
theorem ldn_of {b o n : Nat} {ro : Bool} {l : List SV} (h : H.blk b = some (.cells ro l)) : H.ldn b o n = if o + n ≤ l.length then some ((l.drop o).take n) else none := by unfold AH.ldn; rw [h]
theorem stn_of {b o : Nat} {l vs : List SV} (h : H.blk b = some (.cells false l)) (hl : o + vs.length ≤ l.length) : H.stn b o vs = some (H.set b (.cells false (splice l o vs))) := by unfold AH.stn; rw [h]; simp [hl]
theorem new_of {id : Nat} {x : Blk} (h : H.blk id = none) : H.new id x = some (H.set id x) := by unfold AH.new; rw [h]
@[simp] theorem retK_norm (rs : List RRes) (K : AV → AH → Prop) (T : List AV) : retK rs K .norm T H = andThen (resA rs T H) fun v => K v H := rfl
@[simp] theorem retK_ret (rs : List RRes) (K : AV → AH → Prop) (T : List AV) : retK rs K .ret T H = andThen (resA rs T H) fun v => K v H := rfl
@[simp] theorem seqK_norm (b : List AV → AH → Prop) (K : Ex → List AV → AH → Prop) (T : List AV) : seqK b K .norm T H = b T H := rfl
@[simp] theorem seqK_ret (b : List AV → AH → Prop) (K : Ex → List AV → AH → Prop) (T : List AV) : seqK b K .ret T H = K .ret T H := rfl
@[simp] theorem seqK_out (b : List AV → AH → Prop) (K : Ex → List AV → AH → Prop) (id : Nat) (T : List AV) : seqK b K (.out id) T H = K (.out id) T H := rfl
@[simp] theorem blockK_norm (id : Nat) (K : Ex → List AV → AH → Prop) (T : List AV) : blockK id K .norm T H = K .norm T H := rfl
@[simp] theorem blockK_ret (id : Nat) (K : Ex → List AV → AH → Prop) (T : List AV) : blockK id K .ret T H = K .ret T H := rfl
@[simp] theorem blockK_out (id id' : Nat) (K : Ex → List AV → AH → Prop) (T : List AV) : blockK id K (.out id') T H = if id' = id then K .norm T H else K (.out id') T H := rfl
end
def sl (T : List AV) (i : Nat) : AV := T.getD i undef
theorem sl_eta {T : List AV} {n : Nat} (h : T.length = n) : T = (List.range n).map fun i => sl T i := by
  apply List.ext_getElem?
  intro i
  by_cases hi : i < n
  · simp [sl, List.getD_eq_getElem?_getD, hi, h]
  · rw [List.getElem?_eq_none (by omega), List.getElem?_eq_none (by simp; omega)]
theorem wrap_i64 {x : Int} (h1 : -9223372036854775808 ≤ x) (h2 : x < 9223372036854775808) : IntKind.i64.wrap x = x := by rw [IntKind.wrap_i64]; omega
theorem wrap_u64 {x : Int} (h1 : 0 ≤ x) (h2 : x < 18446744073709551616) : IntKind.u64.wrap x = x := by
  simp [IntKind.wrap, IntKind.bits, IntKind.signed]; omega
end Go.AM

/-
  Steps of a printed body by simp, from its head on: what comes behind is not looked into.
-/
namespace Go.AM
section
variable {tab : Nat → Option RFunc} {ext : Nat → List AV → AH → Option (AV × AH)}
@[congr] theorem andThen_congr {α : Type} {o o' : Option α} {K : α → Prop} (h : o = o') : andThen o K = andThen o' K := by rw [h]
@[congr] theorem condP_congr {v v' : AV} {A B : Prop} (h : v = v') : condP v A B = condP v' A B := by rw [h]
@[congr] theorem gP_congr {c c' : Bool} {H : AH} {P : (AV → AH → Prop) → Prop} {K : AV → AH → Prop} (h : c = c') : gP c H P K = gP c' H P K := by rw [h]
@[congr] theorem CallP_congr {f : Nat} {args args' : List AV} {H : AH} {K : AV → AH → Prop} (h : args = args') : CallP tab ext f args H K = CallP tab ext f args' H K := by rw [h]
@[congr] theorem callvP_congr {v v' : AV} {args args' : List AV} {H : AH} {K : AV → AH → Prop} (h' : v = v') (h : args = args') : callvP tab ext v args H K = callvP tab ext v' args' H K := by rw [h, h']
@[congr] theorem loopP_congr {c : RC} {T T' : List AV} {H : AH} {K : Ex → List AV → AH → Prop} (h : T = T') : loopP tab ext c T H K = loopP tab ext c T' H K := by rw [h]
@[congr] theorem wpC_congr {c : RC} {T T' : List AV} {H : AH} {K : Ex → List AV → AH → Prop} (h : T = T') : wpC tab ext c T H K = wpC tab ext c T' H K := by rw [h]
@[simp] theorem gP_true (H : AH) (P : (AV → AH → Prop) → Prop) (K : AV → AH → Prop) : gP true H P K = P K := rfl
@[simp] theorem gP_false (H : AH) (P : (AV → AH → Prop) → Prop) (K : AV → AH → Prop) : gP false H P K = K undef H := rfl
end
@[simp] theorem splice_nil (l : List SV) : splice l 0 [] = l := by simp [splice]
@[simp] theorem splice_cons (x : SV) (l : List SV) (v : SV) (vs : List SV) : splice (x :: l) 0 (v :: vs) = v :: splice l 0 vs := by simp [splice]
@[simp] theorem splice_one (x : SV) (l : List SV) (vs : List SV) : splice (x :: l) 1 vs = x :: splice l 0 vs := by simp [splice, Nat.add_comm]
@[simp] theorem splice_two (x y : SV) (l : List SV) (vs : List SV) : splice (x :: y :: l) 2 vs = x :: y :: splice l 0 vs := by simp [splice, Nat.add_comm]
@[simp] theorem splice_three (x y z : SV) (l : List SV) (vs : List SV) : splice (x :: y :: z :: l) 3 vs = x :: y :: z :: splice l 0 vs := by simp [splice, Nat.add_comm]
@[simp] theorem splice_len (l : List SV) (o : Nat) (vs : List SV) (h : o + vs.length ≤ l.length) : (splice l o vs).length = l.length := by simp [splice]; omega
end Go.AM

/-
  THE ABSTRACT MACHINE: things on the heap side by side; what a call does with some of them leaves the others.
-/
namespace Go.AM
abbrev HF := Nat → Option Blk
def RoOf (ρ : HF) (H : AH) : Prop := ∀ b l, ρ b = some (.cells true l) → H.blk b = some (.cells true l)
def ROrec (rec : Nat → List AV → AH → Option (AV × AH)) : Prop := ∀ ρ f args H v H', rec f args H = some (v, H') → RoOf ρ H → RoOf ρ H'
section
variable {ρ : HF} {H : AH}
theorem RoOf.bump (h : RoOf ρ H) (n : Nat) : RoOf ρ (H.bump n) := h
theorem RoOf.set (h : RoOf ρ H) {b : Nat} (hb : ∀ l, H.blk b ≠ some (.cells true l)) (x : Blk) : RoOf ρ (H.set b x) := by
  intro c l hc
  have := h c l hc
  have hne : c ≠ b := fun he => by subst he; exact hb l this
  rw [set_blk, if_neg hne]
  exact this
theorem stn_ro {H' : AH} (h : RoOf ρ H) {b o : Nat} {l : List SV} (hs : H.stn b o l = some H') : RoOf ρ H' := by
  unfold AH.stn at hs
  split at hs
  · rename_i l' hb
    split at hs
    · cases hs
      exact h.set (fun l hl => by rw [hb] at hl; cases hl) _
    · cases hs
  · cases hs
theorem new_ro {H' : AH} (h : RoOf ρ H) {b : Nat} {x : Blk} (hs : H.new b x = some H') : RoOf ρ H' := by
  unfold AH.new at hs
  split at hs
  · rename_i hb
    cases hs; exact h.set (fun l hl => by rw [hb] at hl; cases hl) _
  · cases hs
theorem opA_ro {rec : Nat → List AV → AH → Option (AV × AH)} (hr : ROrec rec) {f : Opd → AV} {id : Nat} {H' : AH} {r : ROp} {v : AV} (h : opA rec f id H r = some (v, H')) (hw : RoOf ρ H) : RoOf ρ H' := by
  unfold opA at h
  split at h
  · simp only [Option.map_eq_some_iff, Prod.mk.injEq] at h
    obtain ⟨_, _, _, rfl⟩ := h; exact hw
  · simp only [Option.map_eq_some_iff, Prod.mk.injEq] at h
    obtain ⟨_, _, _, rfl⟩ := h; exact hw
  · simp only [Option.bind_eq_some_iff, Option.map_eq_some_iff, Prod.mk.injEq] at h
    obtain ⟨_, _, _, h1, _, rfl⟩ := h; exact new_ro hw h1
  · cases r with
    | store n b u =>
      simp only [effO, Option.map_eq_some_iff, Prod.mk.injEq] at h
      obtain ⟨_, h1, _, rfl⟩ := h
      unfold storeA at h1
      split at h1
      · split at h1
        · split at h1
          · exact stn_ro hw h1
          · cases h1
        · cases h1
      · cases h1
    | append esz bytes s x =>
      simp only [effO, appendA] at h
      split at h
      · simp only [Option.bind_eq_some_iff] at h
        obtain ⟨_, _, _, _, h⟩ := h
        split at h
        · split at h
          · cases h; exact hw
          · simp only [Option.map_eq_some_iff, Prod.mk.injEq] at h
            obtain ⟨_, h1, _, rfl⟩ := h; exact new_ro hw h1
        · cases h
      · simp only [Option.bind_eq_some_iff] at h
        obtain ⟨_, _, _, _, h⟩ := h
        split at h
        · split at h
          · simp only [Option.map_eq_some_iff, Prod.mk.injEq] at h
            obtain ⟨_, h1, _, rfl⟩ := h; exact stn_ro hw h1
          · split at h
            · rename_i hb
              split at h
              · simp only [Option.map_eq_some_iff, Prod.mk.injEq] at h
                obtain ⟨_, h1, _, rfl⟩ := h
                exact new_ro (hw.set (fun l hl => by rw [hb] at hl; cases hl) _) h1
              · cases h
            · cases h
        · cases h
      · cases h
    | copy esz d s =>
      simp only [effO, copyA] at h
      split at h
      · simp only [Option.bind_eq_some_iff] at h
        obtain ⟨_, _, _, _, h⟩ := h
        cases h; exact hw
      · simp only [Option.bind_eq_some_iff] at h
        obtain ⟨_, _, _, _, h⟩ := h
        split at h
        · simp only [Option.map_eq_some_iff, Prod.mk.injEq] at h
          obtain ⟨_, h1, _, rfl⟩ := h; exact stn_ro hw h1
        · cases h
      · cases h
    | clear esz z x =>
      simp only [effO, Option.map_eq_some_iff, Prod.mk.injEq] at h
      obtain ⟨_, h1, _, rfl⟩ := h
      unfold clearA at h1
      split at h1
      · cases h1; exact hw
      · split at h1
        · cases h1; exact hw
        · split at h1
          · exact stn_ro hw h1
          · cases h1
      · cases h1
    | call f args => exact hr _ _ _ _ _ _ h hw
    | callv x args =>
      simp only [effO] at h
      split at h
      · exact hr _ _ _ _ _ _ h hw
      · exact hr _ _ _ _ _ _ h hw
      · cases h
    | hop g args =>
      simp only [effO] at h
      rcases hopA_cases h with rfl | h1 | ⟨r, es, es', hb, rfl⟩
      · exact hw
      · exact new_ro hw h1
      · exact hw.set (fun l hl => by rw [hb] at hl; cases hl) _
    | _ => simp [effO] at h
end
section
variable {ρ : HF} {rec : Nat → List AV → AH → Option (AV × AH)}
theorem regA_ro (hr : ROrec rec) {base : Nat} : ∀ {l : List ROper} {T T' : List AV} {H H' : AH}, regA rec base l T H = some (T', H') → RoOf ρ H → RoOf ρ H'
  | [], T, T', H, H', h, hw => by simp only [regA] at h; cases h; exact hw
  | r :: l, T, T', H, H', h, hw => by
    simp only [regA, Option.bind_eq_some_iff] at h
    obtain ⟨⟨T1, H1⟩, h1, h2⟩ := h
    split at h2
    · have hw1 : RoOf ρ H1 := by
        unfold stepA at h1
        split at h1
        · simp only [Option.map_eq_some_iff, Prod.mk.injEq] at h1
          obtain ⟨⟨v, H2⟩, h3, _, rfl⟩ := h1
          exact opA_ro hr h3 hw
        · cases h1; exact hw
      exact regA_ro hr h2 hw1
    · cases h2
theorem iterA_ro {f : List AV → AH → Option (Ex × List AV × AH)} (hf : ∀ T H e T' H', f T H = some (e, T', H') → RoOf ρ H → RoOf ρ H') : ∀ (n : Nat) {T T' : List AV} {H H' : AH} {e : Ex}, iterA f n T H = some (e, T', H') → RoOf ρ H → RoOf ρ H'
  | 0, _, _, _, _, _, h, _ => by simp [iterA] at h
  | n + 1, T, T', H, H', e, h, hw => by
    simp only [iterA, Option.bind_eq_some_iff] at h
    obtain ⟨⟨e1, T1, H1⟩, h1, h2⟩ := h
    have k := hf _ _ _ _ _ h1 hw
    cases e1 with
    | norm => exact iterA_ro hf n h2 k
    | ret => simp only at h2; cases h2; exact k
    | out id => simp only at h2; cases h2; exact k
theorem rcA_ro (hr : ROrec rec) {fuel : Nat} : ∀ (c : RC) {T T' : List AV} {H H' : AH} {e : Ex}, rcA rec fuel c T H = some (e, T', H') → RoOf ρ H → RoOf ρ H'
  | .skip, _, _, _, _, _, h, hw => by simp only [rcA] at h; cases h; exact hw
  | .ret, _, _, _, _, _, h, hw => by simp only [rcA] at h; cases h; exact hw
  | .exit _, _, _, _, _, _, h, hw => by simp only [rcA] at h; cases h; exact hw
  | .region n ops, T, T', H, H', e, h, hw => by
    simp only [rcA, Option.map_eq_some_iff] at h
    obtain ⟨⟨T1, H1⟩, h1, h2⟩ := h
    cases h2
    exact regA_ro hr h1 (hw.bump n)
  | .seq a b, T, T', H, H', e, h, hw => by
    simp only [rcA, Option.bind_eq_some_iff] at h
    obtain ⟨⟨e1, T1, H1⟩, h1, h2⟩ := h
    have k := rcA_ro hr a h1 hw
    cases e1 with
    | norm => exact rcA_ro hr b h2 k
    | ret => simp only at h2; cases h2; exact k
    | out id => simp only at h2; cases h2; exact k
  | .cond c a b, T, T', H, H', e, h, hw => by
    simp only [rcA] at h
    split at h
    · exact rcA_ro hr a h hw
    · exact rcA_ro hr b h hw
    · cases h
  | .block id a, T, T', H, H', e, h, hw => by
    simp only [rcA, Option.map_eq_some_iff] at h
    obtain ⟨⟨e1, T1, H1⟩, h1, h2⟩ := h
    cases h2
    exact rcA_ro hr a h1 hw
  | .loop a, T, T', H, H', e, h, hw => by
    simp only [rcA] at h
    exact iterA_ro (f := rcA rec fuel a) (fun _ _ _ _ _ h => rcA_ro hr a h) fuel h hw
end
theorem run_ro {tab : Nat → Option RFunc} {ext : Nat → List AV → AH → Option (AV × AH)} (he : ROrec ext) : ∀ n, ROrec (run tab ext n)
  | 0 => fun ρ f args H v H' h _ => by simp [run] at h
  | n + 1 => by
    intro ρ f args H v H' h hw
    simp only [run] at h
    split at h
    · exact he _ _ _ _ _ _ h hw
    · simp only [Option.bind_eq_some_iff] at h
      obtain ⟨⟨e1, T1, H1⟩, h1, h2⟩ := h
      have k := rcA_ro (run_ro he n) _ h1 hw
      split at h2
      · cases h2
      · simp only [Option.map_eq_some_iff, Prod.mk.injEq] at h2
        obtain ⟨_, _, _, rfl⟩ := h2
        exact k
theorem noExt_ro : ROrec noExt := fun _ _ _ _ _ _ h => by cases h
theorem CallP.mono_ro {tab : Nat → Option RFunc} {ext : Nat → List AV → AH → Option (AV × AH)} (he : ROrec ext) {ρ : HF} {f : Nat} {args : List AV} {H : AH} (hw : RoOf ρ H) {K K' : AV → AH → Prop} (h : CallP tab ext f args H K) (hk : ∀ v H', RoOf ρ H' → K v H' → K' v H') : CallP tab ext f args H K' :=
  let ⟨n, v, H', h1, h2⟩ := h; ⟨n, v, H', h1, hk v H' (run_ro he n _ _ _ _ _ _ h1 hw) h2⟩
structure Asr where
  p : HF → HF → List Nat → Prop
  loc : ∀ {ρ f g : HF} {S : List Nat}, (∀ b ∈ S, g b = f b) → p ρ f S → p ρ g S
inductive SatL (ρ f : HF) : List Asr → List Nat → Prop
  | nil : SatL ρ f [] []
  | cons {A : Asr} {l : List Asr} {S S' : List Nat} : A.p ρ f S → SatL ρ f l S' → (∀ b ∈ S, b ∉ S') → SatL ρ f (A :: l) (S ++ S')
theorem SatL.nil_inv {ρ f : HF} {S : List Nat} (h : SatL ρ f [] S) : S = [] := by cases h; rfl
theorem SatL.cons_inv {ρ f : HF} {A : Asr} {l : List Asr} {S : List Nat} (h : SatL ρ f (A :: l) S) : ∃ S1 S2, S = S1 ++ S2 ∧ A.p ρ f S1 ∧ SatL ρ f l S2 ∧ ∀ b ∈ S1, b ∉ S2 := by
  cases h with | cons h1 h2 h3 => exact ⟨_, _, rfl, h1, h2, h3⟩
theorem SatL.loc {ρ f g : HF} {l : List Asr} {S : List Nat} (h : SatL ρ f l S) (hg : ∀ b ∈ S, g b = f b) : SatL ρ g l S := by
  induction h with
  | nil => exact .nil
  | cons h1 h2 h3 ih => exact .cons (Asr.loc _ (fun b hb => hg b (by simp [hb])) h1) (ih fun b hb => hg b (by simp [hb])) h3
theorem SatL.append {ρ f : HF} {l r : List Asr} {S S' : List Nat} (h : SatL ρ f l S) (h' : SatL ρ f r S') (hd : ∀ b ∈ S, b ∉ S') : SatL ρ f (l ++ r) (S ++ S') := by
  induction h with
  | nil => exact h'
  | cons h1 h2 h3 ih =>
    rw [List.cons_append, List.append_assoc]
    exact .cons h1 (ih fun b hb => hd b (by simp [hb])) fun b hb => by simp; exact ⟨h3 b hb, hd b (by simp [hb])⟩
theorem SatL.append_inv {ρ f : HF} {l r : List Asr} {S : List Nat} (h : SatL ρ f (l ++ r) S) : ∃ S1 S2, S = S1 ++ S2 ∧ SatL ρ f l S1 ∧ SatL ρ f r S2 ∧ ∀ b ∈ S1, b ∉ S2 := by
  induction l generalizing S with
  | nil => exact ⟨[], S, rfl, .nil, h, by simp⟩
  | cons A l ih =>
    obtain ⟨S1, S2, rfl, h1, h2, h3⟩ := SatL.cons_inv h
    obtain ⟨T1, T2, rfl, k1, k2, k3⟩ := ih h2
    simp only [List.mem_append, not_or] at h3
    refine ⟨S1 ++ T1, T2, by simp, .cons h1 k1 fun b hb => (h3 b hb).1, k2, fun b hb => ?_⟩
    rcases List.mem_append.1 hb with hb | hb
    · exact (h3 b hb).2
    · exact k3 b hb
theorem SatL.perm {ρ f : HF} {l l' : List Asr} (hp : l.Perm l') : ∀ {S : List Nat}, SatL ρ f l S → ∃ S', SatL ρ f l' S' ∧ ∀ b, b ∈ S' ↔ b ∈ S := by
  induction hp with
  | nil => exact fun h => ⟨_, h, fun _ => Iff.rfl⟩
  | cons A _ ih =>
    intro S h
    obtain ⟨S1, S2, rfl, h1, h2, h3⟩ := SatL.cons_inv h
    obtain ⟨T, k1, k2⟩ := ih h2
    exact ⟨S1 ++ T, .cons h1 k1 fun b hb => by rw [k2]; exact h3 b hb, fun b => by simp [k2]⟩
  | swap A B l =>
    intro S h
    obtain ⟨S1, S2, rfl, h1, h2, h3⟩ := SatL.cons_inv h
    obtain ⟨T1, T2, rfl, k1, k2, k3⟩ := SatL.cons_inv h2
    simp only [List.mem_append, not_or] at h3
    refine ⟨T1 ++ (S1 ++ T2), .cons k1 (.cons h1 k2 fun b hb => (h3 b hb).2) ?_, fun b => by simp only [List.mem_append]; exact ⟨fun h => by rcases h with h | h | h <;> simp [h], fun h => by rcases h with h | h | h <;> simp [h]⟩⟩
    intro b hb
    simp only [List.mem_append, not_or]
    exact ⟨fun hs => (h3 b hs).1 hb, k3 b hb⟩
  | trans _ _ ih1 ih2 =>
    intro S h
    obtain ⟨T, k1, k2⟩ := ih1 h
    obtain ⟨U, m1, m2⟩ := ih2 k1
    exact ⟨U, m1, fun b => (m2 b).trans (k2 b)⟩
def Sat (ρ : HF) (H : AH) (l : List Asr) : Prop := (WF H ∧ RoOf ρ H) ∧ ∃ S, SatL ρ H.blk l S ∧ ∀ b ∈ S, b < H.next
section
variable {ρ : HF}
theorem Sat.wf {H : AH} {l : List Asr} (h : Sat ρ H l) : WF H := h.1.1
theorem Sat.roOf {H : AH} {l : List Asr} (h : Sat ρ H l) : RoOf ρ H := h.1.2
theorem Sat.nil {H : AH} (h : WF H) (h' : RoOf ρ H) : Sat ρ H [] := ⟨⟨h, h'⟩, [], .nil, by simp⟩
theorem Sat.perm {H : AH} {l l' : List Asr} (h : Sat ρ H l) (hp : l.Perm l') : Sat ρ H l' := by
  obtain ⟨hw, S, h1, h2⟩ := h
  obtain ⟨T, k1, k2⟩ := h1.perm hp
  exact ⟨hw, T, k1, fun b hb => h2 b ((k2 b).1 hb)⟩
theorem Sat.front {H : AH} {l : List Asr} (h : Sat ρ H l) (i : Nat) (hi : i < l.length) : Sat ρ H (l[i] :: l.eraseIdx i) := by
  refine h.perm ?_
  have h1 : l = l.take i ++ l[i] :: l.drop (i + 1) := by simp
  have h2 : l.eraseIdx i = l.take i ++ l.drop (i + 1) := List.eraseIdx_eq_take_drop_succ l i
  rw [h2]
  conv => lhs; rw [h1]
  exact List.perm_middle
def Asr.emp : Asr := ⟨fun _ _ S => S = [], fun _ h => h⟩
theorem perm_idx {l : List Asr} {idx : List Nat} (h : idx.Perm (List.range l.length)) : l.Perm (idx.map fun i => (l[i]?).getD Asr.emp) := by
  have h1 : l = (List.range l.length).map fun i => (l[i]?).getD Asr.emp := by
    apply List.ext_getElem?
    intro i
    by_cases hi : i < l.length
    · simp [hi]
    · rw [List.getElem?_eq_none (by omega), List.getElem?_eq_none (by simp; omega)]
  conv => lhs; rw [h1]
  exact (h.map _).symm
theorem Sat.re {H : AH} {l : List Asr} (h : Sat ρ H l) (idx : List Nat) (hn : idx.length ≤ l.length) (hp : idx.Perm (List.range idx.length)) : Sat ρ H ((idx.map fun i => (l[i]?).getD Asr.emp) ++ l.drop idx.length) := by
  refine h.perm ?_
  have h1 : l = l.take idx.length ++ l.drop idx.length := (List.take_append_drop _ _).symm
  have hl : (l.take idx.length).length = idx.length := by rw [List.length_take]; omega
  have h2 := perm_idx (l := l.take idx.length) (idx := idx) (by rw [hl]; exact hp)
  have h3 : (idx.map fun i => ((l.take idx.length)[i]?).getD Asr.emp) = idx.map fun i => (l[i]?).getD Asr.emp := by
    apply List.map_congr_left
    intro i hi
    have : i < idx.length := by simpa using hp.mem_iff.1 hi
    rw [List.getElem?_take, if_pos this]
  rw [h3] at h2
  conv => lhs; rw [h1]
  exact h2.append_right _
theorem Sat.drop {H : AH} {A : Asr} {l : List Asr} (h : Sat ρ H (A :: l)) : Sat ρ H l := by
  obtain ⟨hw, S, h1, h2⟩ := h
  obtain ⟨S1, S2, rfl, _, k2, _⟩ := SatL.cons_inv h1
  exact ⟨hw, S2, k2, fun b hb => h2 b (by simp [hb])⟩
theorem Sat.drops {H : AH} {l r : List Asr} (h : Sat ρ H (l ++ r)) : Sat ρ H r := by
  induction l with
  | nil => exact h
  | cons A l ih => exact ih h.drop
theorem Sat.sel {H : AH} {l : List Asr} (h : Sat ρ H l) (idx : List Nat) (n : Nat) (hn : n ≤ l.length) (hp : (idx ++ (List.range n).filter fun i => !idx.contains i).Perm (List.range n)) : Sat ρ H ((idx.map fun i => (l[i]?).getD Asr.emp) ++ l.drop n) := by
  have hl : (idx ++ (List.range n).filter fun i => !idx.contains i).length = n := by rw [hp.length_eq]; simp
  have h1 := h.re (idx ++ (List.range n).filter fun i => !idx.contains i) (by rw [hl]; exact hn) (by rw [hl]; exact hp)
  rw [hl, List.map_append, List.append_assoc] at h1
  refine Sat.drops (l := ((List.range n).filter fun i => !idx.contains i).map fun i => (l[i]?).getD Asr.emp) (h1.perm ?_)
  rw [← List.append_assoc, ← List.append_assoc]
  exact List.Perm.append_right _ List.perm_append_comm
theorem Sat.bump {H : AH} {l : List Asr} (h : Sat ρ H l) (n : Nat) : Sat ρ (H.bump n) l := by
  obtain ⟨hw, S, h1, h2⟩ := h
  exact ⟨⟨hw.1.bump _, hw.2⟩, S, h1, fun b hb => Nat.lt_of_lt_of_le (h2 b hb) (Nat.le_add_right _ _)⟩
end
def Cel (b : Nat) (l : List SV) : Asr := ⟨fun _ f S => S = [b] ∧ f b = some (.cells false l), fun hg ⟨h1, h2⟩ => ⟨h1, by rw [hg b (by simp [h1])]; exact h2⟩⟩
def Ro (b : Nat) (l : List SV) : Asr := ⟨fun _ f S => S = [b] ∧ f b = some (.cells true l), fun hg ⟨h1, h2⟩ => ⟨h1, by rw [hg b (by simp [h1])]; exact h2⟩⟩
def Fre (b : Nat) : Asr := ⟨fun _ f S => S = [b] ∧ f b = none, fun hg ⟨h1, h2⟩ => ⟨h1, by rw [hg b (by simp [h1])]; exact h2⟩⟩
def Asr.ex {α : Type} (F : α → Asr) : Asr := ⟨fun ρ f S => ∃ a, (F a).p ρ f S, fun hg ⟨a, h⟩ => ⟨a, (F a).loc hg h⟩⟩
def Asr.pure (P : Prop) : Asr := ⟨fun _ _ S => P ∧ S = [], fun _ h => h⟩
def Asr.all (l : List Asr) : Asr := ⟨fun ρ f S => SatL ρ f l S, fun hg h => h.loc hg⟩
def Asr.or (A B : Asr) : Asr := ⟨fun ρ f S => A.p ρ f S ∨ B.p ρ f S, fun hg h => h.elim (fun h => .inl (A.loc hg h)) (fun h => .inr (B.loc hg h))⟩
section
variable {ρ : HF} {H : AH} {R : List Asr}
theorem Sat.cel {b : Nat} {l : List SV} (h : Sat ρ H (Cel b l :: R)) : H.blk b = some (.cells false l) := by
  obtain ⟨_, S, h1, _⟩ := h
  obtain ⟨S1, S2, rfl, ⟨_, k⟩, _⟩ := SatL.cons_inv h1
  exact k
theorem Sat.ro {b : Nat} {l : List SV} (h : Sat ρ H (Ro b l :: R)) : H.blk b = some (.cells true l) := by
  obtain ⟨_, S, h1, _⟩ := h
  obtain ⟨S1, S2, rfl, ⟨_, k⟩, _⟩ := SatL.cons_inv h1
  exact k
theorem Sat.fre {b : Nat} (h : Sat ρ H (Fre b :: R)) : H.blk b = none := by
  obtain ⟨_, S, h1, _⟩ := h
  obtain ⟨S1, S2, rfl, ⟨_, k⟩, _⟩ := SatL.cons_inv h1
  exact k
theorem Sat.lt {b : Nat} {l : List SV} (h : Sat ρ H (Cel b l :: R)) : b < H.next := by
  obtain ⟨_, S, h1, h2⟩ := h
  obtain ⟨S1, S2, rfl, ⟨rfl, k⟩, _⟩ := SatL.cons_inv h1
  exact h2 b (by simp)
theorem Sat.ex {α : Type} {F : α → Asr} (h : Sat ρ H (Asr.ex F :: R)) : ∃ a, Sat ρ H (F a :: R) := by
  obtain ⟨hw, S, h1, h2⟩ := h
  obtain ⟨S1, S2, rfl, ⟨a, k⟩, k2, k3⟩ := SatL.cons_inv h1
  exact ⟨a, hw, _, .cons k k2 k3, h2⟩
theorem Sat.mkEx {α : Type} {F : α → Asr} (a : α) (h : Sat ρ H (F a :: R)) : Sat ρ H (Asr.ex F :: R) := by
  obtain ⟨hw, S, h1, h2⟩ := h
  obtain ⟨S1, S2, rfl, k, k2, k3⟩ := SatL.cons_inv h1
  exact ⟨hw, _, .cons (A := Asr.ex F) ⟨a, k⟩ k2 k3, h2⟩
theorem Sat.pure {P : Prop} (h : Sat ρ H (Asr.pure P :: R)) : P ∧ Sat ρ H R := by
  refine ⟨?_, h.drop⟩
  obtain ⟨hw, S, h1, h2⟩ := h
  obtain ⟨S1, S2, rfl, k, k2, k3⟩ := SatL.cons_inv h1
  exact k.1
theorem Sat.mkPure {P : Prop} (hp : P) (h : Sat ρ H R) : Sat ρ H (Asr.pure P :: R) := by
  obtain ⟨hw, S, h1, h2⟩ := h
  exact ⟨hw, _, .cons (A := Asr.pure P) (S := []) ⟨hp, rfl⟩ h1 (by simp), h2⟩
theorem Sat.all {l : List Asr} (h : Sat ρ H (Asr.all l :: R)) : Sat ρ H (l ++ R) := by
  obtain ⟨hw, S, h1, h2⟩ := h
  obtain ⟨S1, S2, rfl, k, k2, k3⟩ := SatL.cons_inv h1
  exact ⟨hw, _, SatL.append k k2 k3, h2⟩
theorem Sat.mkAll {l : List Asr} (h : Sat ρ H (l ++ R)) : Sat ρ H (Asr.all l :: R) := by
  obtain ⟨hw, S, h1, h2⟩ := h
  obtain ⟨S1, S2, rfl, k, k2, k3⟩ := SatL.append_inv h1
  exact ⟨hw, _, .cons (A := Asr.all l) k k2 k3, h2⟩
theorem Sat.or {A B : Asr} (h : Sat ρ H (Asr.or A B :: R)) : Sat ρ H (A :: R) ∨ Sat ρ H (B :: R) := by
  obtain ⟨hw, S, h1, h2⟩ := h
  obtain ⟨S1, S2, rfl, k, k2, k3⟩ := SatL.cons_inv h1
  rcases k with k | k
  · exact .inl ⟨hw, _, .cons k k2 k3, h2⟩
  · exact .inr ⟨hw, _, .cons k k2 k3, h2⟩
theorem Sat.imp {A B : Asr} (hi : ∀ f S, A.p ρ f S → B.p ρ f S) (h : Sat ρ H (A :: R)) : Sat ρ H (B :: R) := by
  obtain ⟨hw, S, h1, h2⟩ := h
  obtain ⟨S1, S2, rfl, k, k2, k3⟩ := SatL.cons_inv h1
  exact ⟨hw, _, .cons (hi _ _ k) k2 k3, h2⟩
theorem Sat.set {b : Nat} {l : List SV} (h : Sat ρ H (Cel b l :: R)) (l' : List SV) : Sat ρ (H.set b (.cells false l')) (Cel b l' :: R) := by
  obtain ⟨hw, S, h1, h2⟩ := h
  obtain ⟨S1, S2, rfl, ⟨rfl, k⟩, k2, k3⟩ := SatL.cons_inv h1
  refine ⟨⟨hw.1.set (h2 b (by simp)) _, hw.2.set (fun l hl => by rw [k] at hl; cases hl) _⟩, [b] ++ S2, .cons ⟨rfl, by simp⟩ (k2.loc fun c hc => ?_) k3, h2⟩
  rw [set_blk, if_neg]
  rintro rfl
  exact k3 c (by simp) hc
theorem Sat.mk {b : Nat} (h : Sat ρ H (Fre b :: R)) (l' : List SV) : Sat ρ (H.set b (.cells false l')) (Cel b l' :: R) := by
  obtain ⟨hw, S, h1, h2⟩ := h
  obtain ⟨S1, S2, rfl, ⟨rfl, k⟩, k2, k3⟩ := SatL.cons_inv h1
  refine ⟨⟨hw.1.set (h2 b (by simp)) _, hw.2.set (fun l hl => by rw [k] at hl; cases hl) _⟩, [b] ++ S2, .cons ⟨rfl, by simp⟩ (k2.loc fun c hc => ?_) k3, h2⟩
  rw [set_blk, if_neg]
  rintro rfl
  exact k3 c (by simp) hc
theorem Sat.kill {b : Nat} {l : List SV} (h : Sat ρ H (Cel b l :: R)) : Sat ρ (H.set b .dead) R := by
  obtain ⟨hw, S, h1, h2⟩ := h
  obtain ⟨S1, S2, rfl, ⟨rfl, k⟩, k2, k3⟩ := SatL.cons_inv h1
  refine ⟨⟨hw.1.set (h2 b (by simp)) _, hw.2.set (fun l hl => by rw [k] at hl; cases hl) _⟩, S2, (k2.loc fun c hc => ?_), fun c hc => h2 c (by simp [hc])⟩
  rw [set_blk, if_neg]
  rintro rfl
  exact k3 c (by simp) hc
theorem Sat.free (h : Sat ρ H R) (n i : Nat) (hi : i < n) : Sat ρ (H.bump n) (Fre (H.next + i) :: R) := by
  obtain ⟨hw, S, h1, h2⟩ := h
  refine ⟨⟨hw.1.bump _, hw.2⟩, [H.next + i] ++ S, .cons ⟨rfl, hw.1 _ (Nat.le_add_right _ _)⟩ h1 ?_, fun b hb => ?_⟩
  · intro b hb hs
    simp at hb
    have := h2 b hs; omega
  · simp at hb
    rcases hb with rfl | hb
    · simp; omega
    · have := h2 b hb; simp; omega
end
section
variable (tab : Nat → Option RFunc) (ext : Nat → List AV → AH → Option (AV × AH))
def Tri (f : Nat) (args : List AV) (P : List Asr) (Q : AV → List Asr → Prop) : Prop :=
  ∀ ρ H R, Sat ρ H (P ++ R) → CallP tab ext f args H fun v H' => ∃ P', Q v P' ∧ Sat ρ H' (P' ++ R)
end
section
variable {tab : Nat → Option RFunc} {ext : Nat → List AV → AH → Option (AV × AH)} {f : Nat} {args : List AV} {P : List Asr} {Q : AV → List Asr → Prop}
theorem Tri.use (h : Tri tab ext f args P Q) {ρ : HF} {H : AH} {R : List Asr} (hs : Sat ρ H (P ++ R)) {K : AV → AH → Prop} (hk : ∀ v H' P', Q v P' → Sat ρ H' (P' ++ R) → K v H') : CallP tab ext f args H K :=
  (h ρ H R hs).mono fun v H' ⟨P', h1, h2⟩ => hk v H' P' h1 h2
theorem Tri.of (ht : TabWf tab) (he : WFrec ext) (hn : NextOk ext) (hro : ROrec ext) (h : ∀ ρ H S, WF H → RoOf ρ H → SatL ρ H.blk P S → (∀ b ∈ S, b < H.next) → CallP tab ext f args H fun v H' => ∃ P', Q v P' ∧ ∃ S', SatL ρ H'.blk P' S' ∧ (∀ b ∈ S', b ∈ S ∨ H.next ≤ b) ∧ (∀ b ∈ S', b < H'.next) ∧ ∀ b, b < H.next → b ∉ S → H'.blk b = H.blk b) : Tri tab ext f args P Q := by
  intro ρ H R ⟨hw, S, h1, h2⟩
  obtain ⟨S1, S2, rfl, k1, k2, k3⟩ := h1.append_inv
  refine ((h ρ H S1 hw.1 hw.2 k1 fun b hb => h2 b (by simp [hb])).mono_wf ht he hn hw.1 (K' := fun v H' => WF H' ∧ H.next ≤ H'.next ∧ _) fun v H' a b c => ⟨a, b, c⟩).mono_ro hro hw.2 ?_
  rintro v H' hro' ⟨hw', hle, P', hq, S', m1, m2, m3, m4⟩
  refine ⟨P', hq, ⟨hw', hro'⟩, S' ++ S2, m1.append (k2.loc fun b hb => m4 b (h2 b (by simp [hb])) fun hs => k3 b hs hb) ?_, ?_⟩
  · intro b hb hs
    rcases m2 b hb with h | h
    · exact k3 b h hs
    · have := h2 b (by simp [hs]); omega
  · intro b hb
    rcases List.mem_append.1 hb with hb | hb
    · exact m3 b hb
    · exact Nat.lt_of_lt_of_le (h2 b (by simp [hb])) hle
end
end Go.AM

/-
  Rows of things behind slices, side by side with others: read, stored to, appended to.
-/
namespace Go.AM
abbrev i64 (n : Int) : AV := .s (.int .i64 n)
abbrev u64 (n : Int) : AV := .s (.int .u64 n)
abbrev bl (b : Bool) : AV := .s (.bool b)
abbrev ptr (p : Nat) : AV := .s (.ptr (some (p, 0)))
abbrev unit : AV := .tup []
section
variable {α : Type} (enc : α → List SV) (k : Nat)
def flat (r : List α) : List SV := r.flatMap enc
variable {enc k}
theorem flat_len (hk : ∀ e, (enc e).length = k) (r : List α) : (flat enc r).length = r.length * k := by
  induction r with
  | nil => simp [flat]
  | cons e r ih => simp only [flat, List.flatMap_cons, List.length_append, hk, List.length_cons] at ih ⊢; rw [ih, Nat.add_mul]; omega
theorem flat_split (hk : ∀ e, (enc e).length = k) (r : List α) (i : Nat) (hi : i < r.length) : flat enc r = flat enc (r.take i) ++ (enc r[i] ++ flat enc (r.drop (i + 1))) ∧ (flat enc (r.take i)).length = i * k := by
  refine ⟨?_, by rw [flat_len hk, List.length_take, Nat.min_eq_left (by omega)]⟩
  have h : r = r.take i ++ r[i] :: r.drop (i + 1) := by simp
  have h2 : flat enc (r.take i ++ r[i] :: r.drop (i + 1)) = flat enc (r.take i) ++ (enc r[i] ++ flat enc (r.drop (i + 1))) := by
    unfold flat; rw [List.flatMap_append, List.flatMap_cons]
  rw [← h2, ← h]
theorem flat_ldn (hk : ∀ e, (enc e).length = k) (r : List α) (j : List SV) (i : Nat) (hi : i < r.length) : ((flat enc r ++ j).drop (i * k)).take k = enc r[i] := by
  obtain ⟨h1, h2⟩ := flat_split hk r i hi
  rw [h1, List.append_assoc, ← h2, List.drop_left, List.append_assoc, ← hk r[i], List.take_left]
theorem flat_fit (hk : ∀ e, (enc e).length = k) (r : List α) (j : List SV) (i : Nat) (hi : i < r.length) : i * k + k ≤ (flat enc r ++ j).length := by
  rw [List.length_append, flat_len hk]
  have : (i + 1) * k ≤ r.length * k := Nat.mul_le_mul_right _ hi
  rw [Nat.add_mul] at this; omega
theorem flat_splice (hk : ∀ e, (enc e).length = k) (r : List α) (j : List SV) (i : Nat) (hi : i < r.length) (e : α) : splice (flat enc r ++ j) (i * k) (enc e) = flat enc (r.set i e) ++ j := by
  obtain ⟨h1, h2⟩ := flat_split hk r i hi
  have h3 : flat enc (r.set i e) = flat enc (r.take i) ++ (enc e ++ flat enc (r.drop (i + 1))) := by
    rw [List.set_eq_take_append_cons_drop, if_pos hi]
    simp [flat]
  unfold splice
  rw [h3, hk, h1]
  have e1 : ((flat enc (r.take i) ++ (enc r[i] ++ flat enc (r.drop (i + 1)))) ++ j).take (i * k) = flat enc (r.take i) := by
    rw [List.append_assoc, ← h2, List.take_left]
  have e2 : ((flat enc (r.take i) ++ (enc r[i] ++ flat enc (r.drop (i + 1)))) ++ j).drop (i * k + k) = flat enc (r.drop (i + 1)) ++ j := by
    rw [← List.drop_drop, List.append_assoc, ← h2, List.drop_left, ← hk r[i], List.append_assoc, List.drop_left]
  rw [e1, e2]; simp
theorem flat_snoc (r : List α) (e : α) : flat enc (r ++ [e]) = flat enc r ++ enc e := by simp [flat]
end
section
variable {α : Type} {enc : α → List SV} {k : Nat}
theorem flat_append (r r2 : List α) : flat enc (r ++ r2) = flat enc r ++ flat enc r2 := by simp [flat]
theorem flat_one (e : α) : flat enc [e] = enc e := by simp [flat]
theorem flat_cell (hk : ∀ e, (enc e).length = k) {r : List α} {j : List SV} {i : Nat} {x : α} (hx : r[i]? = some x) (d : Nat) (hd : d < k) : (flat enc r ++ j)[i * k + d]? = (enc x)[d]? := by
  obtain ⟨hi, rfl⟩ := List.getElem?_eq_some_iff.1 hx
  have g1 := flat_ldn hk r j i hi
  rw [← g1, List.getElem?_take, if_pos hd, List.getElem?_drop]
theorem flat_part (hk : ∀ e, (enc e).length = k) (r : List α) (j : List SV) (l n : Nat) (h : l + n ≤ r.length) : ((flat enc r ++ j).drop (l * k)).take (n * k) = flat enc ((r.drop l).take n) := by
  have h1 : r = r.take l ++ ((r.drop l).take n ++ (r.drop l).drop n) := by rw [List.take_append_drop, List.take_append_drop]
  have h2 : (flat enc (r.take l)).length = l * k := by rw [flat_len hk, List.length_take, Nat.min_eq_left (by omega)]
  have h3 : (flat enc ((r.drop l).take n)).length = n * k := by rw [flat_len hk, List.length_take, List.length_drop, Nat.min_eq_left (by omega)]
  conv => lhs; rw [h1, flat_append, flat_append]
  rw [List.append_assoc, ← h2, List.drop_left, List.append_assoc, ← h3, List.take_left]
variable (enc k)
def Row (s : SV) (r : List α) : Asr := ⟨fun _ f S => (∃ e, s = .slice none 0 0 e ∧ r = [] ∧ S = []) ∨ ∃ b c j, s = .slice (some (b, 0)) r.length c k ∧ S = [b] ∧ f b = some (.cells false (flat enc r ++ j)) ∧ c * k ≤ (flat enc r ++ j).length ∧ r.length ≤ c,
  fun hg h => h.elim .inl fun ⟨b, c, j, h1, h2, h3, h4⟩ => .inr ⟨b, c, j, h1, h2, by rw [hg b (by simp [h2])]; exact h3, h4⟩⟩
variable {enc k}
theorem Sat.frees {ρ : HF} {H : AH} {R : List Asr} (h : Sat ρ H R) (n : Nat) (l : List Nat) (hl : ∀ i ∈ l, i < n) (hn : l.Nodup) : Sat ρ (H.bump n) (l.map (fun i => Fre (H.next + i)) ++ R) := by
  obtain ⟨hw, S, h1, h2⟩ := h
  have key : ∀ l : List Nat, l.Nodup → SatL ρ H.blk (l.map (fun i => Fre (H.next + i)) ++ R) (l.map (fun i => H.next + i) ++ S) := by
    intro l hn
    induction l with
    | nil => exact h1
    | cons i l ih =>
      rw [List.nodup_cons] at hn
      refine SatL.cons (S := [H.next + i]) ⟨rfl, hw.1 _ (Nat.le_add_right _ _)⟩ (ih hn.2) ?_
      intro b hb hs
      simp at hb
      subst hb
      rcases List.mem_append.1 hs with hs | hs
      · obtain ⟨i', hi', he⟩ := List.mem_map.1 hs
        have : i' = i := by omega
        exact hn.1 (this ▸ hi')
      · have := h2 _ hs; omega
  refine ⟨⟨hw.1.bump _, hw.2⟩, _, key l hn, fun b hb => ?_⟩
  rcases List.mem_append.1 hb with hb | hb
  · obtain ⟨i, hi, rfl⟩ := List.mem_map.1 hb
    have := hl i hi
    simp; omega
  · have := h2 b hb
    simp; omega
variable {ρ : HF} {H : AH} {R : List Asr} {s : SV} {r : List α}
theorem Sat.rowInv (h : Sat ρ H (Row enc k s r :: R)) : (∃ e, s = .slice none 0 0 e ∧ r = [] ∧ Sat ρ H R) ∨ ∃ b c j, s = .slice (some (b, 0)) r.length c k ∧ Sat ρ H (Cel b (flat enc r ++ j) :: R) ∧ c * k ≤ (flat enc r ++ j).length ∧ r.length ≤ c := by
  obtain ⟨hw, S, h1, h2⟩ := h
  obtain ⟨S1, S2, rfl, k1, k2, k3⟩ := h1.cons_inv
  rcases k1 with ⟨e, rfl, rfl, rfl⟩ | ⟨b, c, j, rfl, rfl, h3, h4, h5⟩
  · exact .inl ⟨e, rfl, rfl, hw, S2, k2, by simpa using h2⟩
  · exact .inr ⟨b, c, j, rfl, ⟨hw, _, .cons (A := Cel b _) ⟨rfl, h3⟩ k2 k3, h2⟩, h4, h5⟩
theorem Sat.mkRow {b c : Nat} {j : List SV} (h : Sat ρ H (Cel b (flat enc r ++ j) :: R)) (h1 : c * k ≤ (flat enc r ++ j).length) (h2 : r.length ≤ c) : Sat ρ H (Row enc k (.slice (some (b, 0)) r.length c k) r :: R) :=
  Sat.imp (A := Cel b _) (B := Row enc k _ r) (fun _ _ ⟨h3, h4⟩ => .inr ⟨b, c, j, rfl, h3, h4, h1, h2⟩) h
theorem Sat.mkNil (h : Sat ρ H R) (e : Nat) : Sat ρ H (Row enc k (.slice none 0 0 e) [] :: R) := by
  obtain ⟨hw, S, h1, h2⟩ := h
  exact ⟨hw, [] ++ S, .cons (A := Row enc k _ _) (.inl ⟨e, rfl, rfl, rfl⟩) h1 (by simp), h2⟩
theorem Sat.rowLen (h : Sat ρ H (Row enc k s r :: R)) : lenA (.s s) = some (i64 r.length) := by
  rcases h.rowInv with ⟨e, rfl, rfl, _⟩ | ⟨b, c, j, rfl, _⟩ <;> rfl
theorem Sat.rowBlk (h : Sat ρ H (Row enc k s r :: R)) (hr : 0 < r.length) : ∃ b c j, s = .slice (some (b, 0)) r.length c k ∧ H.blk b = some (.cells false (flat enc r ++ j)) ∧ c * k ≤ (flat enc r ++ j).length ∧ r.length ≤ c := by
  rcases h.rowInv with ⟨e, rfl, rfl, _⟩ | ⟨b, c, j, h1, h2, h3⟩
  · simp at hr
  · exact ⟨b, c, j, h1, h2.cel, h3⟩
theorem Sat.rowSrc (hk : ∀ e, (enc e).length = k) (h : Sat ρ H (Row enc k s r :: R)) : sliceCells k (.s s) r.length H = some (flat enc r) := by
  rcases h.rowInv with ⟨e, rfl, rfl, _⟩ | ⟨b, c, j, rfl, h2, h3⟩
  · rfl
  · simp only [sliceCells, ldn_of H h2.cel, Nat.zero_add]
    rw [if_pos ⟨trivial, Nat.le_refl _⟩, if_pos (by rw [List.length_append, flat_len hk]; omega), List.drop_zero, ← flat_len hk r, List.take_left]
theorem Sat.partSrc (hk : ∀ e, (enc e).length = k) {b len c : Nat} (h : Sat ρ H (Row enc k (.slice (some (b, 0)) len c k) r :: R)) {o l n c' : Nat} (ho : o = l * k) (hl : l + n ≤ r.length) : sliceCells k (.s (.slice (some (b, o)) n c' k)) n H = some (flat enc ((r.drop l).take n)) := by
  subst ho
  rcases h.rowInv with ⟨e, he, _⟩ | ⟨b', c2, j, he, h2, h3⟩
  · cases he
  · cases he
    have h4 : (l + n) * k ≤ r.length * k := Nat.mul_le_mul_right _ hl
    rw [Nat.add_mul] at h4
    simp only [sliceCells, ldn_of H h2.cel]
    rw [if_pos ⟨trivial, Nat.le_refl _⟩, if_pos (by rw [List.length_append, flat_len hk]; omega), flat_part hk r j l n hl]
theorem Sat.rowSl (h : Sat ρ H (Row enc k s r :: R)) : slLen (.s s) = some r.length := by
  rcases h.rowInv with ⟨e, rfl, rfl, _⟩ | ⟨b, c, j, rfl, _⟩ <;> rfl
theorem Sat.append (hk : ∀ e, (enc e).length = k) {id n bytes : Nat} {x : AV} {r2 : List α} (h : Sat ρ H (Row enc k s r :: Fre id :: R)) (hx : sliceCells k x r2.length H = some (flat enc r2)) (hn : slLen x = some r2.length) (hb : (r.length + r2.length) * bytes ≤ 70368744177664) :
    ∃ s' H', appendA k bytes id (.s s) x H = some (.s s', H') ∧ Sat ρ H' (Row enc k s' (r ++ r2) :: R) ∧ H'.next = H.next := by
  rcases h.rowInv with ⟨e, rfl, rfl, h1⟩ | ⟨b, c, j, rfl, h1, h2, h3⟩
  · by_cases h0 : r2.length = 0
    · have : r2 = [] := List.length_eq_zero_iff.1 h0
      subst this
      refine ⟨.slice none 0 0 k, H, ?_, h1.drop.mkNil k, rfl⟩
      simp only [appendA, hx, hn, Option.bind_some]
      rw [if_pos (by simp), if_pos h0]
    · refine ⟨.slice (some (id, 0)) r2.length r2.length k, H.set id (.cells false (flat enc r2)), ?_, ?_, rfl⟩
      · simp only [appendA, hx, hn, Option.bind_some]
        rw [if_pos (by simpa using hb), if_neg h0, new_of H h1.fre]
        rfl
      · have h4 := Sat.mk h1 (flat enc r2)
        rw [← List.append_nil (flat enc r2)] at h4
        simpa using h4.mkRow (by simp [flat_len hk]) (Nat.le_refl _)
  · have hfl := flat_len hk r
    have hfl2 := flat_len hk r2
    have hl2 : (r ++ r2).length = r.length + r2.length := by simp
    by_cases hc : r.length + r2.length ≤ c
    · have hle : (r.length + r2.length) * k ≤ c * k := Nat.mul_le_mul_right _ hc
      have hl : r.length * k + (flat enc r2).length ≤ (flat enc r ++ j).length := by rw [hfl2]; rw [Nat.add_mul] at hle; omega
      refine ⟨.slice (some (b, 0)) (r.length + r2.length) c k, H.set b (.cells false (splice (flat enc r ++ j) (r.length * k) (flat enc r2))), ?_, ?_, rfl⟩
      · simp only [appendA, hx, hn, Option.bind_some]
        rw [if_pos ⟨trivial, hb⟩, if_pos hc, Nat.zero_add, stn_of H h1.cel hl]
        rfl
      · have e : splice (flat enc r ++ j) (r.length * k) (flat enc r2) = flat enc (r ++ r2) ++ j.drop (flat enc r2).length := by
          unfold splice
          rw [← hfl, List.take_left, ← List.drop_drop, List.drop_left, flat_append, List.append_assoc]
        have h4 := (Sat.set h1 (splice (flat enc r ++ j) (r.length * k) (flat enc r2)))
        rw [e] at h4 ⊢
        rw [← hl2]
        have h5 : Sat ρ _ (Cel b (flat enc (r ++ r2) ++ j.drop (flat enc r2).length) :: R) := (h4.perm (List.Perm.swap _ _ _)).drop
        refine h5.mkRow ?_ (by rw [hl2]; exact hc)
        rw [flat_append]
        simp only [List.length_append, List.length_drop] at h2 hl ⊢
        omega
    · have hne : id ≠ b := fun he => by
        have h6 := (h1.perm (List.Perm.swap _ _ _)).fre
        rw [he, h1.cel] at h6; cases h6
      refine ⟨.slice (some (id, 0)) (r.length + r2.length) (r.length + r2.length) k, (H.set b .dead).set id (.cells false (flat enc r ++ flat enc r2)), ?_, ?_, rfl⟩
      · have hf := (h1.perm (List.Perm.swap _ _ _)).fre
        simp only [appendA, hx, hn, Option.bind_some]
        rw [if_pos ⟨trivial, hb⟩, if_neg hc, h1.cel]
        simp only [Nat.zero_add]
        rw [if_pos (by simp [hfl]), new_of _ (by rw [set_blk, if_neg hne]; exact hf)]
        simp only [List.drop_zero, ← hfl, List.take_left, Option.map_some]
      · have h4 := Sat.mk (Sat.kill h1) (flat enc r ++ flat enc r2)
        rw [← flat_append, ← List.append_nil (flat enc (r ++ r2))] at h4
        rw [← hl2, ← flat_append]
        simpa using h4.mkRow (by simp [flat_append, hfl, hfl2, Nat.add_mul]) (Nat.le_refl _)
theorem Sat.append1 (hk : ∀ e, (enc e).length = k) {id bytes x : Nat} {e : α} {o : Nat} {l : List SV} {c : Nat} (h : Sat ρ H (Row enc k s r :: Fre id :: Cel x l :: R)) (hl : (l.drop o).take k = enc e) (ho : o + k ≤ l.length) (hb : (r.length + 1) * bytes ≤ 70368744177664) :
    ∃ s' H', appendA k bytes id (.s s) (.s (.slice (some (x, o)) 1 c k)) H = some (.s s', H') ∧ Sat ρ H' (Row enc k s' (r ++ [e]) :: Cel x l :: R) ∧ H'.next = H.next := by
  have hx : H.blk x = some (.cells false l) := (h.drop.drop).cel
  refine Sat.append hk (r2 := [e]) (n := 1) (x := .s (.slice (some (x, o)) 1 c k)) h ?_ rfl hb
  simp only [sliceCells, ldn_of H hx, List.length_singleton, Nat.one_mul, flat_one]
  rw [if_pos ⟨trivial, Nat.le_refl _⟩, if_pos ho, hl]
theorem Sat.copy (hk : ∀ e, (enc e).length = k) {b1 b2 bytes : Nat} {x : AV} {r2 : List α} (h : Sat ρ H (Fre b1 :: Fre b2 :: R)) (hx : ∀ H', Sat ρ H' (Fre b2 :: R) → sliceCells k x r2.length H' = some (flat enc r2)) (hn : slLen x = some r2.length) (hb : r2.length * bytes ≤ 70368744177664) {K : AV × AH → Prop} (hK : ∀ s' H', H'.next = H.next → Sat ρ H' (Row enc k s' r2 :: R) → K (.s s', H')) :
    andThen (H.new b1 (.cells false [])) fun H1 => andThen (appendA k bytes b2 (.s (.slice (some (b1, 0)) 0 0 k)) x H1) K := by
  refine ⟨_, new_of H h.fre, ?_⟩
  have h1 := Sat.mk h []
  have h2 : Sat ρ _ (Row enc k (.slice (some (b1, 0)) 0 0 k) [] :: Fre b2 :: R) := Sat.mkRow (r := []) (j := []) (c := 0) h1 (by simp) (by simp)
  obtain ⟨s', H', e1, h3, e2⟩ := Sat.append hk (n := 0) h2 (hx _ h1.drop) hn (by simpa using hb)
  exact ⟨_, e1, hK s' H' e2 h3⟩
theorem Tri.intro {tab : Nat → Option RFunc} {ext : Nat → List AV → AH → Option (AV × AH)} {f : Nat} {args : List AV} {P : List Asr} {Q : AV → List Asr → Prop}
    (h : ∀ (ρ : HF) (H : AH) (Rs : List Asr) (K : AV → AH → Prop), Sat ρ H (P ++ Rs) → (∀ v H' P', Q v P' → Sat ρ H' (P' ++ Rs) → K v H') → CallP tab ext f args H K) : Tri tab ext f args P Q :=
  fun ρ H Rs hs => h ρ H Rs _ hs fun _ _ P' hq hs => ⟨P', hq, hs⟩
theorem loopP_invK {tab : Nat → Option RFunc} {ext : Nat → List AV → AH → Option (AV × AH)} {c : RC} {K : Ex → List AV → AH → Prop} (I : Nat → List AV → AH → Prop) (step : ∀ n T H, I n T H → ∀ K' : Ex → List AV → AH → Prop, (∀ m T' H', m < n → I m T' H' → K' .norm T' H') → (∀ T' H', K .ret T' H' → K' .ret T' H') → (∀ id T' H', K (.out id) T' H' → K' (.out id) T' H') → wpC tab ext c T H K') (n : Nat) (T : List AV) (H : AH) (h : I n T H) : loopP tab ext c T H K :=
  loopP_inv I (fun n T H h => step n T H h _ (fun m _ _ hm hi => ⟨m, hm, hi⟩) (fun _ _ h => h) (fun _ _ _ h => h)) n T H h
theorem Sat.swap {A B : Asr} (h : Sat ρ H (A :: B :: R)) : Sat ρ H (B :: A :: R) := h.perm (List.Perm.swap _ _ _)
end
end Go.AM

/-
  PLAIN LISTS: sorted rows, merged in place by turning parts round.
-/
namespace Go.AM
section
variable {α : Type} (lt : α → α → Bool)
def SrtL (l : List α) : Prop := l.Pairwise fun a b => lt b a = false
structure Ord : Prop where
  asym : ∀ a b, lt a b = true → lt b a = false
  tr : ∀ a b c, lt b a = false → lt c b = false → lt c a = false
variable {lt}
theorem SrtL.nil : SrtL lt [] := List.Pairwise.nil
theorem SrtL.one (x : α) : SrtL lt [x] := List.pairwise_singleton _ _
theorem srtL_append {l r : List α} : SrtL lt (l ++ r) ↔ SrtL lt l ∧ SrtL lt r ∧ ∀ a ∈ l, ∀ b ∈ r, lt b a = false := List.pairwise_append
theorem srtL_join (ho : Ord lt) {l r : List α} (hl : SrtL lt l) (hr : SrtL lt r) (h : ∀ a b, l.getLast? = some a → r.head? = some b → lt b a = false) : ∀ a ∈ l, ∀ b ∈ r, lt b a = false := by
  intro a ha b hb
  cases r with
  | nil => cases hb
  | cons y r =>
    have hy : y = b ∨ lt b y = false := by
      rcases List.mem_cons.1 hb with rfl | hb
      · exact .inl rfl
      · exact .inr ((List.pairwise_cons.1 hr).1 b hb)
    rcases List.eq_nil_or_concat l with rfl | ⟨l', x, rfl⟩
    · cases ha
    · rw [List.concat_eq_append] at *
      have hx : a = x ∨ lt x a = false := by
        rcases List.mem_append.1 ha with ha | ha
        · exact .inr ((srtL_append.1 hl).2.2 a ha x (by simp))
        · exact .inl (by simpa using ha)
      have hxy : lt y x = false := h x y (by simp) rfl
      have h1 : lt b x = false := by
        rcases hy with rfl | hy
        · exact hxy
        · exact ho.tr _ _ _ hxy hy
      rcases hx with rfl | hx
      · exact h1
      · exact ho.tr _ _ _ hx h1
theorem srtL_cons (ho : Ord lt) {l : List α} {x : α} (hl : SrtL lt l) (h : ∀ a, l.head? = some a → lt a x = false) : SrtL lt (x :: l) :=
  srtL_append (l := [x]).2 ⟨.one x, hl, srtL_join ho (.one x) hl fun a b h1 h2 => by cases h1; exact h b h2⟩
theorem srtL_ins (ho : Ord lt) {l r : List α} {x : α} (h : SrtL lt (l ++ r)) (h1 : ∀ a, l.getLast? = some a → lt x a = false) (h2 : ∀ b, r.head? = some b → lt b x = false) : SrtL lt (l ++ x :: r) := by
  obtain ⟨hl, hr, hlr⟩ := srtL_append.1 h
  have k2 : SrtL lt (x :: r) := srtL_cons ho hr h2
  exact srtL_append.2 ⟨hl, k2, srtL_join ho hl k2 fun a b g1 g2 => by cases g2; exact h1 a g1⟩
theorem lt_flip (ho : Ord lt) {a b : α} (h : lt a b = true) : lt b a = false := ho.asym _ _ h
theorem srtL_four (ho : Ord lt) {x1 x2 y1 y2 z1 z2 : List α} (hx : SrtL lt (x1 ++ x2)) (hy : SrtL lt (y1 ++ y2))
    (h1 : ∀ a b, x1.getLast? = some a → y2.head? = some b → lt b a = false) (h2 : ∀ a b, y1.getLast? = some a → x2.head? = some b → lt b a = false)
    (p1 : z1.Perm (x1 ++ y1)) (p2 : z2.Perm (x2 ++ y2)) (s1 : SrtL lt z1) (s2 : SrtL lt z2) : SrtL lt (z1 ++ z2) := by
  obtain ⟨hx1, hx2, hx12⟩ := srtL_append.1 hx
  obtain ⟨hy1, hy2, hy12⟩ := srtL_append.1 hy
  have k1 := srtL_join ho hx1 hy2 h1
  have k2 := srtL_join ho hy1 hx2 h2
  refine srtL_append.2 ⟨s1, s2, fun a ha b hb => ?_⟩
  rcases List.mem_append.1 (p1.mem_iff.1 ha) with ha | ha <;> rcases List.mem_append.1 (p2.mem_iff.1 hb) with hb | hb
  · exact hx12 a ha b hb
  · exact k1 a ha b hb
  · exact k2 a ha b hb
  · exact hy12 a ha b hb
theorem four_perm {x1 x2 y1 y2 z1 z2 : List α} (p1 : z1.Perm (x1 ++ y1)) (p2 : z2.Perm (x2 ++ y2)) : (z1 ++ z2).Perm ((x1 ++ x2) ++ (y1 ++ y2)) := by
  refine (p1.append p2).trans ?_
  rw [List.append_assoc, List.append_assoc]
  refine List.Perm.append_left _ ?_
  rw [← List.append_assoc, ← List.append_assoc]
  exact List.Perm.append_right _ List.perm_append_comm
theorem srtL_uniq (ht : ∀ a b, lt a b = false → lt b a = false → a = b) : ∀ {l r : List α}, SrtL lt l → SrtL lt r → l.Perm r → l = r
  | [], r, _, _, p => (List.nil_perm.1 p).symm
  | a :: l, [], _, _, p => by simp at p
  | a :: l, b :: r, hl, hr, p => by
    have hl' := List.pairwise_cons.1 hl
    have hr' := List.pairwise_cons.1 hr
    have hab : a = b := by
      have h1 : a ∈ b :: r := p.mem_iff.1 (by simp)
      have h2 : b ∈ a :: l := p.mem_iff.2 (by simp)
      rcases List.mem_cons.1 h1 with h1 | h1
      · exact h1
      · rcases List.mem_cons.1 h2 with h2 | h2
        · exact h2.symm
        · exact ht a b (hr'.1 a h1) (hl'.1 b h2)
    subst hab
    rw [srtL_uniq ht hl'.2 hr'.2 (List.perm_cons a |>.1 p)]
end
section
variable {α : Type}
end
end Go.AM

/-
  Elements of rows in a block: read, stored, two of them changed round.
-/
namespace Go.AM
section
variable {α : Type} {enc : α → List SV} {k : Nat}
theorem rdEl (hk : ∀ e, (enc e).length = k) {H : AH} {b : Nat} {ro : Bool} {r : List α} {j : List SV} (hb : H.blk b = some (.cells ro (flat enc r ++ j))) {i : Nat} {x : α} (hx : r[i]? = some x) : H.ldn b (i * k) k = some (enc x) := by
  obtain ⟨hi, rfl⟩ := List.getElem?_eq_some_iff.1 hx
  rw [ldn_of H hb, if_pos (flat_fit hk r j i hi), flat_ldn hk r j i hi]
theorem wrEl (hk : ∀ e, (enc e).length = k) {H : AH} {b : Nat} {r : List α} {j : List SV} (hb : H.blk b = some (.cells false (flat enc r ++ j))) {i : Nat} (hi : i < r.length) (y : α) : H.stn b (i * k) (enc y) = some (H.set b (.cells false (flat enc (r.set i y) ++ j))) := by
  rw [stn_of H hb (by rw [hk]; exact flat_fit hk r j i hi), flat_splice hk r j i hi]
theorem ixEl {b n c i : Nat} (h : i < n) : indexSlA k (.s (.slice (some (b, 0)) n c k)) (i64 i) = some (.s (.ptr (some (b, i * k)))) := by
  rw [indexSlA_eq, if_pos (by omega)]
  simp
end
section
variable {α : Type} (A B C : List α) (x y : α)
theorem sw_get1 : (A ++ x :: (B ++ y :: C))[A.length]? = some x := by simp
theorem sw_get2 : (A ++ x :: (B ++ y :: C))[A.length + 1 + B.length]? = some y := by
  rw [List.getElem?_append_right (by omega)]
  have : A.length + 1 + B.length - A.length = B.length + 1 := by omega
  rw [this, List.getElem?_cons_succ, List.getElem?_append_right (Nat.le_refl _)]
  simp
theorem sw_set1 (z : α) : (A ++ x :: (B ++ y :: C)).set A.length z = A ++ z :: (B ++ y :: C) := by simp
theorem sw_set2 (z : α) : (A ++ x :: (B ++ y :: C)).set (A.length + 1 + B.length) z = A ++ x :: (B ++ z :: C) := by
  rw [List.set_append_right _ _ (by omega)]
  have : A.length + 1 + B.length - A.length = B.length + 1 := by omega
  rw [this, List.set_cons_succ, List.set_append_right _ _ (Nat.le_refl _)]
  simp
end
section
variable {α : Type} {enc : α → List SV} {k : Nat} {ρ : HF} {H : AH} {R : List Asr}
theorem Sat.sw (hk : ∀ e, (enc e).length = k) {b : Nat} {j : List SV} {A B C : List α} {x y : α} (h : Sat ρ H (Cel b (flat enc (A ++ x :: (B ++ y :: C)) ++ j) :: R)) {i m : Nat} (hi : i = A.length) (hm : m = A.length + 1 + B.length) :
    H.ldn b (i * k) k = some (enc x) ∧ H.ldn b (m * k) k = some (enc y) ∧ ∃ H1 H2, H.stn b (i * k) (enc y) = some H1 ∧ H1.stn b (m * k) (enc x) = some H2 ∧ Sat ρ H2 (Cel b (flat enc (A ++ y :: (B ++ x :: C)) ++ j) :: R) := by
  subst hi hm
  refine ⟨rdEl hk h.cel (sw_get1 A B C x y), rdEl hk h.cel (sw_get2 A B C x y), _, _, wrEl hk h.cel (by simp) y, wrEl hk (Sat.set h _).cel (by simp; omega) x, ?_⟩
  have h2 := Sat.set (Sat.set h (flat enc ((A ++ x :: (B ++ y :: C)).set A.length y) ++ j)) (flat enc (((A ++ x :: (B ++ y :: C)).set A.length y).set (A.length + 1 + B.length) x) ++ j)
  rw [sw_set1, sw_set2] at h2
  rw [sw_set1, sw_set2]
  exact h2
theorem Sat.ws (hk : ∀ e, (enc e).length = k) {b : Nat} {j : List SV} {A B C : List α} {x y : α} (h : Sat ρ H (Cel b (flat enc (A ++ x :: (B ++ y :: C)) ++ j) :: R)) {i m : Nat} (hi : i = A.length) (hm : m = A.length + 1 + B.length) :
    H.ldn b (i * k) k = some (enc x) ∧ H.ldn b (m * k) k = some (enc y) ∧ ∃ H1 H2, H.stn b (m * k) (enc x) = some H1 ∧ H1.stn b (i * k) (enc y) = some H2 ∧ Sat ρ H2 (Cel b (flat enc (A ++ y :: (B ++ x :: C)) ++ j) :: R) := by
  subst hi hm
  refine ⟨rdEl hk h.cel (sw_get1 A B C x y), rdEl hk h.cel (sw_get2 A B C x y), _, _, wrEl hk h.cel (by simp; omega) x, wrEl hk (Sat.set h _).cel (by simp) y, ?_⟩
  have h2 := Sat.set (Sat.set h (flat enc ((A ++ x :: (B ++ y :: C)).set (A.length + 1 + B.length) x) ++ j)) (flat enc (((A ++ x :: (B ++ y :: C)).set (A.length + 1 + B.length) x).set A.length y) ++ j)
  rw [sw_set2, sw_set1] at h2
  rw [sw_set2, sw_set1]
  exact h2
end
theorem wrapN (n : Nat) (h : n < 9223372036854775808) : IntKind.i64.wrap (n : Int) = n := wrap_i64 (by omega) (by omega)
theorem wrapP (a b : Nat) (h : a + b < 9223372036854775808) : IntKind.i64.wrap ((a : Int) + b) = ((a + b : Nat) : Int) := by rw [wrap_i64 (by omega) (by omega)]; omega
theorem wrapP1 (a : Nat) (h : a + 1 < 9223372036854775808) : IntKind.i64.wrap ((a : Int) + 1) = ((a + 1 : Nat) : Int) := by rw [wrap_i64 (by omega) (by omega)]; omega
theorem wrapM (a b : Nat) (h : a < 9223372036854775808) (hb : b ≤ a) : IntKind.i64.wrap ((a : Int) - b) = ((a - b : Nat) : Int) := by rw [wrap_i64 (by omega) (by omega)]; omega
theorem wrapM1 (a : Nat) (h : a < 9223372036854775808) (hb : 1 ≤ a) : IntKind.i64.wrap ((a : Int) - 1) = ((a - 1 : Nat) : Int) := by rw [wrap_i64 (by omega) (by omega)]; omega
theorem wrapT (a : Nat) (h : 2 * a < 9223372036854775808) : IntKind.i64.wrap (2 * (a : Int)) = ((2 * a : Nat) : Int) := by rw [wrap_i64 (by omega) (by omega)]; omega
theorem wrapT' (a : Nat) (h : 2 * a < 9223372036854775808) : IntKind.i64.wrap ((a : Int) * 2) = ((2 * a : Nat) : Int) := by rw [wrap_i64 (by omega) (by omega)]; omega
end Go.AM

/-
  PLAIN: handlers by time: what they are, what is fired.
-/
namespace Go.AM
structure Cyc where
  first : Int
  next : Int
  period : Int
  on : Bool
  keep : Bool
deriving DecidableEq
structure Alr where
  on : Bool
  at_ : Int
deriving DecidableEq
structure Fir where
  cyc : Bool
  no : Int
  at_ : Int
deriving DecidableEq
def ltF (a b : Fir) : Bool := decide (a.at_ < b.at_) || (decide (a.at_ = b.at_) && ((a.cyc && !b.cyc) || (decide (a.cyc = b.cyc) && decide (a.no < b.no))))
theorem ltF_ord : Ord ltF where
  asym a b h := by
    obtain ⟨ac, an, aa⟩ := a; obtain ⟨bc, bn, ba⟩ := b
    cases ac <;> cases bc <;> simp [ltF] at h ⊢ <;> omega
  tr a b c h h' := by
    obtain ⟨ac, an, aa⟩ := a; obtain ⟨bc, bn, ba⟩ := b; obtain ⟨cc, cn, ca⟩ := c
    cases ac <;> cases bc <;> cases cc <;> simp [ltF] at h h' ⊢ <;> omega
theorem ltF_tot (a b : Fir) (h : ltF a b = false) (h' : ltF b a = false) : a = b := by
  obtain ⟨ac, an, aa⟩ := a; obtain ⟨bc, bn, ba⟩ := b
  cases ac <;> cases bc <;> simp [ltF] at h h' ⊢ <;> omega
def firesN (c : Cyc) (up : Int) : Nat := if c.on = true ∧ c.next ≤ up then ((up - c.next) / c.period).toNat + 1 else 0
def firesC (c : Cyc) (i : Nat) (n : Nat) : List Fir := (List.range n).map fun (j : Nat) => ⟨true, (i : Int) + 1, c.next + (j : Int) * c.period⟩
def nextC (c : Cyc) (n : Nat) : Cyc := { c with next := c.next + n * c.period }
theorem nextC_zero (c : Cyc) : nextC c 0 = c := by simp [nextC]
theorem nextC_succ (c : Cyc) (n : Nat) : nextC (nextC c n) 1 = nextC c (n + 1) := by
  simp only [nextC, Cyc.mk.injEq, and_true, true_and]
  rw [Int.natCast_add, Int.add_mul]; omega
theorem firesC_succ (c : Cyc) (i n : Nat) : firesC c i (n + 1) = firesC c i n ++ [⟨true, (i : Int) + 1, (nextC c n).next⟩] := by
  simp [firesC, List.range_succ, nextC]
theorem firesN_more {c : Cyc} {up : Int} (hp : 1 ≤ c.period) (j : Nat) (hj : j ≤ firesN c up) : (c.on = true ∧ (nextC c j).next ≤ up) ↔ j < firesN c up := by
  unfold firesN at *
  simp only [nextC]
  by_cases h : c.on = true ∧ c.next ≤ up
  · rw [if_pos h] at hj ⊢
    have h0 : 0 ≤ (up - c.next) / c.period := Int.ediv_nonneg (by omega) (by omega)
    have h1 : (j : Int) ≤ (up - c.next) / c.period ↔ (j : Int) * c.period ≤ up - c.next := Int.le_ediv_iff_mul_le (by omega)
    constructor
    · intro ⟨_, h2⟩
      have := h1.2 (by omega); omega
    · intro h2
      exact ⟨h.1, by have := h1.1 (by omega); omega⟩
  · rw [if_neg h] at hj ⊢
    have : j = 0 := by omega
    subst this
    have e : c.next + ((0 : Nat) : Int) * c.period = c.next := by simp
    rw [e]
    exact ⟨fun h2 => (h h2).elim, fun h2 => by omega⟩
theorem firesN_le {c : Cyc} {up : Int} (hp : 1 ≤ c.period) (hn : 0 ≤ c.next) (hu : 0 ≤ up) : (firesN c up : Int) ≤ up + 1 := by
  unfold firesN
  split
  · rename_i h
    have h0 : 0 ≤ (up - c.next) / c.period := Int.ediv_nonneg (by omega) (by omega)
    have h1 : (up - c.next) / c.period ≤ up - c.next := Int.ediv_le_self _ (by omega)
    omega
  · omega
def genC (cs : List Cyc) (up : Int) (n : Nat) : List Fir := (List.range n).flatMap fun i => match cs[i]? with | some c => firesC c i (firesN c up) | none => []
def genA (ya : List Alr) (up : Int) (n : Nat) : List Fir := (List.range n).flatMap fun i => match ya[i]? with | some a => if a.on = true ∧ a.at_ ≤ up then [⟨false, (i : Int) + 1, a.at_⟩] else [] | none => []
theorem genC_succ {cs : List Cyc} {up : Int} {n : Nat} {c : Cyc} (h : cs[n]? = some c) : genC cs up (n + 1) = genC cs up n ++ firesC c n (firesN c up) := by
  simp [genC, List.range_succ, h]
theorem genA_succ {ya : List Alr} {up : Int} {n : Nat} {a : Alr} (h : ya[n]? = some a) : genA ya up (n + 1) = genA ya up n ++ if a.on = true ∧ a.at_ ≤ up then [⟨false, (n : Int) + 1, a.at_⟩] else [] := by
  simp [genA, List.range_succ, h]
def genF (cs : List Cyc) (ya : List Alr) (up : Int) : List Fir := genC cs up cs.length ++ genA ya up ya.length
def cycT (up : Int) (c : Cyc) : Cyc := nextC c (firesN c up)
def alrT (up : Int) (a : Alr) : Alr := if a.on = true ∧ a.at_ ≤ up then ⟨false, 0⟩ else a
theorem map_take_succ {β : Type} {l : List β} {f : β → β} {n : Nat} {x : β} (h : l[n]? = some x) : (l.take n).map f ++ f x :: l.drop (n + 1) = (l.take (n + 1)).map f ++ l.drop (n + 1) := by
  rw [List.take_add_one, h]; simp
theorem map_take_get {β : Type} {l : List β} {f : β → β} {n : Nat} {x : β} (h : l[n]? = some x) : ((l.take n).map f ++ l.drop n)[n]? = some x := by
  have hn : n < l.length := (List.getElem?_eq_some_iff.1 h).1
  rw [List.getElem?_append_right (by simp; omega)]
  simp only [List.length_map, List.length_take, Nat.min_eq_left (Nat.le_of_lt hn), Nat.sub_self, List.getElem?_drop, Nat.add_zero]
  exact h
theorem map_take_set {β : Type} {l : List β} {f : β → β} {n : Nat} {x y : β} (h : l[n]? = some x) : ((l.take n).map f ++ l.drop n).set n y = (l.take n).map f ++ y :: l.drop (n + 1) := by
  have hn : n < l.length := (List.getElem?_eq_some_iff.1 h).1
  rw [List.set_append_right _ _ (by simp; omega)]
  have e : n - ((l.take n).map f).length = 0 := by simp; omega
  rw [e, List.drop_eq_getElem_cons hn]
  rfl
theorem firesC_len (c : Cyc) (i n : Nat) : (firesC c i n).length = n := by simp [firesC]
theorem genC_len {cs : List Cyc} {up : Int} (hu : 0 ≤ up) (h : ∀ c ∈ cs, 1 ≤ c.period ∧ 0 ≤ c.next) : ∀ n, ((genC cs up n).length : Int) ≤ n * (up + 1)
  | 0 => by simp [genC]
  | n + 1 => by
    have ih := genC_len hu h n
    have e : genC cs up (n + 1) = genC cs up n ++ match cs[n]? with | some c => firesC c n (firesN c up) | none => [] := by simp [genC, List.range_succ]
    have e2 : ((n : Int) + 1) * (up + 1) = n * (up + 1) + (up + 1) := by rw [Int.add_mul, Int.one_mul]
    rw [e]
    push_cast
    rw [List.length_append]
    push_cast
    rw [e2]
    cases hc : cs[n]? with
    | none => simp; omega
    | some c =>
      have hm := h c (List.mem_of_getElem? hc)
      have := firesN_le (up := up) hm.1 hm.2 hu
      simp only [firesC_len]
      omega
theorem genA_len (ya : List Alr) (up : Int) : ∀ n, (genA ya up n).length ≤ n
  | 0 => by simp [genA]
  | n + 1 => by
    have ih := genA_len ya up n
    have e : genA ya up (n + 1) = genA ya up n ++ match ya[n]? with | some a => if a.on = true ∧ a.at_ ≤ up then [⟨false, (n : Int) + 1, a.at_⟩] else [] | none => [] := by simp [genA, List.range_succ]
    rw [e, List.length_append]
    have : (match ya[n]? with | some a => if a.on = true ∧ a.at_ ≤ up then [(⟨false, (n : Int) + 1, a.at_⟩ : Fir)] else [] | none => []).length ≤ 1 := by
      cases ya[n]? with
      | none => simp
      | some a => simp only; split <;> simp
    omega
end Go.AM

/-
  The numbers of the functions in this translation.
-/
namespace Go.AM.F
abbrev detentlaw20_HandCycles : Nat := 3
abbrev detentlaw20_HandOrder : Nat := 4
abbrev detentlaw20_HandRefuses : Nat := 5
abbrev detentlaw20_HandAlarms : Nat := 6
abbrev detentlaw20_HandKeeps : Nat := 7
abbrev detentlaw20_HandPlays : Nat := 8
abbrev detentlaw20_Fired : Nat := 29
abbrev detentlaw3_Same : Nat := 30
abbrev detentlaw20_known : Nat := 9
abbrev cyc_NewHands : Nat := 10
abbrev cyc_Hands_Cyclic : Nat := 11
abbrev cyc_Hands_Pass : Nat := 12
abbrev cyc_Hands_Alarm : Nat := 13
abbrev cyc_Hands_Set : Nat := 14
abbrev clock_Clock_Up : Nat := 15
abbrev cyc_Hands_Clear : Nat := 16
abbrev cyc_Hands_Stop : Nat := 17
abbrev cyc_Hands_Start : Nat := 18
abbrev detentref20_New : Nat := 19
abbrev detentref20_Hands_Cyclic : Nat := 20
abbrev detentref20_Hands_NewAlarm : Nat := 21
abbrev detentref20_Hands_Start : Nat := 22
abbrev detentref20_Hands_Stop : Nat := 23
abbrev detentref20_Hands_Set : Nat := 24
abbrev detentref20_Hands_Clear : Nat := 25
abbrev cyc_Hands_Wait : Nat := 26
abbrev detentref20_Hands_Wait : Nat := 27
abbrev detentref20_Hands_Pass : Nat := 28
abbrev heap_Timers_Cancel : Nat := 31
abbrev detentref7_Timers_Cancel : Nat := 32
abbrev clock_Clock_Now : Nat := 33
abbrev detentref8_Clock_Now : Nat := 34
abbrev heap_Timers_Len : Nat := 35
abbrev clock_NewClock : Nat := 36
abbrev nums_Rel : Nat := 37
abbrev clock_Clock_Tick : Nat := 38
abbrev slices_SortStableFunc__cyc_Fired_cyc_Fired : Nat := 39
abbrev cyc_order : Nat := 40
abbrev slices_Clip__cyc_Fired_cyc_Fired : Nat := 41
abbrev cyc_Hands_alarm : Nat := 42
abbrev cyc_Hands_cyc : Nat := 43
abbrev detentref8_New : Nat := 44
abbrev detentref1_Rel : Nat := 45
abbrev clock_Clock_After : Nat := 46
abbrev detentref8_Clock_After : Nat := 47
abbrev detentref8_Clock_Tick : Nat := 48
abbrev detentref20_put : Nat := 49
abbrev heap_Timers_find : Nat := 50
abbrev heap_Timers_remove : Nat := 51
abbrev detentref7_Timers_Find : Nat := 52
abbrev nums_Add : Nat := 53
abbrev detentref1_Add : Nat := 54
abbrev heap_New : Nat := 55
abbrev heap_Timers_Due : Nat := 56
abbrev slices_stableCmpFunc_cyc_Fired : Nat := 57
abbrev cmp_Compare_uint64 : Nat := 58
abbrev cmp_Compare_int : Nat := 59
abbrev heap_Timers_Insert : Nat := 60
abbrev detentref7_Timers_Insert : Nat := 61
abbrev detentref7_Timers_Due : Nat := 62
abbrev detentref20_before : Nat := 63
abbrev slices_IndexFunc_heap_row_heap_entry : Nat := 64
abbrev heap_Timers_find_1 : Nat := 65
abbrev heap_row_up : Nat := 66
abbrev heap_row_down : Nat := 67
abbrev slices_insertionSortCmpFunc_cyc_Fired : Nat := 68
abbrev slices_symMergeCmpFunc_cyc_Fired : Nat := 69
abbrev cmp_isNaN_uint64 : Nat := 70
abbrev cmp_isNaN_int : Nat := 71
abbrev detentref7_Timers_least : Nat := 72
abbrev heap_row_ahead : Nat := 73
abbrev slices_rotateCmpFunc_cyc_Fired : Nat := 74
abbrev slices_swapRangeCmpFunc_cyc_Fired : Nat := 75
end Go.AM.F

/-
  The code of the functions,as the abstract machine has it; it is the program's.
-/
set_option maxRecDepth 100000
namespace Go.AM.R
open Go.AM
def detentlaw20_HandPlays_s0 : RC :=
  RC.seq (RC.region 58 [
  ⟨some 241,.move (.t 11),none,0,[]⟩,
  ⟨some 242,.move (.t 12),none,1,[]⟩,
  ⟨some 243,.bin .neq (.t 241) (.t 242),none,2,[]⟩,
  ⟨some 244,.move (.t 243),none,3,[]⟩,
  ⟨some 245,.move (.t 13),(some (244,false)),4,[]⟩,
  ⟨some 246,.move (.t 14),(some (244,false)),5,[]⟩,
  ⟨some 247,.bin .neq (.t 245) (.t 246),(some (244,false)),6,[]⟩,
  ⟨some 248,.pick (.t 244) (.c (.s (.bool true))) (.t 247),none,7,[]⟩,
  ⟨some 249,.move (.t 248),none,8,[]⟩,
  ⟨some 250,.move (.t 5),(some (249,false)),9,[]⟩,
  ⟨some 251,.nilCheck (.t 250),(some (249,false)),10,[]⟩,
  ⟨some 252,.fieldAddr 0 (.t 251),(some (249,false)),11,[]⟩,
  ⟨some 253,.load none (.t 252),(some (249,false)),12,[]⟩,
  ⟨some 255,.move (.t 7),(some (249,false)),14,[]⟩,
  ⟨some 256,.nilCheck (.t 255),(some (249,false)),15,[]⟩,
  ⟨some 257,.fieldAddr 0 (.t 256),(some (249,false)),16,[]⟩,
  ⟨some 258,.load none (.t 257),(some (249,false)),17,[]⟩,
  ⟨some 259,.nilCheck (.t 258),(some (249,false)),18,[]⟩,
  ⟨some 260,.fieldAddr 2 (.t 259),(some (249,false)),19,[]⟩,
  ⟨some 261,.load none (.t 260),(some (249,false)),20,[]⟩,
  ⟨some 254,.call F.clock_Clock_Up [(.t 253)],(some (249,false)),13,[⟨258,none,(.t 257),(some (249,false))⟩,⟨261,none,(.t 260),(some (249,false))⟩]⟩,
  ⟨some 262,.bin .neq (.t 254) (.t 261),(some (249,false)),21,[]⟩,
  ⟨some 263,.pick (.t 249) (.c (.s (.bool true))) (.t 262),none,22,[]⟩,
  ⟨some 264,.move (.t 263),none,23,[]⟩,
  ⟨some 265,.move (.t 5),(some (264,false)),24,[]⟩,
  ⟨some 266,.nilCheck (.t 265),(some (264,false)),25,[]⟩,
  ⟨some 267,.fieldAddr 0 (.t 266),(some (264,false)),26,[]⟩,
  ⟨some 268,.load none (.t 267),(some (264,false)),27,[]⟩,
  ⟨some 270,.move (.t 7),(some (264,false)),29,[]⟩,
  ⟨some 271,.nilCheck (.t 270),(some (264,false)),30,[]⟩,
  ⟨some 272,.fieldAddr 0 (.t 271),(some (264,false)),31,[]⟩,
  ⟨some 273,.load none (.t 272),(some (264,false)),32,[]⟩,
  ⟨some 269,.call F.clock_Clock_Now [(.t 268)],(some (264,false)),28,[⟨273,none,(.t 272),(some (264,false))⟩]⟩,
  ⟨some 274,.call F.detentref8_Clock_Now [(.t 273)],(some (264,false)),33,[]⟩,
  ⟨some 275,.bin .neq (.t 269) (.t 274),(some (264,false)),34,[]⟩,
  ⟨some 276,.pick (.t 264) (.c (.s (.bool true))) (.t 275),none,35,[]⟩,
  ⟨some 277,.move (.t 276),none,36,[]⟩,
  ⟨some 278,.move (.t 5),(some (277,false)),37,[]⟩,
  ⟨some 279,.nilCheck (.t 278),(some (277,false)),38,[]⟩,
  ⟨some 280,.fieldAddr 0 (.t 279),(some (277,false)),39,[]⟩,
  ⟨some 281,.load none (.t 280),(some (277,false)),40,[]⟩,
  ⟨some 282,.nilCheck (.t 281),(some (277,false)),41,[]⟩,
  ⟨some 283,.fieldAddr 0 (.t 282),(some (277,false)),42,[]⟩,
  ⟨some 284,.load none (.t 283),(some (277,false)),43,[]⟩,
  ⟨some 286,.move (.t 7),(some (277,false)),45,[]⟩,
  ⟨some 287,.nilCheck (.t 286),(some (277,false)),46,[]⟩,
  ⟨some 288,.fieldAddr 0 (.t 287),(some (277,false)),47,[]⟩,
  ⟨some 289,.load none (.t 288),(some (277,false)),48,[]⟩,
  ⟨some 290,.nilCheck (.t 289),(some (277,false)),49,[]⟩,
  ⟨some 291,.fieldAddr 0 (.t 290),(some (277,false)),50,[]⟩,
  ⟨some 292,.load none (.t 291),(some (277,false)),51,[]⟩,
  ⟨some 293,.nilCheck (.t 292),(some (277,false)),52,[]⟩,
  ⟨some 294,.fieldAddr 0 (.t 293),(some (277,false)),53,[]⟩,
  ⟨some 295,.load none (.t 294),(some (277,false)),54,[]⟩,
  ⟨some 296,.len (.t 295),(some (277,false)),55,[]⟩,
  ⟨some 285,.call F.heap_Timers_Len [(.t 284)],(some (277,false)),44,[⟨289,none,(.t 288),(some (277,false))⟩,⟨292,none,(.t 291),(some (277,false))⟩,⟨295,none,(.t 294),(some (277,false))⟩]⟩,
  ⟨some 297,.bin .neq (.t 285) (.t 296),(some (277,false)),56,[]⟩,
  ⟨some 298,.pick (.t 277) (.c (.s (.bool true))) (.t 297),none,57,[]⟩]) (RC.cond (.t 298) (RC.seq (RC.region 1 [
  ⟨some 4,.move (.c (.s (.bool false))),none,0,[]⟩]) (RC.ret)) (RC.skip))
def detentlaw20_HandPlays_s1 : RC :=
  RC.region 3 [
  ⟨some 62,.move (.t 9),none,0,[]⟩,
  ⟨some 63,.bin .add (.t 62) (.c (.s (.int .i64 1))),none,1,[]⟩,
  ⟨some 9,.move (.t 63),none,2,[]⟩]
def detentlaw20_HandPlays_l2 : RC :=
  RC.seq (RC.seq (RC.region 4 [
  ⟨some 58,.move (.t 9),none,0,[]⟩,
  ⟨some 59,.move (.t 1),none,1,[]⟩,
  ⟨some 60,.len (.t 59),none,2,[]⟩,
  ⟨some 61,.bin .lss (.t 58) (.t 60),none,3,[]⟩]) (RC.cond (.t 61) (RC.skip) (RC.exit 0))) (RC.seq (RC.block 1 (RC.seq (RC.region 6 [
  ⟨some 64,.move (.t 1),none,0,[]⟩,
  ⟨some 65,.move (.t 9),none,1,[]⟩,
  ⟨some 66,.indexSl 6 (.t 64) (.t 65),none,2,[]⟩,
  ⟨some 67,.load (some 6) (.t 66),none,3,[]⟩,
  ⟨some 10,.newc [.int .i64 0,.int .i64 0,.int .i64 0,.int .i64 0,.bool false,.bool false],none,4,[]⟩,
  ⟨none,.store 6 (.t 10) (.t 67),none,5,[]⟩]) (RC.seq (RC.region 1 [
  ⟨some 11,.move (.c (.s (.int .i64 0))),none,0,[]⟩]) (RC.seq (RC.region 1 [
  ⟨some 12,.move (.c (.s (.int .i64 0))),none,0,[]⟩]) (RC.seq (RC.region 1 [
  ⟨some 13,.move (.c (.s (.int .i64 0))),none,0,[]⟩]) (RC.seq (RC.region 1 [
  ⟨some 14,.move (.c (.s (.int .i64 0))),none,0,[]⟩]) (RC.seq (RC.seq (RC.region 2 [
  ⟨some 68,.fieldAddr 0 (.t 10),none,0,[]⟩,
  ⟨some 69,.load none (.t 68),none,1,[]⟩]) (RC.block 2 (RC.seq (RC.region 2 [
  ⟨some 71,.bin .eql (.t 69) (.c (.s (.int .i64 1))),none,0,[]⟩,
  ⟨some 70,.move (.t 71),none,1,[]⟩]) (RC.cond (.t 70) (RC.seq (RC.seq (RC.region 10 [
  ⟨some 72,.fieldAddr 2 (.t 10),none,0,[]⟩,
  ⟨some 73,.load none (.t 72),none,1,[]⟩,
  ⟨some 74,.bin .geq (.t 73) (.c (.s (.int .i64 1))),none,2,[]⟩,
  ⟨some 75,.move (.t 74),none,3,[]⟩,
  ⟨some 76,.fieldAddr 2 (.t 10),(some (75,true)),4,[]⟩,
  ⟨some 77,.load none (.t 76),(some (75,true)),5,[]⟩,
  ⟨some 78,.move (.t 0),(some (75,true)),6,[]⟩,
  ⟨some 79,.bin .quo (.t 78) (.c (.s (.int .i64 20))),(some (75,true)),7,[]⟩,
  ⟨some 80,.bin .lss (.t 77) (.t 79),(some (75,true)),8,[]⟩,
  ⟨some 81,.pick (.t 75) (.t 80) (.c (.s (.bool false))),none,9,[]⟩]) (RC.cond (.t 81) (RC.seq (RC.region 1 [
  ⟨some 4,.move (.c (.s (.bool true))),none,0,[]⟩]) (RC.ret)) (RC.skip))) (RC.seq (RC.region 15 [
  ⟨some 83,.move (.t 5),none,0,[]⟩,
  ⟨some 84,.fieldAddr 2 (.t 10),none,1,[]⟩,
  ⟨some 85,.load none (.t 84),none,2,[]⟩,
  ⟨some 86,.fieldAddr 3 (.t 10),none,3,[]⟩,
  ⟨some 87,.load none (.t 86),none,4,[]⟩,
  ⟨some 88,.fieldAddr 4 (.t 10),none,5,[]⟩,
  ⟨some 89,.load none (.t 88),none,6,[]⟩,
  ⟨some 90,.fieldAddr 5 (.t 10),none,7,[]⟩,
  ⟨some 91,.load none (.t 90),none,8,[]⟩,
  ⟨some 92,.call F.cyc_Hands_Cyclic [(.t 83),(.t 85),(.t 87),(.t 89),(.t 91)],none,9,[]⟩,
  ⟨some 82,.move (.t 92),none,10,[]⟩,
  ⟨some 93,.extract 0 (.t 82),none,11,[]⟩,
  ⟨some 94,.extract 1 (.t 82),none,12,[]⟩,
  ⟨some 15,.move (.t 93),none,13,[]⟩,
  ⟨some 16,.move (.t 94),none,14,[]⟩]) (RC.seq (RC.region 15 [
  ⟨some 96,.move (.t 7),none,0,[]⟩,
  ⟨some 97,.fieldAddr 2 (.t 10),none,1,[]⟩,
  ⟨some 98,.load none (.t 97),none,2,[]⟩,
  ⟨some 99,.fieldAddr 3 (.t 10),none,3,[]⟩,
  ⟨some 100,.load none (.t 99),none,4,[]⟩,
  ⟨some 101,.fieldAddr 4 (.t 10),none,5,[]⟩,
  ⟨some 102,.load none (.t 101),none,6,[]⟩,
  ⟨some 103,.fieldAddr 5 (.t 10),none,7,[]⟩,
  ⟨some 104,.load none (.t 103),none,8,[]⟩,
  ⟨some 105,.call F.detentref20_Hands_Cyclic [(.t 96),(.t 98),(.t 100),(.t 102),(.t 104)],none,9,[]⟩,
  ⟨some 95,.move (.t 105),none,10,[]⟩,
  ⟨some 106,.extract 0 (.t 95),none,11,[]⟩,
  ⟨some 107,.extract 1 (.t 95),none,12,[]⟩,
  ⟨some 17,.move (.t 106),none,13,[]⟩,
  ⟨some 18,.move (.t 107),none,14,[]⟩]) (RC.region 8 [
  ⟨some 108,.move (.t 15),none,0,[]⟩,
  ⟨some 109,.move (.t 17),none,1,[]⟩,
  ⟨some 110,.move (.t 16),none,2,[]⟩,
  ⟨some 111,.move (.t 18),none,3,[]⟩,
  ⟨some 13,.move (.t 108),none,4,[]⟩,
  ⟨some 14,.move (.t 109),none,5,[]⟩,
  ⟨some 11,.move (.t 110),none,6,[]⟩,
  ⟨some 12,.move (.t 111),none,7,[]⟩])))) (RC.seq (RC.region 2 [
  ⟨some 113,.bin .eql (.t 69) (.c (.s (.int .i64 2))),none,0,[]⟩,
  ⟨some 112,.move (.t 113),none,1,[]⟩]) (RC.cond (.t 112) (RC.seq (RC.region 7 [
  ⟨some 115,.move (.t 5),none,0,[]⟩,
  ⟨some 116,.call F.cyc_Hands_Alarm [(.t 115)],none,1,[]⟩,
  ⟨some 114,.move (.t 116),none,2,[]⟩,
  ⟨some 117,.extract 0 (.t 114),none,3,[]⟩,
  ⟨some 118,.extract 1 (.t 114),none,4,[]⟩,
  ⟨some 19,.move (.t 117),none,5,[]⟩,
  ⟨some 20,.move (.t 118),none,6,[]⟩]) (RC.seq (RC.region 7 [
  ⟨some 120,.move (.t 7),none,0,[]⟩,
  ⟨some 121,.call F.detentref20_Hands_NewAlarm [(.t 120)],none,1,[]⟩,
  ⟨some 119,.move (.t 121),none,2,[]⟩,
  ⟨some 122,.extract 0 (.t 119),none,3,[]⟩,
  ⟨some 123,.extract 1 (.t 119),none,4,[]⟩,
  ⟨some 21,.move (.t 122),none,5,[]⟩,
  ⟨some 22,.move (.t 123),none,6,[]⟩]) (RC.region 8 [
  ⟨some 124,.move (.t 19),none,0,[]⟩,
  ⟨some 125,.move (.t 21),none,1,[]⟩,
  ⟨some 126,.move (.t 20),none,2,[]⟩,
  ⟨some 127,.move (.t 22),none,3,[]⟩,
  ⟨some 13,.move (.t 124),none,4,[]⟩,
  ⟨some 14,.move (.t 125),none,5,[]⟩,
  ⟨some 11,.move (.t 126),none,6,[]⟩,
  ⟨some 12,.move (.t 127),none,7,[]⟩]))) (RC.seq (RC.region 2 [
  ⟨some 129,.bin .eql (.t 69) (.c (.s (.int .i64 3))),none,0,[]⟩,
  ⟨some 128,.move (.t 129),none,1,[]⟩]) (RC.cond (.t 128) (RC.seq (RC.region 5 [
  ⟨some 130,.move (.t 5),none,0,[]⟩,
  ⟨some 131,.fieldAddr 1 (.t 10),none,1,[]⟩,
  ⟨some 132,.load none (.t 131),none,2,[]⟩,
  ⟨some 133,.call F.cyc_Hands_Start [(.t 130),(.t 132)],none,3,[]⟩,
  ⟨some 11,.move (.t 133),none,4,[]⟩]) (RC.region 5 [
  ⟨some 134,.move (.t 7),none,0,[]⟩,
  ⟨some 135,.fieldAddr 1 (.t 10),none,1,[]⟩,
  ⟨some 136,.load none (.t 135),none,2,[]⟩,
  ⟨some 137,.call F.detentref20_Hands_Start [(.t 134),(.t 136)],none,3,[]⟩,
  ⟨some 12,.move (.t 137),none,4,[]⟩])) (RC.seq (RC.region 2 [
  ⟨some 139,.bin .eql (.t 69) (.c (.s (.int .i64 4))),none,0,[]⟩,
  ⟨some 138,.move (.t 139),none,1,[]⟩]) (RC.cond (.t 138) (RC.seq (RC.region 5 [
  ⟨some 140,.move (.t 5),none,0,[]⟩,
  ⟨some 141,.fieldAddr 1 (.t 10),none,1,[]⟩,
  ⟨some 142,.load none (.t 141),none,2,[]⟩,
  ⟨some 143,.call F.cyc_Hands_Stop [(.t 140),(.t 142)],none,3,[]⟩,
  ⟨some 11,.move (.t 143),none,4,[]⟩]) (RC.region 5 [
  ⟨some 144,.move (.t 7),none,0,[]⟩,
  ⟨some 145,.fieldAddr 1 (.t 10),none,1,[]⟩,
  ⟨some 146,.load none (.t 145),none,2,[]⟩,
  ⟨some 147,.call F.detentref20_Hands_Stop [(.t 144),(.t 146)],none,3,[]⟩,
  ⟨some 12,.move (.t 147),none,4,[]⟩])) (RC.seq (RC.region 2 [
  ⟨some 149,.bin .eql (.t 69) (.c (.s (.int .i64 5))),none,0,[]⟩,
  ⟨some 148,.move (.t 149),none,1,[]⟩]) (RC.cond (.t 148) (RC.seq (RC.region 7 [
  ⟨some 150,.move (.t 5),none,0,[]⟩,
  ⟨some 151,.fieldAddr 1 (.t 10),none,1,[]⟩,
  ⟨some 152,.load none (.t 151),none,2,[]⟩,
  ⟨some 153,.fieldAddr 2 (.t 10),none,3,[]⟩,
  ⟨some 154,.load none (.t 153),none,4,[]⟩,
  ⟨some 155,.call F.cyc_Hands_Set [(.t 150),(.t 152),(.t 154)],none,5,[]⟩,
  ⟨some 11,.move (.t 155),none,6,[]⟩]) (RC.region 7 [
  ⟨some 156,.move (.t 7),none,0,[]⟩,
  ⟨some 157,.fieldAddr 1 (.t 10),none,1,[]⟩,
  ⟨some 158,.load none (.t 157),none,2,[]⟩,
  ⟨some 159,.fieldAddr 2 (.t 10),none,3,[]⟩,
  ⟨some 160,.load none (.t 159),none,4,[]⟩,
  ⟨some 161,.call F.detentref20_Hands_Set [(.t 156),(.t 158),(.t 160)],none,5,[]⟩,
  ⟨some 12,.move (.t 161),none,6,[]⟩])) (RC.seq (RC.region 2 [
  ⟨some 163,.bin .eql (.t 69) (.c (.s (.int .i64 6))),none,0,[]⟩,
  ⟨some 162,.move (.t 163),none,1,[]⟩]) (RC.cond (.t 162) (RC.seq (RC.region 5 [
  ⟨some 164,.move (.t 5),none,0,[]⟩,
  ⟨some 165,.fieldAddr 1 (.t 10),none,1,[]⟩,
  ⟨some 166,.load none (.t 165),none,2,[]⟩,
  ⟨some 167,.call F.cyc_Hands_Clear [(.t 164),(.t 166)],none,3,[]⟩,
  ⟨some 11,.move (.t 167),none,4,[]⟩]) (RC.region 5 [
  ⟨some 168,.move (.t 7),none,0,[]⟩,
  ⟨some 169,.fieldAddr 1 (.t 10),none,1,[]⟩,
  ⟨some 170,.load none (.t 169),none,2,[]⟩,
  ⟨some 171,.call F.detentref20_Hands_Clear [(.t 168),(.t 170)],none,3,[]⟩,
  ⟨some 12,.move (.t 171),none,4,[]⟩])) (RC.seq (RC.region 2 [
  ⟨some 173,.bin .eql (.t 69) (.c (.s (.int .i64 7))),none,0,[]⟩,
  ⟨some 172,.move (.t 173),none,1,[]⟩]) (RC.cond (.t 172) (RC.seq (RC.region 11 [
  ⟨some 175,.move (.t 5),none,0,[]⟩,
  ⟨some 176,.fieldAddr 2 (.t 10),none,1,[]⟩,
  ⟨some 177,.load none (.t 176),none,2,[]⟩,
  ⟨some 178,.fieldAddr 1 (.t 10),none,3,[]⟩,
  ⟨some 179,.load none (.t 178),none,4,[]⟩,
  ⟨some 180,.call F.cyc_Hands_Wait [(.t 175),(.t 177),(.t 179)],none,5,[]⟩,
  ⟨some 174,.move (.t 180),none,6,[]⟩,
  ⟨some 181,.extract 0 (.t 174),none,7,[]⟩,
  ⟨some 182,.extract 1 (.t 174),none,8,[]⟩,
  ⟨some 23,.move (.t 181),none,9,[]⟩,
  ⟨some 24,.move (.t 182),none,10,[]⟩]) (RC.seq (RC.region 11 [
  ⟨some 184,.move (.t 7),none,0,[]⟩,
  ⟨some 185,.fieldAddr 2 (.t 10),none,1,[]⟩,
  ⟨some 186,.load none (.t 185),none,2,[]⟩,
  ⟨some 187,.fieldAddr 1 (.t 10),none,3,[]⟩,
  ⟨some 188,.load none (.t 187),none,4,[]⟩,
  ⟨some 189,.call F.detentref20_Hands_Wait [(.t 184),(.t 186),(.t 188)],none,5,[]⟩,
  ⟨some 183,.move (.t 189),none,6,[]⟩,
  ⟨some 190,.extract 0 (.t 183),none,7,[]⟩,
  ⟨some 191,.extract 1 (.t 183),none,8,[]⟩,
  ⟨some 25,.move (.t 190),none,9,[]⟩,
  ⟨some 26,.move (.t 191),none,10,[]⟩]) (RC.region 8 [
  ⟨some 192,.move (.t 23),none,0,[]⟩,
  ⟨some 193,.move (.t 25),none,1,[]⟩,
  ⟨some 194,.move (.t 24),none,2,[]⟩,
  ⟨some 195,.move (.t 26),none,3,[]⟩,
  ⟨some 13,.move (.t 192),none,4,[]⟩,
  ⟨some 14,.move (.t 193),none,5,[]⟩,
  ⟨some 11,.move (.t 194),none,6,[]⟩,
  ⟨some 12,.move (.t 195),none,7,[]⟩]))) (RC.seq (RC.region 2 [
  ⟨some 197,.bin .eql (.t 69) (.c (.s (.int .i64 8))),none,0,[]⟩,
  ⟨some 196,.move (.t 197),none,1,[]⟩]) (RC.cond (.t 196) (RC.seq (RC.region 7 [
  ⟨some 199,.move (.t 5),none,0,[]⟩,
  ⟨some 200,.call F.cyc_Hands_Pass [(.t 199)],none,1,[]⟩,
  ⟨some 198,.move (.t 200),none,2,[]⟩,
  ⟨some 201,.extract 0 (.t 198),none,3,[]⟩,
  ⟨some 202,.extract 1 (.t 198),none,4,[]⟩,
  ⟨some 27,.move (.t 201),none,5,[]⟩,
  ⟨some 28,.move (.t 202),none,6,[]⟩]) (RC.seq (RC.region 7 [
  ⟨some 204,.move (.t 7),none,0,[]⟩,
  ⟨some 205,.call F.detentref20_Hands_Pass [(.t 204)],none,1,[]⟩,
  ⟨some 203,.move (.t 205),none,2,[]⟩,
  ⟨some 206,.extract 0 (.t 203),none,3,[]⟩,
  ⟨some 207,.extract 1 (.t 203),none,4,[]⟩,
  ⟨some 29,.move (.t 206),none,5,[]⟩,
  ⟨some 30,.move (.t 207),none,6,[]⟩]) (RC.seq (RC.region 10 [
  ⟨some 208,.move (.t 27),none,0,[]⟩,
  ⟨some 209,.move (.t 29),none,1,[]⟩,
  ⟨some 210,.call F.detentlaw20_Fired [(.t 208),(.t 209)],none,2,[]⟩,
  ⟨some 211,.un .not (.t 210),none,3,[]⟩,
  ⟨some 212,.move (.t 211),none,4,[]⟩,
  ⟨some 213,.move (.t 28),(some (212,false)),5,[]⟩,
  ⟨some 214,.move (.t 30),(some (212,false)),6,[]⟩,
  ⟨some 215,.call F.detentlaw3_Same [(.t 213),(.t 214)],(some (212,false)),7,[]⟩,
  ⟨some 216,.un .not (.t 215),(some (212,false)),8,[]⟩,
  ⟨some 217,.pick (.t 212) (.c (.s (.bool true))) (.t 216),none,9,[]⟩]) (RC.cond (.t 217) (RC.seq (RC.region 1 [
  ⟨some 4,.move (.c (.s (.bool false))),none,0,[]⟩]) (RC.ret)) (RC.skip))))) (RC.seq (RC.region 2 [
  ⟨some 219,.bin .eql (.t 69) (.c (.s (.int .i64 9))),none,0,[]⟩,
  ⟨some 218,.move (.t 219),none,1,[]⟩]) (RC.cond (.t 218) (RC.seq (RC.region 21 [
  ⟨some 220,.move (.t 5),none,0,[]⟩,
  ⟨some 221,.nilCheck (.t 220),none,1,[]⟩,
  ⟨some 222,.fieldAddr 0 (.t 221),none,2,[]⟩,
  ⟨some 223,.load none (.t 222),none,3,[]⟩,
  ⟨some 224,.nilCheck (.t 223),none,4,[]⟩,
  ⟨some 225,.fieldAddr 0 (.t 224),none,5,[]⟩,
  ⟨some 226,.load none (.t 225),none,6,[]⟩,
  ⟨some 227,.fieldAddr 1 (.t 10),none,7,[]⟩,
  ⟨some 228,.load none (.t 227),none,8,[]⟩,
  ⟨some 230,.move (.t 7),none,10,[]⟩,
  ⟨some 231,.nilCheck (.t 230),none,11,[]⟩,
  ⟨some 232,.fieldAddr 0 (.t 231),none,12,[]⟩,
  ⟨some 233,.load none (.t 232),none,13,[]⟩,
  ⟨some 234,.nilCheck (.t 233),none,14,[]⟩,
  ⟨some 235,.fieldAddr 0 (.t 234),none,15,[]⟩,
  ⟨some 236,.load none (.t 235),none,16,[]⟩,
  ⟨some 237,.fieldAddr 1 (.t 10),none,17,[]⟩,
  ⟨some 238,.load none (.t 237),none,18,[]⟩,
  ⟨some 229,.call F.heap_Timers_Cancel [(.t 226),(.t 228)],none,9,[⟨233,none,(.t 232),none⟩,⟨236,none,(.t 235),none⟩,⟨238,none,(.t 237),none⟩]⟩,
  ⟨some 239,.call F.detentref7_Timers_Cancel [(.t 236),(.t 238)],none,19,[]⟩,
  ⟨some 240,.eqs .bool true (.t 229) (.t 239),none,20,[]⟩]) (RC.cond (.t 240) (RC.seq (RC.region 1 [
  ⟨some 4,.move (.c (.s (.bool false))),none,0,[]⟩]) (RC.ret)) (RC.skip))) (RC.skip))))))))))))))))))))) R.detentlaw20_HandPlays_s0))))))) R.detentlaw20_HandPlays_s1)
def detentlaw20_HandPlays_s3 : RC :=
  RC.seq (RC.region 1 [
  ⟨some 4,.move (.c (.s (.bool true))),none,0,[]⟩]) (RC.ret)
def detentlaw20_HandPlays : RFunc := RFunc.mk 299 [.tmp 4] (
  RC.seq (RC.region 1 [
  ⟨some 4,.move (.c (.s (.bool false))),none,0,[]⟩]) (RC.seq (RC.seq (RC.region 2 [
  ⟨some 31,.call F.detentlaw20_known [],none,0,[]⟩,
  ⟨some 32,.un .not (.t 31),none,1,[]⟩]) (RC.cond (.t 32) (RC.seq (RC.region 1 [
  ⟨some 4,.move (.c (.s (.bool false))),none,0,[]⟩]) (RC.ret)) (RC.skip))) (RC.seq (RC.seq (RC.region 3 [
  ⟨some 33,.move (.t 1),none,0,[]⟩,
  ⟨some 34,.len (.t 33),none,1,[]⟩,
  ⟨some 35,.bin .gtr (.t 34) (.c (.s (.int .i64 80))),none,2,[]⟩]) (RC.cond (.t 35) (RC.seq (RC.region 1 [
  ⟨some 4,.move (.c (.s (.bool true))),none,0,[]⟩]) (RC.ret)) (RC.skip))) (RC.seq (RC.region 7 [
  ⟨some 37,.move (.t 0),none,0,[]⟩,
  ⟨some 38,.call F.cyc_NewHands [(.t 37)],none,1,[]⟩,
  ⟨some 36,.move (.t 38),none,2,[]⟩,
  ⟨some 39,.extract 0 (.t 36),none,3,[]⟩,
  ⟨some 40,.extract 1 (.t 36),none,4,[]⟩,
  ⟨some 5,.move (.t 39),none,5,[]⟩,
  ⟨some 6,.move (.t 40),none,6,[]⟩]) (RC.seq (RC.region 7 [
  ⟨some 42,.move (.t 0),none,0,[]⟩,
  ⟨some 43,.call F.detentref20_New [(.t 42)],none,1,[]⟩,
  ⟨some 41,.move (.t 43),none,2,[]⟩,
  ⟨some 44,.extract 0 (.t 41),none,3,[]⟩,
  ⟨some 45,.extract 1 (.t 41),none,4,[]⟩,
  ⟨some 7,.move (.t 44),none,5,[]⟩,
  ⟨some 8,.move (.t 45),none,6,[]⟩]) (RC.seq (RC.seq (RC.region 10 [
  ⟨some 46,.move (.t 6),none,0,[]⟩,
  ⟨some 47,.move (.t 8),none,1,[]⟩,
  ⟨some 48,.bin .neq (.t 46) (.t 47),none,2,[]⟩,
  ⟨some 49,.move (.t 48),none,3,[]⟩,
  ⟨some 50,.move (.t 5),(some (49,false)),4,[]⟩,
  ⟨some 51,.eqs .ptr false (.t 50) (.c (.s (.ptr none))),(some (49,false)),5,[]⟩,
  ⟨some 52,.move (.t 8),(some (49,false)),6,[]⟩,
  ⟨some 53,.bin .neq (.t 52) (.c (.s (.int .i64 0))),(some (49,false)),7,[]⟩,
  ⟨some 54,.eqs .bool true (.t 51) (.t 53),(some (49,false)),8,[]⟩,
  ⟨some 55,.pick (.t 49) (.c (.s (.bool true))) (.t 54),none,9,[]⟩]) (RC.cond (.t 55) (RC.seq (RC.region 1 [
  ⟨some 4,.move (.c (.s (.bool false))),none,0,[]⟩]) (RC.ret)) (RC.skip))) (RC.seq (RC.seq (RC.region 2 [
  ⟨some 56,.move (.t 7),none,0,[]⟩,
  ⟨some 57,.eqs .ptr false (.t 56) (.c (.s (.ptr none))),none,1,[]⟩]) (RC.cond (.t 57) (RC.seq (RC.region 1 [
  ⟨some 4,.move (.c (.s (.bool true))),none,0,[]⟩]) (RC.ret)) (RC.skip))) (RC.seq (RC.seq (RC.region 1 [
  ⟨some 9,.move (.c (.s (.int .i64 0))),none,0,[]⟩]) (RC.block 0 (RC.loop R.detentlaw20_HandPlays_l2))) R.detentlaw20_HandPlays_s3))))))))
theorem detentlaw20_HandPlays_ok : chkFunc Go.Proofs.Try.prog [] Go.Proofs.Try.f8 detentlaw20_HandPlays = true := by kernel_rfl
def detentlaw20_Fired_l0 : RC :=
  RC.seq (RC.seq (RC.region 4 [
  ⟨some 11,.move (.t 5),none,0,[]⟩,
  ⟨some 12,.move (.t 0),none,1,[]⟩,
  ⟨some 13,.len (.t 12),none,2,[]⟩,
  ⟨some 14,.bin .lss (.t 11) (.t 13),none,3,[]⟩]) (RC.cond (.t 14) (RC.skip) (RC.exit 0))) (RC.seq (RC.block 1 (RC.seq (RC.region 37 [
  ⟨some 17,.move (.t 0),none,0,[]⟩,
  ⟨some 18,.move (.t 5),none,1,[]⟩,
  ⟨some 19,.indexSl 3 (.t 17) (.t 18),none,2,[]⟩,
  ⟨some 20,.fieldAddr 0 (.t 19),none,3,[]⟩,
  ⟨some 21,.load none (.t 20),none,4,[]⟩,
  ⟨some 22,.move (.t 1),none,5,[]⟩,
  ⟨some 23,.move (.t 5),none,6,[]⟩,
  ⟨some 24,.indexSl 3 (.t 22) (.t 23),none,7,[]⟩,
  ⟨some 25,.fieldAddr 0 (.t 24),none,8,[]⟩,
  ⟨some 26,.load none (.t 25),none,9,[]⟩,
  ⟨some 27,.eqs .bool true (.t 21) (.t 26),none,10,[]⟩,
  ⟨some 28,.move (.t 27),none,11,[]⟩,
  ⟨some 29,.move (.t 0),(some (28,false)),12,[]⟩,
  ⟨some 30,.move (.t 5),(some (28,false)),13,[]⟩,
  ⟨some 31,.indexSl 3 (.t 29) (.t 30),(some (28,false)),14,[]⟩,
  ⟨some 32,.fieldAddr 1 (.t 31),(some (28,false)),15,[]⟩,
  ⟨some 33,.load none (.t 32),(some (28,false)),16,[]⟩,
  ⟨some 34,.move (.t 1),(some (28,false)),17,[]⟩,
  ⟨some 35,.move (.t 5),(some (28,false)),18,[]⟩,
  ⟨some 36,.indexSl 3 (.t 34) (.t 35),(some (28,false)),19,[]⟩,
  ⟨some 37,.fieldAddr 1 (.t 36),(some (28,false)),20,[]⟩,
  ⟨some 38,.load none (.t 37),(some (28,false)),21,[]⟩,
  ⟨some 39,.bin .neq (.t 33) (.t 38),(some (28,false)),22,[]⟩,
  ⟨some 40,.pick (.t 28) (.c (.s (.bool true))) (.t 39),none,23,[]⟩,
  ⟨some 41,.move (.t 40),none,24,[]⟩,
  ⟨some 42,.move (.t 0),(some (41,false)),25,[]⟩,
  ⟨some 43,.move (.t 5),(some (41,false)),26,[]⟩,
  ⟨some 44,.indexSl 3 (.t 42) (.t 43),(some (41,false)),27,[]⟩,
  ⟨some 45,.fieldAddr 2 (.t 44),(some (41,false)),28,[]⟩,
  ⟨some 46,.load none (.t 45),(some (41,false)),29,[]⟩,
  ⟨some 47,.move (.t 1),(some (41,false)),30,[]⟩,
  ⟨some 48,.move (.t 5),(some (41,false)),31,[]⟩,
  ⟨some 49,.indexSl 3 (.t 47) (.t 48),(some (41,false)),32,[]⟩,
  ⟨some 50,.fieldAddr 2 (.t 49),(some (41,false)),33,[]⟩,
  ⟨some 51,.load none (.t 50),(some (41,false)),34,[]⟩,
  ⟨some 52,.bin .neq (.t 46) (.t 51),(some (41,false)),35,[]⟩,
  ⟨some 53,.pick (.t 41) (.c (.s (.bool true))) (.t 52),none,36,[]⟩]) (RC.cond (.t 53) (RC.seq (RC.region 1 [
  ⟨some 4,.move (.c (.s (.bool false))),none,0,[]⟩]) (RC.ret)) (RC.skip)))) (RC.region 3 [
  ⟨some 15,.move (.t 5),none,0,[]⟩,
  ⟨some 16,.bin .add (.t 15) (.c (.s (.int .i64 1))),none,1,[]⟩,
  ⟨some 5,.move (.t 16),none,2,[]⟩]))
def detentlaw20_Fired_s1 : RC :=
  RC.seq (RC.region 1 [
  ⟨some 4,.move (.c (.s (.bool true))),none,0,[]⟩]) (RC.ret)
def detentlaw20_Fired : RFunc := RFunc.mk 54 [.tmp 4] (
  RC.seq (RC.region 1 [
  ⟨some 4,.move (.c (.s (.bool false))),none,0,[]⟩]) (RC.seq (RC.seq (RC.region 5 [
  ⟨some 6,.move (.t 0),none,0,[]⟩,
  ⟨some 7,.len (.t 6),none,1,[]⟩,
  ⟨some 8,.move (.t 1),none,2,[]⟩,
  ⟨some 9,.len (.t 8),none,3,[]⟩,
  ⟨some 10,.bin .neq (.t 7) (.t 9),none,4,[]⟩]) (RC.cond (.t 10) (RC.seq (RC.region 1 [
  ⟨some 4,.move (.c (.s (.bool false))),none,0,[]⟩]) (RC.ret)) (RC.skip))) (RC.seq (RC.seq (RC.region 1 [
  ⟨some 5,.move (.c (.s (.int .i64 0))),none,0,[]⟩]) (RC.block 0 (RC.loop R.detentlaw20_Fired_l0))) R.detentlaw20_Fired_s1)))
theorem detentlaw20_Fired_ok : chkFunc Go.Proofs.Try.prog [] Go.Proofs.Try.f29 detentlaw20_Fired = true := by kernel_rfl
def detentlaw3_Same_l0 : RC :=
  RC.seq (RC.seq (RC.region 4 [
  ⟨some 11,.move (.t 5),none,0,[]⟩,
  ⟨some 12,.move (.t 0),none,1,[]⟩,
  ⟨some 13,.len (.t 12),none,2,[]⟩,
  ⟨some 14,.bin .lss (.t 11) (.t 13),none,3,[]⟩]) (RC.cond (.t 14) (RC.skip) (RC.exit 0))) (RC.seq (RC.block 1 (RC.seq (RC.region 9 [
  ⟨some 17,.move (.t 0),none,0,[]⟩,
  ⟨some 18,.move (.t 5),none,1,[]⟩,
  ⟨some 19,.indexSl 1 (.t 17) (.t 18),none,2,[]⟩,
  ⟨some 20,.load none (.t 19),none,3,[]⟩,
  ⟨some 21,.move (.t 1),none,4,[]⟩,
  ⟨some 22,.move (.t 5),none,5,[]⟩,
  ⟨some 23,.indexSl 1 (.t 21) (.t 22),none,6,[]⟩,
  ⟨some 24,.load none (.t 23),none,7,[]⟩,
  ⟨some 25,.bin .neq (.t 20) (.t 24),none,8,[]⟩]) (RC.cond (.t 25) (RC.seq (RC.region 1 [
  ⟨some 4,.move (.c (.s (.bool false))),none,0,[]⟩]) (RC.ret)) (RC.skip)))) (RC.region 3 [
  ⟨some 15,.move (.t 5),none,0,[]⟩,
  ⟨some 16,.bin .add (.t 15) (.c (.s (.int .i64 1))),none,1,[]⟩,
  ⟨some 5,.move (.t 16),none,2,[]⟩]))
def detentlaw3_Same_s1 : RC :=
  RC.seq (RC.region 1 [
  ⟨some 4,.move (.c (.s (.bool true))),none,0,[]⟩]) (RC.ret)
def detentlaw3_Same : RFunc := RFunc.mk 26 [.tmp 4] (
  RC.seq (RC.region 1 [
  ⟨some 4,.move (.c (.s (.bool false))),none,0,[]⟩]) (RC.seq (RC.seq (RC.region 5 [
  ⟨some 6,.move (.t 0),none,0,[]⟩,
  ⟨some 7,.len (.t 6),none,1,[]⟩,
  ⟨some 8,.move (.t 1),none,2,[]⟩,
  ⟨some 9,.len (.t 8),none,3,[]⟩,
  ⟨some 10,.bin .neq (.t 7) (.t 9),none,4,[]⟩]) (RC.cond (.t 10) (RC.seq (RC.region 1 [
  ⟨some 4,.move (.c (.s (.bool false))),none,0,[]⟩]) (RC.ret)) (RC.skip))) (RC.seq (RC.seq (RC.region 1 [
  ⟨some 5,.move (.c (.s (.int .i64 0))),none,0,[]⟩]) (RC.block 0 (RC.loop R.detentlaw3_Same_l0))) R.detentlaw3_Same_s1)))
theorem detentlaw3_Same_ok : chkFunc Go.Proofs.Try.prog [] Go.Proofs.Try.f30 detentlaw3_Same = true := by kernel_rfl
def detentlaw20_known : RFunc := RFunc.mk 139 [.tmp 0] (
  RC.seq (RC.region 1 [
  ⟨some 0,.move (.c (.s (.bool false))),none,0,[]⟩]) (RC.seq (RC.region 6 [
  ⟨some 13,.call F.cyc_NewHands [(.c (.s (.int .i64 10)))],none,0,[]⟩,
  ⟨some 12,.move (.t 13),none,1,[]⟩,
  ⟨some 14,.extract 0 (.t 12),none,2,[]⟩,
  ⟨some 15,.extract 1 (.t 12),none,3,[]⟩,
  ⟨some 1,.move (.t 14),none,4,[]⟩,
  ⟨some 2,.move (.t 15),none,5,[]⟩]) (RC.seq (RC.seq (RC.region 23 [
  ⟨some 16,.move (.t 2),none,0,[]⟩,
  ⟨some 17,.bin .neq (.t 16) (.c (.s (.int .i64 0))),none,1,[]⟩,
  ⟨some 18,.move (.t 17),none,2,[]⟩,
  ⟨some 19,.move (.t 1),(some (18,false)),3,[]⟩,
  ⟨some 20,.eqs .ptr false (.t 19) (.c (.s (.ptr none))),(some (18,false)),4,[]⟩,
  ⟨some 21,.pick (.t 18) (.c (.s (.bool true))) (.t 20),none,5,[]⟩,
  ⟨some 22,.move (.t 21),none,6,[]⟩,
  ⟨some 23,.move (.t 1),(some (22,false)),7,[]⟩,
  ⟨some 24,.nilCheck (.t 23),(some (22,false)),8,[]⟩,
  ⟨some 25,.fieldAddr 0 (.t 24),(some (22,false)),9,[]⟩,
  ⟨some 26,.load none (.t 25),(some (22,false)),10,[]⟩,
  ⟨some 27,.eqs .ptr false (.t 26) (.c (.s (.ptr none))),(some (22,false)),11,[]⟩,
  ⟨some 28,.pick (.t 22) (.c (.s (.bool true))) (.t 27),none,12,[]⟩,
  ⟨some 29,.move (.t 28),none,13,[]⟩,
  ⟨some 30,.move (.t 1),(some (29,false)),14,[]⟩,
  ⟨some 31,.nilCheck (.t 30),(some (29,false)),15,[]⟩,
  ⟨some 32,.fieldAddr 0 (.t 31),(some (29,false)),16,[]⟩,
  ⟨some 33,.load none (.t 32),(some (29,false)),17,[]⟩,
  ⟨some 34,.nilCheck (.t 33),(some (29,false)),18,[]⟩,
  ⟨some 35,.fieldAddr 0 (.t 34),(some (29,false)),19,[]⟩,
  ⟨some 36,.load none (.t 35),(some (29,false)),20,[]⟩,
  ⟨some 37,.eqs .ptr false (.t 36) (.c (.s (.ptr none))),(some (29,false)),21,[]⟩,
  ⟨some 38,.pick (.t 29) (.c (.s (.bool true))) (.t 37),none,22,[]⟩]) (RC.cond (.t 38) (RC.seq (RC.region 1 [
  ⟨some 0,.move (.c (.s (.bool false))),none,0,[]⟩]) (RC.ret)) (RC.skip))) (RC.seq (RC.region 7 [
  ⟨some 40,.move (.t 1),none,0,[]⟩,
  ⟨some 41,.call F.cyc_Hands_Cyclic [(.t 40),(.c (.s (.int .i64 20))),(.c (.s (.int .i64 5))),(.c (.s (.bool true))),(.c (.s (.bool false)))],none,1,[]⟩,
  ⟨some 39,.move (.t 41),none,2,[]⟩,
  ⟨some 42,.extract 0 (.t 39),none,3,[]⟩,
  ⟨some 43,.extract 1 (.t 39),none,4,[]⟩,
  ⟨some 3,.move (.t 42),none,5,[]⟩,
  ⟨some 4,.move (.t 43),none,6,[]⟩]) (RC.seq (RC.region 7 [
  ⟨some 45,.move (.t 1),none,0,[]⟩,
  ⟨some 46,.call F.cyc_Hands_Alarm [(.t 45)],none,1,[]⟩,
  ⟨some 44,.move (.t 46),none,2,[]⟩,
  ⟨some 47,.extract 0 (.t 44),none,3,[]⟩,
  ⟨some 48,.extract 1 (.t 44),none,4,[]⟩,
  ⟨some 5,.move (.t 47),none,5,[]⟩,
  ⟨some 6,.move (.t 48),none,6,[]⟩]) (RC.seq (RC.region 3 [
  ⟨some 49,.move (.t 1),none,0,[]⟩,
  ⟨some 50,.call F.cyc_Hands_Set [(.t 49),(.c (.s (.int .i64 1))),(.c (.s (.int .i64 0)))],none,1,[]⟩,
  ⟨some 7,.move (.t 50),none,2,[]⟩]) (RC.seq (RC.region 7 [
  ⟨some 52,.move (.t 1),none,0,[]⟩,
  ⟨some 53,.call F.cyc_Hands_Wait [(.t 52),(.c (.s (.int .i64 0))),(.c (.s (.int .i64 7)))],none,1,[]⟩,
  ⟨some 51,.move (.t 53),none,2,[]⟩,
  ⟨some 54,.extract 0 (.t 51),none,3,[]⟩,
  ⟨some 55,.extract 1 (.t 51),none,4,[]⟩,
  ⟨some 8,.move (.t 54),none,5,[]⟩,
  ⟨some 9,.move (.t 55),none,6,[]⟩]) (RC.seq (RC.region 7 [
  ⟨some 57,.move (.t 1),none,0,[]⟩,
  ⟨some 58,.call F.cyc_Hands_Pass [(.t 57)],none,1,[]⟩,
  ⟨some 56,.move (.t 58),none,2,[]⟩,
  ⟨some 59,.extract 0 (.t 56),none,3,[]⟩,
  ⟨some 60,.extract 1 (.t 56),none,4,[]⟩,
  ⟨some 10,.move (.t 59),none,5,[]⟩,
  ⟨some 11,.move (.t 60),none,6,[]⟩]) (RC.seq (RC.region 79 [
  ⟨some 61,.move (.t 4),none,0,[]⟩,
  ⟨some 62,.move (.t 6),none,1,[]⟩,
  ⟨some 63,.bin .add (.t 61) (.t 62),none,2,[]⟩,
  ⟨some 64,.move (.t 7),none,3,[]⟩,
  ⟨some 65,.bin .add (.t 63) (.t 64),none,4,[]⟩,
  ⟨some 66,.move (.t 9),none,5,[]⟩,
  ⟨some 67,.bin .add (.t 65) (.t 66),none,6,[]⟩,
  ⟨some 68,.bin .eql (.t 67) (.c (.s (.int .i64 0))),none,7,[]⟩,
  ⟨some 69,.move (.t 68),none,8,[]⟩,
  ⟨some 70,.move (.t 3),(some (69,true)),9,[]⟩,
  ⟨some 71,.bin .eql (.t 70) (.c (.s (.int .i64 1))),(some (69,true)),10,[]⟩,
  ⟨some 72,.pick (.t 69) (.t 71) (.c (.s (.bool false))),none,11,[]⟩,
  ⟨some 73,.move (.t 72),none,12,[]⟩,
  ⟨some 74,.move (.t 5),(some (73,true)),13,[]⟩,
  ⟨some 75,.bin .eql (.t 74) (.c (.s (.int .i64 1))),(some (73,true)),14,[]⟩,
  ⟨some 76,.pick (.t 73) (.t 75) (.c (.s (.bool false))),none,15,[]⟩,
  ⟨some 77,.move (.t 76),none,16,[]⟩,
  ⟨some 78,.move (.t 10),(some (77,true)),17,[]⟩,
  ⟨some 79,.len (.t 78),(some (77,true)),18,[]⟩,
  ⟨some 80,.bin .eql (.t 79) (.c (.s (.int .i64 2))),(some (77,true)),19,[]⟩,
  ⟨some 81,.pick (.t 77) (.t 80) (.c (.s (.bool false))),none,20,[]⟩,
  ⟨some 82,.move (.t 81),none,21,[]⟩,
  ⟨some 83,.move (.t 10),(some (82,true)),22,[]⟩,
  ⟨some 84,.indexSl 3 (.t 83) (.c (.s (.int .i64 0))),(some (82,true)),23,[]⟩,
  ⟨some 85,.fieldAddr 0 (.t 84),(some (82,true)),24,[]⟩,
  ⟨some 86,.load none (.t 85),(some (82,true)),25,[]⟩,
  ⟨some 87,.pick (.t 82) (.t 86) (.c (.s (.bool false))),none,26,[]⟩,
  ⟨some 88,.move (.t 87),none,27,[]⟩,
  ⟨some 89,.move (.t 10),(some (88,true)),28,[]⟩,
  ⟨some 90,.indexSl 3 (.t 89) (.c (.s (.int .i64 0))),(some (88,true)),29,[]⟩,
  ⟨some 91,.fieldAddr 2 (.t 90),(some (88,true)),30,[]⟩,
  ⟨some 92,.load none (.t 91),(some (88,true)),31,[]⟩,
  ⟨some 93,.bin .eql (.t 92) (.c (.s (.int .u64 5))),(some (88,true)),32,[]⟩,
  ⟨some 94,.pick (.t 88) (.t 93) (.c (.s (.bool false))),none,33,[]⟩,
  ⟨some 95,.move (.t 94),none,34,[]⟩,
  ⟨some 96,.move (.t 10),(some (95,true)),35,[]⟩,
  ⟨some 97,.indexSl 3 (.t 96) (.c (.s (.int .i64 1))),(some (95,true)),36,[]⟩,
  ⟨some 98,.fieldAddr 0 (.t 97),(some (95,true)),37,[]⟩,
  ⟨some 99,.load none (.t 98),(some (95,true)),38,[]⟩,
  ⟨some 100,.un .not (.t 99),(some (95,true)),39,[]⟩,
  ⟨some 101,.pick (.t 95) (.t 100) (.c (.s (.bool false))),none,40,[]⟩,
  ⟨some 102,.move (.t 101),none,41,[]⟩,
  ⟨some 103,.move (.t 10),(some (102,true)),42,[]⟩,
  ⟨some 104,.indexSl 3 (.t 103) (.c (.s (.int .i64 1))),(some (102,true)),43,[]⟩,
  ⟨some 105,.fieldAddr 2 (.t 104),(some (102,true)),44,[]⟩,
  ⟨some 106,.load none (.t 105),(some (102,true)),45,[]⟩,
  ⟨some 107,.bin .eql (.t 106) (.c (.s (.int .u64 10))),(some (102,true)),46,[]⟩,
  ⟨some 108,.pick (.t 102) (.t 107) (.c (.s (.bool false))),none,47,[]⟩,
  ⟨some 109,.move (.t 108),none,48,[]⟩,
  ⟨some 110,.move (.t 11),(some (109,true)),49,[]⟩,
  ⟨some 111,.len (.t 110),(some (109,true)),50,[]⟩,
  ⟨some 112,.bin .eql (.t 111) (.c (.s (.int .i64 1))),(some (109,true)),51,[]⟩,
  ⟨some 113,.pick (.t 109) (.t 112) (.c (.s (.bool false))),none,52,[]⟩,
  ⟨some 114,.move (.t 113),none,53,[]⟩,
  ⟨some 115,.move (.t 11),(some (114,true)),54,[]⟩,
  ⟨some 116,.indexSl 1 (.t 115) (.c (.s (.int .i64 0))),(some (114,true)),55,[]⟩,
  ⟨some 117,.load none (.t 116),(some (114,true)),56,[]⟩,
  ⟨some 118,.bin .eql (.t 117) (.c (.s (.int .i64 7))),(some (114,true)),57,[]⟩,
  ⟨some 119,.pick (.t 114) (.t 118) (.c (.s (.bool false))),none,58,[]⟩,
  ⟨some 120,.move (.t 119),none,59,[]⟩,
  ⟨some 121,.move (.t 1),(some (120,true)),60,[]⟩,
  ⟨some 122,.nilCheck (.t 121),(some (120,true)),61,[]⟩,
  ⟨some 123,.fieldAddr 0 (.t 122),(some (120,true)),62,[]⟩,
  ⟨some 124,.load none (.t 123),(some (120,true)),63,[]⟩,
  ⟨some 125,.call F.clock_Clock_Up [(.t 124)],(some (120,true)),64,[]⟩,
  ⟨some 126,.bin .eql (.t 125) (.c (.s (.int .u64 10))),(some (120,true)),65,[]⟩,
  ⟨some 127,.pick (.t 120) (.t 126) (.c (.s (.bool false))),none,66,[]⟩,
  ⟨some 128,.move (.t 127),none,67,[]⟩,
  ⟨some 129,.move (.t 1),(some (128,true)),68,[]⟩,
  ⟨some 130,.nilCheck (.t 129),(some (128,true)),69,[]⟩,
  ⟨some 131,.fieldAddr 0 (.t 130),(some (128,true)),70,[]⟩,
  ⟨some 132,.load none (.t 131),(some (128,true)),71,[]⟩,
  ⟨some 133,.nilCheck (.t 132),(some (128,true)),72,[]⟩,
  ⟨some 134,.fieldAddr 0 (.t 133),(some (128,true)),73,[]⟩,
  ⟨some 135,.load none (.t 134),(some (128,true)),74,[]⟩,
  ⟨some 136,.call F.heap_Timers_Len [(.t 135)],(some (128,true)),75,[]⟩,
  ⟨some 137,.bin .eql (.t 136) (.c (.s (.int .i64 0))),(some (128,true)),76,[]⟩,
  ⟨some 138,.pick (.t 128) (.t 137) (.c (.s (.bool false))),none,77,[]⟩,
  ⟨some 0,.move (.t 138),none,78,[]⟩]) (RC.ret))))))))))
theorem detentlaw20_known_ok : chkFunc Go.Proofs.Try.prog [] Go.Proofs.Try.f9 detentlaw20_known = true := by kernel_rfl
def cyc_NewHands : RFunc := RFunc.mk 19 [.tmp 2,.tmp 3] (
  RC.seq (RC.region 2 [
  ⟨some 2,.move (.c (.s (.ptr none))),none,0,[]⟩,
  ⟨some 3,.move (.c (.s (.int .i64 0))),none,1,[]⟩]) (RC.seq (RC.region 7 [
  ⟨some 7,.move (.t 0),none,0,[]⟩,
  ⟨some 8,.call F.clock_NewClock [(.t 7)],none,1,[]⟩,
  ⟨some 6,.move (.t 8),none,2,[]⟩,
  ⟨some 9,.extract 0 (.t 6),none,3,[]⟩,
  ⟨some 10,.extract 1 (.t 6),none,4,[]⟩,
  ⟨some 4,.move (.t 9),none,5,[]⟩,
  ⟨some 5,.move (.t 10),none,6,[]⟩]) (RC.seq (RC.seq (RC.region 2 [
  ⟨some 11,.move (.t 5),none,0,[]⟩,
  ⟨some 12,.bin .neq (.t 11) (.c (.s (.int .i64 0))),none,1,[]⟩]) (RC.cond (.t 12) (RC.seq (RC.region 3 [
  ⟨some 13,.move (.t 5),none,0,[]⟩,
  ⟨some 2,.move (.c (.s (.ptr none))),none,1,[]⟩,
  ⟨some 3,.move (.t 13),none,2,[]⟩]) (RC.ret)) (RC.skip))) (RC.seq (RC.region 7 [
  ⟨some 14,.move (.t 4),none,0,[]⟩,
  ⟨some 15,.move (.t 0),none,1,[]⟩,
  ⟨some 16,.conv .u64 (.t 15),none,2,[]⟩,
  ⟨some 17,.build [.ptr none,.int .u64 0,.slice none 0 0 1,.slice none 0 0 1] [(0,1,(.t 14)),(1,1,(.t 16))],none,3,[]⟩,
  ⟨some 18,.box (.t 17),none,4,[]⟩,
  ⟨some 2,.move (.t 18),none,5,[]⟩,
  ⟨some 3,.move (.c (.s (.int .i64 0))),none,6,[]⟩]) (RC.ret)))))
theorem cyc_NewHands_ok : chkFunc Go.Proofs.Try.prog [] Go.Proofs.Try.f10 cyc_NewHands = true := by kernel_rfl
def cyc_Hands_Cyclic : RFunc := RFunc.mk 67 [.tmp 10,.tmp 11] (
  RC.seq (RC.region 2 [
  ⟨some 10,.move (.c (.s (.int .i64 0))),none,0,[]⟩,
  ⟨some 11,.move (.c (.s (.int .i64 0))),none,1,[]⟩]) (RC.seq (RC.region 7 [
  ⟨some 17,.move (.t 1),none,0,[]⟩,
  ⟨some 18,.call F.nums_Rel [(.t 17)],none,1,[]⟩,
  ⟨some 16,.move (.t 18),none,2,[]⟩,
  ⟨some 19,.extract 0 (.t 16),none,3,[]⟩,
  ⟨some 20,.extract 1 (.t 16),none,4,[]⟩,
  ⟨some 12,.move (.t 19),none,5,[]⟩,
  ⟨some 13,.move (.t 20),none,6,[]⟩]) (RC.seq (RC.region 7 [
  ⟨some 22,.move (.t 2),none,0,[]⟩,
  ⟨some 23,.call F.nums_Rel [(.t 22)],none,1,[]⟩,
  ⟨some 21,.move (.t 23),none,2,[]⟩,
  ⟨some 24,.extract 0 (.t 21),none,3,[]⟩,
  ⟨some 25,.extract 1 (.t 21),none,4,[]⟩,
  ⟨some 14,.move (.t 24),none,5,[]⟩,
  ⟨some 15,.move (.t 25),none,6,[]⟩]) (RC.seq (RC.block 0 (RC.seq (RC.region 7 [
  ⟨some 27,.move (.t 12),none,0,[]⟩,
  ⟨some 28,.bin .eql (.t 27) (.c (.s (.int .u64 0))),none,1,[]⟩,
  ⟨some 29,.move (.t 28),none,2,[]⟩,
  ⟨some 30,.move (.t 15),(some (29,false)),3,[]⟩,
  ⟨some 31,.bin .neq (.t 30) (.c (.s (.int .i64 0))),(some (29,false)),4,[]⟩,
  ⟨some 32,.pick (.t 29) (.c (.s (.bool true))) (.t 31),none,5,[]⟩,
  ⟨some 26,.move (.t 32),none,6,[]⟩]) (RC.cond (.t 26) (RC.seq (RC.region 2 [
  ⟨some 10,.move (.c (.s (.int .i64 0))),none,0,[]⟩,
  ⟨some 11,.move (.c (.s (.int .i64 (-17)))),none,1,[]⟩]) (RC.ret)) (RC.seq (RC.region 7 [
  ⟨some 34,.move (.t 0),none,0,[]⟩,
  ⟨some 35,.nilCheck (.t 34),none,1,[]⟩,
  ⟨some 36,.fieldAddr 2 (.t 35),none,2,[]⟩,
  ⟨some 37,.load none (.t 36),none,3,[]⟩,
  ⟨some 38,.len (.t 37),none,4,[]⟩,
  ⟨some 39,.bin .geq (.t 38) (.c (.s (.int .i64 8))),none,5,[]⟩,
  ⟨some 33,.move (.t 39),none,6,[]⟩]) (RC.cond (.t 33) (RC.seq (RC.region 2 [
  ⟨some 10,.move (.c (.s (.int .i64 0))),none,0,[]⟩,
  ⟨some 11,.move (.c (.s (.int .i64 (-33)))),none,1,[]⟩]) (RC.ret)) (RC.skip)))))) (RC.seq (RC.region 8 [
  ⟨some 40,.move (.t 14),none,0,[]⟩,
  ⟨some 41,.move (.t 0),none,1,[]⟩,
  ⟨some 42,.nilCheck (.t 41),none,2,[]⟩,
  ⟨some 43,.fieldAddr 0 (.t 42),none,3,[]⟩,
  ⟨some 44,.load none (.t 43),none,4,[]⟩,
  ⟨some 45,.call F.clock_Clock_Up [(.t 44)],none,5,[]⟩,
  ⟨some 46,.bin .add (.t 40) (.t 45),none,6,[]⟩,
  ⟨some 14,.move (.t 46),none,7,[]⟩]) (RC.seq (RC.region 16 [
  ⟨some 47,.move (.t 0),none,0,[]⟩,
  ⟨some 48,.move (.t 0),none,1,[]⟩,
  ⟨some 49,.nilCheck (.t 48),none,2,[]⟩,
  ⟨some 50,.fieldAddr 2 (.t 49),none,3,[]⟩,
  ⟨some 51,.load none (.t 50),none,4,[]⟩,
  ⟨some 52,.move (.t 14),none,5,[]⟩,
  ⟨some 53,.move (.t 14),none,6,[]⟩,
  ⟨some 54,.move (.t 12),none,7,[]⟩,
  ⟨some 55,.move (.t 3),none,8,[]⟩,
  ⟨some 56,.move (.t 4),none,9,[]⟩,
  ⟨some 57,.build [.int .u64 0,.int .u64 0,.int .u64 0,.bool false,.bool false] [(0,1,(.t 52)),(1,1,(.t 53)),(2,1,(.t 54)),(3,1,(.t 55)),(4,1,(.t 56))],none,10,[]⟩,
  ⟨some 58,.buildSlice 5 1 [.int .u64 0,.int .u64 0,.int .u64 0,.bool false,.bool false] [(0,5,(.t 57))],none,11,[]⟩,
  ⟨some 59,.append 5 32 (.t 51) (.t 58),none,12,[]⟩,
  ⟨some 60,.nilCheck (.t 47),none,13,[]⟩,
  ⟨some 61,.fieldAddr 2 (.t 60),none,14,[]⟩,
  ⟨none,.store 1 (.t 61) (.t 59),none,15,[]⟩]) (RC.seq (RC.region 7 [
  ⟨some 62,.move (.t 0),none,0,[]⟩,
  ⟨some 63,.nilCheck (.t 62),none,1,[]⟩,
  ⟨some 64,.fieldAddr 2 (.t 63),none,2,[]⟩,
  ⟨some 65,.load none (.t 64),none,3,[]⟩,
  ⟨some 66,.len (.t 65),none,4,[]⟩,
  ⟨some 10,.move (.t 66),none,5,[]⟩,
  ⟨some 11,.move (.c (.s (.int .i64 0))),none,6,[]⟩]) (RC.ret))))))))
theorem cyc_Hands_Cyclic_ok : chkFunc Go.Proofs.Try.prog [] Go.Proofs.Try.f11 cyc_Hands_Cyclic = true := by kernel_rfl
def cyc_Hands_Pass_l0 : RC :=
  RC.seq (RC.seq (RC.region 12 [
  ⟨some 35,.move (.t 8),none,0,[]⟩,
  ⟨some 36,.nilCheck (.t 35),none,1,[]⟩,
  ⟨some 37,.fieldAddr 3 (.t 36),none,2,[]⟩,
  ⟨some 38,.load none (.t 37),none,3,[]⟩,
  ⟨some 39,.move (.t 38),none,4,[]⟩,
  ⟨some 40,.move (.t 8),(some (39,true)),5,[]⟩,
  ⟨some 41,.nilCheck (.t 40),(some (39,true)),6,[]⟩,
  ⟨some 42,.fieldAddr 1 (.t 41),(some (39,true)),7,[]⟩,
  ⟨some 43,.load none (.t 42),(some (39,true)),8,[]⟩,
  ⟨some 44,.move (.t 5),(some (39,true)),9,[]⟩,
  ⟨some 45,.bin .leq (.t 43) (.t 44),(some (39,true)),10,[]⟩,
  ⟨some 46,.pick (.t 39) (.t 45) (.c (.s (.bool false))),none,11,[]⟩]) (RC.cond (.t 46) (RC.skip) (RC.exit 2))) (RC.seq (RC.block 3 (RC.region 11 [
  ⟨some 58,.move (.t 6),none,0,[]⟩,
  ⟨some 59,.move (.t 7),none,1,[]⟩,
  ⟨some 60,.bin .add (.t 59) (.c (.s (.int .i64 1))),none,2,[]⟩,
  ⟨some 61,.move (.t 8),none,3,[]⟩,
  ⟨some 62,.nilCheck (.t 61),none,4,[]⟩,
  ⟨some 63,.fieldAddr 1 (.t 62),none,5,[]⟩,
  ⟨some 64,.load none (.t 63),none,6,[]⟩,
  ⟨some 65,.build [.bool false,.int .i64 0,.int .u64 0] [(0,1,(.c (.s (.bool true)))),(1,1,(.t 60)),(2,1,(.t 64))],none,7,[]⟩,
  ⟨some 66,.buildSlice 3 1 [.bool false,.int .i64 0,.int .u64 0] [(0,3,(.t 65))],none,8,[]⟩,
  ⟨some 67,.append 3 24 (.t 58) (.t 66),none,9,[]⟩,
  ⟨some 6,.move (.t 67),none,10,[]⟩])) (RC.region 12 [
  ⟨some 47,.move (.t 8),none,0,[]⟩,
  ⟨some 48,.nilCheck (.t 47),none,1,[]⟩,
  ⟨some 49,.fieldAddr 1 (.t 48),none,2,[]⟩,
  ⟨some 50,.load none (.t 49),none,3,[]⟩,
  ⟨some 51,.move (.t 8),none,4,[]⟩,
  ⟨some 52,.nilCheck (.t 51),none,5,[]⟩,
  ⟨some 53,.fieldAddr 2 (.t 52),none,6,[]⟩,
  ⟨some 54,.load none (.t 53),none,7,[]⟩,
  ⟨some 55,.bin .add (.t 50) (.t 54),none,8,[]⟩,
  ⟨some 56,.nilCheck (.t 47),none,9,[]⟩,
  ⟨some 57,.fieldAddr 1 (.t 56),none,10,[]⟩,
  ⟨none,.store 1 (.t 57) (.t 55),none,11,[]⟩]))
def cyc_Hands_Pass_s1 : RC :=
  RC.region 2 [
  ⟨some 68,.bin .add (.t 26) (.c (.s (.int .i64 1))),none,0,[]⟩,
  ⟨some 26,.move (.t 68),none,1,[]⟩]
def cyc_Hands_Pass_l2 : RC :=
  RC.seq (RC.region 1 [
  ⟨some 27,.bin .lss (.t 26) (.t 25),none,0,[]⟩]) (RC.seq (RC.cond (.t 27) (RC.skip) (RC.exit 0)) (RC.seq (RC.block 1 (RC.seq (RC.region 2 [
  ⟨some 28,.move (.t 26),none,0,[]⟩,
  ⟨some 7,.move (.t 28),none,1,[]⟩]) (RC.seq (RC.region 7 [
  ⟨some 29,.move (.t 0),none,0,[]⟩,
  ⟨some 30,.nilCheck (.t 29),none,1,[]⟩,
  ⟨some 31,.fieldAddr 2 (.t 30),none,2,[]⟩,
  ⟨some 32,.load none (.t 31),none,3,[]⟩,
  ⟨some 33,.move (.t 7),none,4,[]⟩,
  ⟨some 34,.indexSl 5 (.t 32) (.t 33),none,5,[]⟩,
  ⟨some 8,.move (.t 34),none,6,[]⟩]) (RC.block 2 (RC.loop R.cyc_Hands_Pass_l0))))) R.cyc_Hands_Pass_s1))
def cyc_Hands_Pass_l3 : RC :=
  RC.seq (RC.region 1 [
  ⟨some 75,.bin .lss (.t 74) (.t 73),none,0,[]⟩]) (RC.seq (RC.cond (.t 75) (RC.skip) (RC.exit 4)) (RC.seq (RC.block 5 (RC.seq (RC.region 2 [
  ⟨some 76,.move (.t 74),none,0,[]⟩,
  ⟨some 9,.move (.t 76),none,1,[]⟩]) (RC.seq (RC.region 7 [
  ⟨some 77,.move (.t 0),none,0,[]⟩,
  ⟨some 78,.nilCheck (.t 77),none,1,[]⟩,
  ⟨some 79,.fieldAddr 3 (.t 78),none,2,[]⟩,
  ⟨some 80,.load none (.t 79),none,3,[]⟩,
  ⟨some 81,.move (.t 9),none,4,[]⟩,
  ⟨some 82,.indexSl 2 (.t 80) (.t 81),none,5,[]⟩,
  ⟨some 10,.move (.t 82),none,6,[]⟩]) (RC.seq (RC.region 12 [
  ⟨some 83,.move (.t 10),none,0,[]⟩,
  ⟨some 84,.nilCheck (.t 83),none,1,[]⟩,
  ⟨some 85,.fieldAddr 0 (.t 84),none,2,[]⟩,
  ⟨some 86,.load none (.t 85),none,3,[]⟩,
  ⟨some 87,.move (.t 86),none,4,[]⟩,
  ⟨some 88,.move (.t 10),(some (87,true)),5,[]⟩,
  ⟨some 89,.nilCheck (.t 88),(some (87,true)),6,[]⟩,
  ⟨some 90,.fieldAddr 1 (.t 89),(some (87,true)),7,[]⟩,
  ⟨some 91,.load none (.t 90),(some (87,true)),8,[]⟩,
  ⟨some 92,.move (.t 5),(some (87,true)),9,[]⟩,
  ⟨some 93,.bin .leq (.t 91) (.t 92),(some (87,true)),10,[]⟩,
  ⟨some 94,.pick (.t 87) (.t 93) (.c (.s (.bool false))),none,11,[]⟩]) (RC.cond (.t 94) (RC.seq (RC.region 11 [
  ⟨some 95,.move (.t 6),none,0,[]⟩,
  ⟨some 96,.move (.t 9),none,1,[]⟩,
  ⟨some 97,.bin .add (.t 96) (.c (.s (.int .i64 1))),none,2,[]⟩,
  ⟨some 98,.move (.t 10),none,3,[]⟩,
  ⟨some 99,.nilCheck (.t 98),none,4,[]⟩,
  ⟨some 100,.fieldAddr 1 (.t 99),none,5,[]⟩,
  ⟨some 101,.load none (.t 100),none,6,[]⟩,
  ⟨some 102,.build [.bool false,.int .i64 0,.int .u64 0] [(0,1,(.c (.s (.bool false)))),(1,1,(.t 97)),(2,1,(.t 101))],none,7,[]⟩,
  ⟨some 103,.buildSlice 3 1 [.bool false,.int .i64 0,.int .u64 0] [(0,3,(.t 102))],none,8,[]⟩,
  ⟨some 104,.append 3 24 (.t 95) (.t 103),none,9,[]⟩,
  ⟨some 6,.move (.t 104),none,10,[]⟩]) (RC.region 4 [
  ⟨some 105,.move (.t 10),none,0,[]⟩,
  ⟨some 106,.build [.bool false,.int .u64 0] [],none,1,[]⟩,
  ⟨some 107,.nilCheck (.t 105),none,2,[]⟩,
  ⟨none,.store 2 (.t 107) (.t 106),none,3,[]⟩])) (RC.skip)))))) (RC.region 2 [
  ⟨some 108,.bin .add (.t 74) (.c (.s (.int .i64 1))),none,0,[]⟩,
  ⟨some 74,.move (.t 108),none,1,[]⟩])))
def cyc_Hands_Pass_s4 : RC :=
  RC.seq (RC.region 2 [
  ⟨some 109,.move (.t 6),none,0,[]⟩,
  ⟨some 110,.call F.slices_SortStableFunc__cyc_Fired_cyc_Fired [(.t 109),(.c (.s (.fn F.cyc_order [])))],none,1,[]⟩]) (RC.seq (RC.region 5 [
  ⟨some 111,.move (.t 6),none,0,[]⟩,
  ⟨some 112,.call F.slices_Clip__cyc_Fired_cyc_Fired [(.t 111)],none,1,[]⟩,
  ⟨some 113,.move (.t 4),none,2,[]⟩,
  ⟨some 2,.move (.t 112),none,3,[]⟩,
  ⟨some 3,.move (.t 113),none,4,[]⟩]) (RC.ret))
def cyc_Hands_Pass_s5 : RC :=
  RC.seq (RC.seq (RC.region 6 [
  ⟨some 69,.move (.t 0),none,0,[]⟩,
  ⟨some 70,.nilCheck (.t 69),none,1,[]⟩,
  ⟨some 71,.fieldAddr 3 (.t 70),none,2,[]⟩,
  ⟨some 72,.load none (.t 71),none,3,[]⟩,
  ⟨some 73,.len (.t 72),none,4,[]⟩,
  ⟨some 74,.move (.c (.s (.int .i64 0))),none,5,[]⟩]) (RC.block 4 (RC.loop R.cyc_Hands_Pass_l3))) R.cyc_Hands_Pass_s4
def cyc_Hands_Pass : RFunc := RFunc.mk 114 [.tmp 2,.tmp 3] (
  RC.seq (RC.region 2 [
  ⟨some 2,.move (.c (.s (.slice none 0 0 1))),none,0,[]⟩,
  ⟨some 3,.move (.c (.s (.slice none 0 0 1))),none,1,[]⟩]) (RC.seq (RC.region 6 [
  ⟨some 11,.move (.t 0),none,0,[]⟩,
  ⟨some 12,.nilCheck (.t 11),none,1,[]⟩,
  ⟨some 13,.fieldAddr 0 (.t 12),none,2,[]⟩,
  ⟨some 14,.load none (.t 13),none,3,[]⟩,
  ⟨some 15,.call F.clock_Clock_Tick [(.t 14)],none,4,[]⟩,
  ⟨some 4,.move (.t 15),none,5,[]⟩]) (RC.seq (RC.region 6 [
  ⟨some 16,.move (.t 0),none,0,[]⟩,
  ⟨some 17,.nilCheck (.t 16),none,1,[]⟩,
  ⟨some 18,.fieldAddr 0 (.t 17),none,2,[]⟩,
  ⟨some 19,.load none (.t 18),none,3,[]⟩,
  ⟨some 20,.call F.clock_Clock_Up [(.t 19)],none,4,[]⟩,
  ⟨some 5,.move (.t 20),none,5,[]⟩]) (RC.seq (RC.region 1 [
  ⟨some 6,.move (.c (.s (.slice none 0 0 1))),none,0,[]⟩]) (RC.seq (RC.seq (RC.region 6 [
  ⟨some 21,.move (.t 0),none,0,[]⟩,
  ⟨some 22,.nilCheck (.t 21),none,1,[]⟩,
  ⟨some 23,.fieldAddr 2 (.t 22),none,2,[]⟩,
  ⟨some 24,.load none (.t 23),none,3,[]⟩,
  ⟨some 25,.len (.t 24),none,4,[]⟩,
  ⟨some 26,.move (.c (.s (.int .i64 0))),none,5,[]⟩]) (RC.block 0 (RC.loop R.cyc_Hands_Pass_l2))) R.cyc_Hands_Pass_s5)))))
theorem cyc_Hands_Pass_ok : chkFunc Go.Proofs.Try.prog [] Go.Proofs.Try.f12 cyc_Hands_Pass = true := by kernel_rfl
def cyc_Hands_Alarm : RFunc := RFunc.mk 25 [.tmp 2,.tmp 3] (
  RC.seq (RC.region 2 [
  ⟨some 2,.move (.c (.s (.int .i64 0))),none,0,[]⟩,
  ⟨some 3,.move (.c (.s (.int .i64 0))),none,1,[]⟩]) (RC.seq (RC.seq (RC.region 6 [
  ⟨some 4,.move (.t 0),none,0,[]⟩,
  ⟨some 5,.nilCheck (.t 4),none,1,[]⟩,
  ⟨some 6,.fieldAddr 3 (.t 5),none,2,[]⟩,
  ⟨some 7,.load none (.t 6),none,3,[]⟩,
  ⟨some 8,.len (.t 7),none,4,[]⟩,
  ⟨some 9,.bin .geq (.t 8) (.c (.s (.int .i64 8))),none,5,[]⟩]) (RC.cond (.t 9) (RC.seq (RC.region 2 [
  ⟨some 2,.move (.c (.s (.int .i64 0))),none,0,[]⟩,
  ⟨some 3,.move (.c (.s (.int .i64 (-33)))),none,1,[]⟩]) (RC.ret)) (RC.skip))) (RC.seq (RC.region 11 [
  ⟨some 10,.move (.t 0),none,0,[]⟩,
  ⟨some 11,.move (.t 0),none,1,[]⟩,
  ⟨some 12,.nilCheck (.t 11),none,2,[]⟩,
  ⟨some 13,.fieldAddr 3 (.t 12),none,3,[]⟩,
  ⟨some 14,.load none (.t 13),none,4,[]⟩,
  ⟨some 15,.build [.bool false,.int .u64 0] [],none,5,[]⟩,
  ⟨some 16,.buildSlice 2 1 [.bool false,.int .u64 0] [(0,2,(.t 15))],none,6,[]⟩,
  ⟨some 17,.append 2 16 (.t 14) (.t 16),none,7,[]⟩,
  ⟨some 18,.nilCheck (.t 10),none,8,[]⟩,
  ⟨some 19,.fieldAddr 3 (.t 18),none,9,[]⟩,
  ⟨none,.store 1 (.t 19) (.t 17),none,10,[]⟩]) (RC.seq (RC.region 7 [
  ⟨some 20,.move (.t 0),none,0,[]⟩,
  ⟨some 21,.nilCheck (.t 20),none,1,[]⟩,
  ⟨some 22,.fieldAddr 3 (.t 21),none,2,[]⟩,
  ⟨some 23,.load none (.t 22),none,3,[]⟩,
  ⟨some 24,.len (.t 23),none,4,[]⟩,
  ⟨some 2,.move (.t 24),none,5,[]⟩,
  ⟨some 3,.move (.c (.s (.int .i64 0))),none,6,[]⟩]) (RC.ret)))))
theorem cyc_Hands_Alarm_ok : chkFunc Go.Proofs.Try.prog [] Go.Proofs.Try.f13 cyc_Hands_Alarm = true := by kernel_rfl
def cyc_Hands_Set : RFunc := RFunc.mk 38 [.tmp 6] (
  RC.seq (RC.region 1 [
  ⟨some 6,.move (.c (.s (.int .i64 0))),none,0,[]⟩]) (RC.seq (RC.region 4 [
  ⟨some 10,.move (.t 0),none,0,[]⟩,
  ⟨some 11,.move (.t 1),none,1,[]⟩,
  ⟨some 12,.call F.cyc_Hands_alarm [(.t 10),(.t 11)],none,2,[]⟩,
  ⟨some 7,.move (.t 12),none,3,[]⟩]) (RC.seq (RC.seq (RC.region 2 [
  ⟨some 13,.move (.t 7),none,0,[]⟩,
  ⟨some 14,.eqs .ptr false (.t 13) (.c (.s (.ptr none))),none,1,[]⟩]) (RC.cond (.t 14) (RC.seq (RC.region 1 [
  ⟨some 6,.move (.c (.s (.int .i64 (-18)))),none,0,[]⟩]) (RC.ret)) (RC.skip))) (RC.seq (RC.region 7 [
  ⟨some 16,.move (.t 2),none,0,[]⟩,
  ⟨some 17,.call F.nums_Rel [(.t 16)],none,1,[]⟩,
  ⟨some 15,.move (.t 17),none,2,[]⟩,
  ⟨some 18,.extract 0 (.t 15),none,3,[]⟩,
  ⟨some 19,.extract 1 (.t 15),none,4,[]⟩,
  ⟨some 8,.move (.t 18),none,5,[]⟩,
  ⟨some 9,.move (.t 19),none,6,[]⟩]) (RC.seq (RC.seq (RC.region 2 [
  ⟨some 20,.move (.t 9),none,0,[]⟩,
  ⟨some 21,.bin .neq (.t 20) (.c (.s (.int .i64 0))),none,1,[]⟩]) (RC.cond (.t 21) (RC.seq (RC.region 2 [
  ⟨some 22,.move (.t 9),none,0,[]⟩,
  ⟨some 6,.move (.t 22),none,1,[]⟩]) (RC.ret)) (RC.skip))) (RC.seq (RC.region 16 [
  ⟨some 23,.move (.t 7),none,0,[]⟩,
  ⟨some 24,.move (.t 0),none,1,[]⟩,
  ⟨some 25,.nilCheck (.t 24),none,2,[]⟩,
  ⟨some 26,.fieldAddr 0 (.t 25),none,3,[]⟩,
  ⟨some 27,.load none (.t 26),none,4,[]⟩,
  ⟨some 29,.move (.t 8),none,6,[]⟩,
  ⟨some 31,.move (.t 0),none,8,[]⟩,
  ⟨some 32,.nilCheck (.t 31),none,9,[]⟩,
  ⟨some 33,.fieldAddr 1 (.t 32),none,10,[]⟩,
  ⟨some 34,.load none (.t 33),none,11,[]⟩,
  ⟨some 28,.call F.clock_Clock_Up [(.t 27)],none,5,[⟨34,none,(.t 33),none⟩]⟩,
  ⟨some 30,.bin .add (.t 28) (.t 29),none,7,[]⟩,
  ⟨some 35,.bin .add (.t 30) (.t 34),none,12,[]⟩,
  ⟨some 36,.build [.bool false,.int .u64 0] [(0,1,(.c (.s (.bool true)))),(1,1,(.t 35))],none,13,[]⟩,
  ⟨some 37,.nilCheck (.t 23),none,14,[]⟩,
  ⟨none,.store 2 (.t 37) (.t 36),none,15,[]⟩]) (RC.seq (RC.region 1 [
  ⟨some 6,.move (.c (.s (.int .i64 0))),none,0,[]⟩]) (RC.ret))))))))
theorem cyc_Hands_Set_ok : chkFunc Go.Proofs.Try.prog [] Go.Proofs.Try.f14 cyc_Hands_Set = true := by kernel_rfl
def clock_Clock_Up : RFunc := RFunc.mk 7 [.tmp 2] (
  RC.seq (RC.region 1 [
  ⟨some 2,.move (.c (.s (.int .u64 0))),none,0,[]⟩]) (RC.seq (RC.region 5 [
  ⟨some 3,.move (.t 0),none,0,[]⟩,
  ⟨some 4,.nilCheck (.t 3),none,1,[]⟩,
  ⟨some 5,.fieldAddr 2 (.t 4),none,2,[]⟩,
  ⟨some 6,.load none (.t 5),none,3,[]⟩,
  ⟨some 2,.move (.t 6),none,4,[]⟩]) (RC.ret)))
theorem clock_Clock_Up_ok : chkFunc Go.Proofs.Try.prog [] Go.Proofs.Try.f15 clock_Clock_Up = true := by kernel_rfl
def cyc_Hands_Clear : RFunc := RFunc.mk 14 [.tmp 4] (
  RC.seq (RC.region 1 [
  ⟨some 4,.move (.c (.s (.int .i64 0))),none,0,[]⟩]) (RC.seq (RC.region 4 [
  ⟨some 6,.move (.t 0),none,0,[]⟩,
  ⟨some 7,.move (.t 1),none,1,[]⟩,
  ⟨some 8,.call F.cyc_Hands_alarm [(.t 6),(.t 7)],none,2,[]⟩,
  ⟨some 5,.move (.t 8),none,3,[]⟩]) (RC.seq (RC.seq (RC.region 2 [
  ⟨some 9,.move (.t 5),none,0,[]⟩,
  ⟨some 10,.eqs .ptr false (.t 9) (.c (.s (.ptr none))),none,1,[]⟩]) (RC.cond (.t 10) (RC.seq (RC.region 1 [
  ⟨some 4,.move (.c (.s (.int .i64 (-18)))),none,0,[]⟩]) (RC.ret)) (RC.skip))) (RC.seq (RC.region 4 [
  ⟨some 11,.move (.t 5),none,0,[]⟩,
  ⟨some 12,.build [.bool false,.int .u64 0] [],none,1,[]⟩,
  ⟨some 13,.nilCheck (.t 11),none,2,[]⟩,
  ⟨none,.store 2 (.t 13) (.t 12),none,3,[]⟩]) (RC.seq (RC.region 1 [
  ⟨some 4,.move (.c (.s (.int .i64 0))),none,0,[]⟩]) (RC.ret))))))
theorem cyc_Hands_Clear_ok : chkFunc Go.Proofs.Try.prog [] Go.Proofs.Try.f16 cyc_Hands_Clear = true := by kernel_rfl
def cyc_Hands_Stop : RFunc := RFunc.mk 14 [.tmp 4] (
  RC.seq (RC.region 1 [
  ⟨some 4,.move (.c (.s (.int .i64 0))),none,0,[]⟩]) (RC.seq (RC.region 4 [
  ⟨some 6,.move (.t 0),none,0,[]⟩,
  ⟨some 7,.move (.t 1),none,1,[]⟩,
  ⟨some 8,.call F.cyc_Hands_cyc [(.t 6),(.t 7)],none,2,[]⟩,
  ⟨some 5,.move (.t 8),none,3,[]⟩]) (RC.seq (RC.seq (RC.region 2 [
  ⟨some 9,.move (.t 5),none,0,[]⟩,
  ⟨some 10,.eqs .ptr false (.t 9) (.c (.s (.ptr none))),none,1,[]⟩]) (RC.cond (.t 10) (RC.seq (RC.region 1 [
  ⟨some 4,.move (.c (.s (.int .i64 (-18)))),none,0,[]⟩]) (RC.ret)) (RC.skip))) (RC.seq (RC.region 4 [
  ⟨some 11,.move (.t 5),none,0,[]⟩,
  ⟨some 12,.nilCheck (.t 11),none,1,[]⟩,
  ⟨some 13,.fieldAddr 3 (.t 12),none,2,[]⟩,
  ⟨none,.store 1 (.t 13) (.c (.s (.bool false))),none,3,[]⟩]) (RC.seq (RC.region 1 [
  ⟨some 4,.move (.c (.s (.int .i64 0))),none,0,[]⟩]) (RC.ret))))))
theorem cyc_Hands_Stop_ok : chkFunc Go.Proofs.Try.prog [] Go.Proofs.Try.f17 cyc_Hands_Stop = true := by kernel_rfl
def cyc_Hands_Start : RFunc := RFunc.mk 74 [.tmp 4] (
  RC.seq (RC.region 1 [
  ⟨some 4,.move (.c (.s (.int .i64 0))),none,0,[]⟩]) (RC.seq (RC.region 4 [
  ⟨some 7,.move (.t 0),none,0,[]⟩,
  ⟨some 8,.move (.t 1),none,1,[]⟩,
  ⟨some 9,.call F.cyc_Hands_cyc [(.t 7),(.t 8)],none,2,[]⟩,
  ⟨some 5,.move (.t 9),none,3,[]⟩]) (RC.seq (RC.seq (RC.region 2 [
  ⟨some 10,.move (.t 5),none,0,[]⟩,
  ⟨some 11,.eqs .ptr false (.t 10) (.c (.s (.ptr none))),none,1,[]⟩]) (RC.cond (.t 11) (RC.seq (RC.region 1 [
  ⟨some 4,.move (.c (.s (.int .i64 (-18)))),none,0,[]⟩]) (RC.ret)) (RC.skip))) (RC.seq (RC.region 4 [
  ⟨some 12,.move (.t 5),none,0,[]⟩,
  ⟨some 13,.nilCheck (.t 12),none,1,[]⟩,
  ⟨some 14,.fieldAddr 3 (.t 13),none,2,[]⟩,
  ⟨none,.store 1 (.t 14) (.c (.s (.bool true))),none,3,[]⟩]) (RC.seq (RC.seq (RC.region 6 [
  ⟨some 15,.move (.t 0),none,0,[]⟩,
  ⟨some 16,.nilCheck (.t 15),none,1,[]⟩,
  ⟨some 17,.fieldAddr 0 (.t 16),none,2,[]⟩,
  ⟨some 18,.load none (.t 17),none,3,[]⟩,
  ⟨some 19,.call F.clock_Clock_Up [(.t 18)],none,4,[]⟩,
  ⟨some 6,.move (.t 19),none,5,[]⟩]) (RC.block 0 (RC.seq (RC.region 6 [
  ⟨some 46,.move (.t 5),none,0,[]⟩,
  ⟨some 47,.nilCheck (.t 46),none,1,[]⟩,
  ⟨some 48,.fieldAddr 4 (.t 47),none,2,[]⟩,
  ⟨some 49,.load none (.t 48),none,3,[]⟩,
  ⟨some 50,.un .not (.t 49),none,4,[]⟩,
  ⟨some 45,.move (.t 50),none,5,[]⟩]) (RC.cond (.t 45) (RC.region 10 [
  ⟨some 51,.move (.t 5),none,0,[]⟩,
  ⟨some 52,.move (.t 6),none,1,[]⟩,
  ⟨some 53,.move (.t 5),none,2,[]⟩,
  ⟨some 54,.nilCheck (.t 53),none,3,[]⟩,
  ⟨some 55,.fieldAddr 2 (.t 54),none,4,[]⟩,
  ⟨some 56,.load none (.t 55),none,5,[]⟩,
  ⟨some 57,.bin .add (.t 52) (.t 56),none,6,[]⟩,
  ⟨some 58,.nilCheck (.t 51),none,7,[]⟩,
  ⟨some 59,.fieldAddr 1 (.t 58),none,8,[]⟩,
  ⟨none,.store 1 (.t 59) (.t 57),none,9,[]⟩]) (RC.seq (RC.region 7 [
  ⟨some 61,.move (.t 5),none,0,[]⟩,
  ⟨some 62,.nilCheck (.t 61),none,1,[]⟩,
  ⟨some 63,.fieldAddr 0 (.t 62),none,2,[]⟩,
  ⟨some 64,.load none (.t 63),none,3,[]⟩,
  ⟨some 65,.move (.t 6),none,4,[]⟩,
  ⟨some 66,.bin .gtr (.t 64) (.t 65),none,5,[]⟩,
  ⟨some 60,.move (.t 66),none,6,[]⟩]) (RC.cond (.t 60) (RC.region 8 [
  ⟨some 67,.move (.t 5),none,0,[]⟩,
  ⟨some 68,.move (.t 5),none,1,[]⟩,
  ⟨some 69,.nilCheck (.t 68),none,2,[]⟩,
  ⟨some 70,.fieldAddr 0 (.t 69),none,3,[]⟩,
  ⟨some 71,.load none (.t 70),none,4,[]⟩,
  ⟨some 72,.nilCheck (.t 67),none,5,[]⟩,
  ⟨some 73,.fieldAddr 1 (.t 72),none,6,[]⟩,
  ⟨none,.store 1 (.t 73) (.t 71),none,7,[]⟩]) (RC.region 26 [
  ⟨some 20,.move (.t 5),none,0,[]⟩,
  ⟨some 21,.move (.t 5),none,1,[]⟩,
  ⟨some 22,.nilCheck (.t 21),none,2,[]⟩,
  ⟨some 23,.fieldAddr 0 (.t 22),none,3,[]⟩,
  ⟨some 24,.load none (.t 23),none,4,[]⟩,
  ⟨some 25,.move (.t 6),none,5,[]⟩,
  ⟨some 26,.move (.t 5),none,6,[]⟩,
  ⟨some 27,.nilCheck (.t 26),none,7,[]⟩,
  ⟨some 28,.fieldAddr 0 (.t 27),none,8,[]⟩,
  ⟨some 29,.load none (.t 28),none,9,[]⟩,
  ⟨some 30,.bin .sub (.t 25) (.t 29),none,10,[]⟩,
  ⟨some 31,.move (.t 5),none,11,[]⟩,
  ⟨some 32,.nilCheck (.t 31),none,12,[]⟩,
  ⟨some 33,.fieldAddr 2 (.t 32),none,13,[]⟩,
  ⟨some 34,.load none (.t 33),none,14,[]⟩,
  ⟨some 35,.bin .quo (.t 30) (.t 34),none,15,[]⟩,
  ⟨some 36,.bin .add (.t 35) (.c (.s (.int .u64 1))),none,16,[]⟩,
  ⟨some 37,.move (.t 5),none,17,[]⟩,
  ⟨some 38,.nilCheck (.t 37),none,18,[]⟩,
  ⟨some 39,.fieldAddr 2 (.t 38),none,19,[]⟩,
  ⟨some 40,.load none (.t 39),none,20,[]⟩,
  ⟨some 41,.bin .mul (.t 36) (.t 40),none,21,[]⟩,
  ⟨some 42,.bin .add (.t 24) (.t 41),none,22,[]⟩,
  ⟨some 43,.nilCheck (.t 20),none,23,[]⟩,
  ⟨some 44,.fieldAddr 1 (.t 43),none,24,[]⟩,
  ⟨none,.store 1 (.t 44) (.t 42),none,25,[]⟩]))))))) (RC.seq (RC.region 1 [
  ⟨some 4,.move (.c (.s (.int .i64 0))),none,0,[]⟩]) (RC.ret)))))))
theorem cyc_Hands_Start_ok : chkFunc Go.Proofs.Try.prog [] Go.Proofs.Try.f18 cyc_Hands_Start = true := by kernel_rfl
def detentref20_New : RFunc := RFunc.mk 17 [.tmp 2,.tmp 3] (
  RC.seq (RC.region 2 [
  ⟨some 2,.move (.c (.s (.ptr none))),none,0,[]⟩,
  ⟨some 3,.move (.c (.s (.int .i64 0))),none,1,[]⟩]) (RC.seq (RC.region 7 [
  ⟨some 7,.move (.t 0),none,0,[]⟩,
  ⟨some 8,.call F.detentref8_New [(.t 7)],none,1,[]⟩,
  ⟨some 6,.move (.t 8),none,2,[]⟩,
  ⟨some 9,.extract 0 (.t 6),none,3,[]⟩,
  ⟨some 10,.extract 1 (.t 6),none,4,[]⟩,
  ⟨some 4,.move (.t 9),none,5,[]⟩,
  ⟨some 5,.move (.t 10),none,6,[]⟩]) (RC.seq (RC.seq (RC.region 2 [
  ⟨some 11,.move (.t 5),none,0,[]⟩,
  ⟨some 12,.bin .neq (.t 11) (.c (.s (.int .i64 0))),none,1,[]⟩]) (RC.cond (.t 12) (RC.seq (RC.region 3 [
  ⟨some 13,.move (.t 5),none,0,[]⟩,
  ⟨some 2,.move (.c (.s (.ptr none))),none,1,[]⟩,
  ⟨some 3,.move (.t 13),none,2,[]⟩]) (RC.ret)) (RC.skip))) (RC.seq (RC.region 5 [
  ⟨some 14,.move (.t 4),none,0,[]⟩,
  ⟨some 15,.build [.ptr none,.slice none 0 0 1,.slice none 0 0 1] [(0,1,(.t 14))],none,1,[]⟩,
  ⟨some 16,.box (.t 15),none,2,[]⟩,
  ⟨some 2,.move (.t 16),none,3,[]⟩,
  ⟨some 3,.move (.c (.s (.int .i64 0))),none,4,[]⟩]) (RC.ret)))))
theorem detentref20_New_ok : chkFunc Go.Proofs.Try.prog [] Go.Proofs.Try.f19 detentref20_New = true := by kernel_rfl
def detentref20_Hands_Cyclic : RFunc := RFunc.mk 66 [.tmp 10,.tmp 11] (
  RC.seq (RC.region 2 [
  ⟨some 10,.move (.c (.s (.int .i64 0))),none,0,[]⟩,
  ⟨some 11,.move (.c (.s (.int .i64 0))),none,1,[]⟩]) (RC.seq (RC.seq (RC.region 14 [
  ⟨some 13,.move (.t 1),none,0,[]⟩,
  ⟨some 14,.bin .lss (.t 13) (.c (.s (.int .i64 1))),none,1,[]⟩,
  ⟨some 15,.move (.t 14),none,2,[]⟩,
  ⟨some 16,.move (.t 1),(some (15,false)),3,[]⟩,
  ⟨some 17,.bin .gtr (.t 16) (.c (.s (.int .i64 2147483647))),(some (15,false)),4,[]⟩,
  ⟨some 18,.pick (.t 15) (.c (.s (.bool true))) (.t 17),none,5,[]⟩,
  ⟨some 19,.move (.t 18),none,6,[]⟩,
  ⟨some 20,.move (.t 2),(some (19,false)),7,[]⟩,
  ⟨some 21,.bin .lss (.t 20) (.c (.s (.int .i64 0))),(some (19,false)),8,[]⟩,
  ⟨some 22,.pick (.t 19) (.c (.s (.bool true))) (.t 21),none,9,[]⟩,
  ⟨some 23,.move (.t 22),none,10,[]⟩,
  ⟨some 24,.move (.t 2),(some (23,false)),11,[]⟩,
  ⟨some 25,.bin .gtr (.t 24) (.c (.s (.int .i64 2147483647))),(some (23,false)),12,[]⟩,
  ⟨some 26,.pick (.t 23) (.c (.s (.bool true))) (.t 25),none,13,[]⟩]) (RC.cond (.t 26) (RC.seq (RC.region 2 [
  ⟨some 10,.move (.c (.s (.int .i64 0))),none,0,[]⟩,
  ⟨some 11,.move (.c (.s (.int .i64 (-17)))),none,1,[]⟩]) (RC.ret)) (RC.skip))) (RC.seq (RC.seq (RC.region 6 [
  ⟨some 27,.move (.t 0),none,0,[]⟩,
  ⟨some 28,.nilCheck (.t 27),none,1,[]⟩,
  ⟨some 29,.fieldAddr 1 (.t 28),none,2,[]⟩,
  ⟨some 30,.load none (.t 29),none,3,[]⟩,
  ⟨some 31,.len (.t 30),none,4,[]⟩,
  ⟨some 32,.bin .geq (.t 31) (.c (.s (.int .i64 8))),none,5,[]⟩]) (RC.cond (.t 32) (RC.seq (RC.region 2 [
  ⟨some 10,.move (.c (.s (.int .i64 0))),none,0,[]⟩,
  ⟨some 11,.move (.c (.s (.int .i64 (-33)))),none,1,[]⟩]) (RC.ret)) (RC.skip))) (RC.seq (RC.region 11 [
  ⟨some 33,.move (.t 0),none,0,[]⟩,
  ⟨some 34,.nilCheck (.t 33),none,1,[]⟩,
  ⟨some 35,.fieldAddr 0 (.t 34),none,2,[]⟩,
  ⟨some 36,.load none (.t 35),none,3,[]⟩,
  ⟨some 37,.nilCheck (.t 36),none,4,[]⟩,
  ⟨some 38,.fieldAddr 2 (.t 37),none,5,[]⟩,
  ⟨some 39,.load none (.t 38),none,6,[]⟩,
  ⟨some 40,.move (.t 2),none,7,[]⟩,
  ⟨some 41,.conv .u64 (.t 40),none,8,[]⟩,
  ⟨some 42,.bin .add (.t 39) (.t 41),none,9,[]⟩,
  ⟨some 12,.move (.t 42),none,10,[]⟩]) (RC.seq (RC.region 19 [
  ⟨some 43,.move (.t 0),none,0,[]⟩,
  ⟨some 44,.buildSlice 5 0 [] [],none,1,[]⟩,
  ⟨some 45,.move (.t 0),none,2,[]⟩,
  ⟨some 46,.nilCheck (.t 45),none,3,[]⟩,
  ⟨some 47,.fieldAddr 1 (.t 46),none,4,[]⟩,
  ⟨some 48,.load none (.t 47),none,5,[]⟩,
  ⟨some 49,.append 5 32 (.t 44) (.t 48),none,6,[]⟩,
  ⟨some 50,.move (.t 12),none,7,[]⟩,
  ⟨some 51,.move (.t 1),none,8,[]⟩,
  ⟨some 52,.conv .u64 (.t 51),none,9,[]⟩,
  ⟨some 53,.move (.t 3),none,10,[]⟩,
  ⟨some 54,.move (.t 4),none,11,[]⟩,
  ⟨some 55,.move (.t 12),none,12,[]⟩,
  ⟨some 56,.build [.int .u64 0,.int .u64 0,.bool false,.bool false,.int .u64 0] [(0,1,(.t 50)),(1,1,(.t 52)),(2,1,(.t 53)),(3,1,(.t 54)),(4,1,(.t 55))],none,13,[]⟩,
  ⟨some 57,.buildSlice 5 1 [.int .u64 0,.int .u64 0,.bool false,.bool false,.int .u64 0] [(0,5,(.t 56))],none,14,[]⟩,
  ⟨some 58,.append 5 32 (.t 49) (.t 57),none,15,[]⟩,
  ⟨some 59,.nilCheck (.t 43),none,16,[]⟩,
  ⟨some 60,.fieldAddr 1 (.t 59),none,17,[]⟩,
  ⟨none,.store 1 (.t 60) (.t 58),none,18,[]⟩]) (RC.seq (RC.region 7 [
  ⟨some 61,.move (.t 0),none,0,[]⟩,
  ⟨some 62,.nilCheck (.t 61),none,1,[]⟩,
  ⟨some 63,.fieldAddr 1 (.t 62),none,2,[]⟩,
  ⟨some 64,.load none (.t 63),none,3,[]⟩,
  ⟨some 65,.len (.t 64),none,4,[]⟩,
  ⟨some 10,.move (.t 65),none,5,[]⟩,
  ⟨some 11,.move (.c (.s (.int .i64 0))),none,6,[]⟩]) (RC.ret)))))))
theorem detentref20_Hands_Cyclic_ok : chkFunc Go.Proofs.Try.prog [] Go.Proofs.Try.f20 detentref20_Hands_Cyclic = true := by kernel_rfl
def detentref20_Hands_NewAlarm : RFunc := RFunc.mk 27 [.tmp 2,.tmp 3] (
  RC.seq (RC.region 2 [
  ⟨some 2,.move (.c (.s (.int .i64 0))),none,0,[]⟩,
  ⟨some 3,.move (.c (.s (.int .i64 0))),none,1,[]⟩]) (RC.seq (RC.seq (RC.region 6 [
  ⟨some 4,.move (.t 0),none,0,[]⟩,
  ⟨some 5,.nilCheck (.t 4),none,1,[]⟩,
  ⟨some 6,.fieldAddr 2 (.t 5),none,2,[]⟩,
  ⟨some 7,.load none (.t 6),none,3,[]⟩,
  ⟨some 8,.len (.t 7),none,4,[]⟩,
  ⟨some 9,.bin .geq (.t 8) (.c (.s (.int .i64 8))),none,5,[]⟩]) (RC.cond (.t 9) (RC.seq (RC.region 2 [
  ⟨some 2,.move (.c (.s (.int .i64 0))),none,0,[]⟩,
  ⟨some 3,.move (.c (.s (.int .i64 (-33)))),none,1,[]⟩]) (RC.ret)) (RC.skip))) (RC.seq (RC.region 13 [
  ⟨some 10,.move (.t 0),none,0,[]⟩,
  ⟨some 11,.buildSlice 2 0 [] [],none,1,[]⟩,
  ⟨some 12,.move (.t 0),none,2,[]⟩,
  ⟨some 13,.nilCheck (.t 12),none,3,[]⟩,
  ⟨some 14,.fieldAddr 2 (.t 13),none,4,[]⟩,
  ⟨some 15,.load none (.t 14),none,5,[]⟩,
  ⟨some 16,.append 2 16 (.t 11) (.t 15),none,6,[]⟩,
  ⟨some 17,.build [.bool false,.int .u64 0] [],none,7,[]⟩,
  ⟨some 18,.buildSlice 2 1 [.bool false,.int .u64 0] [(0,2,(.t 17))],none,8,[]⟩,
  ⟨some 19,.append 2 16 (.t 16) (.t 18),none,9,[]⟩,
  ⟨some 20,.nilCheck (.t 10),none,10,[]⟩,
  ⟨some 21,.fieldAddr 2 (.t 20),none,11,[]⟩,
  ⟨none,.store 1 (.t 21) (.t 19),none,12,[]⟩]) (RC.seq (RC.region 7 [
  ⟨some 22,.move (.t 0),none,0,[]⟩,
  ⟨some 23,.nilCheck (.t 22),none,1,[]⟩,
  ⟨some 24,.fieldAddr 2 (.t 23),none,2,[]⟩,
  ⟨some 25,.load none (.t 24),none,3,[]⟩,
  ⟨some 26,.len (.t 25),none,4,[]⟩,
  ⟨some 2,.move (.t 26),none,5,[]⟩,
  ⟨some 3,.move (.c (.s (.int .i64 0))),none,6,[]⟩]) (RC.ret)))))
theorem detentref20_Hands_NewAlarm_ok : chkFunc Go.Proofs.Try.prog [] Go.Proofs.Try.f21 detentref20_Hands_NewAlarm = true := by kernel_rfl
def detentref20_Hands_Start : RFunc := RFunc.mk 97 [.tmp 4] (
  RC.seq (RC.region 1 [
  ⟨some 4,.move (.c (.s (.int .i64 0))),none,0,[]⟩]) (RC.seq (RC.seq (RC.region 11 [
  ⟨some 6,.move (.t 1),none,0,[]⟩,
  ⟨some 7,.bin .lss (.t 6) (.c (.s (.int .i64 1))),none,1,[]⟩,
  ⟨some 8,.move (.t 7),none,2,[]⟩,
  ⟨some 9,.move (.t 1),(some (8,false)),3,[]⟩,
  ⟨some 10,.move (.t 0),(some (8,false)),4,[]⟩,
  ⟨some 11,.nilCheck (.t 10),(some (8,false)),5,[]⟩,
  ⟨some 12,.fieldAddr 1 (.t 11),(some (8,false)),6,[]⟩,
  ⟨some 13,.load none (.t 12),(some (8,false)),7,[]⟩,
  ⟨some 14,.len (.t 13),(some (8,false)),8,[]⟩,
  ⟨some 15,.bin .gtr (.t 9) (.t 14),(some (8,false)),9,[]⟩,
  ⟨some 16,.pick (.t 8) (.c (.s (.bool true))) (.t 15),none,10,[]⟩]) (RC.cond (.t 16) (RC.seq (RC.region 1 [
  ⟨some 4,.move (.c (.s (.int .i64 (-18)))),none,0,[]⟩]) (RC.ret)) (RC.skip))) (RC.seq (RC.region 8 [
  ⟨some 17,.move (.t 0),none,0,[]⟩,
  ⟨some 18,.nilCheck (.t 17),none,1,[]⟩,
  ⟨some 19,.fieldAddr 1 (.t 18),none,2,[]⟩,
  ⟨some 20,.load none (.t 19),none,3,[]⟩,
  ⟨some 21,.move (.t 1),none,4,[]⟩,
  ⟨some 22,.bin .sub (.t 21) (.c (.s (.int .i64 1))),none,5,[]⟩,
  ⟨some 23,.indexSl 5 (.t 20) (.t 22),none,6,[]⟩,
  ⟨some 5,.move (.t 23),none,7,[]⟩]) (RC.seq (RC.region 4 [
  ⟨some 24,.move (.t 5),none,0,[]⟩,
  ⟨some 25,.nilCheck (.t 24),none,1,[]⟩,
  ⟨some 26,.fieldAddr 2 (.t 25),none,2,[]⟩,
  ⟨none,.store 1 (.t 26) (.c (.s (.bool true))),none,3,[]⟩]) (RC.seq (RC.seq (RC.region 5 [
  ⟨some 27,.move (.t 5),none,0,[]⟩,
  ⟨some 28,.nilCheck (.t 27),none,1,[]⟩,
  ⟨some 29,.fieldAddr 3 (.t 28),none,2,[]⟩,
  ⟨some 30,.load none (.t 29),none,3,[]⟩,
  ⟨some 31,.un .not (.t 30),none,4,[]⟩]) (RC.cond (.t 31) (RC.seq (RC.region 16 [
  ⟨some 32,.move (.t 5),none,0,[]⟩,
  ⟨some 33,.move (.t 0),none,1,[]⟩,
  ⟨some 34,.nilCheck (.t 33),none,2,[]⟩,
  ⟨some 35,.fieldAddr 0 (.t 34),none,3,[]⟩,
  ⟨some 36,.load none (.t 35),none,4,[]⟩,
  ⟨some 37,.nilCheck (.t 36),none,5,[]⟩,
  ⟨some 38,.fieldAddr 2 (.t 37),none,6,[]⟩,
  ⟨some 39,.load none (.t 38),none,7,[]⟩,
  ⟨some 40,.move (.t 5),none,8,[]⟩,
  ⟨some 41,.nilCheck (.t 40),none,9,[]⟩,
  ⟨some 42,.fieldAddr 1 (.t 41),none,10,[]⟩,
  ⟨some 43,.load none (.t 42),none,11,[]⟩,
  ⟨some 44,.bin .add (.t 39) (.t 43),none,12,[]⟩,
  ⟨some 45,.nilCheck (.t 32),none,13,[]⟩,
  ⟨some 46,.fieldAddr 4 (.t 45),none,14,[]⟩,
  ⟨none,.store 1 (.t 46) (.t 44),none,15,[]⟩]) (RC.seq (RC.region 1 [
  ⟨some 4,.move (.c (.s (.int .i64 0))),none,0,[]⟩]) (RC.ret))) (RC.skip))) (RC.seq (RC.region 8 [
  ⟨some 47,.move (.t 5),none,0,[]⟩,
  ⟨some 48,.move (.t 5),none,1,[]⟩,
  ⟨some 49,.nilCheck (.t 48),none,2,[]⟩,
  ⟨some 50,.fieldAddr 0 (.t 49),none,3,[]⟩,
  ⟨some 51,.load none (.t 50),none,4,[]⟩,
  ⟨some 52,.nilCheck (.t 47),none,5,[]⟩,
  ⟨some 53,.fieldAddr 4 (.t 52),none,6,[]⟩,
  ⟨none,.store 1 (.t 53) (.t 51),none,7,[]⟩]) (RC.seq (RC.seq (RC.region 12 [
  ⟨some 54,.move (.t 0),none,0,[]⟩,
  ⟨some 55,.nilCheck (.t 54),none,1,[]⟩,
  ⟨some 56,.fieldAddr 0 (.t 55),none,2,[]⟩,
  ⟨some 57,.load none (.t 56),none,3,[]⟩,
  ⟨some 58,.nilCheck (.t 57),none,4,[]⟩,
  ⟨some 59,.fieldAddr 2 (.t 58),none,5,[]⟩,
  ⟨some 60,.load none (.t 59),none,6,[]⟩,
  ⟨some 61,.move (.t 5),none,7,[]⟩,
  ⟨some 62,.nilCheck (.t 61),none,8,[]⟩,
  ⟨some 63,.fieldAddr 0 (.t 62),none,9,[]⟩,
  ⟨some 64,.load none (.t 63),none,10,[]⟩,
  ⟨some 65,.bin .geq (.t 60) (.t 64),none,11,[]⟩]) (RC.cond (.t 65) (RC.region 32 [
  ⟨some 66,.move (.t 5),none,0,[]⟩,
  ⟨some 67,.move (.t 5),none,1,[]⟩,
  ⟨some 68,.nilCheck (.t 67),none,2,[]⟩,
  ⟨some 69,.fieldAddr 0 (.t 68),none,3,[]⟩,
  ⟨some 70,.load none (.t 69),none,4,[]⟩,
  ⟨some 71,.move (.t 0),none,5,[]⟩,
  ⟨some 72,.nilCheck (.t 71),none,6,[]⟩,
  ⟨some 73,.fieldAddr 0 (.t 72),none,7,[]⟩,
  ⟨some 74,.load none (.t 73),none,8,[]⟩,
  ⟨some 75,.nilCheck (.t 74),none,9,[]⟩,
  ⟨some 76,.fieldAddr 2 (.t 75),none,10,[]⟩,
  ⟨some 77,.load none (.t 76),none,11,[]⟩,
  ⟨some 78,.move (.t 5),none,12,[]⟩,
  ⟨some 79,.nilCheck (.t 78),none,13,[]⟩,
  ⟨some 80,.fieldAddr 0 (.t 79),none,14,[]⟩,
  ⟨some 81,.load none (.t 80),none,15,[]⟩,
  ⟨some 82,.bin .sub (.t 77) (.t 81),none,16,[]⟩,
  ⟨some 83,.move (.t 5),none,17,[]⟩,
  ⟨some 84,.nilCheck (.t 83),none,18,[]⟩,
  ⟨some 85,.fieldAddr 1 (.t 84),none,19,[]⟩,
  ⟨some 86,.load none (.t 85),none,20,[]⟩,
  ⟨some 87,.bin .quo (.t 82) (.t 86),none,21,[]⟩,
  ⟨some 88,.bin .add (.t 87) (.c (.s (.int .u64 1))),none,22,[]⟩,
  ⟨some 89,.move (.t 5),none,23,[]⟩,
  ⟨some 90,.nilCheck (.t 89),none,24,[]⟩,
  ⟨some 91,.fieldAddr 1 (.t 90),none,25,[]⟩,
  ⟨some 92,.load none (.t 91),none,26,[]⟩,
  ⟨some 93,.bin .mul (.t 88) (.t 92),none,27,[]⟩,
  ⟨some 94,.bin .add (.t 70) (.t 93),none,28,[]⟩,
  ⟨some 95,.nilCheck (.t 66),none,29,[]⟩,
  ⟨some 96,.fieldAddr 4 (.t 95),none,30,[]⟩,
  ⟨none,.store 1 (.t 96) (.t 94),none,31,[]⟩]) (RC.skip))) (RC.seq (RC.region 1 [
  ⟨some 4,.move (.c (.s (.int .i64 0))),none,0,[]⟩]) (RC.ret)))))))))
theorem detentref20_Hands_Start_ok : chkFunc Go.Proofs.Try.prog [] Go.Proofs.Try.f22 detentref20_Hands_Start = true := by kernel_rfl
def detentref20_Hands_Stop : RFunc := RFunc.mk 24 [.tmp 4] (
  RC.seq (RC.region 1 [
  ⟨some 4,.move (.c (.s (.int .i64 0))),none,0,[]⟩]) (RC.seq (RC.seq (RC.region 11 [
  ⟨some 5,.move (.t 1),none,0,[]⟩,
  ⟨some 6,.bin .lss (.t 5) (.c (.s (.int .i64 1))),none,1,[]⟩,
  ⟨some 7,.move (.t 6),none,2,[]⟩,
  ⟨some 8,.move (.t 1),(some (7,false)),3,[]⟩,
  ⟨some 9,.move (.t 0),(some (7,false)),4,[]⟩,
  ⟨some 10,.nilCheck (.t 9),(some (7,false)),5,[]⟩,
  ⟨some 11,.fieldAddr 1 (.t 10),(some (7,false)),6,[]⟩,
  ⟨some 12,.load none (.t 11),(some (7,false)),7,[]⟩,
  ⟨some 13,.len (.t 12),(some (7,false)),8,[]⟩,
  ⟨some 14,.bin .gtr (.t 8) (.t 13),(some (7,false)),9,[]⟩,
  ⟨some 15,.pick (.t 7) (.c (.s (.bool true))) (.t 14),none,10,[]⟩]) (RC.cond (.t 15) (RC.seq (RC.region 1 [
  ⟨some 4,.move (.c (.s (.int .i64 (-18)))),none,0,[]⟩]) (RC.ret)) (RC.skip))) (RC.seq (RC.region 9 [
  ⟨some 16,.move (.t 0),none,0,[]⟩,
  ⟨some 17,.nilCheck (.t 16),none,1,[]⟩,
  ⟨some 18,.fieldAddr 1 (.t 17),none,2,[]⟩,
  ⟨some 19,.load none (.t 18),none,3,[]⟩,
  ⟨some 20,.move (.t 1),none,4,[]⟩,
  ⟨some 21,.bin .sub (.t 20) (.c (.s (.int .i64 1))),none,5,[]⟩,
  ⟨some 22,.indexSl 5 (.t 19) (.t 21),none,6,[]⟩,
  ⟨some 23,.fieldAddr 2 (.t 22),none,7,[]⟩,
  ⟨none,.store 1 (.t 23) (.c (.s (.bool false))),none,8,[]⟩]) (RC.seq (RC.region 1 [
  ⟨some 4,.move (.c (.s (.int .i64 0))),none,0,[]⟩]) (RC.ret)))))
theorem detentref20_Hands_Stop_ok : chkFunc Go.Proofs.Try.prog [] Go.Proofs.Try.f23 detentref20_Hands_Stop = true := by kernel_rfl
def detentref20_Hands_Set : RFunc := RFunc.mk 54 [.tmp 6] (
  RC.seq (RC.region 1 [
  ⟨some 6,.move (.c (.s (.int .i64 0))),none,0,[]⟩]) (RC.seq (RC.seq (RC.region 11 [
  ⟨some 9,.move (.t 1),none,0,[]⟩,
  ⟨some 10,.bin .lss (.t 9) (.c (.s (.int .i64 1))),none,1,[]⟩,
  ⟨some 11,.move (.t 10),none,2,[]⟩,
  ⟨some 12,.move (.t 1),(some (11,false)),3,[]⟩,
  ⟨some 13,.move (.t 0),(some (11,false)),4,[]⟩,
  ⟨some 14,.nilCheck (.t 13),(some (11,false)),5,[]⟩,
  ⟨some 15,.fieldAddr 2 (.t 14),(some (11,false)),6,[]⟩,
  ⟨some 16,.load none (.t 15),(some (11,false)),7,[]⟩,
  ⟨some 17,.len (.t 16),(some (11,false)),8,[]⟩,
  ⟨some 18,.bin .gtr (.t 12) (.t 17),(some (11,false)),9,[]⟩,
  ⟨some 19,.pick (.t 11) (.c (.s (.bool true))) (.t 18),none,10,[]⟩]) (RC.cond (.t 19) (RC.seq (RC.region 1 [
  ⟨some 6,.move (.c (.s (.int .i64 (-18)))),none,0,[]⟩]) (RC.ret)) (RC.skip))) (RC.seq (RC.region 7 [
  ⟨some 21,.move (.t 2),none,0,[]⟩,
  ⟨some 22,.call F.detentref1_Rel [(.t 21)],none,1,[]⟩,
  ⟨some 20,.move (.t 22),none,2,[]⟩,
  ⟨some 23,.extract 0 (.t 20),none,3,[]⟩,
  ⟨some 24,.extract 1 (.t 20),none,4,[]⟩,
  ⟨some 7,.move (.t 23),none,5,[]⟩,
  ⟨some 8,.move (.t 24),none,6,[]⟩]) (RC.seq (RC.seq (RC.region 2 [
  ⟨some 25,.move (.t 8),none,0,[]⟩,
  ⟨some 26,.bin .neq (.t 25) (.c (.s (.int .i64 0))),none,1,[]⟩]) (RC.cond (.t 26) (RC.seq (RC.region 2 [
  ⟨some 27,.move (.t 8),none,0,[]⟩,
  ⟨some 6,.move (.t 27),none,1,[]⟩]) (RC.ret)) (RC.skip))) (RC.seq (RC.region 27 [
  ⟨some 28,.move (.t 0),none,0,[]⟩,
  ⟨some 29,.nilCheck (.t 28),none,1,[]⟩,
  ⟨some 30,.fieldAddr 2 (.t 29),none,2,[]⟩,
  ⟨some 31,.load none (.t 30),none,3,[]⟩,
  ⟨some 32,.move (.t 1),none,4,[]⟩,
  ⟨some 33,.bin .sub (.t 32) (.c (.s (.int .i64 1))),none,5,[]⟩,
  ⟨some 34,.move (.t 0),none,6,[]⟩,
  ⟨some 35,.nilCheck (.t 34),none,7,[]⟩,
  ⟨some 36,.fieldAddr 0 (.t 35),none,8,[]⟩,
  ⟨some 37,.load none (.t 36),none,9,[]⟩,
  ⟨some 38,.nilCheck (.t 37),none,10,[]⟩,
  ⟨some 39,.fieldAddr 2 (.t 38),none,11,[]⟩,
  ⟨some 40,.load none (.t 39),none,12,[]⟩,
  ⟨some 41,.move (.t 7),none,13,[]⟩,
  ⟨some 42,.bin .add (.t 40) (.t 41),none,14,[]⟩,
  ⟨some 43,.move (.t 0),none,15,[]⟩,
  ⟨some 44,.nilCheck (.t 43),none,16,[]⟩,
  ⟨some 45,.fieldAddr 0 (.t 44),none,17,[]⟩,
  ⟨some 46,.load none (.t 45),none,18,[]⟩,
  ⟨some 47,.nilCheck (.t 46),none,19,[]⟩,
  ⟨some 48,.fieldAddr 1 (.t 47),none,20,[]⟩,
  ⟨some 49,.load none (.t 48),none,21,[]⟩,
  ⟨some 50,.conv .u64 (.t 49),none,22,[]⟩,
  ⟨some 51,.bin .add (.t 42) (.t 50),none,23,[]⟩,
  ⟨some 52,.build [.bool false,.int .u64 0] [(0,1,(.c (.s (.bool true)))),(1,1,(.t 51))],none,24,[]⟩,
  ⟨some 53,.indexSl 2 (.t 31) (.t 33),none,25,[]⟩,
  ⟨none,.store 2 (.t 53) (.t 52),none,26,[]⟩]) (RC.seq (RC.region 1 [
  ⟨some 6,.move (.c (.s (.int .i64 0))),none,0,[]⟩]) (RC.ret)))))))
theorem detentref20_Hands_Set_ok : chkFunc Go.Proofs.Try.prog [] Go.Proofs.Try.f24 detentref20_Hands_Set = true := by kernel_rfl
def detentref20_Hands_Clear : RFunc := RFunc.mk 24 [.tmp 4] (
  RC.seq (RC.region 1 [
  ⟨some 4,.move (.c (.s (.int .i64 0))),none,0,[]⟩]) (RC.seq (RC.seq (RC.region 11 [
  ⟨some 5,.move (.t 1),none,0,[]⟩,
  ⟨some 6,.bin .lss (.t 5) (.c (.s (.int .i64 1))),none,1,[]⟩,
  ⟨some 7,.move (.t 6),none,2,[]⟩,
  ⟨some 8,.move (.t 1),(some (7,false)),3,[]⟩,
  ⟨some 9,.move (.t 0),(some (7,false)),4,[]⟩,
  ⟨some 10,.nilCheck (.t 9),(some (7,false)),5,[]⟩,
  ⟨some 11,.fieldAddr 2 (.t 10),(some (7,false)),6,[]⟩,
  ⟨some 12,.load none (.t 11),(some (7,false)),7,[]⟩,
  ⟨some 13,.len (.t 12),(some (7,false)),8,[]⟩,
  ⟨some 14,.bin .gtr (.t 8) (.t 13),(some (7,false)),9,[]⟩,
  ⟨some 15,.pick (.t 7) (.c (.s (.bool true))) (.t 14),none,10,[]⟩]) (RC.cond (.t 15) (RC.seq (RC.region 1 [
  ⟨some 4,.move (.c (.s (.int .i64 (-18)))),none,0,[]⟩]) (RC.ret)) (RC.skip))) (RC.seq (RC.region 9 [
  ⟨some 16,.move (.t 0),none,0,[]⟩,
  ⟨some 17,.nilCheck (.t 16),none,1,[]⟩,
  ⟨some 18,.fieldAddr 2 (.t 17),none,2,[]⟩,
  ⟨some 19,.load none (.t 18),none,3,[]⟩,
  ⟨some 20,.move (.t 1),none,4,[]⟩,
  ⟨some 21,.bin .sub (.t 20) (.c (.s (.int .i64 1))),none,5,[]⟩,
  ⟨some 22,.build [.bool false,.int .u64 0] [],none,6,[]⟩,
  ⟨some 23,.indexSl 2 (.t 19) (.t 21),none,7,[]⟩,
  ⟨none,.store 2 (.t 23) (.t 22),none,8,[]⟩]) (RC.seq (RC.region 1 [
  ⟨some 4,.move (.c (.s (.int .i64 0))),none,0,[]⟩]) (RC.ret)))))
theorem detentref20_Hands_Clear_ok : chkFunc Go.Proofs.Try.prog [] Go.Proofs.Try.f25 detentref20_Hands_Clear = true := by kernel_rfl
def cyc_Hands_Wait : RFunc := RFunc.mk 23 [.tmp 6,.tmp 7] (
  RC.seq (RC.region 2 [
  ⟨some 6,.move (.c (.s (.int .i64 0))),none,0,[]⟩,
  ⟨some 7,.move (.c (.s (.int .i64 0))),none,1,[]⟩]) (RC.seq (RC.seq (RC.region 6 [
  ⟨some 8,.move (.t 2),none,0,[]⟩,
  ⟨some 9,.bin .lss (.t 8) (.c (.s (.int .i64 0))),none,1,[]⟩,
  ⟨some 10,.move (.t 9),none,2,[]⟩,
  ⟨some 11,.move (.t 2),(some (10,false)),3,[]⟩,
  ⟨some 12,.bin .gtr (.t 11) (.c (.s (.int .i64 1000))),(some (10,false)),4,[]⟩,
  ⟨some 13,.pick (.t 10) (.c (.s (.bool true))) (.t 12),none,5,[]⟩]) (RC.cond (.t 13) (RC.seq (RC.region 2 [
  ⟨some 6,.move (.c (.s (.int .i64 0))),none,0,[]⟩,
  ⟨some 7,.move (.c (.s (.int .i64 (-17)))),none,1,[]⟩]) (RC.ret)) (RC.skip))) (RC.seq (RC.region 11 [
  ⟨some 14,.move (.t 0),none,0,[]⟩,
  ⟨some 15,.nilCheck (.t 14),none,1,[]⟩,
  ⟨some 16,.fieldAddr 0 (.t 15),none,2,[]⟩,
  ⟨some 17,.load none (.t 16),none,3,[]⟩,
  ⟨some 18,.move (.t 1),none,4,[]⟩,
  ⟨some 19,.move (.t 2),none,5,[]⟩,
  ⟨some 20,.call F.clock_Clock_After [(.t 17),(.t 18),(.t 19)],none,6,[]⟩,
  ⟨some 21,.extract 0 (.t 20),none,7,[]⟩,
  ⟨some 22,.extract 1 (.t 20),none,8,[]⟩,
  ⟨some 6,.move (.t 21),none,9,[]⟩,
  ⟨some 7,.move (.t 22),none,10,[]⟩]) (RC.ret))))
theorem cyc_Hands_Wait_ok : chkFunc Go.Proofs.Try.prog [] Go.Proofs.Try.f26 cyc_Hands_Wait = true := by kernel_rfl
def detentref20_Hands_Wait : RFunc := RFunc.mk 23 [.tmp 6,.tmp 7] (
  RC.seq (RC.region 2 [
  ⟨some 6,.move (.c (.s (.int .i64 0))),none,0,[]⟩,
  ⟨some 7,.move (.c (.s (.int .i64 0))),none,1,[]⟩]) (RC.seq (RC.seq (RC.region 6 [
  ⟨some 8,.move (.t 2),none,0,[]⟩,
  ⟨some 9,.bin .lss (.t 8) (.c (.s (.int .i64 0))),none,1,[]⟩,
  ⟨some 10,.move (.t 9),none,2,[]⟩,
  ⟨some 11,.move (.t 2),(some (10,false)),3,[]⟩,
  ⟨some 12,.bin .gtr (.t 11) (.c (.s (.int .i64 1000))),(some (10,false)),4,[]⟩,
  ⟨some 13,.pick (.t 10) (.c (.s (.bool true))) (.t 12),none,5,[]⟩]) (RC.cond (.t 13) (RC.seq (RC.region 2 [
  ⟨some 6,.move (.c (.s (.int .i64 0))),none,0,[]⟩,
  ⟨some 7,.move (.c (.s (.int .i64 (-17)))),none,1,[]⟩]) (RC.ret)) (RC.skip))) (RC.seq (RC.region 11 [
  ⟨some 14,.move (.t 0),none,0,[]⟩,
  ⟨some 15,.nilCheck (.t 14),none,1,[]⟩,
  ⟨some 16,.fieldAddr 0 (.t 15),none,2,[]⟩,
  ⟨some 17,.load none (.t 16),none,3,[]⟩,
  ⟨some 18,.move (.t 1),none,4,[]⟩,
  ⟨some 19,.move (.t 2),none,5,[]⟩,
  ⟨some 20,.call F.detentref8_Clock_After [(.t 17),(.t 18),(.t 19)],none,6,[]⟩,
  ⟨some 21,.extract 0 (.t 20),none,7,[]⟩,
  ⟨some 22,.extract 1 (.t 20),none,8,[]⟩,
  ⟨some 6,.move (.t 21),none,9,[]⟩,
  ⟨some 7,.move (.t 22),none,10,[]⟩]) (RC.ret))))
theorem detentref20_Hands_Wait_ok : chkFunc Go.Proofs.Try.prog [] Go.Proofs.Try.f27 detentref20_Hands_Wait = true := by kernel_rfl
def detentref20_Hands_Pass_l0 : RC :=
  RC.seq (RC.seq (RC.region 26 [
  ⟨some 22,.move (.t 0),none,0,[]⟩,
  ⟨some 23,.nilCheck (.t 22),none,1,[]⟩,
  ⟨some 24,.fieldAddr 1 (.t 23),none,2,[]⟩,
  ⟨some 25,.load none (.t 24),none,3,[]⟩,
  ⟨some 26,.move (.t 6),none,4,[]⟩,
  ⟨some 27,.indexSl 5 (.t 25) (.t 26),none,5,[]⟩,
  ⟨some 28,.fieldAddr 2 (.t 27),none,6,[]⟩,
  ⟨some 29,.load none (.t 28),none,7,[]⟩,
  ⟨some 30,.move (.t 29),none,8,[]⟩,
  ⟨some 31,.move (.t 0),(some (30,true)),9,[]⟩,
  ⟨some 32,.nilCheck (.t 31),(some (30,true)),10,[]⟩,
  ⟨some 33,.fieldAddr 1 (.t 32),(some (30,true)),11,[]⟩,
  ⟨some 34,.load none (.t 33),(some (30,true)),12,[]⟩,
  ⟨some 35,.move (.t 6),(some (30,true)),13,[]⟩,
  ⟨some 36,.indexSl 5 (.t 34) (.t 35),(some (30,true)),14,[]⟩,
  ⟨some 37,.fieldAddr 4 (.t 36),(some (30,true)),15,[]⟩,
  ⟨some 38,.load none (.t 37),(some (30,true)),16,[]⟩,
  ⟨some 39,.move (.t 0),(some (30,true)),17,[]⟩,
  ⟨some 40,.nilCheck (.t 39),(some (30,true)),18,[]⟩,
  ⟨some 41,.fieldAddr 0 (.t 40),(some (30,true)),19,[]⟩,
  ⟨some 42,.load none (.t 41),(some (30,true)),20,[]⟩,
  ⟨some 43,.nilCheck (.t 42),(some (30,true)),21,[]⟩,
  ⟨some 44,.fieldAddr 2 (.t 43),(some (30,true)),22,[]⟩,
  ⟨some 45,.load none (.t 44),(some (30,true)),23,[]⟩,
  ⟨some 46,.bin .leq (.t 38) (.t 45),(some (30,true)),24,[]⟩,
  ⟨some 47,.pick (.t 30) (.t 46) (.c (.s (.bool false))),none,25,[]⟩]) (RC.cond (.t 47) (RC.skip) (RC.exit 2))) (RC.block 3 (RC.seq (RC.region 14 [
  ⟨some 48,.move (.t 5),none,0,[]⟩,
  ⟨some 49,.move (.t 6),none,1,[]⟩,
  ⟨some 50,.bin .add (.t 49) (.c (.s (.int .i64 1))),none,2,[]⟩,
  ⟨some 51,.move (.t 0),none,3,[]⟩,
  ⟨some 52,.nilCheck (.t 51),none,4,[]⟩,
  ⟨some 53,.fieldAddr 1 (.t 52),none,5,[]⟩,
  ⟨some 54,.load none (.t 53),none,6,[]⟩,
  ⟨some 55,.move (.t 6),none,7,[]⟩,
  ⟨some 56,.indexSl 5 (.t 54) (.t 55),none,8,[]⟩,
  ⟨some 57,.fieldAddr 4 (.t 56),none,9,[]⟩,
  ⟨some 58,.load none (.t 57),none,10,[]⟩,
  ⟨some 59,.build [.bool false,.int .i64 0,.int .u64 0] [(0,1,(.c (.s (.bool true)))),(1,1,(.t 50)),(2,1,(.t 58))],none,11,[]⟩,
  ⟨some 60,.call F.detentref20_put [(.t 48),(.t 59)],none,12,[]⟩,
  ⟨some 5,.move (.t 60),none,13,[]⟩]) (RC.region 25 [
  ⟨some 61,.move (.t 0),none,0,[]⟩,
  ⟨some 62,.nilCheck (.t 61),none,1,[]⟩,
  ⟨some 63,.fieldAddr 1 (.t 62),none,2,[]⟩,
  ⟨some 64,.load none (.t 63),none,3,[]⟩,
  ⟨some 65,.move (.t 6),none,4,[]⟩,
  ⟨some 66,.move (.t 0),none,5,[]⟩,
  ⟨some 67,.nilCheck (.t 66),none,6,[]⟩,
  ⟨some 68,.fieldAddr 1 (.t 67),none,7,[]⟩,
  ⟨some 69,.load none (.t 68),none,8,[]⟩,
  ⟨some 70,.move (.t 6),none,9,[]⟩,
  ⟨some 71,.indexSl 5 (.t 69) (.t 70),none,10,[]⟩,
  ⟨some 72,.fieldAddr 4 (.t 71),none,11,[]⟩,
  ⟨some 73,.load none (.t 72),none,12,[]⟩,
  ⟨some 74,.move (.t 0),none,13,[]⟩,
  ⟨some 75,.nilCheck (.t 74),none,14,[]⟩,
  ⟨some 76,.fieldAddr 1 (.t 75),none,15,[]⟩,
  ⟨some 77,.load none (.t 76),none,16,[]⟩,
  ⟨some 78,.move (.t 6),none,17,[]⟩,
  ⟨some 79,.indexSl 5 (.t 77) (.t 78),none,18,[]⟩,
  ⟨some 80,.fieldAddr 1 (.t 79),none,19,[]⟩,
  ⟨some 81,.load none (.t 80),none,20,[]⟩,
  ⟨some 82,.bin .add (.t 73) (.t 81),none,21,[]⟩,
  ⟨some 83,.indexSl 5 (.t 64) (.t 65),none,22,[]⟩,
  ⟨some 84,.fieldAddr 4 (.t 83),none,23,[]⟩,
  ⟨none,.store 1 (.t 84) (.t 82),none,24,[]⟩])))
def detentref20_Hands_Pass_s1 : RC :=
  RC.region 3 [
  ⟨some 20,.move (.t 6),none,0,[]⟩,
  ⟨some 21,.bin .add (.t 20) (.c (.s (.int .i64 1))),none,1,[]⟩,
  ⟨some 6,.move (.t 21),none,2,[]⟩]
def detentref20_Hands_Pass_l2 : RC :=
  RC.seq (RC.seq (RC.region 7 [
  ⟨some 13,.move (.t 6),none,0,[]⟩,
  ⟨some 14,.move (.t 0),none,1,[]⟩,
  ⟨some 15,.nilCheck (.t 14),none,2,[]⟩,
  ⟨some 16,.fieldAddr 1 (.t 15),none,3,[]⟩,
  ⟨some 17,.load none (.t 16),none,4,[]⟩,
  ⟨some 18,.len (.t 17),none,5,[]⟩,
  ⟨some 19,.bin .lss (.t 13) (.t 18),none,6,[]⟩]) (RC.cond (.t 19) (RC.skip) (RC.exit 0))) (RC.seq (RC.block 1 (RC.block 2 (RC.loop R.detentref20_Hands_Pass_l0))) R.detentref20_Hands_Pass_s1)
def detentref20_Hands_Pass_l3 : RC :=
  RC.seq (RC.seq (RC.region 7 [
  ⟨some 85,.move (.t 7),none,0,[]⟩,
  ⟨some 86,.move (.t 0),none,1,[]⟩,
  ⟨some 87,.nilCheck (.t 86),none,2,[]⟩,
  ⟨some 88,.fieldAddr 2 (.t 87),none,3,[]⟩,
  ⟨some 89,.load none (.t 88),none,4,[]⟩,
  ⟨some 90,.len (.t 89),none,5,[]⟩,
  ⟨some 91,.bin .lss (.t 85) (.t 90),none,6,[]⟩]) (RC.cond (.t 91) (RC.skip) (RC.exit 4))) (RC.seq (RC.block 5 (RC.seq (RC.region 26 [
  ⟨some 94,.move (.t 0),none,0,[]⟩,
  ⟨some 95,.nilCheck (.t 94),none,1,[]⟩,
  ⟨some 96,.fieldAddr 2 (.t 95),none,2,[]⟩,
  ⟨some 97,.load none (.t 96),none,3,[]⟩,
  ⟨some 98,.move (.t 7),none,4,[]⟩,
  ⟨some 99,.indexSl 2 (.t 97) (.t 98),none,5,[]⟩,
  ⟨some 100,.fieldAddr 0 (.t 99),none,6,[]⟩,
  ⟨some 101,.load none (.t 100),none,7,[]⟩,
  ⟨some 102,.move (.t 101),none,8,[]⟩,
  ⟨some 103,.move (.t 0),(some (102,true)),9,[]⟩,
  ⟨some 104,.nilCheck (.t 103),(some (102,true)),10,[]⟩,
  ⟨some 105,.fieldAddr 2 (.t 104),(some (102,true)),11,[]⟩,
  ⟨some 106,.load none (.t 105),(some (102,true)),12,[]⟩,
  ⟨some 107,.move (.t 7),(some (102,true)),13,[]⟩,
  ⟨some 108,.indexSl 2 (.t 106) (.t 107),(some (102,true)),14,[]⟩,
  ⟨some 109,.fieldAddr 1 (.t 108),(some (102,true)),15,[]⟩,
  ⟨some 110,.load none (.t 109),(some (102,true)),16,[]⟩,
  ⟨some 111,.move (.t 0),(some (102,true)),17,[]⟩,
  ⟨some 112,.nilCheck (.t 111),(some (102,true)),18,[]⟩,
  ⟨some 113,.fieldAddr 0 (.t 112),(some (102,true)),19,[]⟩,
  ⟨some 114,.load none (.t 113),(some (102,true)),20,[]⟩,
  ⟨some 115,.nilCheck (.t 114),(some (102,true)),21,[]⟩,
  ⟨some 116,.fieldAddr 2 (.t 115),(some (102,true)),22,[]⟩,
  ⟨some 117,.load none (.t 116),(some (102,true)),23,[]⟩,
  ⟨some 118,.bin .leq (.t 110) (.t 117),(some (102,true)),24,[]⟩,
  ⟨some 119,.pick (.t 102) (.t 118) (.c (.s (.bool false))),none,25,[]⟩]) (RC.cond (.t 119) (RC.seq (RC.region 14 [
  ⟨some 120,.move (.t 5),none,0,[]⟩,
  ⟨some 121,.move (.t 7),none,1,[]⟩,
  ⟨some 122,.bin .add (.t 121) (.c (.s (.int .i64 1))),none,2,[]⟩,
  ⟨some 123,.move (.t 0),none,3,[]⟩,
  ⟨some 124,.nilCheck (.t 123),none,4,[]⟩,
  ⟨some 125,.fieldAddr 2 (.t 124),none,5,[]⟩,
  ⟨some 126,.load none (.t 125),none,6,[]⟩,
  ⟨some 127,.move (.t 7),none,7,[]⟩,
  ⟨some 128,.indexSl 2 (.t 126) (.t 127),none,8,[]⟩,
  ⟨some 129,.fieldAddr 1 (.t 128),none,9,[]⟩,
  ⟨some 130,.load none (.t 129),none,10,[]⟩,
  ⟨some 131,.build [.bool false,.int .i64 0,.int .u64 0] [(0,1,(.c (.s (.bool false)))),(1,1,(.t 122)),(2,1,(.t 130))],none,11,[]⟩,
  ⟨some 132,.call F.detentref20_put [(.t 120),(.t 131)],none,12,[]⟩,
  ⟨some 5,.move (.t 132),none,13,[]⟩]) (RC.region 8 [
  ⟨some 133,.move (.t 0),none,0,[]⟩,
  ⟨some 134,.nilCheck (.t 133),none,1,[]⟩,
  ⟨some 135,.fieldAddr 2 (.t 134),none,2,[]⟩,
  ⟨some 136,.load none (.t 135),none,3,[]⟩,
  ⟨some 137,.move (.t 7),none,4,[]⟩,
  ⟨some 138,.build [.bool false,.int .u64 0] [],none,5,[]⟩,
  ⟨some 139,.indexSl 2 (.t 136) (.t 137),none,6,[]⟩,
  ⟨none,.store 2 (.t 139) (.t 138),none,7,[]⟩])) (RC.skip)))) (RC.region 3 [
  ⟨some 92,.move (.t 7),none,0,[]⟩,
  ⟨some 93,.bin .add (.t 92) (.c (.s (.int .i64 1))),none,1,[]⟩,
  ⟨some 7,.move (.t 93),none,2,[]⟩]))
def detentref20_Hands_Pass_s4 : RC :=
  RC.seq (RC.region 4 [
  ⟨some 140,.move (.t 5),none,0,[]⟩,
  ⟨some 141,.move (.t 4),none,1,[]⟩,
  ⟨some 2,.move (.t 140),none,2,[]⟩,
  ⟨some 3,.move (.t 141),none,3,[]⟩]) (RC.ret)
def detentref20_Hands_Pass_s5 : RC :=
  RC.seq (RC.seq (RC.region 1 [
  ⟨some 7,.move (.c (.s (.int .i64 0))),none,0,[]⟩]) (RC.block 4 (RC.loop R.detentref20_Hands_Pass_l3))) R.detentref20_Hands_Pass_s4
def detentref20_Hands_Pass : RFunc := RFunc.mk 142 [.tmp 2,.tmp 3] (
  RC.seq (RC.region 2 [
  ⟨some 2,.move (.c (.s (.slice none 0 0 1))),none,0,[]⟩,
  ⟨some 3,.move (.c (.s (.slice none 0 0 1))),none,1,[]⟩]) (RC.seq (RC.region 6 [
  ⟨some 8,.move (.t 0),none,0,[]⟩,
  ⟨some 9,.nilCheck (.t 8),none,1,[]⟩,
  ⟨some 10,.fieldAddr 0 (.t 9),none,2,[]⟩,
  ⟨some 11,.load none (.t 10),none,3,[]⟩,
  ⟨some 12,.call F.detentref8_Clock_Tick [(.t 11)],none,4,[]⟩,
  ⟨some 4,.move (.t 12),none,5,[]⟩]) (RC.seq (RC.region 1 [
  ⟨some 5,.move (.c (.s (.slice none 0 0 1))),none,0,[]⟩]) (RC.seq (RC.seq (RC.region 1 [
  ⟨some 6,.move (.c (.s (.int .i64 0))),none,0,[]⟩]) (RC.block 0 (RC.loop R.detentref20_Hands_Pass_l2))) R.detentref20_Hands_Pass_s5))))
theorem detentref20_Hands_Pass_ok : chkFunc Go.Proofs.Try.prog [] Go.Proofs.Try.f28 detentref20_Hands_Pass = true := by kernel_rfl
def heap_Timers_Cancel : RFunc := RFunc.mk 16 [.tmp 4] (
  RC.seq (RC.region 1 [
  ⟨some 4,.move (.c (.s (.bool false))),none,0,[]⟩]) (RC.seq (RC.region 4 [
  ⟨some 6,.move (.t 0),none,0,[]⟩,
  ⟨some 7,.move (.t 1),none,1,[]⟩,
  ⟨some 8,.call F.heap_Timers_find [(.t 6),(.t 7)],none,2,[]⟩,
  ⟨some 5,.move (.t 8),none,3,[]⟩]) (RC.seq (RC.seq (RC.region 2 [
  ⟨some 9,.move (.t 5),none,0,[]⟩,
  ⟨some 10,.bin .geq (.t 9) (.c (.s (.int .i64 0))),none,1,[]⟩]) (RC.cond (.t 10) (RC.region 3 [
  ⟨some 11,.move (.t 0),none,0,[]⟩,
  ⟨some 12,.move (.t 5),none,1,[]⟩,
  ⟨some 13,.call F.heap_Timers_remove [(.t 11),(.t 12)],none,2,[]⟩]) (RC.skip))) (RC.seq (RC.region 3 [
  ⟨some 14,.move (.t 5),none,0,[]⟩,
  ⟨some 15,.bin .geq (.t 14) (.c (.s (.int .i64 0))),none,1,[]⟩,
  ⟨some 4,.move (.t 15),none,2,[]⟩]) (RC.ret)))))
theorem heap_Timers_Cancel_ok : chkFunc Go.Proofs.Try.prog [] Go.Proofs.Try.f31 heap_Timers_Cancel = true := by kernel_rfl
end Go.AM.R
