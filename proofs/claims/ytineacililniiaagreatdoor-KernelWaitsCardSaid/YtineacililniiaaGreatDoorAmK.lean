/-
  THE ABSTRACT MACHINE: a region's run in its planned order is its run in every order that is let.
-/
import Derived.Test.YtineacililniiaaGreatDoorAmJ
namespace Go.AM

section
variable {rec : Nat → List AV → AH → Option (AV × AH)} {base : Nat}

theorem put_length (T : List AV) (d : Option Nat) (v : AV) : (put T d v).length = T.length := by cases d <;> simp [put]

theorem stepA_length {r : ROper} {T : List AV} {H : AH} {s : List AV × AH} (h : stepA rec base r T H = some s) : s.1.length = T.length := by
  rw [stepA_eq] at h
  simp only [Option.map_eq_some_iff] at h
  obtain ⟨x, _, rfl⟩ := h
  exact put_length _ _ _

theorem runL_length : ∀ (l : List ROper) {s s' : List AV × AH}, runL rec base l s = some s' → s'.1.length = s.1.length
  | [], _, _, h => by cases h; rfl
  | r :: l, s, s', h => by
    simp only [runL, Option.bind_eq_some_iff] at h
    obtain ⟨s1, h1, h2⟩ := h
    rw [runL_length l h2, stepA_length h1]

/-- An operation that only computes or reads leaves the heap. -/
theorem stepA_quiet {r : ROper} (hk : r.op.kind = .pure ∨ r.op.kind = .load) {T : List AV} {H : AH} {s : List AV × AH} (h : stepA rec base r T H = some s) : s.2 = H ∧ ∃ v, s.1 = put T r.dst v ∧ opR rec base r T H = some (v, H) := by
  rw [stepA_eq] at h
  simp only [Option.map_eq_some_iff] at h
  obtain ⟨⟨v, H1⟩, h1, rfl⟩ := h
  have : H1 = H := by
    rcases hk with hk | hk
    · exact (opR_pure hk h1).1
    · exact opR_load hk h1
  subst this
  exact ⟨rfl, v, rfl, h1⟩

/-- What must hold of a load that may come on either side of z. -/
structure Again (z y : ROper) (L : Nat) (w : Watch) : Prop where
  of : watchOf y = some w
  self : selfOk y = true
  small : y.dst.all (· < L) = true
  listed : w ∈ z.watch

/-- The last one, moved ahead of some that it does not hang on. -/
theorem move_ok (hr : FrmOk rec) (hn : NextOk rec) {z : ROper} {L : Nat} : ∀ (rb : List ROper) (s s1 s2 : List AV × AH), runL rec base rb.reverse s = some s1 → stepA rec base z s1.1 s1.2 = some s2 → L ≤ s.1.length →
    (∀ y ∈ rb, apart y z = true ∧ kindOk y.op.kind z.op.kind = true ∧ y.idx ≠ z.idx) → (z.op.kind = .alloc → s.2.blk (base + z.idx) = none) → base + z.idx < s.2.next →
    (∀ y ∈ rb, y.op.kind = .load → z.op.kind = .eff → ∃ w, Again z y L w ∧ watchOk s1.1 s2.2 w = true) →
    rb.Pairwise (fun x y => y.op.kind = .load → z.op.kind = .eff → hits x.dst y.looks = false ∧ hits x.dst y.dst.toList = false) →
    ∃ s', stepA rec base z s.1 s.2 = some s' ∧ runL rec base rb.reverse s' = some s2
  | [], s, s1, s2, h1, h2, _, _, _, _, _, _ => by
    simp only [List.reverse_nil, runL, Option.some.injEq] at h1
    subst h1
    exact ⟨s2, h2, rfl⟩
  | y :: rb, s, s1, s2, h1, h2, hL, hp, hz, hlt, hw, hst => by
    rw [List.reverse_cons, runL_append, Option.bind_eq_some_iff] at h1
    obtain ⟨sm, hm, h1⟩ := h1
    simp only [runL, Option.bind_eq_some_iff] at h1
    obtain ⟨s1', h1, h1e⟩ := h1
    cases h1e
    obtain ⟨hpa, hpk, hpi⟩ := hp y (by simp)
    have hLm : L ≤ sm.1.length := by rw [runL_length _ hm]; exact hL
    have hltm : base + z.idx < sm.2.next := Nat.lt_of_lt_of_le hlt (runL_next hn _ hm)
    have hzm : z.op.kind = .alloc → sm.2.blk (base + z.idx) = none := fun hk => runL_free hr hn _ hm (hz hk) hlt (fun r hr' => by
      have := (hp r (by simp at hr'; simp [hr'])).2.2; omega)
    -- y and z
    obtain ⟨sz, g1, g2⟩ := swap_ok hr hpa hpk hpi hltm hzm h1 h2 (by
      intro hyl hze v H1 ho
      obtain ⟨w, ha, hok⟩ := hw y (by simp) hyl hze
      obtain ⟨q1, v', q2, q3⟩ := stepA_quiet (.inr hyl) h1
      rw [ho] at q3
      simp only [Option.some.injEq, Prod.mk.injEq] at q3
      obtain ⟨rfl, _⟩ := q3
      refine watch_load ha.of ha.self ho (by
        have h1 := ha.small
        cases hd : y.dst with
        | none => rfl
        | some d => rw [hd] at h1; simp at h1 ⊢; omega) ?_
      rw [← q2]; exact hok)
    -- those ahead of y
    have hpw := List.pairwise_cons.1 hst
    obtain ⟨s', k1, k2⟩ := move_ok hr hn rb s sm sz hm g1 hL (fun y' hy' => hp y' (by simp [hy'])) hz hlt (by
      intro y' hy' hyl hze
      obtain ⟨w, ha, hok⟩ := hw y' (by simp [hy']) hyl hze
      refine ⟨w, ha, ?_⟩
      -- y leaves the heap
      have hyq : y.op.kind = .pure ∨ y.op.kind = .load := by
        rw [hze] at hpk
        cases hyk : y.op.kind with
        | pure => exact .inl rfl
        | load => exact .inr rfl
        | alloc => rw [hyk] at hpk; cases hpk
        | eff => rw [hyk] at hpk; cases hpk
      obtain ⟨q1, v, q2, q3⟩ := stepA_quiet hyq h1
      obtain ⟨r1, v', r2, r3⟩ := stepA_quiet hyq g2
      obtain ⟨t1, t2⟩ := hpw.1 y' hy' hyl hze
      rw [q2, watch_put ha.of t1 t2, r1] at hok
      exact hok) hpw.2
    refine ⟨s', k1, ?_⟩
    rw [List.reverse_cons, runL_append, k2]
    simp only [Option.bind_some, runL, g2]

/-- Which pair may stand so in a plan: p ahead of q. -/
def pairOk (bit : Nat → Nat → Bool) (L : Nat) (p q : ROper) : Bool :=
  p.idx != q.idx && !bit q.idx p.idx && (bit p.idx q.idx ||
    (apart p q && kindOk p.op.kind q.op.kind &&
      (if p.op.kind = .load ∧ q.op.kind = .eff then selfOk p && p.dst.all (· < L) && (match watchOf p with | some w => q.watch.contains w | none => false) else true)))

/-- What comes between a load and what it may come behind does not write what it looks at. -/
def stabOk (bit : Nat → Nat → Bool) (z : ROper) : List ROper → Bool
  | [] => true
  | x :: rest => rest.all (fun y => if y.op.kind = .load ∧ z.op.kind = .eff ∧ bit y.idx z.idx = false then !hits x.dst y.looks && !hits x.dst y.dst.toList else true) && stabOk bit z rest

/-- A plan, the last one first. -/
def planOk (bit : Nat → Nat → Bool) (L : Nat) : List ROper → Bool
  | [] => true
  | z :: rest => rest.all (fun p => pairOk bit L p z) && stabOk bit z rest && planOk bit L rest

theorem plan_pair {bit : Nat → Nat → Bool} {L : Nat} : ∀ {l : List ROper}, planOk bit L l = true → l.Pairwise (fun q p => pairOk bit L p q = true)
  | [], _ => List.Pairwise.nil
  | z :: rest, h => by
    simp only [planOk, Bool.and_eq_true, List.all_eq_true] at h
    exact List.pairwise_cons.2 ⟨fun p hp => h.1.1 p hp, plan_pair h.2⟩

theorem pairwise_either {R : ROper → ROper → Prop} : ∀ {l : List ROper}, l.Pairwise R → ∀ x ∈ l, ∀ y ∈ l, x ≠ y → R x y ∨ R y x
  | [], _, x, hx, _, _, _ => by cases hx
  | z :: l, h, x, hx, y, hy, hne => by
    obtain ⟨h1, h2⟩ := List.pairwise_cons.1 h
    rcases List.mem_cons.1 hx with hxz | hx'
    · rcases List.mem_cons.1 hy with hyz | hy'
      · exact absurd (hxz.trans hyz.symm) hne
      · rw [hxz]; exact .inl (h1 y hy')
    · rcases List.mem_cons.1 hy with hyz | hy'
      · rw [hyz]; exact .inr (h1 x hx')
      · exact pairwise_either h2 x hx' y hy' hne

theorem stab_pair {bit : Nat → Nat → Bool} {z : ROper} : ∀ {l : List ROper}, stabOk bit z l = true → l.Pairwise (fun x y => y.op.kind = .load → z.op.kind = .eff → bit y.idx z.idx = false → hits x.dst y.looks = false ∧ hits x.dst y.dst.toList = false)
  | [], _ => List.Pairwise.nil
  | x :: rest, h => by
    simp only [stabOk, Bool.and_eq_true, List.all_eq_true] at h
    refine List.pairwise_cons.2 ⟨fun y hy h1 h2 h3 => ?_, stab_pair h.2⟩
    have := h.1 y hy
    rw [if_pos ⟨h1, h2, h3⟩] at this
    simpa using this

/-- A region's run, in every order that is let. -/
theorem reorder (hr : FrmOk rec) (hn : NextOk rec) {bit : Nat → Nat → Bool} {L : Nat} {T0 : List AV} {H0 : AH} (hL : L ≤ T0.length) : ∀ (rev : List ROper) (sn : List AV × AH), planOk bit L rev = true → regA rec base rev.reverse T0 H0 = some sn →
    (∀ r ∈ rev, H0.blk (base + r.idx) = none ∧ base + r.idx < H0.next) → ∀ σ : List ROper, σ.Perm rev.reverse → σ.Pairwise (fun x y => bit y.idx x.idx = false) → runL rec base σ (T0, H0) = some sn
  | [], sn, _, h, _, σ, hp, _ => by
    have : σ = [] := List.Perm.eq_nil (by simpa using hp)
    subst this
    simpa [regA, runL] using h
  | z :: rest, sn, hpl, h, hfree, σ, hp, hord => by
    have hpair := plan_pair hpl
    simp only [planOk, Bool.and_eq_true, List.all_eq_true] at hpl
    obtain ⟨⟨p1, p2⟩, p3⟩ := hpl
    rw [List.reverse_cons, regA_append, Option.bind_eq_some_iff] at h
    obtain ⟨sm, hm, h⟩ := h
    simp only [regA, Option.bind_eq_some_iff] at h
    obtain ⟨s2, hz, h⟩ := h
    split at h
    · rename_i hwatch
      cases h
      -- z in σ
      have hzm : z ∈ σ := hp.mem_iff.2 (by simp)
      obtain ⟨α, β, rfl⟩ := List.append_of_mem hzm
      have hp' : (α ++ β).Perm rest.reverse := by
        have h1 : (z :: (α ++ β)).Perm (z :: rest.reverse) := by
          refine (List.perm_middle.symm.trans hp).trans ?_
          rw [List.reverse_cons]
          exact (List.perm_append_comm (l₁ := rest.reverse) (l₂ := [z]))
        exact List.Perm.cons_inv h1
      have hord' : (α ++ β).Pairwise (fun x y => bit y.idx x.idx = false) := hord.sublist (by simp)
      have ih := reorder hr hn hL rest sm p3 hm (fun r hr' => hfree r (by simp [hr'])) (α ++ β) hp' hord'
      rw [runL_append, Option.bind_eq_some_iff] at ih
      obtain ⟨sa, ha, hb⟩ := ih
      have hβ : ∀ y ∈ β, y ∈ rest := fun y hy => by have := hp'.mem_iff.1 (List.mem_append_right α hy); simpa using this
      have hα : ∀ y ∈ α, y ∈ rest := fun y hy => by have := hp'.mem_iff.1 (List.mem_append_left β hy); simpa using this
      have hzβ := (List.pairwise_cons.1 (List.pairwise_append.1 hord).2.1).1
      have hno : ∀ y ∈ β, bit y.idx z.idx = false := hzβ
      have hpo : ∀ y ∈ β, y.idx ≠ z.idx ∧ apart y z = true ∧ kindOk y.op.kind z.op.kind = true ∧ (y.op.kind = .load → z.op.kind = .eff → ∃ w, Again z y L w) := by
        intro y hy
        have h1 := p1 y (hβ y hy)
        simp only [pairOk, Bool.and_eq_true, bne_iff_ne, hno y hy, Bool.false_or] at h1
        obtain ⟨⟨h1, h2⟩, ⟨h3, h4⟩, h5⟩ := h1
        refine ⟨h1, h3, h4, fun hl he => ?_⟩
        rw [if_pos ⟨hl, he⟩] at h5
        simp only [Bool.and_eq_true] at h5
        obtain ⟨⟨h6, h7⟩, h8⟩ := h5
        split at h8
        · rename_i w hw; exact ⟨w, hw, h6, h7, by simpa using h8⟩
        · cases h8
      have hLa : L ≤ sa.1.length := by rw [runL_length _ ha]; exact hL
      -- the heap behind α knows nothing of z's name
      have hza : sa.2.blk (base + z.idx) = none := runL_free hr hn _ ha (hfree z (by simp)).1 (hfree z (by simp)).2 (fun r hr' => by
        have := p1 r (hα r hr')
        simp only [pairOk, Bool.and_eq_true, bne_iff_ne] at this
        have := this.1.1; omega)
      have hlt : base + z.idx < sa.2.next := Nat.lt_of_lt_of_le (hfree z (by simp)).2 (runL_next hn _ ha)
      obtain ⟨s', k1, k2⟩ := move_ok (base := base) hr hn (L := L) β.reverse sa sm s2 (by rw [List.reverse_reverse]; exact hb) hz hLa
        (fun y hy => by have := hpo y (by simpa using hy); exact ⟨this.2.1, this.2.2.1, this.1⟩) (fun _ => hza) hlt
        (fun y hy hl he => by
          obtain ⟨w, hw⟩ := (hpo y (by simpa using hy)).2.2.2 hl he
          refine ⟨w, hw, ?_⟩
          rw [List.all_eq_true] at hwatch
          exact hwatch w hw.listed)
        (by
          rw [List.pairwise_reverse]
          have hstab := stab_pair p2
          have hbo : β.Pairwise (fun x y => bit y.idx x.idx = false) := (List.pairwise_cons.1 (List.pairwise_append.1 hord).2.1).2
          have hpair' := (List.pairwise_cons.1 hpair).2
          have hnd : β.Pairwise (fun x y => x ≠ y) := by
            have h1 : rest.Pairwise (fun x y => x ≠ y) := hpair'.imp (fun {q p} h hc => by
              subst hc
              simp [pairOk] at h)
            have h2 : rest.reverse.Pairwise (fun x y => x ≠ y) := List.pairwise_reverse.2 (h1.imp (fun h => Ne.symm h))
            have h3 : (α ++ β).Pairwise (fun x y => x ≠ y) := (hp'.pairwise_iff (fun h => Ne.symm h)).2 h2
            exact (List.pairwise_append.1 h3).2.1
          refine (hbo.and hnd).imp_of_mem ?_
          intro y x hy hx hyx hl he
          obtain ⟨hyx, hne⟩ := hyx
          rcases pairwise_either (hpair'.and hstab) x (hβ x hx) y (hβ y hy) (Ne.symm hne) with h1 | h1
          · exact h1.2 hl he (hno y hy)
          · have h2 := h1.1
            simp only [pairOk, Bool.and_eq_true, hyx, Bool.false_or] at h2
            obtain ⟨a1, a2, a3⟩ := apart_spec h2.2.1.1
            exact ⟨a1, a3⟩)
      rw [List.reverse_reverse] at k2
      rw [runL_append, ha]
      simp only [Option.bind_some, runL, k1]
      exact k2
    · cases h

end

end Go.AM
