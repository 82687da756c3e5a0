/-
  THE SYMBOLIC MACHINE: what every law asks first is looked at once; of what it leaves nothing is told but the first table.
-/
import Derived.Test.YtineacililniiaaGreatDoorKeS
namespace Go.AM

/-- No name at n or above lies there: the node with the name j in the part has the name a*j + c in the whole. -/
noncomputable def Tr.allB {α : Type} (n : Nat) (t : Tr α) : Nat → Nat → Bool :=
  Tr.rec (motive := fun _ => Nat → Nat → Bool) (fun _ _ => true) (fun v _ _ bl br a c => cond (Option.rec true (fun _ => Nat.blt c n) v) (cond (bl (Nat.mul 2 a) (Nat.add a c)) (br (Nat.mul 2 a) (Nat.add (Nat.mul 2 a) c)) false) false) t

theorem Tr.allB_ok {α : Type} {n : Nat} : ∀ (t : Tr α) (a c : Nat), t.allB n a c = true → ∀ j, n ≤ a * j + c → t.get j = none
  | .e, _, _, _, _, _ => rfl
  | .n v l r, a, c, h, j, hj => by
    have h : cond (Option.rec true (fun _ => Nat.blt c n) v) (cond (Tr.allB n l (2 * a) (a + c)) (Tr.allB n r (2 * a) (2 * a + c)) false) false = true := h
    cases hv : (Option.rec true (fun _ => Nat.blt c n) v : Bool) with
    | false => rw [hv] at h; cases h
    | true =>
      rw [hv, cond_true] at h
      cases hl : Tr.allB n l (2 * a) (a + c) with
      | false => rw [hl] at h; cases h
      | true =>
        rw [hl, cond_true] at h
        rw [Tr.get_n]
        by_cases h0 : j = 0
        · rw [if_pos h0]
          subst h0
          cases v with
          | none => rfl
          | some x =>
            have : Nat.blt c n = true := hv
            rw [Nat.blt_eq] at this
            omega
        · rw [if_neg h0]
          split
          · rename_i h1
            refine Tr.allB_ok l _ _ hl _ ?_
            have e : a * j = 2 * a * (j / 2) + a := by
              have : j = 2 * (j / 2) + 1 := by omega
              calc a * j = a * (2 * (j / 2) + 1) := by rw [← this]
                _ = 2 * a * (j / 2) + a := by rw [Nat.mul_add, Nat.mul_one, ← Nat.mul_assoc, Nat.mul_comm a 2]
            omega
          · rename_i h1
            refine Tr.allB_ok r _ _ h _ ?_
            have e : a * j = 2 * a * (j / 2 - 1) + 2 * a := by
              have : j = 2 * (j / 2 - 1) + 2 := by omega
              calc a * j = a * (2 * (j / 2 - 1) + 2) := by rw [← this]
                _ = 2 * a * (j / 2 - 1) + 2 * a := by rw [Nat.mul_add, ← Nat.mul_assoc, Nat.mul_comm a 2]
            omega

noncomputable def xvSame : XV → XV → Bool
  | .s (.int k n), .s (.int k' m) => cond (decide (k = k')) (Int.eqb n m) false
  | .s (.bool a), .s (.bool b) => cond a b (cond b false true)
  | .y k n, .y k' m => cond (decide (k = k')) (SI.eqb n m) false
  | _, _ => false

theorem cond_and {a b : Bool} (h : cond a b false = true) : a = true ∧ b = true := by cases a <;> simp_all

theorem xvSame_ok : ∀ {x y : XV}, xvSame x y = true → x = y := by
  intro x y h
  unfold xvSame at h
  split at h
  · obtain ⟨h1, h2⟩ := cond_and h
    rw [of_decide_eq_true h1, Int.eqb_eq h2]
  · rename_i a b
    cases a <;> cases b <;> first | rfl | cases h
  · rename_i k n k' m
    obtain ⟨h1, h2⟩ := cond_and h
    rw [of_decide_eq_true h1]
    obtain ⟨c, l⟩ := n
    obtain ⟨d, l'⟩ := m
    simp only [SI.eqb, Bool.and_eq_true] at h2
    have e1 : c = d := Int.eqb_eq h2.1
    have e2 : l = l' := linEqb_eq h2.2
    rw [e1, e2]
  · cases h

noncomputable def xsSame : List XV → List XV → Bool
  | [], [] => true
  | x :: xs, y :: ys => cond (xvSame x y) (xsSame xs ys) false
  | _, _ => false

theorem xsSame_ok : ∀ {xs ys : List XV}, xsSame xs ys = true → xs = ys
  | [], [], _ => rfl
  | x :: xs, y :: ys, h => by
    obtain ⟨h1, h2⟩ := cond_and (show cond (xvSame x y) (xsSame xs ys) false = true from h)
    rw [xvSame_ok h1, xsSame_ok h2]
  | [], _ :: _, h => by cases h
  | _ :: _, [], h => by cases h

noncomputable def obSame : Option XBlk → Option XBlk → Bool
  | none, none => true
  | some (.cells true l), some (.cells true l') => xsSame l l'
  | some (.cells false l), some (.cells false l') => xsSame l l'
  | _, _ => false

theorem obSame_ok {x y : Option XBlk} (h : obSame x y = true) : x = y := by
  unfold obSame at h
  split at h
  · rfl
  · rw [xsSame_ok h]
  · rw [xsSame_ok h]
  · cases h

noncomputable def trSame : Tr XBlk → Tr XBlk → Bool
  | .e, .e => true
  | .n v l r, .n v' l' r' => cond (obSame v v') (cond (trSame l l') (trSame r r') false) false
  | _, _ => false

theorem trSame_ok : ∀ {t u : Tr XBlk}, trSame t u = true → t = u
  | .e, .e, _ => rfl
  | .n v l r, .n v' l' r', h => by
    obtain ⟨h1, h2⟩ := cond_and (show cond (obSame v v') (cond (trSame l l') (trSame r r') false) false = true from h)
    obtain ⟨h2, h3⟩ := cond_and h2
    rw [obSame_ok h1, trSame_ok h2, trSame_ok h3]
  | .e, .n _ _ _, h => by cases h
  | .n _ _ _, .e, h => by cases h

/-- At the names below m lies what lay there. -/
noncomputable def sameTo (t u : Tr XBlk) : Nat → Bool :=
  Nat.rec true (fun i ih => cond (obSame (t.get i) (u.get i)) ih false)

theorem sameTo_ok {t u : Tr XBlk} : ∀ {m : Nat}, sameTo t u m = true → ∀ b, b < m → t.get b = u.get b
  | 0, _, _, h => by omega
  | i + 1, h, b, h2 => by
    obtain ⟨h1, h3⟩ := cond_and (show cond (obSame (t.get i) (u.get i)) (sameTo t u i) false = true from h)
    by_cases e : b = i
    · subst e; exact obSame_ok h1
    · exact sameTo_ok h3 b (by omega)

/-- What the first question leaves, asked when m names were given out: true, n names, below m all as it was. -/
noncomputable def known1 (h0 : Tr XBlk) (m n : Nat) : XK := fun v st => match isTrue v st with
  | false => false
  | true => match Nat.beq st.next n with
    | false => false
    | true => match st.h.allB n 1 0 with
      | false => false
      | true => match Nat.beq st.gc 0 with
        | false => false
        | true => sameTo st.h h0 m

noncomputable def callN (tab : Nat → Option RFunc) (K : Nat) (h0 : Tr XBlk) (m n fuel : Nat) : Nat → List XAV → XS → XK → Bool := fun f args st k => match Nat.beq f K with
  | false => runX tab fuel f args st k
  | true => match args with
    | [] => (match trSame st.h h0 with
      | false => false
      | true => match Nat.beq st.next m with
        | false => false
        | true => match Nat.beq st.gc 0 with
          | false => false
          | true => k (.s (.s (.bool true))) ⟨h0, n, st.facts, n, m⟩)
    | _ => false

theorem callN_ok {tab : Nat → Option RFunc} {K n0 m n fuel : Nat} {h0 : Tr XBlk} (hk : runX tab n0 K [] ⟨h0, m, [], 0, 0⟩ (known1 h0 m n) = true) (hm : h0.allB m 1 0 = true) {ρ : Nat → Int} : CallX tab noExt ρ (callN tab K h0 m n fuel) := by
  intro f args st H k P h hR hK
  unfold callN at h
  split at h
  · exact runX_ok fuel f args st H k P h hR hK
  · rename_i hf
    obtain rfl := Nat.eq_of_beq_eq_true hf
    split at h
    · split at h
      · cases h
      · rename_i hq
        have hq := trSame_ok hq
        split at h
        · cases h
        · rename_i hn
          have hn := Nat.eq_of_beq_eq_true hn
          split at h
          · cases h
          · rename_i hg
            have hg := Nat.eq_of_beq_eq_true hg
            have hR0 : XRel ρ ⟨h0, m, [], 0, 0⟩ H := by
              refine ⟨fun b x hb => hR.has b x (hq ▸ hb), fun b _ hb => hR.free b (.inr (by omega)) (hq ▸ hb), hn ▸ hR.next, .nil⟩
            refine runX_ok n0 f [] _ H (known1 h0 m n) P hk hR0 fun xv st' H' h1 h2 => ?_
            unfold known1 at h1
            split at h1
            · cases h1
            · rename_i hv
              split at h1
              · cases h1
              · rename_i hn'
                split at h1
                · cases h1
                · rename_i hb
                  split at h1
                  · cases h1
                  · rename_i hg0
                    have hg0 := Nat.eq_of_beq_eq_true hg0
                    have hs := sameTo_ok h1
                    have hv : xv = .s (.s (.bool true)) := by
                      unfold isTrue at hv
                      split at hv
                      · subst hv; rfl
                      · cases hv
                    subst hv
                    refine hK _ _ _ h ⟨fun b x hx => ?_, fun b hg hx => ?_, ?_, hR.facts⟩
                    · have hx : h0.get b = some x := hx
                      refine h2.has b x ?_
                      by_cases e : b < m
                      · rw [hs b e]; exact hx
                      · rw [Tr.allB_ok h0 1 0 hm b (by omega)] at hx; cases hx
                    · have hx : h0.get b = none := hx
                      have hg : b < m ∨ n ≤ b := hg
                      refine h2.free b (.inr (by omega)) ?_
                      by_cases e : b < m
                      · rw [hs b e]; exact hx
                      · exact Tr.allB_ok _ _ _ hb b (by omega)
                    · show H'.next = n
                      rw [h2.next, Nat.eq_of_beq_eq_true hn']
    · cases h
end Go.AM
