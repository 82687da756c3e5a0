/-
  THE ABSTRACT MACHINE: a block more, that nothing names, changes nothing of a run.
-/
import Derived.Test.YtineacililniiaaGreatDoorAmH
namespace Go.AM

variable {H H' : AH} {x : Nat} {X : Blk}

theorem set_ne {b : Nat} {k : Blk} (hx : H.blk x = none) (hb : H.blk b = some k) : (H.set x X).blk b = some k := by
  simp only [AH.set, upd]
  rw [if_neg (fun h => by subst h; rw [hx] at hb; cases hb)]
  exact hb

theorem set_none {b : Nat} (hb : H.blk b = none) (hne : b ≠ x) : (H.set x X).blk b = none := by
  simp only [AH.set, upd]; rw [if_neg hne]; exact hb

theorem set_comm {b : Nat} {k : Blk} (h : b ≠ x) : (H.set x X).set b k = (H.set b k).set x X := by
  unfold AH.set
  congr 1
  funext c
  simp only [upd]
  by_cases h1 : c = b
  · subst h1; simp [h]
  · simp [h1]

theorem ld_frame (hx : H.blk x = none) {b o : Nat} {v : SV} (h : H.ld b o = some v) : (H.set x X).ld b o = some v := by
  unfold AH.ld at *
  split at h
  · rename_i ro l hb; rw [set_ne hx hb]; exact h
  · cases h

theorem ldn_frame (hx : H.blk x = none) {b o n : Nat} {v : List SV} (h : H.ldn b o n = some v) : (H.set x X).ldn b o n = some v := by
  unfold AH.ldn at *
  split at h
  · rename_i ro l hb; rw [set_ne hx hb]; exact h
  · cases h

theorem stn_frame (hx : H.blk x = none) {b o : Nat} {l : List SV} (h : H.stn b o l = some H') : (H.set x X).stn b o l = some (H'.set x X) ∧ H'.blk x = none := by
  unfold AH.stn at *
  split at h
  · rename_i l' hb
    have hne : b ≠ x := by intro hc; subst hc; rw [hx] at hb; cases hb
    simp only [set_ne hx hb]
    split at h
    · rename_i hle
      cases h
      rw [if_pos hle, set_comm hne]
      exact ⟨rfl, set_none hx (Ne.symm hne)⟩
    · cases h
  · cases h

theorem new_frame (hx : H.blk x = none) {b : Nat} (hne : b ≠ x) {k : Blk} (h : H.new b k = some H') : (H.set x X).new b k = some (H'.set x X) ∧ H'.blk x = none := by
  unfold AH.new at *
  split at h
  · rename_i hb
    cases h
    rw [set_none hb hne]
    exact ⟨by simp only; rw [set_comm hne], set_none hx (Ne.symm hne)⟩
  · cases h

theorem loadA_frame (hx : H.blk x = none) {m : Option Nat} {a v : AV} (h : loadA m a H = some v) : loadA m a (H.set x X) = some v := by
  unfold loadA at *
  split at h
  · cases m with
    | none =>
      simp only [Option.map_eq_some_iff] at h ⊢
      obtain ⟨s, h1, h2⟩ := h
      exact ⟨s, ld_frame hx h1, h2⟩
    | some n =>
      simp only [Option.map_eq_some_iff] at h ⊢
      obtain ⟨s, h1, h2⟩ := h
      exact ⟨s, ldn_frame hx h1, h2⟩
  · cases h

theorem sliceCells_frame (hx : H.blk x = none) {esz n : Nat} {a : AV} {l : List SV} (h : sliceCells esz a n H = some l) : sliceCells esz a n (H.set x X) = some l := by
  unfold sliceCells at *
  split at h
  · exact h
  · split at h
    · rename_i hc; rw [if_pos hc]; exact ldn_frame hx h
    · cases h
  · cases h

theorem hopA_frame (hx : H.blk x = none) {h : HOp} {id : Nat} {args : List AV} {v : AV} (e : hopA h id args H = some (v, H')) (hne : id ≠ x) : hopA h id args (H.set x X) = some (v, H'.set x X) ∧ H'.blk x = none := by
  unfold hopA at *
  split at e
  · simp only [Option.map_eq_some_iff, Prod.mk.injEq] at e
    obtain ⟨H1, h1, h2, rfl⟩ := e
    obtain ⟨h5, h6⟩ := new_frame (X := X) hx hne h1
    simp only [h5, Option.map_some, h2]
    exact ⟨trivial, h6⟩
  · split at e
    · rename_i es hb
      simp only [set_ne hx hb]
      split at e
      · rename_i hf
        simp only [Option.some.injEq, Prod.mk.injEq] at e
        obtain ⟨h1, rfl⟩ := e
        simp only [hf, h1]
        exact ⟨trivial, hx⟩
      · cases e
    · cases e
  · split at e
    · rename_i r _ _ _ _ _ es p hb hp
      have hrx : r ≠ x := fun e => by subst e; rw [hx] at hb; cases hb
      simp only [set_ne hx hb, hp]
      split at e
      · rename_i hf
        simp only [Option.some.injEq, Prod.mk.injEq] at e
        obtain ⟨h1, rfl⟩ := e
        simp only [hf, h1]
        exact ⟨by rw [set_comm hrx], set_none hx (Ne.symm hrx)⟩
      · rename_i hf
        simp only [Option.some.injEq, Prod.mk.injEq] at e
        obtain ⟨h1, rfl⟩ := e
        simp only [hf, h1]
        exact ⟨by rw [set_comm hrx], set_none hx (Ne.symm hrx)⟩
      · cases e
    · cases e
  · split at e
    · rename_i r _ _ _ es hb
      have hrx : r ≠ x := fun e => by subst e; rw [hx] at hb; cases hb
      simp only [set_ne hx hb]
      split at e
      · rename_i hf
        simp only [Option.some.injEq, Prod.mk.injEq] at e
        obtain ⟨h1, rfl⟩ := e
        simp only [hf, h1]
        exact ⟨by rw [set_comm hrx], set_none hx (Ne.symm hrx)⟩
      · rename_i hf
        simp only [Option.some.injEq, Prod.mk.injEq] at e
        obtain ⟨h1, rfl⟩ := e
        simp only [hf, h1]
        exact ⟨by rw [set_comm hrx], set_none hx (Ne.symm hrx)⟩
      · cases e
    · cases e
  · split at e
    · rename_i hb
      simp only [set_ne hx hb]
      split at e
      · rename_i hf
        simp only [Option.some.injEq, Prod.mk.injEq] at e
        obtain ⟨h1, rfl⟩ := e
        rw [if_pos hf]
        exact ⟨by rw [h1], hx⟩
      · cases e
    · cases e
  · cases e

def FrmOk (rec : Nat → List AV → AH → Option (AV × AH)) : Prop := ∀ f args H v H' x X, rec f args H = some (v, H') → H.blk x = none → x < H.next → rec f args (H.set x X) = some (v, H'.set x X) ∧ H'.blk x = none

theorem opA_frame {rec : Nat → List AV → AH → Option (AV × AH)} (hr : FrmOk rec) {ρ : Opd → AV} {id : Nat} {r : ROp} {v : AV} (h : opA rec ρ id H r = some (v, H')) (hx : H.blk x = none) (hlt : x < H.next) (hne : id ≠ x) :
    opA rec ρ id (H.set x X) r = some (v, H'.set x X) ∧ H'.blk x = none := by
  unfold opA at *
  split at h
  · simp only [Option.map_eq_some_iff, Prod.mk.injEq] at h ⊢
    obtain ⟨u, h1, h2, h3⟩ := h
    subst h3
    exact ⟨⟨u, h1, h2, rfl⟩, hx⟩
  · simp only [Option.map_eq_some_iff, Prod.mk.injEq] at h ⊢
    obtain ⟨u, h1, h2, h3⟩ := h
    subst h3
    refine ⟨⟨u, ?_, h2, rfl⟩, hx⟩
    cases r <;> simp only [loadO, reduceCtorEq] at h1 ⊢
    exact loadA_frame hx h1
  · simp only [Option.bind_eq_some_iff, Option.map_eq_some_iff, Prod.mk.injEq] at h ⊢
    obtain ⟨u, h1, H1, h2, h3, h4⟩ := h
    subst h4
    obtain ⟨h5, h6⟩ := new_frame (X := X) hx hne h2
    exact ⟨⟨u, h1, _, h5, h3, rfl⟩, h6⟩
  · cases r with
    | store n b u =>
      simp only [effO, Option.map_eq_some_iff, Prod.mk.injEq] at h ⊢
      obtain ⟨H1, h1, h2, h3⟩ := h
      subst h3
      unfold storeA at *
      split at h1
      · split at h1
        · split at h1
          · rename_i hl
            obtain ⟨h5, h6⟩ := stn_frame (X := X) hx h1
            exact ⟨⟨_, by rw [if_pos hl]; exact h5, h2, rfl⟩, h6⟩
          · cases h1
        · cases h1
      · cases h1
    | append esz bytes s y =>
      simp only [effO, appendA] at h ⊢
      split at h
      · simp only [Option.bind_eq_some_iff] at h ⊢
        obtain ⟨n, h1, new, h2, h⟩ := h
        split at h
        · rename_i hc
          split at h
          · rename_i hn
            cases h
            exact ⟨⟨n, h1, new, sliceCells_frame hx h2, by rw [if_pos hc, if_pos hn]⟩, hx⟩
          · rename_i hn
            simp only [Option.map_eq_some_iff, Prod.mk.injEq] at h
            obtain ⟨H1, h3, h4, h5⟩ := h
            subst h5
            obtain ⟨h6, h7⟩ := new_frame (X := X) hx hne h3
            exact ⟨⟨n, h1, new, sliceCells_frame hx h2, by rw [if_pos hc, if_neg hn, h6]; simp [h4]⟩, h7⟩
        · cases h
      · rename_i b o len cap e hs
        simp only [Option.bind_eq_some_iff] at h ⊢
        obtain ⟨n, h1, new, h2, h⟩ := h
        split at h
        · rename_i hc
          split at h
          · rename_i hn
            simp only [Option.map_eq_some_iff, Prod.mk.injEq] at h
            obtain ⟨H1, h3, h4, h5⟩ := h
            subst h5
            obtain ⟨h6, h7⟩ := stn_frame (X := X) hx h3
            exact ⟨⟨n, h1, new, sliceCells_frame hx h2, by rw [if_pos hc, if_pos hn, h6]; simp [h4]⟩, h7⟩
          · rename_i hn
            split at h
            · rename_i l hb
              split at h
              · rename_i hfit
                simp only [Option.map_eq_some_iff, Prod.mk.injEq] at h
                obtain ⟨H1, h3, h4, h5⟩ := h
                subst h5
                have hbx : b ≠ x := by intro hcc; subst hcc; rw [hx] at hb; cases hb
                obtain ⟨h6, h7⟩ := new_frame (X := X) (H := H.set b .dead) (set_none hx (Ne.symm hbx)) hne h3
                refine ⟨⟨n, h1, new, sliceCells_frame hx h2, ?_⟩, h7⟩
                rw [if_pos hc, if_neg hn, set_ne hx hb]
                simp only [hfit, if_true, Option.map_eq_some_iff, Prod.mk.injEq]
                exact ⟨_, by rw [set_comm hbx]; exact h6, h4, rfl⟩
              · cases h
            · cases h
        · cases h
      · cases h
    | copy esz d s =>
      simp only [effO, copyA] at h ⊢
      split at h
      · simp only [Option.bind_eq_some_iff] at h ⊢
        obtain ⟨n, h1, new, h2, h⟩ := h
        cases h
        exact ⟨⟨n, h1, new, sliceCells_frame hx h2, rfl⟩, hx⟩
      · simp only [Option.bind_eq_some_iff] at h ⊢
        obtain ⟨n, h1, new, h2, h⟩ := h
        split at h
        · rename_i hc
          simp only [Option.map_eq_some_iff, Prod.mk.injEq] at h
          obtain ⟨H1, h3, h4, h5⟩ := h
          subst h5
          obtain ⟨h6, h7⟩ := stn_frame (X := X) hx h3
          exact ⟨⟨n, h1, new, sliceCells_frame hx h2, by rw [if_pos hc, h6]; simp [h4]⟩, h7⟩
        · cases h
      · cases h
    | clear esz z y =>
      simp only [effO, Option.map_eq_some_iff, Prod.mk.injEq] at h ⊢
      obtain ⟨H1, h1, h2, h3⟩ := h
      subst h3
      unfold clearA at *
      split at h1
      · cases h1; exact ⟨⟨_, rfl, h2, rfl⟩, hx⟩
      · split at h1
        · rename_i hn; cases h1; exact ⟨⟨_, by rw [if_pos hn], h2, rfl⟩, hx⟩
        · rename_i hn
          split at h1
          · rename_i hc
            obtain ⟨h5, h6⟩ := stn_frame (X := X) hx h1
            exact ⟨⟨_, by rw [if_neg hn, if_pos hc]; exact h5, h2, rfl⟩, h6⟩
          · cases h1
      · cases h1
    | call f args => exact hr _ _ _ _ _ _ _ h hx hlt
    | callv y args =>
      simp only [effO] at h ⊢
      split at h
      · exact hr _ _ _ _ _ _ _ h hx hlt
      · exact hr _ _ _ _ _ _ _ h hx hlt
      · cases h
    | hop g args => exact hopA_frame hx h hne
    | _ => simp [effO] at h

theorem stepA_frame {rec : Nat → List AV → AH → Option (AV × AH)} (hr : FrmOk rec) {base : Nat} {r : ROper} {T T' : List AV} (h : stepA rec base r T H = some (T', H')) (hx : H.blk x = none) (hlt : x < H.next) (hne : base + r.idx ≠ x) :
    stepA rec base r T (H.set x X) = some (T', H'.set x X) ∧ H'.blk x = none := by
  unfold stepA at *
  split at h
  · rename_i hw
    rw [if_pos hw]
    simp only [Option.map_eq_some_iff, Prod.mk.injEq] at h ⊢
    obtain ⟨⟨v, H1⟩, h1, h2, h3⟩ := h
    subst h3
    obtain ⟨h5, h6⟩ := opA_frame (X := X) hr h1 hx hlt hne
    exact ⟨⟨_, h5, h2, rfl⟩, h6⟩
  · rename_i hw
    rw [if_neg hw]
    cases h; exact ⟨rfl, hx⟩

theorem watch_frame {T : List AV} {w : Watch} (hx : H.blk x = none) (h : watchOk T H w = true) : watchOk T (H.set x X) w = true := by
  unfold watchOk at *
  split at h
  · rw [if_pos (by assumption)]
    simp only [decide_eq_true_eq] at h ⊢
    exact loadA_frame hx h
  · rw [if_neg (by assumption)]

theorem regA_frame {rec : Nat → List AV → AH → Option (AV × AH)} (hr : FrmOk rec) (hn : NextOk rec) {base : Nat} : ∀ {l : List ROper} {T T' : List AV} {H H' : AH}, regA rec base l T H = some (T', H') → H.blk x = none → x < H.next → x < base →
    regA rec base l T (H.set x X) = some (T', H'.set x X) ∧ H'.blk x = none
  | [], T, T', H, H', h, hx, _, _ => by simp only [regA] at *; cases h; exact ⟨rfl, hx⟩
  | r :: l, T, T', H, H', h, hx, hlt, hb => by
    simp only [regA, Option.bind_eq_some_iff] at h ⊢
    obtain ⟨⟨T1, H1⟩, h1, h2⟩ := h
    split at h2
    · rename_i hw
      obtain ⟨h3, h4⟩ := stepA_frame (X := X) hr h1 hx hlt (by omega)
      obtain ⟨h5, h6⟩ := regA_frame hr hn h2 h4 (Nat.lt_of_lt_of_le hlt (stepA_next hn h1)) hb
      refine ⟨⟨_, h3, ?_⟩, h6⟩
      rw [if_pos]
      · exact h5
      · rw [List.all_eq_true] at hw ⊢
        intro w hwm
        exact watch_frame h4 (hw w hwm)
    · cases h2

theorem regA_next {rec : Nat → List AV → AH → Option (AV × AH)} (hn : NextOk rec) {base : Nat} : ∀ {l : List ROper} {T T' : List AV} {H H' : AH}, regA rec base l T H = some (T', H') → H.next ≤ H'.next
  | [], T, T', H, H', h => by simp only [regA] at h; cases h; exact Nat.le_refl _
  | r :: l, T, T', H, H', h => by
    simp only [regA, Option.bind_eq_some_iff] at h
    obtain ⟨⟨T1, H1⟩, h1, h2⟩ := h
    split at h2
    · exact Nat.le_trans (stepA_next hn h1) (regA_next hn h2)
    · cases h2

theorem iterA_next {f : List AV → AH → Option (Ex × List AV × AH)} (hf : ∀ T H e T' H', f T H = some (e, T', H') → H.next ≤ H'.next) : ∀ (n : Nat) {T T' : List AV} {H H' : AH} {e : Ex}, iterA f n T H = some (e, T', H') → H.next ≤ H'.next
  | 0, _, _, _, _, _, h => by simp [iterA] at h
  | n + 1, T, T', H, H', e, h => by
    simp only [iterA, Option.bind_eq_some_iff] at h
    obtain ⟨⟨e1, T1, H1⟩, h1, h2⟩ := h
    have k := hf _ _ _ _ _ h1
    cases e1 with
    | norm => exact Nat.le_trans k (iterA_next hf n h2)
    | ret => simp only at h2; cases h2; exact k
    | out id => simp only at h2; cases h2; exact k

theorem rcA_next {rec : Nat → List AV → AH → Option (AV × AH)} (hn : NextOk rec) {fuel : Nat} : ∀ (c : RC) {T T' : List AV} {H H' : AH} {e : Ex}, rcA rec fuel c T H = some (e, T', H') → H.next ≤ H'.next
  | .skip, _, _, _, _, _, h => by simp only [rcA] at h; cases h; exact Nat.le_refl _
  | .ret, _, _, _, _, _, h => by simp only [rcA] at h; cases h; exact Nat.le_refl _
  | .exit _, _, _, _, _, _, h => by simp only [rcA] at h; cases h; exact Nat.le_refl _
  | .region n ops, T, T', H, H', e, h => by
    simp only [rcA, Option.map_eq_some_iff] at h
    obtain ⟨⟨T1, H1⟩, h1, h2⟩ := h
    cases h2
    exact Nat.le_trans (Nat.le_add_right _ _) (regA_next hn h1)
  | .seq a b, T, T', H, H', e, h => by
    simp only [rcA, Option.bind_eq_some_iff] at h
    obtain ⟨⟨e1, T1, H1⟩, h1, h2⟩ := h
    have k := rcA_next hn a h1
    cases e1 with
    | norm => exact Nat.le_trans k (rcA_next hn b h2)
    | ret => simp only at h2; cases h2; exact k
    | out id => simp only at h2; cases h2; exact k
  | .cond c a b, T, T', H, H', e, h => by
    simp only [rcA] at h
    split at h
    · exact rcA_next hn a h
    · exact rcA_next hn b h
    · cases h
  | .block id a, T, T', H, H', e, h => by
    simp only [rcA, Option.map_eq_some_iff] at h
    obtain ⟨⟨e1, T1, H1⟩, h1, h2⟩ := h
    cases h2
    exact rcA_next hn a h1
  | .loop a, T, T', H, H', e, h => by
    simp only [rcA] at h
    exact iterA_next (fun T H e T' H' h => rcA_next hn a h) fuel h

theorem iterA_frame {f : List AV → AH → Option (Ex × List AV × AH)} (hn : ∀ T H e T' H', f T H = some (e, T', H') → H.next ≤ H'.next)
    (hf : ∀ T H e T' H', f T H = some (e, T', H') → H.blk x = none → x < H.next → f T (H.set x X) = some (e, T', H'.set x X) ∧ H'.blk x = none) :
    ∀ (n : Nat) {T T' : List AV} {H H' : AH} {e : Ex}, iterA f n T H = some (e, T', H') → H.blk x = none → x < H.next → iterA f n T (H.set x X) = some (e, T', H'.set x X) ∧ H'.blk x = none
  | 0, _, _, _, _, _, h, _, _ => by simp [iterA] at h
  | n + 1, T, T', H, H', e, h, hx, hlt => by
    simp only [iterA, Option.bind_eq_some_iff] at h ⊢
    obtain ⟨⟨e1, T1, H1⟩, h1, h2⟩ := h
    obtain ⟨h3, h4⟩ := hf _ _ _ _ _ h1 hx hlt
    cases e1 with
    | norm =>
      obtain ⟨h5, h6⟩ := iterA_frame hn hf n h2 h4 (Nat.lt_of_lt_of_le hlt (hn _ _ _ _ _ h1))
      exact ⟨⟨_, h3, h5⟩, h6⟩
    | ret => simp only at h2; cases h2; exact ⟨⟨_, h3, rfl⟩, h4⟩
    | out id => simp only at h2; cases h2; exact ⟨⟨_, h3, rfl⟩, h4⟩

theorem bump_set (n : Nat) : (H.set x X).bump n = (H.bump n).set x X := rfl

theorem rcA_frame {rec : Nat → List AV → AH → Option (AV × AH)} (hr : FrmOk rec) (hn : NextOk rec) {fuel : Nat} : ∀ (c : RC) {T T' : List AV} {H H' : AH} {e : Ex}, rcA rec fuel c T H = some (e, T', H') → H.blk x = none → x < H.next →
    rcA rec fuel c T (H.set x X) = some (e, T', H'.set x X) ∧ H'.blk x = none
  | .skip, _, _, _, _, _, h, hx, _ => by simp only [rcA] at *; cases h; exact ⟨rfl, hx⟩
  | .ret, _, _, _, _, _, h, hx, _ => by simp only [rcA] at *; cases h; exact ⟨rfl, hx⟩
  | .exit _, _, _, _, _, _, h, hx, _ => by simp only [rcA] at *; cases h; exact ⟨rfl, hx⟩
  | .region n ops, T, T', H, H', e, h, hx, hlt => by
    simp only [rcA, Option.map_eq_some_iff] at h ⊢
    obtain ⟨⟨T1, H1⟩, h1, h2⟩ := h
    cases h2
    obtain ⟨h3, h4⟩ := regA_frame (X := X) hr hn (x := x) h1 hx (Nat.lt_of_lt_of_le hlt (Nat.le_add_right _ _)) hlt
    exact ⟨⟨_, h3, rfl⟩, h4⟩
  | .seq a b, T, T', H, H', e, h, hx, hlt => by
    simp only [rcA, Option.bind_eq_some_iff] at h ⊢
    obtain ⟨⟨e1, T1, H1⟩, h1, h2⟩ := h
    obtain ⟨h3, h4⟩ := rcA_frame hr hn a h1 hx hlt
    cases e1 with
    | norm =>
      obtain ⟨h5, h6⟩ := rcA_frame hr hn b h2 h4 (Nat.lt_of_lt_of_le hlt (rcA_next hn a h1))
      exact ⟨⟨_, h3, h5⟩, h6⟩
    | ret => simp only at h2; cases h2; exact ⟨⟨_, h3, rfl⟩, h4⟩
    | out id => simp only at h2; cases h2; exact ⟨⟨_, h3, rfl⟩, h4⟩
  | .cond c a b, T, T', H, H', e, h, hx, hlt => by
    simp only [rcA] at h ⊢
    split at h
    · exact rcA_frame hr hn a h hx hlt
    · exact rcA_frame hr hn b h hx hlt
    · cases h
  | .block id a, T, T', H, H', e, h, hx, hlt => by
    simp only [rcA, Option.map_eq_some_iff] at h ⊢
    obtain ⟨⟨e1, T1, H1⟩, h1, h2⟩ := h
    cases h2
    obtain ⟨h3, h4⟩ := rcA_frame hr hn a h1 hx hlt
    exact ⟨⟨_, h3, rfl⟩, h4⟩
  | .loop a, T, T', H, H', e, h, hx, hlt => by
    simp only [rcA] at h ⊢
    exact iterA_frame (f := rcA rec fuel a) (fun _ _ _ _ _ h => rcA_next hn a h) (fun _ _ _ _ _ h hx hlt => rcA_frame hr hn a h hx hlt) fuel h hx hlt

theorem resA1_frame (hx : H.blk x = none) {T : List AV} {r : RRes} {v : AV} (h : resA1 T H r = some v) : resA1 T (H.set x X) r = some v := by
  cases r with
  | tmp t => exact h
  | cell t m => exact loadA_frame hx h

theorem mapM_frame (hx : H.blk x = none) {T : List AV} : ∀ {rs : List RRes} {vs : List AV}, rs.mapM (resA1 T H) = some vs → rs.mapM (resA1 T (H.set x X)) = some vs
  | [], vs, h => by simpa using h
  | r :: rs, vs, h => by
    simp only [List.mapM_cons, Option.pure_def, Option.bind_eq_bind, Option.bind_eq_some_iff] at h ⊢
    obtain ⟨v, h1, vs', h2, h3⟩ := h
    exact ⟨v, resA1_frame hx h1, vs', mapM_frame hx h2, h3⟩

theorem resA_frame (hx : H.blk x = none) {T : List AV} {rs : List RRes} {v : AV} (h : resA rs T H = some v) : resA rs T (H.set x X) = some v := by
  unfold resA at *
  split at h
  · exact resA1_frame hx h
  · simp only [Option.bind_eq_some_iff] at h ⊢
    obtain ⟨vs, h1, h2⟩ := h
    exact ⟨vs, mapM_frame hx h1, h2⟩

variable {tab : Nat → Option RFunc} {ext : Nat → List AV → AH → Option (AV × AH)}

theorem run_next (he : NextOk ext) : ∀ n, NextOk (run tab ext n)
  | 0, _, _, _, _, _, h => by simp [run] at h
  | n + 1, f, args, H, v, H', h => by
    simp only [run] at h
    split at h
    · exact he _ _ _ _ _ h
    · simp only [Option.bind_eq_some_iff] at h
      obtain ⟨⟨e1, T1, H1⟩, h1, h2⟩ := h
      have k := rcA_next (run_next he n) _ h1
      split at h2
      · cases h2
      · simp only [Option.map_eq_some_iff, Prod.mk.injEq] at h2
        obtain ⟨_, _, _, rfl⟩ := h2
        exact k

theorem run_frame (he : FrmOk ext) (hn : NextOk ext) : ∀ n, FrmOk (run tab ext n)
  | 0, _, _, _, _, _, _, _, h, _, _ => by simp [run] at h
  | n + 1, f, args, H, v, H', x, X, h, hx, hlt => by
    simp only [run] at h ⊢
    split at h
    · exact he _ _ _ _ _ _ _ h hx hlt
    · simp only [Option.bind_eq_some_iff] at h ⊢
      obtain ⟨⟨e1, T1, H1⟩, h1, h2⟩ := h
      obtain ⟨h3, h4⟩ := rcA_frame (X := X) (run_frame he hn n) (run_next hn n) _ h1 hx hlt
      split at h2
      · cases h2
      · rename_i hne
        simp only [Option.map_eq_some_iff, Prod.mk.injEq] at h2
        obtain ⟨u, h5, h6, h7⟩ := h2
        subst h7
        refine ⟨⟨_, h3, ?_⟩, h4⟩
        cases e1 with
        | out id => exact absurd rfl (hne id)
        | norm => simp [resA_frame h4 h5, h6]
        | ret => simp [resA_frame h4 h5, h6]

end Go.AM
