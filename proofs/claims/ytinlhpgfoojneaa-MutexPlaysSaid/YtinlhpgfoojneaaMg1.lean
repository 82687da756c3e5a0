/-
  THE ABSTRACT MACHINE: a block more, that nothing names, changes nothing of a run.
-/
import Derived.Test.YtinlhpgfoojneaaMg0
import Derived.RowKit3
import Derived.ChangeSame
namespace Go.AM
variable {H H' : AH} {x : Nat} {X : Blk}
theorem set_ne {b : Nat} {k : Blk} (hx : H.blk x = none) (hb : H.blk b = some k) : (H.set x X).blk b = some k := by
  simp only [AH.set, upd]
  rw [if_neg (fun h => by subst h; rw [hx] at hb; cases hb)]
  exact hb
theorem set_none {b : Nat} (hb : H.blk b = none) (hne : b ≠ x) : (H.set x X).blk b = none := by
  simp only [AH.set, upd]; rw [if_neg hne]; exact hb
theorem set_comm {b : Nat} {k : Blk} (h : b ≠ x) : (H.set x X).set b k = (H.set b k).set x X := by
  unfold AH.set
  congr 1
  funext c
  simp only [upd]
  by_cases h1 : c = b
  · subst h1; simp [h]
  · simp [h1]
theorem ld_frame (hx : H.blk x = none) {b o : Nat} {v : SV} (h : H.ld b o = some v) : (H.set x X).ld b o = some v := by
  unfold AH.ld at *
  split at h
  · rename_i ro l hb; rw [set_ne hx hb]; exact h
  · cases h
theorem ldn_frame (hx : H.blk x = none) {b o n : Nat} {v : List SV} (h : H.ldn b o n = some v) : (H.set x X).ldn b o n = some v := by
  unfold AH.ldn at *
  split at h
  · rename_i ro l hb; rw [set_ne hx hb]; exact h
  · cases h
theorem stn_frame (hx : H.blk x = none) {b o : Nat} {l : List SV} (h : H.stn b o l = some H') : (H.set x X).stn b o l = some (H'.set x X) ∧ H'.blk x = none := by
  unfold AH.stn at *
  split at h
  · rename_i l' hb
    have hne : b ≠ x := by intro hc; subst hc; rw [hx] at hb; cases hb
    simp only [set_ne hx hb]
    split at h
    · rename_i hle
      cases h
      rw [if_pos hle, set_comm hne]
      exact ⟨rfl, set_none hx (Ne.symm hne)⟩
    · cases h
  · cases h
theorem new_frame (hx : H.blk x = none) {b : Nat} (hne : b ≠ x) {k : Blk} (h : H.new b k = some H') : (H.set x X).new b k = some (H'.set x X) ∧ H'.blk x = none := by
  unfold AH.new at *
  split at h
  · rename_i hb
    cases h
    rw [set_none hb hne]
    exact ⟨by simp only; rw [set_comm hne], set_none hx (Ne.symm hne)⟩
  · cases h
theorem loadA_frame (hx : H.blk x = none) {m : Option Nat} {a v : AV} (h : loadA m a H = some v) : loadA m a (H.set x X) = some v := by
  unfold loadA at *
  split at h
  · cases m with
    | none =>
      simp only [Option.map_eq_some_iff] at h ⊢
      obtain ⟨s, h1, h2⟩ := h
      exact ⟨s, ld_frame hx h1, h2⟩
    | some n =>
      simp only [Option.map_eq_some_iff] at h ⊢
      obtain ⟨s, h1, h2⟩ := h
      exact ⟨s, ldn_frame hx h1, h2⟩
  · cases h
theorem sliceCells_frame (hx : H.blk x = none) {esz n : Nat} {a : AV} {l : List SV} (h : sliceCells esz a n H = some l) : sliceCells esz a n (H.set x X) = some l := by
  unfold sliceCells at *
  split at h
  · exact h
  · split at h
    · rename_i hc; rw [if_pos hc]; exact ldn_frame hx h
    · cases h
  · cases h
theorem srcCells_frame (hx : H.blk x = none) {esz n : Nat} {a : AV} {l : List SV} (h : srcCells esz a n H = some l) : srcCells esz a n (H.set x X) = some l := by
  unfold srcCells at *
  split at h
  · rename_i h0; rw [if_pos h0]; exact h
  · rename_i h0; rw [if_neg h0]; exact sliceCells_frame hx h
theorem hopA_frame (hx : H.blk x = none) {h : HOp} {id : Nat} {args : List AV} {v : AV} (e : hopA h id args H = some (v, H')) (hne : id ≠ x) : hopA h id args (H.set x X) = some (v, H'.set x X) ∧ H'.blk x = none := by
  unfold hopA at *
  split at e
  · simp only [Option.map_eq_some_iff, Prod.mk.injEq] at e
    obtain ⟨H1, h1, h2, rfl⟩ := e
    obtain ⟨h5, h6⟩ := new_frame (X := X) hx hne h1
    simp only [h5, Option.map_some, h2]
    exact ⟨trivial, h6⟩
  · split at e
    · rename_i es hb
      simp only [set_ne hx hb]
      split at e
      · rename_i hf
        simp only [Option.some.injEq, Prod.mk.injEq] at e
        obtain ⟨h1, rfl⟩ := e
        simp only [h1]
        exact ⟨trivial, hx⟩
      · cases e
    · cases e
  · split at e
    · rename_i r _ _ _ _ _ es p hb hp
      have hrx : r ≠ x := fun e => by subst e; rw [hx] at hb; cases hb
      simp only [set_ne hx hb, hp]
      split at e
      · rename_i hf
        simp only [Option.some.injEq, Prod.mk.injEq] at e
        obtain ⟨h1, rfl⟩ := e
        simp only [h1]
        exact ⟨by rw [set_comm hrx], set_none hx (Ne.symm hrx)⟩
      · rename_i hf
        simp only [Option.some.injEq, Prod.mk.injEq] at e
        obtain ⟨h1, rfl⟩ := e
        simp only [h1]
        exact ⟨by rw [set_comm hrx], set_none hx (Ne.symm hrx)⟩
      · cases e
    · cases e
  · split at e
    · rename_i r _ _ _ es hb
      have hrx : r ≠ x := fun e => by subst e; rw [hx] at hb; cases hb
      simp only [set_ne hx hb]
      split at e
      · rename_i hf
        simp only [Option.some.injEq, Prod.mk.injEq] at e
        obtain ⟨h1, rfl⟩ := e
        simp only [h1]
        exact ⟨by rw [set_comm hrx], set_none hx (Ne.symm hrx)⟩
      · rename_i hf
        simp only [Option.some.injEq, Prod.mk.injEq] at e
        obtain ⟨h1, rfl⟩ := e
        simp only [h1]
        exact ⟨by rw [set_comm hrx], set_none hx (Ne.symm hrx)⟩
      · cases e
    · cases e
  · split at e
    · rename_i hb
      simp only [set_ne hx hb]
      split at e
      · rename_i hf
        simp only [Option.some.injEq, Prod.mk.injEq] at e
        obtain ⟨h1, rfl⟩ := e
        rw [if_pos hf]
        exact ⟨by rw [h1], hx⟩
      · cases e
    · cases e
  · split at e
    · rename_i hb
      simp only [set_ne hx hb]
      split at e
      · rename_i hf
        simp only [Option.some.injEq, Prod.mk.injEq] at e
        obtain ⟨h1, rfl⟩ := e
        rw [if_pos hf]
        exact ⟨by rw [h1], hx⟩
      · cases e
    · cases e
  · simp only [Option.map_eq_some_iff, Option.bind_eq_some_iff, Prod.mk.injEq] at e ⊢
    obtain ⟨l, ⟨cs, h1, h2⟩, rfl, rfl⟩ := e
    exact ⟨⟨l, ⟨cs, sliceCells_frame hx h1, h2⟩, rfl, rfl⟩, hx⟩
  · cases e
def FrmOk (rec : Nat → List AV → AH → Option (AV × AH)) : Prop := ∀ f args H v H' x X, rec f args H = some (v, H') → H.blk x = none → x < H.next → rec f args (H.set x X) = some (v, H'.set x X) ∧ H'.blk x = none
theorem opA_frame {rec : Nat → List AV → AH → Option (AV × AH)} (hr : FrmOk rec) {ρ : Opd → AV} {id : Nat} {r : ROp} {v : AV} (h : opA rec ρ id H r = some (v, H')) (hx : H.blk x = none) (hlt : x < H.next) (hne : id ≠ x) :
    opA rec ρ id (H.set x X) r = some (v, H'.set x X) ∧ H'.blk x = none := by
  unfold opA at *
  split at h
  · simp only [Option.map_eq_some_iff, Prod.mk.injEq] at h ⊢
    obtain ⟨u, h1, h2, h3⟩ := h
    subst h3
    exact ⟨⟨u, h1, h2, rfl⟩, hx⟩
  · simp only [Option.map_eq_some_iff, Prod.mk.injEq] at h ⊢
    obtain ⟨u, h1, h2, h3⟩ := h
    subst h3
    refine ⟨⟨u, ?_, h2, rfl⟩, hx⟩
    cases r <;> simp only [loadO, reduceCtorEq] at h1 ⊢
    exact loadA_frame hx h1
  · simp only [Option.bind_eq_some_iff, Option.map_eq_some_iff, Prod.mk.injEq] at h ⊢
    obtain ⟨u, h1, H1, h2, h3, h4⟩ := h
    subst h4
    obtain ⟨h5, h6⟩ := new_frame (X := X) hx hne h2
    exact ⟨⟨u, h1, _, h5, h3, rfl⟩, h6⟩
  · cases r with
    | store n b u =>
      simp only [effO, Option.map_eq_some_iff, Prod.mk.injEq] at h ⊢
      obtain ⟨H1, h1, h2, h3⟩ := h
      subst h3
      unfold storeA at *
      split at h1
      · split at h1
        · split at h1
          · rename_i hl
            obtain ⟨h5, h6⟩ := stn_frame (X := X) hx h1
            exact ⟨⟨_, by rw [if_pos hl]; exact h5, h2, rfl⟩, h6⟩
          · cases h1
        · cases h1
      · cases h1
    | append esz bytes s y =>
      simp only [effO, appendA] at h ⊢
      split at h
      · simp only [Option.bind_eq_some_iff] at h ⊢
        obtain ⟨n, h1, new, h2, h⟩ := h
        split at h
        · rename_i hc
          split at h
          · rename_i hn
            cases h
            exact ⟨⟨n, h1, new, sliceCells_frame hx h2, by rw [if_pos hc, if_pos hn]⟩, hx⟩
          · rename_i hn
            simp only [Option.map_eq_some_iff, Prod.mk.injEq] at h
            obtain ⟨H1, h3, h4, h5⟩ := h
            subst h5
            obtain ⟨h6, h7⟩ := new_frame (X := X) hx hne h3
            exact ⟨⟨n, h1, new, sliceCells_frame hx h2, by rw [if_pos hc, if_neg hn, h6]; simp [h4]⟩, h7⟩
        · cases h
      · rename_i b o len cap e hs
        simp only [Option.bind_eq_some_iff] at h ⊢
        obtain ⟨n, h1, new, h2, h⟩ := h
        split at h
        · rename_i hc
          split at h
          · rename_i hn
            simp only [Option.map_eq_some_iff, Prod.mk.injEq] at h
            obtain ⟨H1, h3, h4, h5⟩ := h
            subst h5
            obtain ⟨h6, h7⟩ := stn_frame (X := X) hx h3
            exact ⟨⟨n, h1, new, sliceCells_frame hx h2, by rw [if_pos hc, if_pos hn, h6]; simp [h4]⟩, h7⟩
          · rename_i hn
            split at h
            · rename_i l hb
              split at h
              · rename_i hfit
                simp only [Option.map_eq_some_iff, Prod.mk.injEq] at h
                obtain ⟨H1, h3, h4, h5⟩ := h
                subst h5
                have hbx : b ≠ x := by intro hcc; subst hcc; rw [hx] at hb; cases hb
                obtain ⟨h6, h7⟩ := new_frame (X := X) (H := H.set b .dead) (set_none hx (Ne.symm hbx)) hne h3
                refine ⟨⟨n, h1, new, sliceCells_frame hx h2, ?_⟩, h7⟩
                rw [if_pos hc, if_neg hn, set_ne hx hb]
                simp only [hfit, if_true, Option.map_eq_some_iff, Prod.mk.injEq]
                exact ⟨_, by rw [set_comm hbx]; exact h6, h4, rfl⟩
              · cases h
            · cases h
        · cases h
      · cases h
    | copy esz d s =>
      simp only [effO, copyA] at h ⊢
      split at h
      · simp only [Option.bind_eq_some_iff] at h ⊢
        obtain ⟨n, h1, new, h2, h⟩ := h
        cases h
        exact ⟨⟨n, h1, new, srcCells_frame hx h2, rfl⟩, hx⟩
      · simp only [Option.bind_eq_some_iff] at h ⊢
        obtain ⟨n, h1, new, h2, h⟩ := h
        split at h
        · rename_i hc
          simp only [Option.map_eq_some_iff, Prod.mk.injEq] at h
          obtain ⟨H1, h3, h4, h5⟩ := h
          subst h5
          obtain ⟨h6, h7⟩ := stn_frame (X := X) hx h3
          exact ⟨⟨n, h1, new, srcCells_frame hx h2, by rw [if_pos hc, h6]; simp [h4]⟩, h7⟩
        · cases h
      · cases h
    | clear esz z y =>
      simp only [effO, Option.map_eq_some_iff, Prod.mk.injEq] at h ⊢
      obtain ⟨H1, h1, h2, h3⟩ := h
      subst h3
      unfold clearA at *
      split at h1
      · cases h1; exact ⟨⟨_, rfl, h2, rfl⟩, hx⟩
      · split at h1
        · rename_i hn; cases h1; exact ⟨⟨_, by rw [if_pos hn], h2, rfl⟩, hx⟩
        · rename_i hn
          split at h1
          · rename_i hc
            obtain ⟨h5, h6⟩ := stn_frame (X := X) hx h1
            exact ⟨⟨_, by rw [if_neg hn, if_pos hc]; exact h5, h2, rfl⟩, h6⟩
          · cases h1
      · cases h1
    | call f args => exact hr _ _ _ _ _ _ _ h hx hlt
    | callv y args =>
      simp only [effO] at h ⊢
      split at h
      · exact hr _ _ _ _ _ _ _ h hx hlt
      · exact hr _ _ _ _ _ _ _ h hx hlt
      · cases h
    | hop g args => exact hopA_frame hx h hne
    | _ => simp [effO] at h
theorem stepA_frame {rec : Nat → List AV → AH → Option (AV × AH)} (hr : FrmOk rec) {base : Nat} {r : ROper} {T T' : List AV} (h : stepA rec base r T H = some (T', H')) (hx : H.blk x = none) (hlt : x < H.next) (hne : base + r.idx ≠ x) :
    stepA rec base r T (H.set x X) = some (T', H'.set x X) ∧ H'.blk x = none := by
  unfold stepA at *
  split at h
  · rename_i hw
    rw [if_pos hw]
    simp only [Option.map_eq_some_iff, Prod.mk.injEq] at h ⊢
    obtain ⟨⟨v, H1⟩, h1, h2, h3⟩ := h
    subst h3
    obtain ⟨h5, h6⟩ := opA_frame (X := X) hr h1 hx hlt hne
    exact ⟨⟨_, h5, h2, rfl⟩, h6⟩
  · rename_i hw
    rw [if_neg hw]
    cases h; exact ⟨rfl, hx⟩
theorem watch_frame {T : List AV} {w : Watch} (hx : H.blk x = none) (h : watchOk T H w = true) : watchOk T (H.set x X) w = true := by
  unfold watchOk at *
  split at h
  · rw [if_pos (by assumption)]
    simp only [decide_eq_true_eq] at h ⊢
    exact loadA_frame hx h
  · rw [if_neg (by assumption)]
theorem regA_frame {rec : Nat → List AV → AH → Option (AV × AH)} (hr : FrmOk rec) (hn : NextOk rec) {base : Nat} : ∀ {l : List ROper} {T T' : List AV} {H H' : AH}, regA rec base l T H = some (T', H') → H.blk x = none → x < H.next → x < base →
    regA rec base l T (H.set x X) = some (T', H'.set x X) ∧ H'.blk x = none
  | [], T, T', H, H', h, hx, _, _ => by simp only [regA] at *; cases h; exact ⟨rfl, hx⟩
  | r :: l, T, T', H, H', h, hx, hlt, hb => by
    simp only [regA, Option.bind_eq_some_iff] at h ⊢
    obtain ⟨⟨T1, H1⟩, h1, h2⟩ := h
    split at h2
    · rename_i hw
      obtain ⟨h3, h4⟩ := stepA_frame (X := X) hr h1 hx hlt (by omega)
      obtain ⟨h5, h6⟩ := regA_frame hr hn h2 h4 (Nat.lt_of_lt_of_le hlt (stepA_next hn h1)) hb
      refine ⟨⟨_, h3, ?_⟩, h6⟩
      rw [if_pos]
      · exact h5
      · rw [List.all_eq_true] at hw ⊢
        intro w hwm
        exact watch_frame h4 (hw w hwm)
    · cases h2
theorem regA_next {rec : Nat → List AV → AH → Option (AV × AH)} (hn : NextOk rec) {base : Nat} : ∀ {l : List ROper} {T T' : List AV} {H H' : AH}, regA rec base l T H = some (T', H') → H.next ≤ H'.next
  | [], T, T', H, H', h => by simp only [regA] at h; cases h; exact Nat.le_refl _
  | r :: l, T, T', H, H', h => by
    simp only [regA, Option.bind_eq_some_iff] at h
    obtain ⟨⟨T1, H1⟩, h1, h2⟩ := h
    split at h2
    · exact Nat.le_trans (stepA_next hn h1) (regA_next hn h2)
    · cases h2
theorem iterA_next {f : List AV → AH → Option (Ex × List AV × AH)} (hf : ∀ T H e T' H', f T H = some (e, T', H') → H.next ≤ H'.next) : ∀ (n : Nat) {T T' : List AV} {H H' : AH} {e : Ex}, iterA f n T H = some (e, T', H') → H.next ≤ H'.next
  | 0, _, _, _, _, _, h => by simp [iterA] at h
  | n + 1, T, T', H, H', e, h => by
    simp only [iterA, Option.bind_eq_some_iff] at h
    obtain ⟨⟨e1, T1, H1⟩, h1, h2⟩ := h
    have k := hf _ _ _ _ _ h1
    cases e1 with
    | norm => exact Nat.le_trans k (iterA_next hf n h2)
    | ret => simp only at h2; cases h2; exact k
    | out id => simp only at h2; cases h2; exact k
theorem rcA_next {rec : Nat → List AV → AH → Option (AV × AH)} (hn : NextOk rec) {fuel : Nat} : ∀ (c : RC) {T T' : List AV} {H H' : AH} {e : Ex}, rcA rec fuel c T H = some (e, T', H') → H.next ≤ H'.next
  | .skip, _, _, _, _, _, h => by simp only [rcA] at h; cases h; exact Nat.le_refl _
  | .ret, _, _, _, _, _, h => by simp only [rcA] at h; cases h; exact Nat.le_refl _
  | .exit _, _, _, _, _, _, h => by simp only [rcA] at h; cases h; exact Nat.le_refl _
  | .region n ops, T, T', H, H', e, h => by
    simp only [rcA, Option.map_eq_some_iff] at h
    obtain ⟨⟨T1, H1⟩, h1, h2⟩ := h
    cases h2
    exact Nat.le_trans (Nat.le_add_right _ _) (regA_next hn h1)
  | .seq a b, T, T', H, H', e, h => by
    simp only [rcA, Option.bind_eq_some_iff] at h
    obtain ⟨⟨e1, T1, H1⟩, h1, h2⟩ := h
    have k := rcA_next hn a h1
    cases e1 with
    | norm => exact Nat.le_trans k (rcA_next hn b h2)
    | ret => simp only at h2; cases h2; exact k
    | out id => simp only at h2; cases h2; exact k
  | .cond c a b, T, T', H, H', e, h => by
    simp only [rcA] at h
    split at h
    · exact rcA_next hn a h
    · exact rcA_next hn b h
    · cases h
  | .block id a, T, T', H, H', e, h => by
    simp only [rcA, Option.map_eq_some_iff] at h
    obtain ⟨⟨e1, T1, H1⟩, h1, h2⟩ := h
    cases h2
    exact rcA_next hn a h1
  | .loop a, T, T', H, H', e, h => by
    simp only [rcA] at h
    exact iterA_next (fun T H e T' H' h => rcA_next hn a h) fuel h
theorem iterA_frame {f : List AV → AH → Option (Ex × List AV × AH)} (hn : ∀ T H e T' H', f T H = some (e, T', H') → H.next ≤ H'.next)
    (hf : ∀ T H e T' H', f T H = some (e, T', H') → H.blk x = none → x < H.next → f T (H.set x X) = some (e, T', H'.set x X) ∧ H'.blk x = none) :
    ∀ (n : Nat) {T T' : List AV} {H H' : AH} {e : Ex}, iterA f n T H = some (e, T', H') → H.blk x = none → x < H.next → iterA f n T (H.set x X) = some (e, T', H'.set x X) ∧ H'.blk x = none
  | 0, _, _, _, _, _, h, _, _ => by simp [iterA] at h
  | n + 1, T, T', H, H', e, h, hx, hlt => by
    simp only [iterA, Option.bind_eq_some_iff] at h ⊢
    obtain ⟨⟨e1, T1, H1⟩, h1, h2⟩ := h
    obtain ⟨h3, h4⟩ := hf _ _ _ _ _ h1 hx hlt
    cases e1 with
    | norm =>
      obtain ⟨h5, h6⟩ := iterA_frame hn hf n h2 h4 (Nat.lt_of_lt_of_le hlt (hn _ _ _ _ _ h1))
      exact ⟨⟨_, h3, h5⟩, h6⟩
    | ret => simp only at h2; cases h2; exact ⟨⟨_, h3, rfl⟩, h4⟩
    | out id => simp only at h2; cases h2; exact ⟨⟨_, h3, rfl⟩, h4⟩
theorem rcA_frame {rec : Nat → List AV → AH → Option (AV × AH)} (hr : FrmOk rec) (hn : NextOk rec) {fuel : Nat} : ∀ (c : RC) {T T' : List AV} {H H' : AH} {e : Ex}, rcA rec fuel c T H = some (e, T', H') → H.blk x = none → x < H.next →
    rcA rec fuel c T (H.set x X) = some (e, T', H'.set x X) ∧ H'.blk x = none
  | .skip, _, _, _, _, _, h, hx, _ => by simp only [rcA] at *; cases h; exact ⟨rfl, hx⟩
  | .ret, _, _, _, _, _, h, hx, _ => by simp only [rcA] at *; cases h; exact ⟨rfl, hx⟩
  | .exit _, _, _, _, _, _, h, hx, _ => by simp only [rcA] at *; cases h; exact ⟨rfl, hx⟩
  | .region n ops, T, T', H, H', e, h, hx, hlt => by
    simp only [rcA, Option.map_eq_some_iff] at h ⊢
    obtain ⟨⟨T1, H1⟩, h1, h2⟩ := h
    cases h2
    obtain ⟨h3, h4⟩ := regA_frame (X := X) hr hn (x := x) h1 hx (Nat.lt_of_lt_of_le hlt (Nat.le_add_right _ _)) hlt
    exact ⟨⟨_, h3, rfl⟩, h4⟩
  | .seq a b, T, T', H, H', e, h, hx, hlt => by
    simp only [rcA, Option.bind_eq_some_iff] at h ⊢
    obtain ⟨⟨e1, T1, H1⟩, h1, h2⟩ := h
    obtain ⟨h3, h4⟩ := rcA_frame hr hn a h1 hx hlt
    cases e1 with
    | norm =>
      obtain ⟨h5, h6⟩ := rcA_frame hr hn b h2 h4 (Nat.lt_of_lt_of_le hlt (rcA_next hn a h1))
      exact ⟨⟨_, h3, h5⟩, h6⟩
    | ret => simp only at h2; cases h2; exact ⟨⟨_, h3, rfl⟩, h4⟩
    | out id => simp only at h2; cases h2; exact ⟨⟨_, h3, rfl⟩, h4⟩
  | .cond c a b, T, T', H, H', e, h, hx, hlt => by
    simp only [rcA] at h ⊢
    split at h
    · exact rcA_frame hr hn a h hx hlt
    · exact rcA_frame hr hn b h hx hlt
    · cases h
  | .block id a, T, T', H, H', e, h, hx, hlt => by
    simp only [rcA, Option.map_eq_some_iff] at h ⊢
    obtain ⟨⟨e1, T1, H1⟩, h1, h2⟩ := h
    cases h2
    obtain ⟨h3, h4⟩ := rcA_frame hr hn a h1 hx hlt
    exact ⟨⟨_, h3, rfl⟩, h4⟩
  | .loop a, T, T', H, H', e, h, hx, hlt => by
    simp only [rcA] at h ⊢
    exact iterA_frame (f := rcA rec fuel a) (fun _ _ _ _ _ h => rcA_next hn a h) (fun _ _ _ _ _ h hx hlt => rcA_frame hr hn a h hx hlt) fuel h hx hlt
theorem resA1_frame (hx : H.blk x = none) {T : List AV} {r : RRes} {v : AV} (h : resA1 T H r = some v) : resA1 T (H.set x X) r = some v := by
  cases r with
  | tmp t => exact h
  | cell t m => exact loadA_frame hx h
theorem mapM_frame (hx : H.blk x = none) {T : List AV} : ∀ {rs : List RRes} {vs : List AV}, rs.mapM (resA1 T H) = some vs → rs.mapM (resA1 T (H.set x X)) = some vs
  | [], vs, h => by simpa using h
  | r :: rs, vs, h => by
    simp only [List.mapM_cons, Option.pure_def, Option.bind_eq_bind, Option.bind_eq_some_iff] at h ⊢
    obtain ⟨v, h1, vs', h2, h3⟩ := h
    exact ⟨v, resA1_frame hx h1, vs', mapM_frame hx h2, h3⟩
theorem resA_frame (hx : H.blk x = none) {T : List AV} {rs : List RRes} {v : AV} (h : resA rs T H = some v) : resA rs T (H.set x X) = some v := by
  unfold resA at *
  split at h
  · exact resA1_frame hx h
  · simp only [Option.bind_eq_some_iff] at h ⊢
    obtain ⟨vs, h1, h2⟩ := h
    exact ⟨vs, mapM_frame hx h1, h2⟩
variable {tab : Nat → Option RFunc} {ext : Nat → List AV → AH → Option (AV × AH)}
theorem run_next (he : NextOk ext) : ∀ n, NextOk (run tab ext n)
  | 0, _, _, _, _, _, h => by simp [run] at h
  | n + 1, f, args, H, v, H', h => by
    simp only [run] at h
    split at h
    · exact he _ _ _ _ _ h
    · simp only [Option.bind_eq_some_iff] at h
      obtain ⟨⟨e1, T1, H1⟩, h1, h2⟩ := h
      have k := rcA_next (run_next he n) _ h1
      split at h2
      · cases h2
      · simp only [Option.map_eq_some_iff, Prod.mk.injEq] at h2
        obtain ⟨_, _, _, rfl⟩ := h2
        exact k
theorem run_frame (he : FrmOk ext) (hn : NextOk ext) : ∀ n, FrmOk (run tab ext n)
  | 0, _, _, _, _, _, _, _, h, _, _ => by simp [run] at h
  | n + 1, f, args, H, v, H', x, X, h, hx, hlt => by
    simp only [run] at h ⊢
    split at h
    · exact he _ _ _ _ _ _ _ h hx hlt
    · simp only [Option.bind_eq_some_iff] at h ⊢
      obtain ⟨⟨e1, T1, H1⟩, h1, h2⟩ := h
      obtain ⟨h3, h4⟩ := rcA_frame (X := X) (run_frame he hn n) (run_next hn n) _ h1 hx hlt
      split at h2
      · cases h2
      · rename_i hne
        simp only [Option.map_eq_some_iff, Prod.mk.injEq] at h2
        obtain ⟨u, h5, h6, h7⟩ := h2
        subst h7
        refine ⟨⟨_, h3, ?_⟩, h4⟩
        cases e1 with
        | out id => exact absurd rfl (hne id)
        | norm => simp [resA_frame h4 h5, h6]
        | ret => simp [resA_frame h4 h5, h6]
end Go.AM

/-
  THE ABSTRACT MACHINE: in whatever order a region's operations come that Go leaves open, its run comes to the same.
-/
namespace Go.AM
def Opd.slots : Opd → List Nat
  | .t n => [n]
  | _ => []
def optSlots : Option Opd → List Nat
  | none => []
  | some x => x.slots
def ROp.opds : ROp → List Opd
  | .move x | .nilCheck x | .box x | .load _ x | .fieldAddr _ x | .field _ _ x | .un _ x | .conv _ x | .extract _ x | .bindf _ x | .len x | .clear _ _ x => [x]
  | .pick c a b => [c, a, b]
  | .newc _ | .lenArr _ | .stuck => []
  | .build _ ps | .buildSlice _ _ _ ps => ps.map fun p => p.2.2
  | .store _ a v => [a, v]
  | .indexSl _ x i | .indexArr _ _ x i | .index _ _ _ x i | .bin _ x i | .eqs _ _ x i | .eqAgg _ _ x i | .makeSlice _ _ _ x i | .append _ _ x i | .copy _ x i | .minmax _ x i => [x, i]
  | .slSl _ x lo hi mx => x :: (lo.toList ++ hi.toList ++ mx.toList)
  | .makeFunc _ caps => caps
  | .call _ args | .hop _ args => args
  | .callv x args => x :: args
def ROp.reads (r : ROp) : List Nat := r.opds.flatMap Opd.slots
theorem opts_congr {ρ ρ' : Opd → AV} {x : Option Opd} (h : ∀ y ∈ x.toList, ρ y = ρ' y) : x.map ρ = x.map ρ' := by
  cases x with
  | none => rfl
  | some y => simp [h y (by simp)]
theorem map_congr' {ρ ρ' : Opd → AV} {l : List Opd} (h : ∀ y ∈ l, ρ y = ρ' y) : l.map ρ = l.map ρ' := List.map_congr_left h
theorem parts_congr {ρ ρ' : Opd → AV} {ps : List (Nat × Nat × Opd)} (h : ∀ y ∈ ps.map (fun p => p.2.2), ρ y = ρ' y) :
    ps.map (fun p => (p.1, p.2.1, ρ p.2.2)) = ps.map (fun p => (p.1, p.2.1, ρ' p.2.2)) := by
  apply List.map_congr_left
  intro p hp
  rw [h p.2.2 (List.mem_map.2 ⟨p, hp, rfl⟩)]
theorem opA_congr {rec : Nat → List AV → AH → Option (AV × AH)} {ρ ρ' : Opd → AV} {id : Nat} {H : AH} {r : ROp} (h : ∀ y ∈ r.opds, ρ y = ρ' y) : opA rec ρ id H r = opA rec ρ' id H r := by
  cases r <;> simp only [ROp.opds, List.mem_cons, List.not_mem_nil, or_false, forall_eq_or_imp, forall_eq, List.mem_append] at h <;>
    simp only [opA, ROp.kind, pureA, loadO, allocO, effO] <;>
    first
    | rfl
    | (simp only [h]; done)
    | (obtain ⟨h1, h2⟩ := h; simp only [h1]; done)
    | (obtain ⟨h1, h2, h3⟩ := h; simp only [h1, h2, h3]; done)
    | (rw [parts_congr h]; done)
    | (rw [map_congr' h]; done)
    | (obtain ⟨h1, h2⟩ := h; rw [h1, map_congr' h2]; done)
    | (obtain ⟨h1, h2⟩ := h
       rw [h1, opts_congr (fun y hy => h2 y (.inl (.inl hy))), opts_congr (fun y hy => h2 y (.inl (.inr hy))), opts_congr (fun y hy => h2 y (.inr hy))])
def guardSlots : Option (Nat × Bool) → List Nat
  | none => []
  | some (t, _) => [t]
def ROper.looks (r : ROper) : List Nat := guardSlots r.guard ++ r.op.reads
def hits (d : Option Nat) (l : List Nat) : Bool :=
  match d with
  | none => false
  | some d => l.contains d
theorem getD_put {T : List AV} {d : Option Nat} {v : AV} {t : Nat} (h : hits d [t] = false) : (put T d v).getD t undef = T.getD t undef := by
  cases d with
  | none => rfl
  | some d =>
    have hne : d ≠ t := by intro hc; subst hc; simp [hits] at h
    simp [put, List.getD_eq_getElem?_getD, hne]
theorem hits_sub {d : Option Nat} {l m : List Nat} (h : hits d l = false) (hs : ∀ t ∈ m, t ∈ l) : hits d m = false := by
  cases d with
  | none => rfl
  | some d =>
    simp only [hits] at h ⊢
    rw [Bool.eq_false_iff] at h ⊢
    intro hc
    exact h (by simp only [List.contains_iff_mem] at hc ⊢; exact hs _ hc)
theorem ev_put {T : List AV} {d : Option Nat} {v : AV} {y : Opd} (h : hits d y.slots = false) : ev (put T d v) y = ev T y := by
  cases y with
  | t n => exact getD_put h
  | c v => rfl
  | g n => rfl
theorem wanted_put {T : List AV} {d : Option Nat} {v : AV} {g : Option (Nat × Bool)} (h : hits d (guardSlots g) = false) : wantedA (put T d v) g = wantedA T g := by
  cases g with
  | none => rfl
  | some p => obtain ⟨t, b⟩ := p; simp only [wantedA]; rw [getD_put h]
section
variable {rec : Nat → List AV → AH → Option (AV × AH)} {base : Nat}
def opR (rec : Nat → List AV → AH → Option (AV × AH)) (base : Nat) (r : ROper) (T : List AV) (H : AH) : Option (AV × AH) :=
  if wantedA T r.guard then opA rec (ev T) (base + r.idx) H r.op else some (undef, H)
theorem stepA_eq (r : ROper) (T : List AV) (H : AH) : stepA rec base r T H = (opR rec base r T H).map fun x => (put T r.dst x.1, x.2) := by
  unfold stepA opR
  split <;> simp
theorem opR_put {r : ROper} {T : List AV} {H : AH} {d : Option Nat} {v : AV} (h : hits d r.looks = false) : opR rec base r (put T d v) H = opR rec base r T H := by
  unfold opR
  rw [wanted_put (hits_sub h (fun t ht => by simp [ROper.looks, ht]))]
  split
  · refine opA_congr fun y hy => ev_put (hits_sub h fun t ht => ?_)
    simp only [ROper.looks, List.mem_append]
    exact .inr (List.mem_flatMap.2 ⟨y, hy, ht⟩)
  · rfl
theorem put_comm {T : List AV} {d e : Option Nat} {u v : AV} (h : hits d e.toList = false) : put (put T d u) e v = put (put T e v) d u := by
  cases d with
  | none => rfl
  | some d =>
    cases e with
    | none => rfl
    | some e =>
      have hne : d ≠ e := by intro hc; subst hc; simp [hits] at h
      simp only [put]
      exact List.set_comm _ _ hne
def apart (p q : ROper) : Bool := !hits p.dst q.looks && !hits q.dst p.looks && !hits p.dst q.dst.toList
theorem apart_spec {p q : ROper} (h : apart p q = true) : hits p.dst q.looks = false ∧ hits q.dst p.looks = false ∧ hits p.dst q.dst.toList = false := by
  simpa [apart, and_assoc] using h
theorem swap_of {y z : ROper} (ha : apart y z = true) {T : List AV} {H : AH} {s1 s2 : List AV × AH} (hy : stepA rec base y T H = some s1) (hz : stepA rec base z s1.1 s1.2 = some s2)
    (hc : ∀ v H1 u H2, opR rec base y T H = some (v, H1) → opR rec base z T H1 = some (u, H2) → ∃ H', opR rec base z T H = some (u, H') ∧ opR rec base y T H' = some (v, H2)) :
    ∃ s', stepA rec base z T H = some s' ∧ stepA rec base y s'.1 s'.2 = some s2 := by
  obtain ⟨a1, a2, a3⟩ := apart_spec ha
  rw [stepA_eq] at hy hz
  simp only [Option.map_eq_some_iff] at hy hz
  obtain ⟨⟨v, H1⟩, h1, rfl⟩ := hy
  obtain ⟨⟨u, H2⟩, h2, rfl⟩ := hz
  simp only at h2
  rw [opR_put a1] at h2
  obtain ⟨H', h3, h4⟩ := hc v H1 u H2 h1 h2
  refine ⟨(put T z.dst u, H'), ?_, ?_⟩
  · rw [stepA_eq, h3]; rfl
  · rw [stepA_eq]
    simp only
    rw [opR_put a2, h4]
    simp only [Option.map_some, Option.some.injEq, Prod.mk.injEq, and_true]
    exact (put_comm a3).symm
theorem opR_pure {r : ROper} (hk : r.op.kind = .pure) {T : List AV} {H H' : AH} {v : AV} (h : opR rec base r T H = some (v, H')) : H' = H ∧ ∀ H2, opR rec base r T H2 = some (v, H2) := by
  unfold opR at *
  split at h
  · rename_i hw
    unfold opA at h
    rw [hk] at h
    simp only [Option.map_eq_some_iff, Prod.mk.injEq] at h
    obtain ⟨u, h1, h2, h3⟩ := h
    subst h2
    refine ⟨h3.symm, fun H2 => ?_⟩
    rw [if_pos hw]
    unfold opA
    rw [hk]
    simp [h1]
  · rename_i hw
    cases h
    exact ⟨rfl, fun H2 => by rw [if_neg hw]⟩
theorem opR_load {r : ROper} (hk : r.op.kind = .load) {T : List AV} {H H' : AH} {v : AV} (h : opR rec base r T H = some (v, H')) : H' = H := by
  unfold opR at h
  split at h
  · unfold opA at h
    rw [hk] at h
    simp only [Option.map_eq_some_iff, Prod.mk.injEq] at h
    obtain ⟨u, h1, h2, h3⟩ := h
    exact h3.symm
  · cases h; rfl
theorem opR_load_set {r : ROper} (hk : r.op.kind = .load) {T : List AV} {H H' : AH} {v : AV} (h : opR rec base r T H = some (v, H')) {x : Nat} {X : Blk} (hx : H.blk x = none) : opR rec base r T (H.set x X) = some (v, H.set x X) := by
  unfold opR at *
  split at h
  · rename_i hw
    rw [if_pos hw]
    unfold opA at *
    rw [hk] at h ⊢
    simp only [Option.map_eq_some_iff, Prod.mk.injEq] at h ⊢
    obtain ⟨u, h1, h2, h3⟩ := h
    refine ⟨u, ?_, h2, trivial⟩
    generalize r.op = o at h1 ⊢
    cases o <;> simp only [loadO, reduceCtorEq] at h1 ⊢
    exact loadA_frame hx h1
  · rename_i hw; rw [if_neg hw]; cases h; rfl
theorem opR_alloc {r : ROper} (hk : r.op.kind = .alloc) {T : List AV} {H H' : AH} {v : AV} (h : opR rec base r T H = some (v, H')) :
    (H' = H ∧ ∀ H2, opR rec base r T H2 = some (v, H2)) ∨ ∃ X, H.blk (base + r.idx) = none ∧ H' = H.set (base + r.idx) X ∧ ∀ H2 : AH, H2.blk (base + r.idx) = none → opR rec base r T H2 = some (v, H2.set (base + r.idx) X) := by
  unfold opR at *
  split at h
  · rename_i hw
    unfold opA at h
    rw [hk] at h
    simp only [Option.bind_eq_some_iff, Option.map_eq_some_iff, Prod.mk.injEq] at h
    obtain ⟨⟨l, u⟩, h1, H1, h2, h3, h4⟩ := h
    subst h4
    right
    unfold AH.new at h2
    split at h2
    · rename_i hb
      cases h2
      refine ⟨.cells false l, hb, rfl, fun H2 hb2 => ?_⟩
      rw [if_pos hw]
      unfold opA
      rw [hk]
      simp [h1, AH.new, hb2]
      exact h3
    · cases h2
  · rename_i hw
    cases h
    exact .inl ⟨rfl, fun H2 => by rw [if_neg hw]⟩
theorem opR_frame (hr : FrmOk rec) {r : ROper} {T : List AV} {H H' : AH} {v : AV} (h : opR rec base r T H = some (v, H')) {x : Nat} {X : Blk} (hx : H.blk x = none) (hlt : x < H.next) (hne : base + r.idx ≠ x) :
    opR rec base r T (H.set x X) = some (v, H'.set x X) ∧ H'.blk x = none := by
  unfold opR at *
  split at h
  · rename_i hw; rw [if_pos hw]; exact opA_frame hr h hx hlt hne
  · rename_i hw; rw [if_neg hw]; cases h; exact ⟨rfl, hx⟩
end
def kindOk (p q : Kind) : Bool :=
  match p, q with
  | .pure, _ | _, .pure => true
  | .load, .load | .load, .alloc | .load, .eff | .alloc, .alloc | .eff, .alloc => true
  | _, _ => false
section
variable {rec : Nat → List AV → AH → Option (AV × AH)} {base : Nat}
theorem swap_ok (hr : FrmOk rec) {y z : ROper} (ha : apart y z = true) (hk : kindOk y.op.kind z.op.kind = true) (hne : y.idx ≠ z.idx) {T : List AV} {H : AH} (hlt : base + z.idx < H.next)
    (hz : z.op.kind = .alloc → H.blk (base + z.idx) = none) {s1 s2 : List AV × AH} (h1 : stepA rec base y T H = some s1) (h2 : stepA rec base z s1.1 s1.2 = some s2)
    (hd : y.op.kind = .load → z.op.kind = .eff → ∀ v H1, opR rec base y T H = some (v, H1) → opR rec base y T s2.2 = some (v, s2.2)) :
    ∃ s', stepA rec base z T H = some s' ∧ stepA rec base y s'.1 s'.2 = some s2 := by
  refine swap_of ha h1 h2 ?_
  intro v H1 u H2 g1 g2
  -- the heap behind both
  have hs2 : s2.2 = H2 := by
    obtain ⟨a1, a2, a3⟩ := apart_spec ha
    rw [stepA_eq, g1] at h1
    simp only [Option.map_some, Option.some.injEq] at h1
    subst h1
    rw [stepA_eq] at h2
    simp only at h2
    rw [opR_put a1, g2] at h2
    simp only [Option.map_some, Option.some.injEq] at h2
    rw [← h2]
  cases hyk : y.op.kind with
  | pure =>
    obtain ⟨e1, e2⟩ := opR_pure hyk g1
    subst e1
    exact ⟨H2, g2, e2 H2⟩
  | load =>
    have e1 := opR_load hyk g1
    subst e1
    cases hzk : z.op.kind with
    | pure =>
      obtain ⟨e1, e2⟩ := opR_pure hzk g2
      subst e1
      exact ⟨H2, e2 H2, g1⟩
    | load =>
      have e2 := opR_load hzk g2
      subst e2
      exact ⟨H2, g2, g1⟩
    | alloc =>
      rcases opR_alloc hzk g2 with ⟨e2, _⟩ | ⟨X, e2, e3, _⟩
      · subst e2; exact ⟨H2, g2, g1⟩
      · subst e3; exact ⟨_, g2, opR_load_set hyk g1 e2⟩
    | eff =>
      have := hd hyk hzk v _ g1
      rw [hs2] at this
      exact ⟨H2, g2, this⟩
  | alloc =>
    cases hzk : z.op.kind with
    | pure =>
      obtain ⟨e1, e2⟩ := opR_pure hzk g2
      subst e1
      exact ⟨H, e2 H, g1⟩
    | load => rw [hyk, hzk] at hk; cases hk
    | alloc =>
      rcases opR_alloc hyk g1 with ⟨e1, e1'⟩ | ⟨X, e1, e2, e3⟩
      · subst e1; exact ⟨H2, g2, e1' H2⟩
      · subst e2
        rcases opR_alloc hzk g2 with ⟨f1, f1'⟩ | ⟨Z, f1, f2, f3⟩
        · subst f1; exact ⟨H, f1' H, g1⟩
        · subst f2
          have hzH := hz hzk
          refine ⟨_, f3 H hzH, ?_⟩
          rw [e3 _ (set_none e1 (by omega))]
          rw [set_comm (by omega)]
    | eff => rw [hyk, hzk] at hk; cases hk
  | eff =>
    cases hzk : z.op.kind with
    | pure =>
      obtain ⟨e1, e2⟩ := opR_pure hzk g2
      subst e1
      exact ⟨H, e2 H, g1⟩
    | load => rw [hyk, hzk] at hk; cases hk
    | alloc =>
      have hzH := hz hzk
      rcases opR_alloc hzk g2 with ⟨f1, f1'⟩ | ⟨Z, f1, f2, f3⟩
      · subst f1; exact ⟨H, f1' H, g1⟩
      · subst f2
        exact ⟨_, f3 H hzH, (opR_frame hr g1 hzH hlt (by omega)).1⟩
    | eff => rw [hyk, hzk] at hk; cases hk
def runL (rec : Nat → List AV → AH → Option (AV × AH)) (base : Nat) : List ROper → List AV × AH → Option (List AV × AH)
  | [], s => some s
  | r :: l, s => (stepA rec base r s.1 s.2).bind (runL rec base l)
theorem runL_append (l m : List ROper) (s : List AV × AH) : runL rec base (l ++ m) s = (runL rec base l s).bind (runL rec base m) := by
  induction l generalizing s with
  | nil => rfl
  | cons r l ih =>
    simp only [List.cons_append, runL]
    cases stepA rec base r s.1 s.2 with
    | none => rfl
    | some s' => exact ih s'
theorem regA_run : ∀ (l : List ROper) (T : List AV) (H : AH) (s : List AV × AH), regA rec base l T H = some s → runL rec base l (T, H) = some s
  | [], _, _, _, h => h
  | r :: l, T, H, s, h => by
    simp only [regA, runL, Option.bind_eq_some_iff] at h ⊢
    obtain ⟨s1, h1, h2⟩ := h
    split at h2
    · exact ⟨s1, h1, regA_run l s1.1 s1.2 s h2⟩
    · cases h2
theorem regA_append (l m : List ROper) (T : List AV) (H : AH) : regA rec base (l ++ m) T H = (regA rec base l T H).bind fun s => regA rec base m s.1 s.2 := by
  induction l generalizing T H with
  | nil => rfl
  | cons r l ih =>
    simp only [List.cons_append, regA]
    cases stepA rec base r T H with
    | none => rfl
    | some s' =>
      simp only [Option.bind_some]
      split
      · exact ih s'.1 s'.2
      · rfl
theorem runL_next (hn : NextOk rec) : ∀ (l : List ROper) {s s' : List AV × AH}, runL rec base l s = some s' → s.2.next ≤ s'.2.next
  | [], _, _, h => by cases h; exact Nat.le_refl _
  | r :: l, s, s', h => by
    simp only [runL, Option.bind_eq_some_iff] at h
    obtain ⟨s1, h1, h2⟩ := h
    exact Nat.le_trans (stepA_next hn h1) (runL_next hn l h2)
theorem runL_free (hr : FrmOk rec) (hn : NextOk rec) {x : Nat} : ∀ (l : List ROper) {s s' : List AV × AH}, runL rec base l s = some s' → s.2.blk x = none → x < s.2.next → (∀ r ∈ l, base + r.idx ≠ x) → s'.2.blk x = none
  | [], _, _, h, hx, _, _ => by cases h; exact hx
  | r :: l, s, s', h, hx, hlt, hl => by
    simp only [runL, Option.bind_eq_some_iff] at h
    obtain ⟨s1, h1, h2⟩ := h
    exact runL_free hr hn l h2 (stepA_frame (X := .dead) hr h1 hx hlt (hl r (by simp))).2 (Nat.lt_of_lt_of_le hlt (stepA_next hn h1)) (fun r' hr' => hl r' (by simp [hr']))
def watchOf (r : ROper) : Option Watch :=
  match r.op, r.dst with
  | .load m a, some d => some ⟨d, m, a, r.guard⟩
  | _, _ => none
def selfOk (r : ROper) : Bool := !hits r.dst r.looks
theorem watch_put {T : List AV} {d : Option Nat} {v : AV} {H : AH} {r : ROper} {w : Watch} (hw : watchOf r = some w) (h1 : hits d r.looks = false) (h2 : hits d r.dst.toList = false) : watchOk (put T d v) H w = watchOk T H w := by
  unfold watchOf at hw
  split at hw
  · rename_i m a e he1 he2
    cases hw
    have hg : hits d (guardSlots r.guard) = false := hits_sub h1 (fun t ht => by simp [ROper.looks, ht])
    have ha : hits d a.slots = false := hits_sub h1 (fun t ht => by simp [ROper.looks, ROp.reads, he1, ROp.opds, ht])
    have hd : hits d [e] = false := by rw [he2] at h2; exact h2
    unfold watchOk
    rw [wanted_put hg]
    simp only
    rw [ev_put ha, getD_put hd]
  · cases hw
theorem watch_load {T : List AV} {H H2 : AH} {r : ROper} {w : Watch} (hw : watchOf r = some w) (hs : selfOk r = true) {v : AV} {H1 : AH} (h : opR rec base r T H = some (v, H1)) (hd : r.dst.all (· < T.length) = true) (hok : watchOk (put T r.dst v) H2 w = true) : opR rec base r T H2 = some (v, H2) := by
  have hs' : hits r.dst r.looks = false := by simpa [selfOk] using hs
  unfold watchOf at hw
  split at hw
  · rename_i m a e he1 he2
    cases hw
    have hg : hits r.dst (guardSlots r.guard) = false := hits_sub hs' (fun t ht => by simp [ROper.looks, ht])
    have ha : hits r.dst a.slots = false := hits_sub hs' (fun t ht => by simp [ROper.looks, ROp.reads, he1, ROp.opds, ht])
    unfold watchOk at hok
    rw [wanted_put hg] at hok
    simp only at hok
    rw [ev_put ha] at hok
    unfold opR at *
    split at h
    · rename_i hwd
      rw [if_pos hwd] at hok ⊢
      simp only [decide_eq_true_eq] at hok
      have hv : (put T r.dst v).getD e undef = v := by
        rw [he2] at hd ⊢
        have : e < T.length := by simpa using hd
        simp [put, List.getD_eq_getElem?_getD, this]
      rw [hv] at hok
      simp [opA, he1, ROp.kind, loadO, hok]
    · rename_i hwd
      rw [if_neg hwd]
      cases h; rfl
  · cases hw
end
end Go.AM

/-
  THE ABSTRACT MACHINE: a region's run in its planned order is its run in every order that is let.
-/
namespace Go.AM
section
variable {rec : Nat → List AV → AH → Option (AV × AH)} {base : Nat}
theorem put_length (T : List AV) (d : Option Nat) (v : AV) : (put T d v).length = T.length := by cases d <;> simp [put]
theorem stepA_length {r : ROper} {T : List AV} {H : AH} {s : List AV × AH} (h : stepA rec base r T H = some s) : s.1.length = T.length := by
  rw [stepA_eq] at h
  simp only [Option.map_eq_some_iff] at h
  obtain ⟨x, _, rfl⟩ := h
  exact put_length _ _ _
theorem runL_length : ∀ (l : List ROper) {s s' : List AV × AH}, runL rec base l s = some s' → s'.1.length = s.1.length
  | [], _, _, h => by cases h; rfl
  | r :: l, s, s', h => by
    simp only [runL, Option.bind_eq_some_iff] at h
    obtain ⟨s1, h1, h2⟩ := h
    rw [runL_length l h2, stepA_length h1]
theorem stepA_quiet {r : ROper} (hk : r.op.kind = .pure ∨ r.op.kind = .load) {T : List AV} {H : AH} {s : List AV × AH} (h : stepA rec base r T H = some s) : s.2 = H ∧ ∃ v, s.1 = put T r.dst v ∧ opR rec base r T H = some (v, H) := by
  rw [stepA_eq] at h
  simp only [Option.map_eq_some_iff] at h
  obtain ⟨⟨v, H1⟩, h1, rfl⟩ := h
  have : H1 = H := by
    rcases hk with hk | hk
    · exact (opR_pure hk h1).1
    · exact opR_load hk h1
  subst this
  exact ⟨rfl, v, rfl, h1⟩
structure Again (z y : ROper) (L : Nat) (w : Watch) : Prop where
  of : watchOf y = some w
  self : selfOk y = true
  small : y.dst.all (· < L) = true
  listed : w ∈ z.watch
theorem move_ok (hr : FrmOk rec) (hn : NextOk rec) {z : ROper} {L : Nat} : ∀ (rb : List ROper) (s s1 s2 : List AV × AH), runL rec base rb.reverse s = some s1 → stepA rec base z s1.1 s1.2 = some s2 → L ≤ s.1.length →
    (∀ y ∈ rb, apart y z = true ∧ kindOk y.op.kind z.op.kind = true ∧ y.idx ≠ z.idx) → (z.op.kind = .alloc → s.2.blk (base + z.idx) = none) → base + z.idx < s.2.next →
    (∀ y ∈ rb, y.op.kind = .load → z.op.kind = .eff → ∃ w, Again z y L w ∧ watchOk s1.1 s2.2 w = true) →
    rb.Pairwise (fun x y => y.op.kind = .load → z.op.kind = .eff → hits x.dst y.looks = false ∧ hits x.dst y.dst.toList = false) →
    ∃ s', stepA rec base z s.1 s.2 = some s' ∧ runL rec base rb.reverse s' = some s2
  | [], s, s1, s2, h1, h2, _, _, _, _, _, _ => by
    simp only [List.reverse_nil, runL, Option.some.injEq] at h1
    subst h1
    exact ⟨s2, h2, rfl⟩
  | y :: rb, s, s1, s2, h1, h2, hL, hp, hz, hlt, hw, hst => by
    rw [List.reverse_cons, runL_append, Option.bind_eq_some_iff] at h1
    obtain ⟨sm, hm, h1⟩ := h1
    simp only [runL, Option.bind_eq_some_iff] at h1
    obtain ⟨s1', h1, h1e⟩ := h1
    cases h1e
    obtain ⟨hpa, hpk, hpi⟩ := hp y (by simp)
    have hLm : L ≤ sm.1.length := by rw [runL_length _ hm]; exact hL
    have hltm : base + z.idx < sm.2.next := Nat.lt_of_lt_of_le hlt (runL_next hn _ hm)
    have hzm : z.op.kind = .alloc → sm.2.blk (base + z.idx) = none := fun hk => runL_free hr hn _ hm (hz hk) hlt (fun r hr' => by
      have := (hp r (by simp at hr'; simp [hr'])).2.2; omega)
    -- y and z
    obtain ⟨sz, g1, g2⟩ := swap_ok hr hpa hpk hpi hltm hzm h1 h2 (by
      intro hyl hze v H1 ho
      obtain ⟨w, ha, hok⟩ := hw y (by simp) hyl hze
      obtain ⟨q1, v', q2, q3⟩ := stepA_quiet (.inr hyl) h1
      rw [ho] at q3
      simp only [Option.some.injEq, Prod.mk.injEq] at q3
      obtain ⟨rfl, _⟩ := q3
      refine watch_load ha.of ha.self ho (by
        have h1 := ha.small
        cases hd : y.dst with
        | none => rfl
        | some d => rw [hd] at h1; simp at h1 ⊢; omega) ?_
      rw [← q2]; exact hok)
    -- those ahead of y
    have hpw := List.pairwise_cons.1 hst
    obtain ⟨s', k1, k2⟩ := move_ok hr hn rb s sm sz hm g1 hL (fun y' hy' => hp y' (by simp [hy'])) hz hlt (by
      intro y' hy' hyl hze
      obtain ⟨w, ha, hok⟩ := hw y' (by simp [hy']) hyl hze
      refine ⟨w, ha, ?_⟩
      -- y leaves the heap
      have hyq : y.op.kind = .pure ∨ y.op.kind = .load := by
        rw [hze] at hpk
        cases hyk : y.op.kind with
        | pure => exact .inl rfl
        | load => exact .inr rfl
        | alloc => rw [hyk] at hpk; cases hpk
        | eff => rw [hyk] at hpk; cases hpk
      obtain ⟨q1, v, q2, q3⟩ := stepA_quiet hyq h1
      obtain ⟨r1, v', r2, r3⟩ := stepA_quiet hyq g2
      obtain ⟨t1, t2⟩ := hpw.1 y' hy' hyl hze
      rw [q2, watch_put ha.of t1 t2, r1] at hok
      exact hok) hpw.2
    refine ⟨s', k1, ?_⟩
    rw [List.reverse_cons, runL_append, k2]
    simp only [Option.bind_some, runL, g2]
def pairOk (bit : Nat → Nat → Bool) (L : Nat) (p q : ROper) : Bool :=
  p.idx != q.idx && !bit q.idx p.idx && (bit p.idx q.idx ||
    (apart p q && kindOk p.op.kind q.op.kind &&
      (if p.op.kind = .load ∧ q.op.kind = .eff then selfOk p && p.dst.all (· < L) && (match watchOf p with | some w => q.watch.contains w | none => false) else true)))
def stabOk (bit : Nat → Nat → Bool) (z : ROper) : List ROper → Bool
  | [] => true
  | x :: rest => rest.all (fun y => if y.op.kind = .load ∧ z.op.kind = .eff ∧ bit y.idx z.idx = false then !hits x.dst y.looks && !hits x.dst y.dst.toList else true) && stabOk bit z rest
def planOk (bit : Nat → Nat → Bool) (L : Nat) : List ROper → Bool
  | [] => true
  | z :: rest => rest.all (fun p => pairOk bit L p z) && stabOk bit z rest && planOk bit L rest
theorem plan_pair {bit : Nat → Nat → Bool} {L : Nat} : ∀ {l : List ROper}, planOk bit L l = true → l.Pairwise (fun q p => pairOk bit L p q = true)
  | [], _ => List.Pairwise.nil
  | z :: rest, h => by
    simp only [planOk, Bool.and_eq_true, List.all_eq_true] at h
    exact List.pairwise_cons.2 ⟨fun p hp => h.1.1 p hp, plan_pair h.2⟩
theorem pairwise_either {R : ROper → ROper → Prop} : ∀ {l : List ROper}, l.Pairwise R → ∀ x ∈ l, ∀ y ∈ l, x ≠ y → R x y ∨ R y x
  | [], _, x, hx, _, _, _ => by cases hx
  | z :: l, h, x, hx, y, hy, hne => by
    obtain ⟨h1, h2⟩ := List.pairwise_cons.1 h
    rcases List.mem_cons.1 hx with hxz | hx'
    · rcases List.mem_cons.1 hy with hyz | hy'
      · exact absurd (hxz.trans hyz.symm) hne
      · rw [hxz]; exact .inl (h1 y hy')
    · rcases List.mem_cons.1 hy with hyz | hy'
      · rw [hyz]; exact .inr (h1 x hx')
      · exact pairwise_either h2 x hx' y hy' hne
theorem stab_pair {bit : Nat → Nat → Bool} {z : ROper} : ∀ {l : List ROper}, stabOk bit z l = true → l.Pairwise (fun x y => y.op.kind = .load → z.op.kind = .eff → bit y.idx z.idx = false → hits x.dst y.looks = false ∧ hits x.dst y.dst.toList = false)
  | [], _ => List.Pairwise.nil
  | x :: rest, h => by
    simp only [stabOk, Bool.and_eq_true, List.all_eq_true] at h
    refine List.pairwise_cons.2 ⟨fun y hy h1 h2 h3 => ?_, stab_pair h.2⟩
    have := h.1 y hy
    rw [if_pos ⟨h1, h2, h3⟩] at this
    simpa using this
theorem reorder (hr : FrmOk rec) (hn : NextOk rec) {bit : Nat → Nat → Bool} {L : Nat} {T0 : List AV} {H0 : AH} (hL : L ≤ T0.length) : ∀ (rev : List ROper) (sn : List AV × AH), planOk bit L rev = true → regA rec base rev.reverse T0 H0 = some sn →
    (∀ r ∈ rev, H0.blk (base + r.idx) = none ∧ base + r.idx < H0.next) → ∀ σ : List ROper, σ.Perm rev.reverse → σ.Pairwise (fun x y => bit y.idx x.idx = false) → runL rec base σ (T0, H0) = some sn
  | [], sn, _, h, _, σ, hp, _ => by
    have : σ = [] := List.Perm.eq_nil (by simpa using hp)
    subst this
    simpa [regA, runL] using h
  | z :: rest, sn, hpl, h, hfree, σ, hp, hord => by
    have hpair := plan_pair hpl
    simp only [planOk, Bool.and_eq_true, List.all_eq_true] at hpl
    obtain ⟨⟨p1, p2⟩, p3⟩ := hpl
    rw [List.reverse_cons, regA_append, Option.bind_eq_some_iff] at h
    obtain ⟨sm, hm, h⟩ := h
    simp only [regA, Option.bind_eq_some_iff] at h
    obtain ⟨s2, hz, h⟩ := h
    split at h
    · rename_i hwatch
      cases h
      -- z in σ
      have hzm : z ∈ σ := hp.mem_iff.2 (by simp)
      obtain ⟨α, β, rfl⟩ := List.append_of_mem hzm
      have hp' : (α ++ β).Perm rest.reverse := by
        have h1 : (z :: (α ++ β)).Perm (z :: rest.reverse) := by
          refine (List.perm_middle.symm.trans hp).trans ?_
          rw [List.reverse_cons]
          exact (List.perm_append_comm (l₁ := rest.reverse) (l₂ := [z]))
        exact List.Perm.cons_inv h1
      have hord' : (α ++ β).Pairwise (fun x y => bit y.idx x.idx = false) := hord.sublist (by simp)
      have ih := reorder hr hn hL rest sm p3 hm (fun r hr' => hfree r (by simp [hr'])) (α ++ β) hp' hord'
      rw [runL_append, Option.bind_eq_some_iff] at ih
      obtain ⟨sa, ha, hb⟩ := ih
      have hβ : ∀ y ∈ β, y ∈ rest := fun y hy => by have := hp'.mem_iff.1 (List.mem_append_right α hy); simpa using this
      have hα : ∀ y ∈ α, y ∈ rest := fun y hy => by have := hp'.mem_iff.1 (List.mem_append_left β hy); simpa using this
      have hzβ := (List.pairwise_cons.1 (List.pairwise_append.1 hord).2.1).1
      have hno : ∀ y ∈ β, bit y.idx z.idx = false := hzβ
      have hpo : ∀ y ∈ β, y.idx ≠ z.idx ∧ apart y z = true ∧ kindOk y.op.kind z.op.kind = true ∧ (y.op.kind = .load → z.op.kind = .eff → ∃ w, Again z y L w) := by
        intro y hy
        have h1 := p1 y (hβ y hy)
        simp only [pairOk, Bool.and_eq_true, bne_iff_ne, hno y hy, Bool.false_or] at h1
        obtain ⟨⟨h1, h2⟩, ⟨h3, h4⟩, h5⟩ := h1
        refine ⟨h1, h3, h4, fun hl he => ?_⟩
        rw [if_pos ⟨hl, he⟩] at h5
        simp only [Bool.and_eq_true] at h5
        obtain ⟨⟨h6, h7⟩, h8⟩ := h5
        split at h8
        · rename_i w hw; exact ⟨w, hw, h6, h7, by simpa using h8⟩
        · cases h8
      have hLa : L ≤ sa.1.length := by rw [runL_length _ ha]; exact hL
      -- the heap behind α knows nothing of z's name
      have hza : sa.2.blk (base + z.idx) = none := runL_free hr hn _ ha (hfree z (by simp)).1 (hfree z (by simp)).2 (fun r hr' => by
        have := p1 r (hα r hr')
        simp only [pairOk, Bool.and_eq_true, bne_iff_ne] at this
        have := this.1.1; omega)
      have hlt : base + z.idx < sa.2.next := Nat.lt_of_lt_of_le (hfree z (by simp)).2 (runL_next hn _ ha)
      obtain ⟨s', k1, k2⟩ := move_ok (base := base) hr hn (L := L) β.reverse sa sm s2 (by rw [List.reverse_reverse]; exact hb) hz hLa
        (fun y hy => by have := hpo y (by simpa using hy); exact ⟨this.2.1, this.2.2.1, this.1⟩) (fun _ => hza) hlt
        (fun y hy hl he => by
          obtain ⟨w, hw⟩ := (hpo y (by simpa using hy)).2.2.2 hl he
          refine ⟨w, hw, ?_⟩
          rw [List.all_eq_true] at hwatch
          exact hwatch w hw.listed)
        (by
          rw [List.pairwise_reverse]
          have hstab := stab_pair p2
          have hbo : β.Pairwise (fun x y => bit y.idx x.idx = false) := (List.pairwise_cons.1 (List.pairwise_append.1 hord).2.1).2
          have hpair' := (List.pairwise_cons.1 hpair).2
          have hnd : β.Pairwise (fun x y => x ≠ y) := by
            have h1 : rest.Pairwise (fun x y => x ≠ y) := hpair'.imp (fun {q p} h hc => by
              subst hc
              simp [pairOk] at h)
            have h2 : rest.reverse.Pairwise (fun x y => x ≠ y) := List.pairwise_reverse.2 (h1.imp (fun h => Ne.symm h))
            have h3 : (α ++ β).Pairwise (fun x y => x ≠ y) := (hp'.pairwise_iff (fun h => Ne.symm h)).2 h2
            exact (List.pairwise_append.1 h3).2.1
          refine (hbo.and hnd).imp_of_mem ?_
          intro y x hy hx hyx hl he
          obtain ⟨hyx, hne⟩ := hyx
          rcases pairwise_either (hpair'.and hstab) x (hβ x hx) y (hβ y hy) (Ne.symm hne) with h1 | h1
          · exact h1.2 hl he (hno y hy)
          · have h2 := h1.1
            simp only [pairOk, Bool.and_eq_true, hyx, Bool.false_or] at h2
            obtain ⟨a1, a2, a3⟩ := apart_spec h2.2.1.1
            exact ⟨a1, a3⟩)
      rw [List.reverse_reverse] at k2
      rw [runL_append, ha]
      simp only [Option.bind_some, runL, k1]
      exact k2
    · cases h
end
end Go.AM

/-
  THE ABSTRACT MACHINE: a region that draws its order, whole code, whole functions. The machine is sound.
-/
namespace Go.AM
def predsOf (o : Oper) : List Nat := o.after.toList.filterMap fun e => if Region.binds .any e then some e.on else none
def maskOf (acc : List Nat) (o : Oper) : Nat := (predsOf o).foldl (fun m k => m ||| 2 ^ k ||| acc.getD k 0) 0
def masks : List Oper → List Nat → List Nat
  | [], acc => acc
  | o :: os, acc => masks os (acc ++ [maskOf acc o])
theorem maskOf_bit {acc : List Nat} {o : Oper} {i : Nat} (h : (maskOf acc o).testBit i = true) : ∃ k ∈ predsOf o, i = k ∨ (acc.getD k 0).testBit i = true := by
  unfold maskOf at h
  have key : ∀ (l : List Nat) (m : Nat), (l.foldl (fun m k => m ||| 2 ^ k ||| acc.getD k 0) m).testBit i = true → m.testBit i = true ∨ ∃ k ∈ l, i = k ∨ (acc.getD k 0).testBit i = true := by
    intro l
    induction l with
    | nil => intro m h; exact .inl h
    | cons k l ih =>
      intro m h
      rcases ih _ h with h | ⟨k', hk', h⟩
      · simp only [Nat.testBit_or, Bool.or_eq_true, Nat.testBit_two_pow, decide_eq_true_eq] at h
        rcases h with (h | h) | h
        · exact .inl h
        · exact .inr ⟨k, by simp, .inl h.symm⟩
        · exact .inr ⟨k, by simp, .inr h⟩
      · exact .inr ⟨k', by simp [hk'], h⟩
  rcases key _ 0 h with h | h
  · simp at h
  · exact h
theorem masks_closed {X : Nat → Prop} : ∀ (l : List Oper) (acc : List Nat), (∀ j o, l[j]? = some o → X (acc.length + j) → ∀ k ∈ predsOf o, X k) → (∀ j i, (acc.getD j 0).testBit i = true → X j → X i) →
    ∀ j i, ((masks l acc).getD j 0).testBit i = true → X j → X i
  | [], acc, _, h2, j, i, h, hx => h2 j i h hx
  | o :: l, acc, h1, h2, j, i, h, hx => by
    refine masks_closed l (acc ++ [maskOf acc o]) ?_ ?_ j i h hx
    · intro j' o' ho' hX k hk
      refine h1 (j' + 1) o' (by simpa using ho') ?_ k hk
      simp at hX
      rw [show acc.length + (j' + 1) = acc.length + 1 + j' by omega]; exact hX
    · intro j' i' hb hX
      by_cases hj : j' < acc.length
      · refine h2 j' i' ?_ hX
        simpa [List.getD_eq_getElem?_getD, List.getElem?_append_left hj] using hb
      · by_cases hj' : j' = acc.length
        · subst hj'
          simp [List.getD_eq_getElem?_getD] at hb
          obtain ⟨k, hk, hk'⟩ := maskOf_bit hb
          have hXk := h1 0 o (by simp) (by simpa using hX) k hk
          rcases hk' with rfl | hk'
          · exact hXk
          · exact h2 k i' hk' hXk
        · have : (acc ++ [maskOf acc o])[j']? = none := by simp; omega
          simp [List.getD_eq_getElem?_getD, this] at hb
def bitOf (M : List Nat) (i j : Nat) : Bool := (M.getD j 0).testBit i
def respOk (ops : Array Oper) : List Nat → List Nat → Bool
  | _, [] => true
  | seen, j :: l => (match ops[j]? with | some o => (predsOf o).all (seen.contains ·) | none => false) && respOk ops (j :: seen) l
theorem resp_pairwise {ops : Array Oper} : ∀ (l seen : List Nat), (∀ j ∈ seen, ∀ o, ops[j]? = some o → ∀ k ∈ predsOf o, k ∈ seen) → respOk ops seen l = true → (l ++ seen).Nodup →
    l.Pairwise (fun x y => bitOf (masks ops.toList []) y x = false)
  | [], _, _, _, _ => List.Pairwise.nil
  | j :: l, seen, hs, h, hn => by
    simp only [respOk, Bool.and_eq_true] at h
    obtain ⟨h1, h2⟩ := h
    have hcl : ∀ j' ∈ j :: seen, ∀ o, ops[j']? = some o → ∀ k ∈ predsOf o, k ∈ j :: seen := by
      intro j' hj' o ho k hk
      rcases List.mem_cons.1 hj' with rfl | hj'
      · rw [ho] at h1
        simp only [List.all_eq_true, List.contains_iff_mem] at h1
        exact List.mem_cons_of_mem _ (h1 k hk)
      · exact List.mem_cons_of_mem _ (hs j' hj' o ho k hk)
    refine List.pairwise_cons.2 ⟨fun y hy => ?_, resp_pairwise l (j :: seen) hcl h2 ?_⟩
    · rw [Bool.eq_false_iff]
      intro hb
      have := masks_closed (X := fun x => x ∈ j :: seen) ops.toList [] (fun j' o ho hX k hk => hcl j' (by simpa using hX) o (by simpa using ho) k hk) (fun j' i hb => by simp at hb) j y hb (by simp)
      have hn' := List.nodup_cons.1 (by simpa using hn : (j :: (l ++ seen)).Nodup)
      rcases List.mem_cons.1 this with rfl | hm
      · exact hn'.1 (by simp [hy])
      · have := List.nodup_append.1 hn'.2
        exact this.2.2 y hy y hm rfl
    · have : (j :: (l ++ seen)).Nodup := by simpa using hn
      exact (List.perm_middle.symm.nodup_iff).1 this
theorem resp_filter {ops : Array Oper} {A : List Nat} : ∀ (l seen seen' : List Nat), respOk ops seen l = true → (∀ k ∈ seen, k ∈ seen') → (∀ k ∈ A, k ∈ seen') → respOk ops seen' (l.filter fun j => !A.contains j) = true
  | [], _, _, _, _, _ => rfl
  | j :: l, seen, seen', h, hs, hA => by
    simp only [respOk, Bool.and_eq_true] at h
    obtain ⟨h1, h2⟩ := h
    by_cases hj : A.contains j = true
    · have hj' : j ∈ A := List.contains_iff_mem.1 hj
      rw [List.filter_cons_of_neg (by simp [hj'])]
      refine resp_filter l (j :: seen) seen' h2 ?_ hA
      intro k hk
      rcases List.mem_cons.1 hk with rfl | hk
      · exact hA _ (by simpa using hj)
      · exact hs k hk
    · have hj' : ¬ j ∈ A := fun h => hj (List.contains_iff_mem.2 h)
      rw [List.filter_cons_of_pos (by simp [hj'])]
      simp only [respOk, Bool.and_eq_true]
      refine ⟨?_, resp_filter l (j :: seen) (j :: seen') h2 ?_ (fun k hk => List.mem_cons_of_mem _ (hA k hk))⟩
      · split at h1
        · simp only [List.all_eq_true, List.contains_iff_mem] at h1 ⊢
          exact fun k hk => hs k (h1 k hk)
        · cases h1
      · intro k hk
        rcases List.mem_cons.1 hk with rfl | hk
        · simp
        · exact List.mem_cons_of_mem _ (hs k hk)
theorem resp_append {ops : Array Oper} : ∀ (l m seen : List Nat), respOk ops seen (l ++ m) = (respOk ops seen l && respOk ops (l.reverse ++ seen) m)
  | [], m, seen => by simp [respOk]
  | j :: l, m, seen => by
    simp only [List.cons_append, respOk]
    rw [resp_append l m (j :: seen)]
    simp [Bool.and_assoc]
def chkDraw (P : Program) (G : List Nat) (ops : Array Oper) (n L : Nat) (rops : List ROper) : Bool :=
  n == ops.size && rops.length == n && rops.all (fun r => match ops[r.idx]? with | some o => chkOper P G ops o r | none => false) &&
  respOk ops [] (rops.map (·.idx)) && (List.range n).all (fun i => (rops.map (·.idx)).contains i) && ops.toList.zipIdx.all (fun p => (predsOf p.1).all (· < p.2)) && planOk (bitOf (masks ops.toList [])) L rops.reverse
variable {P : Program} {G : List Nat} {φ : Phi} {T : List AV} {a : Act} {w : World} {B : Nat} {w0 : World} {H H' : AH}
structure DrawOk (P : Program) (G : List Nat) (ops : Array Oper) (n L : Nat) (rops : List ROper) : Prop where
  size : n = ops.size
  len : rops.length = n
  opers : ∀ r ∈ rops, ∃ o, ops[r.idx]? = some o ∧ chkOper P G ops o r = true
  resp : respOk ops [] (rops.map (·.idx)) = true
  full : ∀ i, i < n → i ∈ rops.map (·.idx)
  back : ∀ j o, ops[j]? = some o → ∀ k ∈ predsOf o, k < j
  plan : planOk (bitOf (masks ops.toList [])) L rops.reverse = true
theorem chkDraw_ok {ops : Array Oper} {n L : Nat} {rops : List ROper} (h : chkDraw P G ops n L rops = true) : DrawOk P G ops n L rops := by
  simp only [chkDraw, Bool.and_eq_true, beq_iff_eq, List.all_eq_true] at h
  obtain ⟨⟨⟨⟨⟨⟨h1, h2⟩, h3⟩, h4⟩, hf⟩, h5⟩, h6⟩ := h
  refine ⟨h1, h2, ?_, h4, fun i hi => List.contains_iff_mem.1 (hf i (List.mem_range.2 hi)), ?_, h6⟩
  · intro r hr
    have := h3 r hr
    split at this
    · rename_i o ho; exact ⟨o, ho, this⟩
    · cases this
  · intro j o ho k hk
    have := h5 (o, j) (List.mem_iff_getElem?.2 ⟨j, by simp [ho]⟩) k hk
    simpa using this
section
variable {rec : Nat → List AV → AH → Option (AV × AH)} {base : Nat} {ops : Array Oper} {n L : Nat} {rops : List ROper}
theorem DrawOk.nodup (hd : DrawOk P G ops n L rops) : (rops.map (·.idx)).Nodup := by
  have h1 := plan_pair hd.plan
  have h2 : rops.Pairwise (fun x y => x.idx ≠ y.idx) := by
    have := List.pairwise_reverse.1 (h1.imp (S := fun q p => p.idx ≠ q.idx) (fun {q p} h => by simp [pairOk] at h; exact h.1.1))
    exact this
  exact List.pairwise_map.2 h2
theorem map_filter_idx (A : List Nat) (l : List ROper) : (l.filter fun r => !A.contains r.idx).map (·.idx) = (l.map (·.idx)).filter fun j => !A.contains j := by
  induction l with
  | nil => rfl
  | cons r l ih =>
    by_cases h : A.contains r.idx = true
    · have h' : r.idx ∈ A := List.contains_iff_mem.1 h
      rw [List.filter_cons_of_neg (by simp [h']), List.map_cons, List.filter_cons_of_neg (by simp [h']), ih]
    · have h' : ¬ r.idx ∈ A := fun hh => h (List.contains_iff_mem.2 hh)
      rw [List.filter_cons_of_pos (by simp [h']), List.map_cons, List.map_cons, List.filter_cons_of_pos (by simp [h']), ih]
theorem nodup_of_map {l : List ROper} (h : (l.map (·.idx)).Nodup) : l.Nodup := (List.pairwise_map.1 h).imp fun h hc => h (by rw [hc])
theorem mem_idx {l : List ROper} (h : (l.map (·.idx)).Nodup) {x y : ROper} (hx : x ∈ l) (hy : y ∈ l) (he : x.idx = y.idx) : x = y := by
  by_cases hne : x = y
  · exact hne
  · rcases pairwise_either (List.pairwise_map.1 h) x hx y hy hne with h1 | h1
    · exact absurd he h1
    · exact absurd he.symm h1
theorem perm_rest (hd : DrawOk P G ops n L rops) {α : List ROper} (hα : ∀ r ∈ α, r ∈ rops) (hn : (α.map (·.idx)).Nodup) : (α ++ rops.filter fun r => !(α.map (·.idx)).contains r.idx).Perm rops := by
  have hnd := nodup_of_map hd.nodup
  refine (List.perm_ext_iff_of_nodup ?_ hnd).2 ?_
  · refine List.nodup_append.2 ⟨nodup_of_map hn, hnd.sublist List.filter_sublist, ?_⟩
    intro x hx y hy hxy
    subst hxy
    have := (List.mem_filter.1 hy).2
    simp only [Bool.not_eq_true', Bool.eq_false_iff, ne_eq, List.contains_iff_mem] at this
    exact this (List.mem_map.2 ⟨x, hx, rfl⟩)
  · intro x
    constructor
    · intro hx
      rcases List.mem_append.1 hx with h | h
      · exact hα x h
      · exact (List.mem_filter.1 h).1
    · intro hx
      by_cases hc : (α.map (·.idx)).contains x.idx = true
      · simp only [List.contains_iff_mem] at hc
        obtain ⟨y, hy, he⟩ := List.mem_map.1 hc
        have := mem_idx hd.nodup (hα y hy) hx he
        subst this
        exact List.mem_append_left _ hy
      · exact List.mem_append_right _ (List.mem_filter.2 ⟨hx, by simp at hc ⊢; exact hc⟩)
theorem draw_run (hr : FrmOk rec) (hnx : NextOk rec) (hd : DrawOk P G ops n L rops) {T0 : List AV} {H0 : AH} (hL : L ≤ T0.length) (hfree : ∀ i, i < n → H0.blk (base + i) = none ∧ base + i < H0.next) {sn : List AV × AH}
    (h : regA rec base rops T0 H0 = some sn) {α : List ROper} (hα : ∀ r ∈ α, r ∈ rops) (hn : (α.map (·.idx)).Nodup) (hresp : respOk ops [] (α.map (·.idx)) = true) :
    runL rec base (α ++ rops.filter fun r => !(α.map (·.idx)).contains r.idx) (T0, H0) = some sn := by
  have hperm := perm_rest hd hα hn
  refine reorder hr hnx hL rops.reverse sn hd.plan (by rw [List.reverse_reverse]; exact h) ?_ _ (by rw [List.reverse_reverse]; exact hperm) ?_
  · intro r hr'
    obtain ⟨o, ho, _⟩ := hd.opers r (by simpa using hr')
    exact hfree _ (by rw [hd.size]; exact (Array.getElem?_eq_some_iff.1 ho).1)
  · have h2 : respOk ops [] ((α ++ rops.filter fun r => !(α.map (·.idx)).contains r.idx).map (·.idx)) = true := by
      rw [List.map_append, resp_append, hresp, Bool.true_and, map_filter_idx]
      refine resp_filter _ [] _ hd.resp (by simp) ?_
      intro k hk; simp at hk ⊢; exact hk
    have h3 := resp_pairwise _ [] (by simp) h2 (by simp only [List.append_nil]; exact (hperm.map _).nodup_iff.2 hd.nodup)
    exact List.pairwise_map.1 h3
theorem draw_any (hrec : CallsOk P G B w0 rec) (hr : FrmOk rec) (hnx : NextOk rec) (hd : DrawOk P G ops n L rops) {T0 : List AV} {H0 : AH} (hL : L ≤ T0.length) (hfree : ∀ i, i < n → H0.blk (base + i) = none ∧ base + i < H0.next)
    {Tz : List AV} {Hz : AH} (h : regA rec base rops T0 H0 = some (Tz, Hz)) {Q : Exit → Act → World → Prop} :
    ∀ (fuel : Nat) (α : List ROper) (listed : Array Bool) (φ : Phi) (sa : List AV × AH) (a : Act) (w : World), (∀ r ∈ α, r ∈ rops) → (α.map (·.idx)).Nodup → respOk ops [] (α.map (·.idx)) = true → α.length + fuel = n →
      listed.size = n → (∀ i, i < n → (listed.getD i false = true ↔ i ∈ α.map (·.idx))) → runL rec base α (T0, H0) = some sa → St B w0 G φ sa.1 sa.2 a w → (∀ φ' a' w', Ext φ φ' → St B w0 G φ' Tz Hz a' w' → Q .normal a' w') →
      wpAny P .any ops Q fuel listed a w := by
  have hidx : ∀ r ∈ rops, r.idx < n := fun r hr' => by
    obtain ⟨o, ho, _⟩ := hd.opers r hr'
    rw [hd.size]; exact (Array.getElem?_eq_some_iff.1 ho).1
  -- all have come
  have hdone : ∀ (α : List ROper) (listed : Array Bool) (φ : Phi) (sa : List AV × AH) (a : Act) (w : World), (∀ r ∈ α, r ∈ rops) → (α.map (·.idx)).Nodup → respOk ops [] (α.map (·.idx)) = true → listed.size = n →
      (∀ i, i < n → (listed.getD i false = true ↔ i ∈ α.map (·.idx))) → runL rec base α (T0, H0) = some sa → St B w0 G φ sa.1 sa.2 a w → (∀ φ' a' w', Ext φ φ' → St B w0 G φ' Tz Hz a' w' → Q .normal a' w') →
      Region.ready .any ops listed = [] → Q .normal a w := by
    intro α listed φ sa a w hα hn hresp hls hli hrun hst hQ hre
    have hall : ∀ i, i < n → i ∈ α.map (·.idx) := by
      intro i
      induction i using Nat.strongRecOn with
      | _ i ih =>
        intro hi
        apply Classical.byContradiction
        intro hno
        have ho : ∃ o, ops[i]? = some o := by rw [hd.size] at hi; exact ⟨ops[i], by simp [hi]⟩
        obtain ⟨o, ho⟩ := ho
        have hlf : listed.getD i true = false := by
          have : listed.getD i false ≠ true := fun hc => hno ((hli i hi).1 hc)
          have hi' : i < listed.size := by omega
          simp [Array.getD_eq_getD_getElem?, hi'] at this ⊢
          exact this
        have : i ∈ Region.ready .any ops listed := mem_ready.2 ⟨hlf, o, ho, fun e he hb => by
          have hk : e.on ∈ predsOf o := List.mem_filterMap.2 ⟨e, by simpa using he, by simp [hb]⟩
          have hlt := hd.back i o ho _ hk
          exact (hli e.on (by omega)).2 (ih e.on hlt (by omega))⟩
        rw [hre] at this
        cases this
    have hcomp : (rops.filter fun r => !(α.map (·.idx)).contains r.idx) = [] := by
      rw [List.filter_eq_nil_iff]
      intro r hr'
      simp only [Bool.not_eq_true, Bool.not_eq_false', List.contains_iff_mem]
      exact hall _ (hidx r hr')
    have hrun' := draw_run hr hnx hd hL hfree h hα hn hresp
    rw [hcomp, List.append_nil, hrun] at hrun'
    cases hrun'
    exact hQ φ a w (Ext.refl _) hst
  intro fuel
  induction fuel with
  | zero =>
    intro α listed φ sa a w hα hn hresp hlen hls hli hrun hst hQ
    have hcomp : (rops.filter fun r => !(α.map (·.idx)).contains r.idx) = [] := by
      have := (perm_rest hd hα hn).length_eq
      rw [List.length_append, hd.len] at this
      exact List.eq_nil_of_length_eq_zero (by omega)
    have hre : Region.ready .any ops listed = [] := by
      rw [List.eq_nil_iff_forall_not_mem]
      intro i hi
      obtain ⟨h0, o, ho, _⟩ := mem_ready.1 hi
      have hi' : i < n := by rw [hd.size]; exact (Array.getElem?_eq_some_iff.1 ho).1
      -- i is some operation's number
      have hnum : i ∈ rops.map (·.idx) := hd.full i hi'
      obtain ⟨r, hr', hri⟩ := List.mem_map.1 hnum
      have : ¬ r ∈ (rops.filter fun r => !(α.map (·.idx)).contains r.idx) := by rw [hcomp]; simp
      rw [List.mem_filter] at this
      have hc : (α.map (·.idx)).contains r.idx = true := by
        apply Classical.byContradiction
        intro hc; exact this ⟨hr', by simp at hc ⊢; exact hc⟩
      have hlt := (hli i hi').2 (by rw [← hri]; simpa using hc)
      have hi2 : i < listed.size := by omega
      simp [Array.getD_eq_getD_getElem?, hi2] at hlt h0
      rw [hlt] at h0; cases h0
    exact ⟨hre, hdone α listed φ sa a w hα hn hresp hls hli hrun hst hQ hre⟩
  | succ fuel ih =>
    intro α listed φ sa a w hα hn hresp hlen hls hli hrun hst hQ
    refine ⟨hdone α listed φ sa a w hα hn hresp hls hli hrun hst hQ, ?_⟩
    intro i hi
    obtain ⟨h0, o, ho, hpre⟩ := mem_ready.1 hi
    have hi' : i < n := by rw [hd.size]; exact (Array.getElem?_eq_some_iff.1 ho).1
    obtain ⟨r, hr', rfl⟩ := List.mem_map.1 (hd.full i hi')
    have hi2 : r.idx < listed.size := by omega
    have hnew : r.idx ∉ α.map (·.idx) := by
      intro hc
      have := (hli r.idx hi').2 hc
      simp [Array.getD_eq_getD_getElem?, hi2] at this h0
      rw [this] at h0; cases h0
    have hα' : ∀ x ∈ α ++ [r], x ∈ rops := by
      intro x hx
      rcases List.mem_append.1 hx with h | h
      · exact hα x h
      · rw [List.mem_singleton.1 h]; exact hr'
    have hn' : ((α ++ [r]).map (·.idx)).Nodup := by
      rw [List.map_append]
      refine List.nodup_append.2 ⟨hn, by simp, ?_⟩
      intro x hx y hy hxy
      simp only [List.map_cons, List.map_nil, List.mem_singleton] at hy
      exact hnew (by rw [← hy, ← hxy]; exact hx)
    have hresp' : respOk ops [] ((α ++ [r]).map (·.idx)) = true := by
      rw [List.map_append, resp_append, hresp, Bool.true_and]
      simp only [List.map_cons, List.map_nil, respOk, ho, Bool.and_true, List.all_eq_true, List.contains_iff_mem, List.append_nil, List.mem_reverse]
      intro k hk
      obtain ⟨e, he, hke⟩ := List.mem_filterMap.1 hk
      split at hke
      · rename_i hb
        cases hke
        exact (hli e.on (Nat.lt_trans (hd.back _ o ho _ hk) hi')).1 (hpre e (by simpa using he) hb)
      · cases hke
    have hrun' := draw_run hr hnx hd hL hfree h hα' hn' hresp'
    rw [runL_append, Option.bind_eq_some_iff] at hrun'
    obtain ⟨s', hs', _⟩ := hrun'
    have hs2 := hs'
    rw [runL_append, hrun] at hs2
    simp only [Option.bind_some, runL, Option.bind_eq_some_iff, Option.some.injEq, exists_eq_right] at hs2
    obtain ⟨o', ho', hc⟩ := hd.opers r hr'
    rw [ho] at ho'
    cases ho'
    have hlt : base + r.idx < sa.2.next := Nat.lt_of_lt_of_le (hfree r.idx hi').2 (runL_next hnx _ hrun)
    have hstep := step_sim hrec hst hc hlt (T' := s'.1) (H' := s'.2) hs2 (K := wpAny P .any ops Q fuel (listed.setIfInBounds r.idx true)) (Q := Q) (by
      intro φ' a' w' e1 hst'
      refine ih (α ++ [r]) _ φ' s' a' w' hα' hn' hresp' (by simp; omega) (by simpa using hls) ?_ hs' hst' (fun φ'' a'' w'' e2 => hQ φ'' a'' w'' (e1.trans e2))
      intro j hj
      have hj2 : j < listed.size := by omega
      have hold := hli j hj
      simp only [List.map_append, List.map_cons, List.map_nil, List.mem_append, List.mem_singleton]
      by_cases hjr : r.idx = j
      · subst hjr
        simp [Array.getD_eq_getD_getElem?, hi2]
      · have : (listed.setIfInBounds r.idx true).getD j false = listed.getD j false := getD_set_ne false hjr
        rw [this, hold]
        constructor
        · exact .inl
        · rintro (h | h)
          · exact h
          · exact absurd h.symm hjr)
    unfold wpOp
    simp only [ho]
    by_cases hw : Region.wanted o (yielded ops a.tmps) = true
    · rw [if_pos hw] at hstep ⊢; exact .inl hstep
    · rw [if_neg hw] at hstep ⊢; exact hstep
end
end Go.AM

/-
  THE ABSTRACT MACHINE IS SOUND: where its run of a function gives a value, every call of the model's function gives it.
-/
namespace Go.AM
variable {P : Program} {G : List Nat} {φ : Phi} {T : List AV} {a : Act} {w : World} {B : Nat} {w0 : World} {H H' : AH}
def chkCode (P : Program) (G : List Nat) (L : Nat) : Code → RC → Bool
  | .skip, .skip => true
  | .label _, .skip => true
  | .ret, .ret => true
  | .exit id, .exit id' => id == id'
  | .region _ ops draw, .region n rops => if draw then chkDraw P G ops n L rops else plainOpers P G ops n ops.toList rops
  | .seq a b, .seq a' b' => chkCode P G L a a' && chkCode P G L b b'
  | .cond c a b, .cond c' a' b' => chkOpd G c' c && chkCode P G L a a' && chkCode P G L b b'
  | .block id a, .block id' a' => id == id' && chkCode P G L a a'
  | .loop a, .loop a' => chkCode P G L a a'
  | _, _ => false
section
variable {rec : Nat → List AV → AH → Option (AV × AH)} {fuel : Nat}
theorem regA_length {base : Nat} {l : List ROper} {T : List AV} {H : AH} {s : List AV × AH} (h : regA rec base l T H = some s) : s.1.length = T.length := runL_length (base := base) l (regA_run l T H s h)
theorem iterA_length {f : List AV → AH → Option (Ex × List AV × AH)} (hf : ∀ T H e T' H', f T H = some (e, T', H') → T'.length = T.length) : ∀ (n : Nat) {T T' : List AV} {H H' : AH} {e : Ex}, iterA f n T H = some (e, T', H') → T'.length = T.length
  | 0, _, _, _, _, _, h => by simp [iterA] at h
  | n + 1, T, T', H, H', e, h => by
    simp only [iterA, Option.bind_eq_some_iff] at h
    obtain ⟨⟨e1, T1, H1⟩, h1, h2⟩ := h
    have k := hf _ _ _ _ _ h1
    cases e1 with
    | norm => exact (iterA_length hf n h2).trans k
    | ret => simp only at h2; cases h2; exact k
    | out id => simp only at h2; cases h2; exact k
theorem rcA_length : ∀ (c : RC) {T T' : List AV} {H H' : AH} {e : Ex}, rcA rec fuel c T H = some (e, T', H') → T'.length = T.length
  | .skip, _, _, _, _, _, h => by simp only [rcA] at h; cases h; rfl
  | .ret, _, _, _, _, _, h => by simp only [rcA] at h; cases h; rfl
  | .exit _, _, _, _, _, _, h => by simp only [rcA] at h; cases h; rfl
  | .region n ops, T, T', H, H', e, h => by
    simp only [rcA, Option.map_eq_some_iff] at h
    obtain ⟨s, h1, h2⟩ := h
    cases h2
    exact regA_length h1
  | .seq a b, T, T', H, H', e, h => by
    simp only [rcA, Option.bind_eq_some_iff] at h
    obtain ⟨⟨e1, T1, H1⟩, h1, h2⟩ := h
    have k := rcA_length a h1
    cases e1 with
    | norm => exact (rcA_length b h2).trans k
    | ret => simp only at h2; cases h2; exact k
    | out id => simp only at h2; cases h2; exact k
  | .cond c a b, T, T', H, H', e, h => by
    simp only [rcA] at h
    split at h
    · exact rcA_length a h
    · exact rcA_length b h
    · cases h
  | .block id a, T, T', H, H', e, h => by
    simp only [rcA, Option.map_eq_some_iff] at h
    obtain ⟨⟨e1, T1, H1⟩, h1, h2⟩ := h
    cases h2
    exact rcA_length a h1
  | .loop a, T, T', H, H', e, h => by
    simp only [rcA] at h
    exact iterA_length (fun _ _ _ _ _ h => rcA_length a h) fuel h
theorem code_sim (hrec : CallsOk P G B w0 rec) (hr : FrmOk rec) (hnx : NextOk rec) (hmix : P.follows .mixedOrders = true) {L : Nat} : ∀ (c : Code) (r : RC), chkCode P G L c r = true →
    ∀ (φ : Phi) (T : List AV) (H : AH) (a : Act) (w : World) (e : Ex) (Tz : List AV) (Hz : AH) (Q : Exit → Act → World → Prop), St B w0 G φ T H a w → L ≤ T.length → rcA rec fuel r T H = some (e, Tz, Hz) →
      (∀ φ' a' w', Ext φ φ' → St B w0 G φ' Tz Hz a' w' → Q (exOf e) a' w') → c.wp P Q a w := by
  intro c
  induction c with
  | skip =>
    intro r hc φ T H a w e Tz Hz Q hs hL h hQ
    cases r <;> simp only [chkCode, Bool.false_eq_true] at hc
    simp only [rcA, Option.some.injEq, Prod.mk.injEq] at h
    obtain ⟨rfl, rfl, rfl⟩ := h
    exact wp_skip (hQ φ a w (Ext.refl _) hs)
  | label l =>
    intro r hc φ T H a w e Tz Hz Q hs hL h hQ
    cases r <;> simp only [chkCode, Bool.false_eq_true] at hc
    simp only [rcA, Option.some.injEq, Prod.mk.injEq] at h
    obtain ⟨rfl, rfl, rfl⟩ := h
    exact wp_label (hQ φ a w (Ext.refl _) hs)
  | ret =>
    intro r hc φ T H a w e Tz Hz Q hs hL h hQ
    cases r <;> simp only [chkCode, Bool.false_eq_true] at hc
    simp only [rcA, Option.some.injEq, Prod.mk.injEq] at h
    obtain ⟨rfl, rfl, rfl⟩ := h
    exact wp_ret (hQ φ a w (Ext.refl _) hs)
  | exit id =>
    intro r hc φ T H a w e Tz Hz Q hs hL h hQ
    cases r <;> simp only [chkCode, Bool.false_eq_true] at hc
    have hid := eq_of_beq hc
    subst hid
    simp only [rcA, Option.some.injEq, Prod.mk.injEq] at h
    obtain ⟨rfl, rfl, rfl⟩ := h
    exact wp_exit (hQ φ a w (Ext.refl _) hs)
  | region id ops draw =>
    intro r hc φ T H a w e Tz Hz Q hs hL h hQ
    cases r <;> simp only [chkCode, Bool.false_eq_true] at hc
    rename_i n rops
    simp only [rcA, Option.map_eq_some_iff] at h
    obtain ⟨⟨T1, H1⟩, h1, h2⟩ := h
    simp only [Prod.mk.injEq] at h2
    obtain ⟨rfl, rfl, rfl⟩ := h2
    have hs' : St B w0 G φ T (H.bump n) a w := ⟨hs.heap.bump n, hs.tmps, hs.glob, hs.defs⟩
    cases draw with
    | false =>
      simp only [Bool.false_eq_true, if_false] at hc
      exact wp_region_list (plain_sim hrec hnx ops.toList rops φ T _ a w hc (Nat.le_refl _) hs' h1 hQ)
    | true =>
      simp only [if_true] at hc
      have hd := chkDraw_ok hc
      refine wp_region_any hmix ?_
      have hs2 : St B w0 G φ T (H.bump n) a { w with drawn := w.drawn + 1 } := ⟨hs'.heap.heap_eq rfl rfl rfl, hs'.tmps, hs'.glob, hs'.defs⟩
      refine draw_any (H0 := H.bump n) hrec hr hnx hd hL (fun i hi => ⟨hs.heap.lt _ (Nat.le_add_right _ _), ?_⟩) h1 ops.size [] _ φ (T, H.bump n) a _ (by simp) (by simp) rfl ?_ ?_ ?_ rfl hs2 hQ
      · simp only [AH.bump]; omega
      · simp [hd.size]
      · simp [hd.size]
      · intro i hi
        simp [Array.getD_eq_getD_getElem?, Array.getElem?_replicate]
        split <;> rfl
  | seq c1 c2 ih1 ih2 =>
    intro r hc φ T H a w e Tz Hz Q hs hL h hQ
    cases r <;> simp only [chkCode, Bool.false_eq_true, Bool.and_eq_true] at hc
    obtain ⟨hc1, hc2⟩ := hc
    simp only [rcA, Option.bind_eq_some_iff] at h
    obtain ⟨⟨e1, T1, H1⟩, h1, h2⟩ := h
    refine wp_seq ?_
    refine ih1 _ hc1 φ T H a w e1 T1 H1 _ hs hL h1 ?_
    intro φ' a' w' he hs'
    cases e1 with
    | norm => exact ih2 _ hc2 φ' T1 H1 a' w' e Tz Hz Q hs' (by rw [rcA_length _ h1]; exact hL) h2 (fun φ'' a'' w'' he' => hQ φ'' a'' w'' (he.trans he'))
    | ret => simp only at h2; cases h2; exact hQ φ' a' w' he hs'
    | out id => simp only at h2; cases h2; exact hQ φ' a' w' he hs'
  | cond x c1 c2 ih1 ih2 =>
    intro r hc φ T H a w e Tz Hz Q hs hL h hQ
    cases r <;> simp only [chkCode, Bool.false_eq_true, Bool.and_eq_true] at hc
    obtain ⟨⟨hx, hc1⟩, hc2⟩ := hc
    have hv := opd_rel hx hs.tmps hs.glob
    simp only [rcA] at h
    split at h
    · rename_i hb
      rw [hb] at hv
      exact wp_cond_true hv (ih1 _ hc1 φ T H a w e Tz Hz Q hs hL h hQ)
    · rename_i hb
      rw [hb] at hv
      exact wp_cond_false hv (ih2 _ hc2 φ T H a w e Tz Hz Q hs hL h hQ)
    · cases h
  | block id c1 ih1 =>
    intro r hc φ T H a w e Tz Hz Q hs hL h hQ
    cases r <;> simp only [chkCode, Bool.false_eq_true, Bool.and_eq_true, beq_iff_eq] at hc
    obtain ⟨rfl, hc1⟩ := hc
    simp only [rcA, Option.map_eq_some_iff] at h
    obtain ⟨⟨e1, T1, H1⟩, h1, h2⟩ := h
    simp only [Prod.mk.injEq] at h2
    obtain ⟨h3, rfl, rfl⟩ := h2
    refine wp_block (ih1 _ hc1 φ T H a w e1 _ _ _ hs hL h1 ?_)
    intro φ' a' w' he hs'
    have hq := hQ φ' a' w' he hs'
    cases e1 with
    | norm => simp at h3; subst h3; exact hq
    | ret => simp at h3; subst h3; exact hq
    | out id' =>
      simp only [exOf, Exit.inBlock]
      by_cases hid : id' = id
      · subst hid; simp at h3; subst h3; rw [if_pos rfl]; exact hq
      · have : (Ex.out id' : Ex) ≠ .out id := fun hc => hid (by cases hc; rfl)
        rw [if_neg this] at h3; subst h3; rw [if_neg hid]; exact hq
  | loop c1 ih1 =>
    intro r hc φ T H a w e Tz Hz Q hs hL h hQ
    cases r <;> simp only [chkCode, Bool.false_eq_true] at hc
    rename_i r1
    simp only [rcA] at h
    have key : ∀ (n : Nat) (φ' : Phi) (T : List AV) (H : AH) (a : Act) (w : World), Ext φ φ' → iterA (rcA rec fuel r1) n T H = some (e, Tz, Hz) → St B w0 G φ' T H a w → L ≤ T.length → Code.rounds P c1 Q n a w := by
      intro n
      induction n with
      | zero => intro φ' T H a w _ h; simp [iterA] at h
      | succ n ih =>
        intro φ' T H a w hext h hs hL
        simp only [iterA, Option.bind_eq_some_iff] at h
        obtain ⟨⟨e1, T1, H1⟩, h1, h2⟩ := h
        rw [rounds_succ]
        refine ih1 _ hc φ' T H a w e1 T1 H1 _ hs hL h1 ?_
        intro φ'' a' w' he hs'
        cases e1 with
        | norm => exact ih φ'' T1 H1 a' w' (hext.trans he) h2 hs' (by rw [rcA_length _ h1]; exact hL)
        | ret => simp only at h2; cases h2; exact hQ φ'' a' w' (hext.trans he) hs'
        | out id => simp only at h2; cases h2; exact hQ φ'' a' w' (hext.trans he) hs'
    exact wp_loop_rounds fuel (key fuel φ T H a w (Ext.refl _) h hs hL)
  | _ =>
    intro r hc
    cases r <;> simp [chkCode] at hc
end
def chkRes (P : Program) : List ResultVar → List RRes → Bool
  | [], [] => true
  | .tmp t :: rs, .tmp t' :: rs' => t == t' && chkRes P rs rs'
  | .cell t ty :: rs, .cell t' m :: rs' => t == t' && decide (aggM P ty = some m) && chkRes P rs rs'
  | _, _ => false
def chkFunc (P : Program) (G : List Nat) (fn : Func) (rf : RFunc) : Bool :=
  (match fn.body with | some c => chkCode P G rf.ntmps c rf.body | none => false) && fn.ntmps == rf.ntmps && chkRes P fn.results.toList rf.results && !(fn.name == "runtime.NumGoroutine")
def res1 (tmps : Array Value) : ResultVar → Sem Value
  | .tmp t => pure (tmps.getD t Go.undef)
  | .cell a t => do loadVar t (← asAddr (tmps.getD a Go.undef))
theorem loadVar_sim (hH : HRel B w0 φ H w) {m : Option Nat} {ty : TypeId} (hm : aggM P ty = some m) {x v : AV} {u : Value} (hx : AVRel φ x u) (h : loadA m x H = some v) : ∃ cv, (do loadVar ty (← asAddr u) : Sem Value).run P w = .ok cv w ∧ AVRel φ v cv := by
  unfold loadA at h
  split at h
  · rename_i b o'
    obtain ⟨cb, sh, cs, hφ, hv⟩ := ptr_of hx
    subst hv
    cases m with
    | none =>
      simp only [Option.map_eq_some_iff] at h
      obtain ⟨s, hs, rfl⟩ := h
      obtain ⟨cb', sh', cs', u, h1, h3, h4⟩ := hH.ld hs
      rw [hφ] at h1
      cases h1
      refine ⟨u, ?_, h4⟩
      simp only [asAddr, loadVar, Sem.run_bind, Sem.run_pure, Result.andThen_ok, run_isAgg' hm]
      simp [h3]
    | some n =>
      simp only [Option.map_eq_some_iff] at h
      obtain ⟨l, hl, rfl⟩ := h
      obtain ⟨cb', sh', cs', vs, h1, h3, h4, h5, h6⟩ := hH.ldn hl
      rw [hφ] at h1
      cases h1
      refine ⟨.agg vs.toArray, ?_, vs, h6, rfl⟩
      have hld := run_loadCells_list (P := P) w ⟨cb, sh + o', none⟩ vs (fun j v' hj => by rw [add_eq, ← Nat.add_assoc]; exact h5 j v' hj)
      rw [h4] at hld
      simp only [asAddr, loadVar, Sem.run_bind, Sem.run_pure, Result.andThen_ok, run_isAgg' hm]
      simp [run_szOf (aggM_size hm), hld]
  · cases h
theorem res1_sim (hH : HRel B w0 φ H w) (hT : TRel φ T a.tmps) {rv : ResultVar} {r : RRes} (hc : chkRes P [rv] [r] = true) {v : AV} (h : resA1 T H r = some v) : ∃ cv, (res1 a.tmps rv).run P w = .ok cv w ∧ AVRel φ v cv := by
  cases rv with
  | tmp t =>
    cases r <;> simp only [chkRes, Bool.and_true, Bool.false_eq_true, beq_iff_eq] at hc
    subst hc
    simp only [resA1, Option.some.injEq] at h
    subst h
    exact ⟨_, rfl, hT.get t⟩
  | cell t ty =>
    cases r <;> simp only [chkRes, Bool.and_true, Bool.false_eq_true, Bool.and_eq_true, beq_iff_eq, decide_eq_true_eq] at hc
    obtain ⟨rfl, hm⟩ := hc
    simp only [resA1] at h
    exact loadVar_sim hH hm (hT.get t) h
theorem ress_sim (hH : HRel B w0 φ H w) (hT : TRel φ T a.tmps) : ∀ (rvs : List ResultVar) (rs : List RRes) (vs : List AV), chkRes P rvs rs = true → rs.mapM (resA1 T H) = some vs → ∃ cvs : List Value, (rvs.mapM (res1 a.tmps)).run P w = .ok cvs w ∧ R2 (AVRel φ) vs cvs
  | [], [], vs, _, h => by
    simp at h; subst h
    exact ⟨[], rfl, trivial⟩
  | rv :: rvs, r :: rs, vs, hc, h => by
    simp only [List.mapM_cons, Option.pure_def, Option.bind_eq_bind, Option.bind_eq_some_iff] at h
    obtain ⟨v, h1, vs', h2, h3⟩ := h
    have hc1 : chkRes P [rv] [r] = true ∧ chkRes P rvs rs = true := by
      cases rv <;> cases r <;> simp_all [chkRes]
    obtain ⟨cv, e1, e2⟩ := res1_sim hH hT hc1.1 h1
    obtain ⟨cvs, e3, e4⟩ := ress_sim hH hT rvs rs vs' hc1.2 h2
    cases h3
    refine ⟨cv :: cvs, ?_, e2, e4⟩
    simp only [List.mapM_cons, Sem.run_bind, e1, Result.andThen_ok, e3, Sem.run_pure]
  | [], _ :: _, _, hc, _ => by simp [chkRes] at hc
  | .tmp _ :: _, [], _, hc, _ => by simp [chkRes] at hc
  | .cell _ _ :: _, [], _, hc, _ => by simp [chkRes] at hc
theorem parts_sim : ∀ (vs : List AV) (ps : List Part) (cvs : List Value), partsA vs = some ps → R2 (AVRel φ) vs cvs → R2 (PartRel φ) ps cvs
  | [], ps, [], h, _ => by simp only [partsA, Option.some.injEq] at h; subst h; trivial
  | v :: vs, ps, cv :: cvs, h, hr => by
    simp only [partsA, Option.bind_eq_some_iff, Option.map_eq_some_iff] at h
    obtain ⟨p, h1, ps', h2, rfl⟩ := h
    refine ⟨?_, parts_sim vs ps' cvs h2 hr.2⟩
    cases v <;> simp only [AV.part?, Option.some.injEq, reduceCtorEq] at h1 <;> subst h1 <;> exact hr.1
  | [], _, _ :: _, _, hr => hr.elim
  | _ :: _, _, [], _, hr => hr.elim
theorem results_run {fn : Func} {tmps : Array Value} {cvs : List Value} (h : (fn.results.toList.mapM (res1 tmps)).run P w = .ok cvs w) :
    (results fn tmps).run P w = .ok (if h : cvs.toArray.size = 1 then cvs.toArray[0] else .tuple cvs.toArray) w := by
  have : (fn.results.mapM (res1 tmps)).run P w = .ok cvs.toArray w := by
    rw [Array.mapM_eq_mapM_toList, Sem.run_map, h]; rfl
  have hres : results fn tmps = (do let vs ← fn.results.mapM (res1 tmps); pure (if h : vs.size = 1 then vs[0] else .tuple vs)) := by
    unfold results
    congr 1
  rw [hres, Sem.run_bind, this]
  rfl
theorem res_sim (hH : HRel B w0 φ H w) (hT : TRel φ T a.tmps) {fn : Func} {rs : List RRes} (hc : chkRes P fn.results.toList rs = true) {v : AV} (h : resA rs T H = some v) :
    ∃ cv, (results fn a.tmps).run P w = .ok cv w ∧ AVRel φ v cv := by
  unfold resA at h
  split at h
  · rename_i r
    cases hl : fn.results.toList with
    | nil => rw [hl] at hc; simp [chkRes] at hc
    | cons rv rvs =>
      rw [hl] at hc
      have hc1 : chkRes P [rv] [r] = true ∧ rvs = [] := by
        cases rv <;> cases r <;> simp_all [chkRes] <;> (cases rvs <;> simp_all [chkRes])
      obtain ⟨cv, e1, e2⟩ := res1_sim hH hT hc1.1 h
      refine ⟨cv, ?_, e2⟩
      have := results_run (fn := fn) (tmps := a.tmps) (P := P) (w := w) (cvs := [cv]) (by rw [hl, hc1.2]; simp only [List.mapM_cons, List.mapM_nil, Sem.run_bind, e1, Result.andThen_ok, Sem.run_pure])
      rw [this]; simp
  · rename_i hne
    simp only [Option.bind_eq_some_iff, Option.map_eq_some_iff] at h
    obtain ⟨vs, h1, ps, h2, rfl⟩ := h
    obtain ⟨cvs, e1, e2⟩ := ress_sim hH hT _ _ _ hc h1
    have hlen : cvs.length ≠ 1 := by
      intro hl
      have h3 : vs.length = 1 := by rw [e2.length, hl]
      have h4 : rs.length = 1 := by
        have : ∀ (rs : List RRes) (vs : List AV), rs.mapM (resA1 T H) = some vs → vs.length = rs.length := by
          intro rs
          induction rs with
          | nil => intro vs h; simp at h; subst h; rfl
          | cons r rs ih =>
            intro vs h
            simp only [List.mapM_cons, Option.pure_def, Option.bind_eq_bind, Option.bind_eq_some_iff] at h
            obtain ⟨v, _, vs', h2, h3⟩ := h
            cases h3
            simp [ih vs' h2]
        rw [← this rs vs h1, h3]
      match rs, h4 with
      | [r], _ => exact hne r rfl
    refine ⟨.tuple cvs.toArray, ?_, cvs, parts_sim vs ps cvs h2 e2, rfl⟩
    rw [results_run e1]
    rw [dif_neg (by simpa using hlen)]
def TabOk (P : Program) (G : List Nat) (tab : Nat → Option RFunc) : Prop := ∀ f rf, tab f = some rf → ∃ fn, P.funcs[f]? = some fn ∧ chkFunc P G fn rf = true
theorem args_rel {args : List AV} {cargs : Array Value} (h : R2 (AVRel φ) args cargs.toList) (n : Nat) : TRel φ (args ++ List.replicate (n - args.length) undef) (cargs ++ Array.replicate (n - cargs.size) Go.undef) := by
  have hl : args.length = cargs.size := by have := h.length; simpa using this
  refine ⟨by simp [hl], fun t => ?_⟩
  simp only [List.getD_eq_getElem?_getD, Array.getD_eq_getD_getElem?]
  rw [List.getElem?_append, Array.getElem?_append, hl]
  split
  · rename_i ht
    obtain ⟨v, hv, hr⟩ := h.get t args[t] (by simp [hl, ht])
    have e1 : args[t]? = some args[t] := by simp [hl, ht]
    rw [e1, show cargs[t]? = some v by simpa using hv]
    exact hr
  · rw [List.getElem?_replicate, Array.getElem?_replicate]
    split
    · exact AVRel_undef φ
    · exact AVRel_undef φ
def AllOk (P : Program) (G : List Nat) : Nat → List (Option RFunc) → Prop
  | _, [] => True
  | i, none :: l => AllOk P G (i + 1) l
  | i, some rf :: l => (∃ fn, P.funcs[i]? = some fn ∧ chkFunc P G fn rf = true) ∧ AllOk P G (i + 1) l
theorem allOk_get : ∀ (l : List (Option RFunc)) (i f : Nat) (rf : RFunc), AllOk P G i l → l[f]? = some (some rf) → ∃ fn, P.funcs[i + f]? = some fn ∧ chkFunc P G fn rf = true
  | [], _, _, _, _, h => by simp at h
  | none :: l, i, 0, rf, h, hf => by simp at hf
  | none :: l, i, f + 1, rf, h, hf => by
    have := allOk_get l (i + 1) f rf h (by simpa using hf)
    rw [show i + 1 + f = i + (f + 1) by omega] at this; exact this
  | some r :: l, i, 0, rf, h, hf => by
    simp at hf; subst hf; exact h.1
  | some r :: l, i, f + 1, rf, h, hf => by
    have := allOk_get l (i + 1) f rf h.2 (by simpa using hf)
    rw [show i + 1 + f = i + (f + 1) by omega] at this; exact this
theorem tabOk_of {l : List (Option RFunc)} (h : AllOk P G 0 l) : TabOk P G (fun f => (l[f]?).join) := by
  intro f rf hf
  have hf : (l[f]?).join = some rf := hf
  have : l[f]? = some (some rf) := by
    cases hl : l[f]? with
    | none => rw [hl] at hf; cases hf
    | some x => rw [hl] at hf; simp at hf; rw [hf]
  have := allOk_get l 0 f rf h this
  simpa using this
theorem run_sound {tab : Nat → Option RFunc} {ext : Nat → List AV → AH → Option (AV × AH)} (htab : TabOk P G tab) (hext : CallsOk P G B w0 ext) (hfr : FrmOk ext) (hnx : NextOk ext) (hmix : P.follows .mixedOrders = true) :
    ∀ n, CallsOk P G B w0 (run tab ext n)
  | 0 => fun _ _ _ _ _ h => by simp [run] at h
  | n + 1 => by
    intro f args H v H' h φ w cargs hH hG hargs
    simp only [run] at h
    split at h
    · exact hext f args H v H' h φ w cargs hH hG hargs
    · rename_i rf hrf
      obtain ⟨fn, hfn, hck⟩ := htab f rf hrf
      simp only [chkFunc, Bool.and_eq_true, beq_iff_eq, Bool.not_eq_true'] at hck
      obtain ⟨⟨⟨h1, h2⟩, h3⟩, h4⟩ := hck
      split at h1
      · rename_i c hc
        refine ⟨⟨fn, hfn, by rw [hc]; rfl, h4⟩, ?_⟩
        simp only [Option.bind_eq_some_iff] at h
        obtain ⟨⟨e, T1, H1⟩, h5, h6⟩ := h
        refine calls_of_wp hfn hc ?_
        refine code_sim (run_sound htab hext hfr hnx hmix n) (run_frame hfr hnx n) (run_next hnx n) hmix c rf.body h1 φ _ H _ w e T1 H1 _ ⟨hH, by rw [h2]; exact args_rel hargs _, hG, rfl⟩ (by simp; omega) h5 ?_
        intro φ' a' w' he hs
        cases e with
        | out id => simp at h6
        | norm =>
          simp only [Option.map_eq_some_iff, Prod.mk.injEq] at h6
          obtain ⟨v', h7, rfl, rfl⟩ := h6
          obtain ⟨cv, r1, r2⟩ := res_sim hs.heap hs.tmps h3 h7
          exact ⟨hs.defs, cv, r1, φ', cv, rfl, he, hs.heap, r2⟩
        | ret =>
          simp only [Option.map_eq_some_iff, Prod.mk.injEq] at h6
          obtain ⟨v', h7, rfl, rfl⟩ := h6
          obtain ⟨cv, r1, r2⟩ := res_sim hs.heap hs.tmps h3 h7
          exact ⟨hs.defs, cv, r1, φ', cv, rfl, he, hs.heap, r2⟩
      · cases h1
end Go.AM

/-
  THE ABSTRACT MACHINE: more fuel gives the same; names that are still to come are free; what must hold ahead of a code, so that something holds behind it.
-/
namespace Go.AM
def Le (r r' : Nat → List AV → AH → Option (AV × AH)) : Prop := ∀ f args H x, r f args H = some x → r' f args H = some x
section
variable {rec rec' : Nat → List AV → AH → Option (AV × AH)}
theorem opA_mono (h : Le rec rec') {ρ : Opd → AV} {id : Nat} {H : AH} {o : ROp} {x : AV × AH} (hx : opA rec ρ id H o = some x) : opA rec' ρ id H o = some x := by
  cases o <;> simp only [opA, ROp.kind, effO] at hx ⊢ <;> first
    | exact hx
    | exact h _ _ _ _ hx
    | (split at hx
       · exact h _ _ _ _ hx
       · exact h _ _ _ _ hx
       · cases hx)
theorem stepA_mono (h : Le rec rec') {base : Nat} {o : ROper} {T : List AV} {H : AH} {x : List AV × AH} (hx : stepA rec base o T H = some x) : stepA rec' base o T H = some x := by
  unfold stepA at *
  split at hx
  · rename_i hw
    rw [if_pos hw]
    simp only [Option.map_eq_some_iff] at hx ⊢
    obtain ⟨r, h1, h2⟩ := hx
    exact ⟨r, opA_mono h h1, h2⟩
  · rename_i hw; rw [if_neg hw]; exact hx
theorem regA_mono (h : Le rec rec') {base : Nat} : ∀ {l : List ROper} {T : List AV} {H : AH} {x : List AV × AH}, regA rec base l T H = some x → regA rec' base l T H = some x
  | [], _, _, _, hx => hx
  | o :: l, T, H, x, hx => by
    simp only [regA, Option.bind_eq_some_iff] at hx ⊢
    obtain ⟨r, h1, h2⟩ := hx
    refine ⟨r, stepA_mono h h1, ?_⟩
    split at h2
    · rename_i hw; rw [if_pos hw]; exact regA_mono h h2
    · cases h2
theorem iterA_mono {f f' : List AV → AH → Option (Ex × List AV × AH)} (h : ∀ T H x, f T H = some x → f' T H = some x) : ∀ {n m : Nat} (_ : n ≤ m) {T : List AV} {H : AH} {x : Ex × List AV × AH}, iterA f n T H = some x → iterA f' m T H = some x
  | 0, _, _, _, _, _, hx => by simp [iterA] at hx
  | n + 1, 0, hnm, _, _, _, _ => by omega
  | n + 1, m + 1, hnm, T, H, x, hx => by
    simp only [iterA, Option.bind_eq_some_iff] at hx ⊢
    obtain ⟨⟨e, T1, H1⟩, h1, h2⟩ := hx
    refine ⟨_, h _ _ _ h1, ?_⟩
    cases e with
    | norm => exact iterA_mono h (by omega) h2
    | ret => exact h2
    | out id => exact h2
theorem rcA_mono (h : Le rec rec') {n m : Nat} (hnm : n ≤ m) : ∀ (c : RC) {T : List AV} {H : AH} {x : Ex × List AV × AH}, rcA rec n c T H = some x → rcA rec' m c T H = some x
  | .skip, _, _, _, hx => hx
  | .ret, _, _, _, hx => hx
  | .exit _, _, _, _, hx => hx
  | .region k ops, T, H, x, hx => by
    simp only [rcA, Option.map_eq_some_iff] at hx ⊢
    obtain ⟨r, h1, h2⟩ := hx
    exact ⟨r, regA_mono h h1, h2⟩
  | .seq a b, T, H, x, hx => by
    simp only [rcA, Option.bind_eq_some_iff] at hx ⊢
    obtain ⟨⟨e, T1, H1⟩, h1, h2⟩ := hx
    refine ⟨_, rcA_mono h hnm a h1, ?_⟩
    cases e with
    | norm => exact rcA_mono h hnm b h2
    | ret => exact h2
    | out id => exact h2
  | .cond c a b, T, H, x, hx => by
    simp only [rcA] at hx ⊢
    split at hx
    · exact rcA_mono h hnm a hx
    · exact rcA_mono h hnm b hx
    · cases hx
  | .block id a, T, H, x, hx => by
    simp only [rcA, Option.map_eq_some_iff] at hx ⊢
    obtain ⟨r, h1, h2⟩ := hx
    exact ⟨r, rcA_mono h hnm a h1, h2⟩
  | .loop a, T, H, x, hx => by
    simp only [rcA] at hx ⊢
    exact iterA_mono (f := rcA rec n a) (fun T H x hx => rcA_mono h hnm a hx) hnm hx
end
section
variable {tab : Nat → Option RFunc} {ext : Nat → List AV → AH → Option (AV × AH)}
theorem run_mono : ∀ {n m : Nat}, n ≤ m → Le (run tab ext n) (run tab ext m)
  | 0, _, _ => fun _ _ _ _ hx => by simp [run] at hx
  | n + 1, 0, h => by omega
  | n + 1, m + 1, h => by
    intro f args H x hx
    simp only [run] at hx ⊢
    split at hx
    · exact hx
    · simp only [Option.bind_eq_some_iff] at hx ⊢
      obtain ⟨r, h1, h2⟩ := hx
      exact ⟨r, rcA_mono (run_mono (by omega)) (by omega) _ h1, h2⟩
end
def WF (H : AH) : Prop := ∀ b, H.next ≤ b → H.blk b = none
def WFrec (rec : Nat → List AV → AH → Option (AV × AH)) : Prop := ∀ f args H v H', rec f args H = some (v, H') → WF H → WF H'
theorem WF.bump {H : AH} (h : WF H) (n : Nat) : WF (H.bump n) := fun b hb => h b (Nat.le_trans (Nat.le_add_right _ _) hb)
theorem WF.set {H : AH} (h : WF H) {b : Nat} (hb : b < H.next) (x : Blk) : WF (H.set b x) := by
  intro c hc
  have hc' : H.next ≤ c := hc
  simp only [AH.set, upd]
  rw [if_neg (by omega)]
  exact h c hc'
theorem stn_wf {H H' : AH} (h : WF H) {b o : Nat} {l : List SV} (hs : H.stn b o l = some H') : WF H' := by
  unfold AH.stn at hs
  split at hs
  · rename_i l' hb
    split at hs
    · cases hs
      refine h.set ?_ _
      apply Classical.byContradiction
      intro hn
      rw [h b (by omega)] at hb; cases hb
    · cases hs
  · cases hs
theorem new_wf {H H' : AH} (h : WF H) {b : Nat} (hb : b < H.next) {x : Blk} (hs : H.new b x = some H') : WF H' := by
  unfold AH.new at hs
  split at hs
  · cases hs; exact h.set hb _
  · cases hs
theorem opA_wf {rec : Nat → List AV → AH → Option (AV × AH)} (hr : WFrec rec) {ρ : Opd → AV} {id : Nat} {H H' : AH} {r : ROp} {v : AV} (h : opA rec ρ id H r = some (v, H')) (hw : WF H) (hid : id < H.next) : WF H' := by
  unfold opA at h
  split at h
  · simp only [Option.map_eq_some_iff, Prod.mk.injEq] at h
    obtain ⟨_, _, _, rfl⟩ := h; exact hw
  · simp only [Option.map_eq_some_iff, Prod.mk.injEq] at h
    obtain ⟨_, _, _, rfl⟩ := h; exact hw
  · simp only [Option.bind_eq_some_iff, Option.map_eq_some_iff, Prod.mk.injEq] at h
    obtain ⟨_, _, _, h1, _, rfl⟩ := h; exact new_wf hw hid h1
  · cases r with
    | store n b u =>
      simp only [effO, Option.map_eq_some_iff, Prod.mk.injEq] at h
      obtain ⟨_, h1, _, rfl⟩ := h
      unfold storeA at h1
      split at h1
      · split at h1
        · split at h1
          · exact stn_wf hw h1
          · cases h1
        · cases h1
      · cases h1
    | append esz bytes s x =>
      simp only [effO, appendA] at h
      split at h
      · simp only [Option.bind_eq_some_iff] at h
        obtain ⟨_, _, _, _, h⟩ := h
        split at h
        · split at h
          · cases h; exact hw
          · simp only [Option.map_eq_some_iff, Prod.mk.injEq] at h
            obtain ⟨_, h1, _, rfl⟩ := h; exact new_wf hw hid h1
        · cases h
      · simp only [Option.bind_eq_some_iff] at h
        obtain ⟨_, _, _, _, h⟩ := h
        split at h
        · split at h
          · simp only [Option.map_eq_some_iff, Prod.mk.injEq] at h
            obtain ⟨_, h1, _, rfl⟩ := h; exact stn_wf hw h1
          · split at h
            · rename_i b o _ _ hs _ _ _ l hb
              split at h
              · simp only [Option.map_eq_some_iff, Prod.mk.injEq] at h
                obtain ⟨_, h1, _, rfl⟩ := h
                refine new_wf (WF.set hw ?_ _) hid h1
                apply Classical.byContradiction
                intro hn
                rw [hw _ (by omega)] at hb; cases hb
              · cases h
            · cases h
        · cases h
      · cases h
    | copy esz d s =>
      simp only [effO, copyA] at h
      split at h
      · simp only [Option.bind_eq_some_iff] at h
        obtain ⟨_, _, _, _, h⟩ := h
        cases h; exact hw
      · simp only [Option.bind_eq_some_iff] at h
        obtain ⟨_, _, _, _, h⟩ := h
        split at h
        · simp only [Option.map_eq_some_iff, Prod.mk.injEq] at h
          obtain ⟨_, h1, _, rfl⟩ := h; exact stn_wf hw h1
        · cases h
      · cases h
    | clear esz z x =>
      simp only [effO, Option.map_eq_some_iff, Prod.mk.injEq] at h
      obtain ⟨_, h1, _, rfl⟩ := h
      unfold clearA at h1
      split at h1
      · cases h1; exact hw
      · split at h1
        · cases h1; exact hw
        · split at h1
          · exact stn_wf hw h1
          · cases h1
      · cases h1
    | call f args => exact hr _ _ _ _ _ h hw
    | callv x args =>
      simp only [effO] at h
      split at h
      · exact hr _ _ _ _ _ h hw
      · exact hr _ _ _ _ _ h hw
      · cases h
    | hop g args =>
      simp only [effO] at h
      rcases hopA_cases h with rfl | h1 | ⟨r, es, es', hb, rfl⟩
      · exact hw
      · exact new_wf hw hid h1
      · refine hw.set ?_ _
        apply Classical.byContradiction
        intro hn
        rw [hw _ (by omega)] at hb; cases hb
    | _ => simp [effO] at h
def andThen {α : Type} (o : Option α) (K : α → Prop) : Prop := ∃ a, o = some a ∧ K a
@[simp] theorem andThen_some {α : Type} (a : α) (K : α → Prop) : andThen (some a) K = K a := by simp [andThen]
@[simp] theorem andThen_none {α : Type} (K : α → Prop) : andThen none K = False := by simp [andThen]
@[simp] theorem andThen_map {α β : Type} (o : Option α) (f : α → β) (K : β → Prop) : andThen (o.map f) K = andThen o (fun a => K (f a)) := by cases o <;> simp
@[simp] theorem andThen_bind {α β : Type} (o : Option α) (f : α → Option β) (K : β → Prop) : andThen (o.bind f) K = andThen o (fun a => andThen (f a) K) := by cases o <;> simp
@[simp] theorem andThen_ite {α : Type} (c : Prop) [Decidable c] (x y : Option α) (K : α → Prop) : andThen (if c then x else y) K = if c then andThen x K else andThen y K := by split <;> rfl
theorem andThen.mono {α : Type} {o : Option α} {K K' : α → Prop} (h : ∀ a, K a → K' a) (hk : andThen o K) : andThen o K' := let ⟨a, h1, h2⟩ := hk; ⟨a, h1, h a h2⟩
def gd (v : AV) (b : Bool) : Bool :=
  match v with
  | .s (.bool c) => c == b
  | _ => false
@[simp] theorem gd_bool (c b : Bool) : gd (.s (.bool c)) b = (c == b) := rfl
theorem wanted_gd (T : List AV) (t : Nat) (b : Bool) : wantedA T (some (t, b)) = gd (T.getD t undef) b := rfl
section
variable (tab : Nat → Option RFunc) (ext : Nat → List AV → AH → Option (AV × AH))
def CallP (f : Nat) (args : List AV) (H : AH) (K : AV → AH → Prop) : Prop := ∃ n v H', run tab ext n f args H = some (v, H') ∧ K v H'
def callvP (x : AV) (args : List AV) (H : AH) (K : AV → AH → Prop) : Prop :=
  match x with
  | .s (.fn f caps) => CallP tab ext f (args ++ caps.map fun a => .s (.ptr (some a))) H K
  | .s (.bfn f a) => CallP tab ext f (.s (.ptr (some a)) :: args) H K
  | _ => False
def wpO (ρ : Opd → AV) (id : Nat) (H : AH) (o : ROp) (K : AV → AH → Prop) : Prop :=
  match o with
  | .move x => K (ρ x) H
  | .load m a => andThen (loadA m (ρ a) H) fun v => K v H
  | .newc l => andThen (H.new id (.cells false l)) fun H => K (.s (.ptr (some (id, 0)))) H
  | .box x => andThen ((ρ x).cells?) fun l => andThen (H.new id (.cells false l)) fun H => K (.s (.ptr (some (id, 0)))) H
  | .buildSlice esz len z ps => andThen (fillA z (ps.map fun p => (p.1, p.2.1, ρ p.2.2))) fun l => andThen (H.new id (.cells false l)) fun H => K (.s (.slice (some (id, 0)) len len esz)) H
  | .makeSlice esz bytes z l c => andThen (makeA esz bytes z (ρ l) (ρ c)) fun r => andThen (H.new id (.cells false r.1)) fun H => K (.s (.slice (some (id, 0)) r.2.1 r.2.2 esz)) H
  | .store n a v => andThen (storeA n (ρ a) (ρ v) H) fun H => K undef H
  | .append esz bytes s x => andThen (appendA esz bytes id (ρ s) (ρ x) H) fun r => K r.1 r.2
  | .copy esz d s => andThen (copyA esz (ρ d) (ρ s) H) fun r => K r.1 r.2
  | .clear esz z x => andThen (clearA esz z (ρ x) H) fun H => K undef H
  | .call f args => CallP tab ext f (args.map ρ) H K
  | .callv x args => callvP tab ext (ρ x) (args.map ρ) H K
  | .hop h args => andThen (hopA h id (args.map ρ) H) fun r => K r.1 r.2
  | o => andThen (pureA ρ o) fun v => K v H
def watchP (T : List AV) (H : AH) : List Watch → Prop → Prop
  | [], P => P
  | w :: ws, P => (match w.guard with
    | none => loadA w.m (ev T w.a) H = some (T.getD w.dst undef)
    | some (t, b) => gd (T.getD t undef) b = true → loadA w.m (ev T w.a) H = some (T.getD w.dst undef)) ∧ watchP T H ws P
def gP (c : Bool) (H : AH) (P : (AV → AH → Prop) → Prop) (K : AV → AH → Prop) : Prop := if c then P K else K undef H
def wpR (base : Nat) : List ROper → List AV → AH → (List AV → AH → Prop) → Prop
  | [], T, H, K => K T H
  | o :: os, T, H, K =>
    match o.guard with
    | none => wpO tab ext (ev T) (base + o.idx) H o.op fun v H' => watchP T H' o.watch (wpR base os (put T o.dst v) H' K)
    | some (t, b) => gP (gd (T.getD t undef) b) H (wpO tab ext (ev T) (base + o.idx) H o.op) fun v H' => watchP T H' o.watch (wpR base os (put T o.dst v) H' K)
def loopP (c : RC) (T : List AV) (H : AH) (K : Ex → List AV → AH → Prop) : Prop := ∃ n e T' H', iterA (rcA (run tab ext n) n c) n T H = some (e, T', H') ∧ K e T' H'
def condP (v : AV) (A B : Prop) : Prop :=
  match v with
  | .s (.bool true) => A
  | .s (.bool false) => B
  | _ => False
def seqK (b : List AV → AH → Prop) (K : Ex → List AV → AH → Prop) (e : Ex) (T : List AV) (H : AH) : Prop :=
  match e with
  | .norm => b T H
  | .ret => K .ret T H
  | .out id => K (.out id) T H
def blockK (id : Nat) (K : Ex → List AV → AH → Prop) (e : Ex) (T : List AV) (H : AH) : Prop :=
  match e with
  | .norm => K .norm T H
  | .ret => K .ret T H
  | .out id' => if id' = id then K .norm T H else K (.out id') T H
def wpC : RC → List AV → AH → (Ex → List AV → AH → Prop) → Prop
  | .skip, T, H, K => K .norm T H
  | .ret, T, H, K => K .ret T H
  | .exit id, T, H, K => K (.out id) T H
  | .region n ops, T, H, K => wpR tab ext H.next ops T (H.bump n) (K .norm)
  | .seq a b, T, H, K => wpC a T H (seqK (fun T H => wpC b T H K) K)
  | .cond c a b, T, H, K => condP (ev T c) (wpC a T H K) (wpC b T H K)
  | .block id a, T, H, K => wpC a T H (blockK id K)
  | .loop a, T, H, K => loopP tab ext a T H K
end
section
variable {tab : Nat → Option RFunc} {ext : Nat → List AV → AH → Option (AV × AH)}
theorem CallP.mono {f : Nat} {args : List AV} {H : AH} {K K' : AV → AH → Prop} (h : CallP tab ext f args H K) (hk : ∀ v H', K v H' → K' v H') : CallP tab ext f args H K' :=
  let ⟨n, v, H', h1, h2⟩ := h; ⟨n, v, H', h1, hk v H' h2⟩
@[simp] theorem condP_bool (b : Bool) (A B : Prop) : condP (.s (.bool b)) A B = if b then A else B := by cases b <;> simp [condP]
theorem wpO_sound {ρ : Opd → AV} {id : Nat} {H : AH} {o : ROp} {K : AV → AH → Prop} (h : wpO tab ext ρ id H o K) : ∃ n v H', opA (run tab ext n) ρ id H o = some (v, H') ∧ K v H' := by
  cases o with
  | call f args =>
    obtain ⟨n, v, H', h1, h2⟩ := h
    exact ⟨n, v, H', h1, h2⟩
  | callv x args =>
    simp only [wpO, callvP] at h
    split at h
    · rename_i f caps hx
      obtain ⟨n, v, H', h1, h2⟩ := h
      exact ⟨n, v, H', by simp only [opA, ROp.kind, effO, hx]; exact h1, h2⟩
    · rename_i f p hx
      obtain ⟨n, v, H', h1, h2⟩ := h
      exact ⟨n, v, H', by simp only [opA, ROp.kind, effO, hx]; exact h1, h2⟩
    · exact h.elim
  | move x => exact ⟨0, _, _, by simp [opA, ROp.kind, pureA], h⟩
  | load m a => obtain ⟨v, h1, h2⟩ := h; exact ⟨0, v, H, by simp [opA, ROp.kind, loadO, h1], h2⟩
  | newc l => obtain ⟨H', h1, h2⟩ := h; exact ⟨0, _, H', by simp [opA, ROp.kind, allocO, h1], h2⟩
  | box x => obtain ⟨l, h0, H', h1, h2⟩ := h; exact ⟨0, _, H', by simp [opA, ROp.kind, allocO, h0, h1], h2⟩
  | buildSlice esz len z ps => obtain ⟨l, h0, H', h1, h2⟩ := h; exact ⟨0, _, H', by simp [opA, ROp.kind, allocO, h0, h1], h2⟩
  | makeSlice esz bytes z l c => obtain ⟨r, h0, H', h1, h2⟩ := h; exact ⟨0, _, H', by simp [opA, ROp.kind, allocO, h0, h1], h2⟩
  | store n a v => obtain ⟨H', h1, h2⟩ := h; exact ⟨0, _, H', by simp [opA, ROp.kind, effO, h1], h2⟩
  | append esz bytes s x => obtain ⟨r, h1, h2⟩ := h; exact ⟨0, r.1, r.2, by simp [opA, ROp.kind, effO, h1], h2⟩
  | copy esz d s => obtain ⟨r, h1, h2⟩ := h; exact ⟨0, r.1, r.2, by simp [opA, ROp.kind, effO, h1], h2⟩
  | clear esz z x => obtain ⟨H', h1, h2⟩ := h; exact ⟨0, _, H', by simp [opA, ROp.kind, effO, h1], h2⟩
  | hop g args => obtain ⟨r, h1, h2⟩ := h; exact ⟨0, r.1, r.2, by simp only [opA, ROp.kind, effO, h1], h2⟩
  | _ => obtain ⟨v, h1, h2⟩ := h; exact ⟨0, v, H, by simp only [opA, ROp.kind, h1, Option.map_some], h2⟩
theorem watchP_sound {T : List AV} {H : AH} {P : Prop} : ∀ {ws : List Watch}, watchP T H ws P → ws.all (watchOk T H) = true ∧ P
  | [], h => ⟨rfl, h⟩
  | w :: ws, h => by
    obtain ⟨h1, h2⟩ := h
    obtain ⟨h3, h4⟩ := watchP_sound h2
    refine ⟨?_, h4⟩
    simp only [List.all_cons, h3, Bool.and_true]
    unfold watchOk
    cases hg : w.guard with
    | none => rw [hg] at h1; simp only [wantedA]; simpa using h1
    | some p =>
      obtain ⟨t, b⟩ := p
      rw [hg] at h1
      rw [wanted_gd]
      split
      · rename_i hgd; simpa using h1 hgd
      · rfl
theorem wpR_sound {base : Nat} : ∀ {l : List ROper} {T : List AV} {H : AH} {K : List AV → AH → Prop}, wpR tab ext base l T H K → ∃ n T' H', regA (run tab ext n) base l T H = some (T', H') ∧ K T' H'
  | [], T, H, K, h => ⟨0, T, H, rfl, h⟩
  | o :: l, T, H, K, h => by
    have key : ∃ n v H', (wantedA T o.guard = true ∧ opA (run tab ext n) (ev T) (base + o.idx) H o.op = some (v, H') ∨ wantedA T o.guard = false ∧ v = undef ∧ H' = H) ∧ watchP T H' o.watch (wpR tab ext base l (put T o.dst v) H' K) := by
      simp only [wpR] at h
      split at h
      · rename_i hg
        obtain ⟨n, v, H', h1, h2⟩ := wpO_sound h
        exact ⟨n, v, H', .inl ⟨by simp [hg, wantedA], h1⟩, h2⟩
      · rename_i t b hg
        unfold gP at h
        split at h
        · rename_i hgd
          obtain ⟨n, v, H', h1, h2⟩ := wpO_sound h
          exact ⟨n, v, H', .inl ⟨by rw [hg, wanted_gd]; exact hgd, h1⟩, h2⟩
        · rename_i hgd
          exact ⟨0, undef, H, .inr ⟨by rw [hg, wanted_gd]; simpa using hgd, rfl, rfl⟩, h⟩
    obtain ⟨n, v, H', h1, h2⟩ := key
    obtain ⟨h3, h4⟩ := watchP_sound h2
    obtain ⟨m, T2, H2, h5, h6⟩ := wpR_sound h4
    refine ⟨max n m, T2, H2, ?_, h6⟩
    simp only [regA, Option.bind_eq_some_iff]
    refine ⟨(put T o.dst v, H'), ?_, ?_⟩
    · unfold stepA
      rcases h1 with ⟨hw, h1⟩ | ⟨hw, rfl, rfl⟩
      · rw [if_pos hw, opA_mono (run_mono (Nat.le_max_left n m)) h1]; rfl
      · rw [if_neg (by simp [hw])]
    · simp only
      rw [if_pos h3]
      exact regA_mono (run_mono (Nat.le_max_right n m)) h5
theorem wpC_sound : ∀ {c : RC} {T : List AV} {H : AH} {K : Ex → List AV → AH → Prop}, wpC tab ext c T H K → ∃ n e T' H', rcA (run tab ext n) n c T H = some (e, T', H') ∧ K e T' H'
  | .skip, T, H, K, h => ⟨0, _, _, _, rfl, h⟩
  | .ret, T, H, K, h => ⟨0, _, _, _, rfl, h⟩
  | .exit _, T, H, K, h => ⟨0, _, _, _, rfl, h⟩
  | .region k ops, T, H, K, h => by
    obtain ⟨n, T', H', h1, h2⟩ := wpR_sound h
    exact ⟨n, .norm, T', H', by simp [rcA, h1], h2⟩
  | .seq a b, T, H, K, h => by
    obtain ⟨n, e, T1, H1, h1, h2⟩ := wpC_sound (c := a) h
    cases e with
    | norm =>
      obtain ⟨m, e, T2, H2, h3, h4⟩ := wpC_sound (c := b) h2
      refine ⟨max n m, e, T2, H2, ?_, h4⟩
      simp only [rcA, Option.bind_eq_some_iff]
      exact ⟨_, rcA_mono (run_mono (Nat.le_max_left n m)) (Nat.le_max_left n m) a h1, rcA_mono (run_mono (Nat.le_max_right n m)) (Nat.le_max_right n m) b h3⟩
    | ret => exact ⟨n, .ret, T1, H1, by simp [rcA, h1], h2⟩
    | out id => exact ⟨n, .out id, T1, H1, by simp [rcA, h1], h2⟩
  | .cond c a b, T, H, K, h => by
    simp only [wpC, condP] at h
    split at h
    · rename_i hv
      obtain ⟨n, e, T1, H1, h1, h2⟩ := wpC_sound (c := a) h
      exact ⟨n, e, T1, H1, by simp only [rcA, hv]; exact h1, h2⟩
    · rename_i hv
      obtain ⟨n, e, T1, H1, h1, h2⟩ := wpC_sound (c := b) h
      exact ⟨n, e, T1, H1, by simp only [rcA, hv]; exact h1, h2⟩
    · exact h.elim
  | .block id a, T, H, K, h => by
    obtain ⟨n, e, T1, H1, h1, h2⟩ := wpC_sound (c := a) h
    refine ⟨n, if e = .out id then .norm else e, T1, H1, by simp [rcA, h1], ?_⟩
    cases e with
    | norm => simpa [blockK] using h2
    | ret => simpa [blockK] using h2
    | out id' =>
      simp only [blockK] at h2
      by_cases hid : id' = id
      · subst hid; simpa using h2
      · have : (Ex.out id' : Ex) ≠ .out id := fun hc => hid (by cases hc; rfl)
        rw [if_neg this]; rw [if_neg hid] at h2; exact h2
  | .loop a, T, H, K, h => by
    obtain ⟨n, e, T', H', h1, h2⟩ := h
    exact ⟨n, e, T', H', h1, h2⟩
theorem loopP_inv {c : RC} {K : Ex → List AV → AH → Prop} (I : Nat → List AV → AH → Prop) (step : ∀ n T H, I n T H → wpC tab ext c T H (seqK (fun T' H' => ∃ m, m < n ∧ I m T' H') K)) :
    ∀ (n : Nat) (T : List AV) (H : AH), I n T H → loopP tab ext c T H K := by
  intro n
  induction n using Nat.strongRecOn with
  | _ n ih =>
    intro T H h
    obtain ⟨k, e, T1, H1, h1, h2⟩ := wpC_sound (step n T H h)
    cases e with
    | norm =>
      obtain ⟨m, hm, hI⟩ := h2
      obtain ⟨j, e, T2, H2, h3, h4⟩ := ih m hm T1 H1 hI
      refine ⟨max k j + 1, e, T2, H2, ?_, h4⟩
      simp only [iterA, Option.bind_eq_some_iff]
      refine ⟨_, rcA_mono (run_mono (by omega)) (by omega) c h1, ?_⟩
      exact iterA_mono (f := rcA (run tab ext j) j c) (fun T H x hx => rcA_mono (run_mono (by omega)) (by omega) c hx) (by omega) h3
    | ret =>
      refine ⟨k + 1, .ret, T1, H1, ?_, h2⟩
      simp only [iterA, Option.bind_eq_some_iff]
      exact ⟨_, rcA_mono (run_mono (by omega)) (by omega) c h1, rfl⟩
    | out id =>
      refine ⟨k + 1, .out id, T1, H1, ?_, h2⟩
      simp only [iterA, Option.bind_eq_some_iff]
      exact ⟨_, rcA_mono (run_mono (by omega)) (by omega) c h1, rfl⟩
def retK (rs : List RRes) (K : AV → AH → Prop) (e : Ex) (T : List AV) (H : AH) : Prop :=
  match e with
  | .out _ => False
  | _ => andThen (resA rs T H) fun v => K v H
theorem CallP_of {f : Nat} {rf : RFunc} {args : List AV} {H : AH} {K : AV → AH → Prop} (hf : tab f = some rf) (h : wpC tab ext rf.body (args ++ List.replicate (rf.ntmps - args.length) undef) H (retK rf.results K)) : CallP tab ext f args H K := by
  obtain ⟨n, e, T', H', h1, h2⟩ := wpC_sound h
  have hne : ∀ id, e ≠ .out id := by rintro id rfl; exact h2
  have h3 : andThen (resA rf.results T' H') fun v => K v H' := by
    cases e with
    | norm => exact h2
    | ret => exact h2
    | out id => exact absurd rfl (hne id)
  obtain ⟨v, h4, h5⟩ := h3
  refine ⟨n + 1, v, H', ?_, h5⟩
  simp only [run, hf, h1, Option.bind_some]
  cases e with
  | norm => simp [h4]
  | ret => simp [h4]
  | out id => exact absurd rfl (hne id)
end
def rcOk : RC → Bool
  | .region n ops => ops.all fun o => decide (o.idx < n)
  | .seq a b => rcOk a && rcOk b
  | .cond _ a b => rcOk a && rcOk b
  | .block _ a => rcOk a
  | .loop a => rcOk a
  | _ => true
section
variable {rec : Nat → List AV → AH → Option (AV × AH)}
theorem regA_wf (hr : WFrec rec) (hn : NextOk rec) {base n : Nat} : ∀ {l : List ROper} {T T' : List AV} {H H' : AH}, regA rec base l T H = some (T', H') → (∀ o ∈ l, o.idx < n) → base + n ≤ H.next → WF H → WF H'
  | [], T, T', H, H', h, _, _, hw => by simp only [regA] at h; cases h; exact hw
  | r :: l, T, T', H, H', h, hi, hb, hw => by
    simp only [regA, Option.bind_eq_some_iff] at h
    obtain ⟨⟨T1, H1⟩, h1, h2⟩ := h
    split at h2
    · have hidx := hi r (by simp)
      have hw1 : WF H1 := by
        unfold stepA at h1
        split at h1
        · simp only [Option.map_eq_some_iff, Prod.mk.injEq] at h1
          obtain ⟨⟨v, H2⟩, h3, _, rfl⟩ := h1
          exact opA_wf hr h3 hw (by omega)
        · cases h1; exact hw
      exact regA_wf hr hn h2 (fun o ho => hi o (by simp [ho])) (Nat.le_trans hb (stepA_next hn h1)) hw1
    · cases h2
theorem iterA_wf {f : List AV → AH → Option (Ex × List AV × AH)} (hf : ∀ T H e T' H', f T H = some (e, T', H') → WF H → WF H') : ∀ (n : Nat) {T T' : List AV} {H H' : AH} {e : Ex}, iterA f n T H = some (e, T', H') → WF H → WF H'
  | 0, _, _, _, _, _, h, _ => by simp [iterA] at h
  | n + 1, T, T', H, H', e, h, hw => by
    simp only [iterA, Option.bind_eq_some_iff] at h
    obtain ⟨⟨e1, T1, H1⟩, h1, h2⟩ := h
    have k := hf _ _ _ _ _ h1 hw
    cases e1 with
    | norm => exact iterA_wf hf n h2 k
    | ret => simp only at h2; cases h2; exact k
    | out id => simp only at h2; cases h2; exact k
theorem rcA_wf (hr : WFrec rec) (hn : NextOk rec) {fuel : Nat} : ∀ (c : RC) {T T' : List AV} {H H' : AH} {e : Ex}, rcOk c = true → rcA rec fuel c T H = some (e, T', H') → WF H → WF H'
  | .skip, _, _, _, _, _, _, h, hw => by simp only [rcA] at h; cases h; exact hw
  | .ret, _, _, _, _, _, _, h, hw => by simp only [rcA] at h; cases h; exact hw
  | .exit _, _, _, _, _, _, _, h, hw => by simp only [rcA] at h; cases h; exact hw
  | .region n ops, T, T', H, H', e, hc, h, hw => by
    simp only [rcA, Option.map_eq_some_iff] at h
    obtain ⟨⟨T1, H1⟩, h1, h2⟩ := h
    cases h2
    refine regA_wf hr hn (n := n) h1 ?_ (Nat.le_refl _) (hw.bump n)
    intro o ho
    simp only [rcOk, List.all_eq_true, decide_eq_true_eq] at hc
    exact hc o ho
  | .seq a b, T, T', H, H', e, hc, h, hw => by
    simp only [rcOk, Bool.and_eq_true] at hc
    simp only [rcA, Option.bind_eq_some_iff] at h
    obtain ⟨⟨e1, T1, H1⟩, h1, h2⟩ := h
    have k := rcA_wf hr hn a hc.1 h1 hw
    cases e1 with
    | norm => exact rcA_wf hr hn b hc.2 h2 k
    | ret => simp only at h2; cases h2; exact k
    | out id => simp only at h2; cases h2; exact k
  | .cond c a b, T, T', H, H', e, hc, h, hw => by
    simp only [rcOk, Bool.and_eq_true] at hc
    simp only [rcA] at h
    split at h
    · exact rcA_wf hr hn a hc.1 h hw
    · exact rcA_wf hr hn b hc.2 h hw
    · cases h
  | .block id a, T, T', H, H', e, hc, h, hw => by
    simp only [rcA, Option.map_eq_some_iff] at h
    obtain ⟨⟨e1, T1, H1⟩, h1, h2⟩ := h
    cases h2
    exact rcA_wf hr hn a hc h1 hw
  | .loop a, T, T', H, H', e, hc, h, hw => by
    simp only [rcA] at h
    exact iterA_wf (f := rcA rec fuel a) (fun _ _ _ _ _ h => rcA_wf hr hn a hc h) fuel h hw
end
section
variable {tab : Nat → Option RFunc} {ext : Nat → List AV → AH → Option (AV × AH)}
def tabWfL (l : List (Option RFunc)) : Bool := l.all fun o => match o with | none => true | some rf => rcOk rf.body
def TabWf (tab : Nat → Option RFunc) : Prop := ∀ f rf, tab f = some rf → rcOk rf.body = true
theorem run_wf (ht : TabWf tab) (he : WFrec ext) (hn : NextOk ext) : ∀ n, WFrec (run tab ext n)
  | 0, _, _, _, _, _, h, _ => by simp [run] at h
  | n + 1, f, args, H, v, H', h, hw => by
    simp only [run] at h
    split at h
    · exact he _ _ _ _ _ h hw
    · rename_i rf hrf
      simp only [Option.bind_eq_some_iff] at h
      obtain ⟨⟨e1, T1, H1⟩, h1, h2⟩ := h
      have k := rcA_wf (run_wf ht he hn n) (run_next hn n) _ (ht f rf hrf) h1 hw
      split at h2
      · cases h2
      · simp only [Option.map_eq_some_iff, Prod.mk.injEq] at h2
        obtain ⟨_, _, _, rfl⟩ := h2
        exact k
theorem CallP.mono_wf (ht : TabWf tab) (he : WFrec ext) (hn : NextOk ext) {f : Nat} {args : List AV} {H : AH} (hw : WF H) {K K' : AV → AH → Prop} (h : CallP tab ext f args H K) (hk : ∀ v H', WF H' → H.next ≤ H'.next → K v H' → K' v H') : CallP tab ext f args H K' :=
  let ⟨n, v, H', h1, h2⟩ := h; ⟨n, v, H', h1, hk v H' (run_wf ht he hn n _ _ _ _ _ h1 hw) (run_next hn n _ _ _ _ _ h1) h2⟩
end
def noExt : Nat → List AV → AH → Option (AV × AH) := fun _ _ _ => none
end Go.AM

/-
  THE ABSTRACT MACHINE: from its run of a law to the law's call in the model; and rules by which a run is worked out.
-/
namespace Go.AM
open Go.RowKit Go.ChangeShapes Go.WideShapes
def GrownU (w w' : World) : Prop := w.keptBut w' (fun _ => False)
theorem HRel.grown {w w' : World} {φ : Phi} {H : AH} (h : HRel w.heap.size w φ H w') : GrownU w w' := by
  refine ⟨h.os, h.out, fun i hi => ?_⟩
  rw [h.old i hi]
  cases hw : w.heap[i]? with
  | none => rfl
  | some o => cases o <;> first | exact ⟨rfl, rfl, rfl, fun _ _ => rfl⟩ | exact .inr ⟨rfl, rfl⟩ | rfl
section
variable {HH : Type} {enc : TypeId × Value → HH} {P : Program}
theorem post_of_same0 {f : Func} {s : ChangeSpec} {apart fresh handsOn : Bool} {W W' : World} {args : Array Value} {v : Value} {ds gs : List (DataW HH)} {before pa pv : List MemPlace}
    (hW : DataW.Whole enc P f.params.toList s.vars apart W args.toList ds gs before)
    (hres : ∀ (b : Nat) (sp : Nat → Bool) (hd : Bool), DataW.TrodAll enc P W' b sp hd f.resultTypes.toList (v.resultList f.resultTypes.size) (s.fn HH (ds ++ gs)).results [])
    (hargs : ∀ sp : Nat → Bool, (∀ p ∈ before, sp p.block = true) → DataW.TrodAll enc P W' 0 sp true f.params.toList args.toList (s.fn HH (ds ++ gs)).args pa)
    (hvars : ∀ sp : Nat → Bool, (∀ p ∈ before, sp p.block = true) → DataW.TrodVars enc P W' sp s.vars (s.fn HH (ds ++ gs)).vars pv)
    (_ : before = pa ++ pv) (hk : GrownU W W') :
    s.post enc P f apart fresh handsOn false W args v W' := by
  have hold : ∀ p ∈ before, (fun b => decide (b < W.heap.size)) p.block = true := fun p hp => by simpa using hW.lt p hp
  refine ⟨ds, gs, before, [], pa, pv, hW, hres _ _ _, hargs _ hold, hvars _ hold, World.keptBut_mono (fun p hp => hp.elim) hk, fun h => ?_⟩
  cases h
end
def H00 : AH := ⟨fun _ => none, 0⟩
section
variable (H : AH)
@[simp] theorem nilCheckA_ptr (a : Nat × Nat) : nilCheckA (.s (.ptr (some a))) = some (.s (.ptr (some a))) := rfl
@[simp] theorem nilCheckA_fn (f : Nat) (c : List (Nat × Nat)) : nilCheckA (.s (.fn f c)) = some (.s (.fn f c)) := rfl
@[simp] theorem fieldAddrA_ptr (off b o : Nat) : fieldAddrA off (.s (.ptr (some (b, o)))) = some (.s (.ptr (some (b, o + off)))) := rfl
@[simp] theorem loadA_one (b o : Nat) : loadA none (.s (.ptr (some (b, o)))) H = (H.ld b o).map .s := rfl
@[simp] theorem loadA_n (n b o : Nat) : loadA (some n) (.s (.ptr (some (b, o)))) H = (H.ldn b o n).map .agg := rfl
@[simp] theorem storeA_s (n b o : Nat) (x : SV) : storeA n (.s (.ptr (some (b, o)))) (.s x) H = if 1 = n then H.stn b o [x] else none := rfl
@[simp] theorem storeA_agg (n b o : Nat) (l : List SV) : storeA n (.s (.ptr (some (b, o)))) (.agg l) H = if l.length = n then H.stn b o l else none := rfl
@[simp] theorem cells_s (x : SV) : AV.cells? (.s x) = some [x] := rfl
@[simp] theorem cells_agg (l : List SV) : AV.cells? (.agg l) = some l := rfl
@[simp] theorem part_s (x : SV) : AV.part? (.s x) = some (.s x) := rfl
@[simp] theorem part_agg (l : List SV) : AV.part? (.agg l) = some (.agg l) := rfl
@[simp] theorem av_s (x : SV) : Part.av (.s x) = .s x := rfl
@[simp] theorem av_agg (l : List SV) : Part.av (.agg l) = .agg l := rfl
@[simp] theorem gd_tup (l : List Part) (b : Bool) : gd (.tup l) b = false := rfl
@[simp] theorem pickA_bool (b : Bool) (x y : AV) : pickA (.s (.bool b)) x y = some (if b then x else y) := by cases b <;> rfl
@[simp] theorem fieldA_agg (m : Option Nat) (off : Nat) (l : List SV) : fieldA m off (.agg l) = partA m l off := rfl
@[simp] theorem partA_none (l : List SV) (off : Nat) : partA none l off = (l[off]?).map .s := rfl
@[simp] theorem partA_some (n : Nat) (l : List SV) (off : Nat) : partA (some n) l off = if off + n ≤ l.length then some (.agg ((l.drop off).take n)) else none := rfl
@[simp] theorem indexSlA_eq (esz b o len cap e : Nat) (k : IntKind) (n : Int) : indexSlA esz (.s (.slice (some (b, o)) len cap e)) (.s (.int k n)) = if 0 ≤ n ∧ n < (len : Int) then some (.s (.ptr (some (b, o + n.toNat * esz)))) else none := rfl
@[simp] theorem indexArrA_eq (len esz b o : Nat) (k : IntKind) (n : Int) : indexArrA len esz (.s (.ptr (some (b, o)))) (.s (.int k n)) = if 0 ≤ n ∧ n < (len : Int) then some (.s (.ptr (some (b, o + n.toNat * esz)))) else none := rfl
@[simp] theorem lenA_slice (a : Option (Nat × Nat)) (n c e : Nat) : lenA (.s (.slice a n c e)) = some (.s (.int .i64 n)) := rfl
@[simp] theorem unA_not (b : Bool) : unA .not (.s (.bool b)) = some (.s (.bool !b)) := rfl
@[simp] theorem unA_neg (k : IntKind) (n : Int) : unA .neg (.s (.int k n)) = some (.s (.int k (k.wrap (0 - n)))) := rfl
@[simp] theorem convA_int (k k' : IntKind) (n : Int) : convA k (.s (.int k' n)) = some (.s (.int k (k.wrap n))) := rfl
@[simp] theorem extractA_tup (i : Nat) (l : List Part) : extractA i (.tup l) = (l[i]?).map Part.av := rfl
@[simp] theorem minmaxA_max (k k' : IntKind) (a b : Int) : minmaxA true (.s (.int k a)) (.s (.int k' b)) = some (.s (.int k (if b > a then b else a))) := rfl
@[simp] theorem minmaxA_min (k k' : IntKind) (a b : Int) : minmaxA false (.s (.int k a)) (.s (.int k' b)) = some (.s (.int k (if b < a then b else a))) := rfl
@[simp] theorem capsA_nil : capsA [] = some [] := rfl
@[simp] theorem capsA_cons (a : Nat × Nat) (l : List AV) : capsA (.s (.ptr (some a)) :: l) = (capsA l).map (a :: ·) := rfl
@[simp] theorem partsA_nil : partsA [] = some [] := rfl
@[simp] theorem partsA_cons (v : AV) (l : List AV) : partsA (v :: l) = (v.part?).bind fun p => (partsA l).map (p :: ·) := rfl
section
variable (k : IntKind) (a b : Int)
@[simp] theorem binA_add : binA .add (.s (.int k a)) (.s (.int k b)) = some (.s (.int k (k.wrap (a + b)))) := by simp [binA, arithA]
@[simp] theorem binA_sub : binA .sub (.s (.int k a)) (.s (.int k b)) = some (.s (.int k (k.wrap (a - b)))) := by simp [binA, arithA]
@[simp] theorem binA_mul : binA .mul (.s (.int k a)) (.s (.int k b)) = some (.s (.int k (k.wrap (a * b)))) := by simp [binA, arithA]
@[simp] theorem binA_quo : binA .quo (.s (.int k a)) (.s (.int k b)) = if b = 0 then none else some (.s (.int k (k.wrap (a.tdiv b)))) := by simp [binA, arithA]; split <;> rfl
@[simp] theorem binA_rem : binA .rem (.s (.int k a)) (.s (.int k b)) = if b = 0 then none else some (.s (.int k (a.tmod b))) := by simp [binA, arithA]; split <;> rfl
@[simp] theorem binA_eql : binA .eql (.s (.int k a)) (.s (.int k b)) = some (.s (.bool (decide (a = b)))) := by simp [binA, arithA]; rfl
@[simp] theorem binA_neq : binA .neq (.s (.int k a)) (.s (.int k b)) = some (.s (.bool (decide (¬ a = b)))) := by simp [binA, arithA]; rfl
@[simp] theorem binA_lss : binA .lss (.s (.int k a)) (.s (.int k b)) = some (.s (.bool (decide (a < b)))) := by simp [binA, arithA]
@[simp] theorem binA_leq : binA .leq (.s (.int k a)) (.s (.int k b)) = some (.s (.bool (decide (a ≤ b)))) := by simp [binA, arithA]
@[simp] theorem binA_gtr : binA .gtr (.s (.int k a)) (.s (.int k b)) = some (.s (.bool (decide (a > b)))) := by simp [binA, arithA]
@[simp] theorem binA_geq : binA .geq (.s (.int k a)) (.s (.int k b)) = some (.s (.bool (decide (a ≥ b)))) := by simp [binA, arithA]
end
@[simp] theorem eqsA_bool (ng a b : Bool) : eqsA .bool ng (.s (.bool a)) (.s (.bool b)) = some (.s (.bool (ng ^^ (a == b)))) := rfl
@[simp] theorem eqsA_ptr_none (ng : Bool) (b : Option (Nat × Nat)) : eqsA .ptr ng (.s (.ptr none)) (.s (.ptr b)) = some (.s (.bool (ng ^^ b.isNone))) := rfl
@[simp] theorem eqsA_ptr_some (ng : Bool) (a : Nat × Nat) : eqsA .ptr ng (.s (.ptr (some a))) (.s (.ptr none)) = some (.s (.bool ng)) := rfl
@[simp] theorem eqsA_sl_none (ng : Bool) (l c e l' c' e' : Nat) (b : Option (Nat × Nat)) : eqsA .slice ng (.s (.slice none l c e)) (.s (.slice b l' c' e')) = some (.s (.bool (ng ^^ b.isNone))) := rfl
@[simp] theorem eqsA_sl_some (ng : Bool) (a : Nat × Nat) (l c e l' c' e' : Nat) : eqsA .slice ng (.s (.slice (some a) l c e)) (.s (.slice none l' c' e')) = some (.s (.bool ng)) := rfl
@[simp] theorem bump_blk (n c : Nat) : (H.bump n).blk c = H.blk c := rfl
@[simp] theorem bump_next (n : Nat) : (H.bump n).next = H.next + n := rfl
@[simp] theorem set_blk (b c : Nat) (x : Blk) : (H.set b x).blk c = if c = b then some x else H.blk c := rfl
@[simp] theorem set_next (b : Nat) (x : Blk) : (H.set b x).next = H.next := rfl
@[simp] theorem bump_ld (n b o : Nat) : (H.bump n).ld b o = H.ld b o := rfl
@[simp] theorem bump_ldn (n b o k : Nat) : (H.bump n).ldn b o k = H.ldn b o k := rfl
theorem ld_of {b o : Nat} {ro : Bool} {l : List SV} (h : H.blk b = some (.cells ro l)) : H.ld b o = l[o]? := by unfold AH.ld; rw [h]
theorem ldn_of {b o n : Nat} {ro : Bool} {l : List SV} (h : H.blk b = some (.cells ro l)) : H.ldn b o n = if o + n ≤ l.length then some ((l.drop o).take n) else none := by unfold AH.ldn; rw [h]
theorem stn_of {b o : Nat} {l vs : List SV} (h : H.blk b = some (.cells false l)) (hl : o + vs.length ≤ l.length) : H.stn b o vs = some (H.set b (.cells false (splice l o vs))) := by unfold AH.stn; rw [h]; simp [hl]
theorem new_of {id : Nat} {x : Blk} (h : H.blk id = none) : H.new id x = some (H.set id x) := by unfold AH.new; rw [h]
@[simp] theorem retK_norm (rs : List RRes) (K : AV → AH → Prop) (T : List AV) : retK rs K .norm T H = andThen (resA rs T H) fun v => K v H := rfl
@[simp] theorem retK_ret (rs : List RRes) (K : AV → AH → Prop) (T : List AV) : retK rs K .ret T H = andThen (resA rs T H) fun v => K v H := rfl
@[simp] theorem seqK_norm (b : List AV → AH → Prop) (K : Ex → List AV → AH → Prop) (T : List AV) : seqK b K .norm T H = b T H := rfl
@[simp] theorem seqK_ret (b : List AV → AH → Prop) (K : Ex → List AV → AH → Prop) (T : List AV) : seqK b K .ret T H = K .ret T H := rfl
@[simp] theorem seqK_out (b : List AV → AH → Prop) (K : Ex → List AV → AH → Prop) (id : Nat) (T : List AV) : seqK b K (.out id) T H = K (.out id) T H := rfl
@[simp] theorem blockK_norm (id : Nat) (K : Ex → List AV → AH → Prop) (T : List AV) : blockK id K .norm T H = K .norm T H := rfl
@[simp] theorem blockK_ret (id : Nat) (K : Ex → List AV → AH → Prop) (T : List AV) : blockK id K .ret T H = K .ret T H := rfl
@[simp] theorem blockK_out (id id' : Nat) (K : Ex → List AV → AH → Prop) (T : List AV) : blockK id K (.out id') T H = if id' = id then K .norm T H else K (.out id') T H := rfl
end
def sl (T : List AV) (i : Nat) : AV := T.getD i undef
theorem wrap_i64 {x : Int} (h1 : -9223372036854775808 ≤ x) (h2 : x < 9223372036854775808) : IntKind.i64.wrap x = x := by rw [IntKind.wrap_i64]; omega
end Go.AM

/-
  Steps of a printed body by simp, from its head on: what comes behind is not looked into.
-/
namespace Go.AM
section
variable {tab : Nat → Option RFunc} {ext : Nat → List AV → AH → Option (AV × AH)}
@[congr] theorem andThen_congr {α : Type} {o o' : Option α} {K : α → Prop} (h : o = o') : andThen o K = andThen o' K := by rw [h]
@[congr] theorem condP_congr {v v' : AV} {A B : Prop} (h : v = v') : condP v A B = condP v' A B := by rw [h]
@[congr] theorem gP_congr {c c' : Bool} {H : AH} {P : (AV → AH → Prop) → Prop} {K : AV → AH → Prop} (h : c = c') : gP c H P K = gP c' H P K := by rw [h]
@[congr] theorem CallP_congr {f : Nat} {args args' : List AV} {H : AH} {K : AV → AH → Prop} (h : args = args') : CallP tab ext f args H K = CallP tab ext f args' H K := by rw [h]
@[congr] theorem callvP_congr {v v' : AV} {args args' : List AV} {H : AH} {K : AV → AH → Prop} (h' : v = v') (h : args = args') : callvP tab ext v args H K = callvP tab ext v' args' H K := by rw [h, h']
@[congr] theorem loopP_congr {c : RC} {T T' : List AV} {H : AH} {K : Ex → List AV → AH → Prop} (h : T = T') : loopP tab ext c T H K = loopP tab ext c T' H K := by rw [h]
@[congr] theorem wpC_congr {c : RC} {T T' : List AV} {H : AH} {K : Ex → List AV → AH → Prop} (h : T = T') : wpC tab ext c T H K = wpC tab ext c T' H K := by rw [h]
@[simp] theorem gP_true (H : AH) (P : (AV → AH → Prop) → Prop) (K : AV → AH → Prop) : gP true H P K = P K := rfl
@[simp] theorem gP_false (H : AH) (P : (AV → AH → Prop) → Prop) (K : AV → AH → Prop) : gP false H P K = K undef H := rfl
end
@[simp] theorem splice_nil (l : List SV) : splice l 0 [] = l := by simp [splice]
@[simp] theorem splice_cons (x : SV) (l : List SV) (v : SV) (vs : List SV) : splice (x :: l) 0 (v :: vs) = v :: splice l 0 vs := by simp [splice]
@[simp] theorem splice_one (x : SV) (l : List SV) (vs : List SV) : splice (x :: l) 1 vs = x :: splice l 0 vs := by simp [splice, Nat.add_comm]
@[simp] theorem splice_two (x y : SV) (l : List SV) (vs : List SV) : splice (x :: y :: l) 2 vs = x :: y :: splice l 0 vs := by simp [splice, Nat.add_comm]
@[simp] theorem splice_three (x y z : SV) (l : List SV) (vs : List SV) : splice (x :: y :: z :: l) 3 vs = x :: y :: z :: splice l 0 vs := by simp [splice, Nat.add_comm]
@[simp] theorem splice_len (l : List SV) (o : Nat) (vs : List SV) (h : o + vs.length ≤ l.length) : (splice l o vs).length = l.length := by simp [splice]; omega
end Go.AM

/-
  THE ABSTRACT MACHINE: things on the heap side by side; what a call does with some of them leaves the others.
-/
namespace Go.AM
abbrev HF := Nat → Option Blk
def RoOf (ρ : HF) (H : AH) : Prop := ∀ b l, ρ b = some (.cells true l) → H.blk b = some (.cells true l)
def ROrec (rec : Nat → List AV → AH → Option (AV × AH)) : Prop := ∀ ρ f args H v H', rec f args H = some (v, H') → RoOf ρ H → RoOf ρ H'
section
variable {ρ : HF} {H : AH}
theorem RoOf.bump (h : RoOf ρ H) (n : Nat) : RoOf ρ (H.bump n) := h
theorem RoOf.set (h : RoOf ρ H) {b : Nat} (hb : ∀ l, H.blk b ≠ some (.cells true l)) (x : Blk) : RoOf ρ (H.set b x) := by
  intro c l hc
  have := h c l hc
  have hne : c ≠ b := fun he => by subst he; exact hb l this
  rw [set_blk, if_neg hne]
  exact this
theorem stn_ro {H' : AH} (h : RoOf ρ H) {b o : Nat} {l : List SV} (hs : H.stn b o l = some H') : RoOf ρ H' := by
  unfold AH.stn at hs
  split at hs
  · rename_i l' hb
    split at hs
    · cases hs
      exact h.set (fun l hl => by rw [hb] at hl; cases hl) _
    · cases hs
  · cases hs
theorem new_ro {H' : AH} (h : RoOf ρ H) {b : Nat} {x : Blk} (hs : H.new b x = some H') : RoOf ρ H' := by
  unfold AH.new at hs
  split at hs
  · rename_i hb
    cases hs; exact h.set (fun l hl => by rw [hb] at hl; cases hl) _
  · cases hs
theorem opA_ro {rec : Nat → List AV → AH → Option (AV × AH)} (hr : ROrec rec) {f : Opd → AV} {id : Nat} {H' : AH} {r : ROp} {v : AV} (h : opA rec f id H r = some (v, H')) (hw : RoOf ρ H) : RoOf ρ H' := by
  unfold opA at h
  split at h
  · simp only [Option.map_eq_some_iff, Prod.mk.injEq] at h
    obtain ⟨_, _, _, rfl⟩ := h; exact hw
  · simp only [Option.map_eq_some_iff, Prod.mk.injEq] at h
    obtain ⟨_, _, _, rfl⟩ := h; exact hw
  · simp only [Option.bind_eq_some_iff, Option.map_eq_some_iff, Prod.mk.injEq] at h
    obtain ⟨_, _, _, h1, _, rfl⟩ := h; exact new_ro hw h1
  · cases r with
    | store n b u =>
      simp only [effO, Option.map_eq_some_iff, Prod.mk.injEq] at h
      obtain ⟨_, h1, _, rfl⟩ := h
      unfold storeA at h1
      split at h1
      · split at h1
        · split at h1
          · exact stn_ro hw h1
          · cases h1
        · cases h1
      · cases h1
    | append esz bytes s x =>
      simp only [effO, appendA] at h
      split at h
      · simp only [Option.bind_eq_some_iff] at h
        obtain ⟨_, _, _, _, h⟩ := h
        split at h
        · split at h
          · cases h; exact hw
          · simp only [Option.map_eq_some_iff, Prod.mk.injEq] at h
            obtain ⟨_, h1, _, rfl⟩ := h; exact new_ro hw h1
        · cases h
      · simp only [Option.bind_eq_some_iff] at h
        obtain ⟨_, _, _, _, h⟩ := h
        split at h
        · split at h
          · simp only [Option.map_eq_some_iff, Prod.mk.injEq] at h
            obtain ⟨_, h1, _, rfl⟩ := h; exact stn_ro hw h1
          · split at h
            · rename_i hb
              split at h
              · simp only [Option.map_eq_some_iff, Prod.mk.injEq] at h
                obtain ⟨_, h1, _, rfl⟩ := h
                exact new_ro (hw.set (fun l hl => by rw [hb] at hl; cases hl) _) h1
              · cases h
            · cases h
        · cases h
      · cases h
    | copy esz d s =>
      simp only [effO, copyA] at h
      split at h
      · simp only [Option.bind_eq_some_iff] at h
        obtain ⟨_, _, _, _, h⟩ := h
        cases h; exact hw
      · simp only [Option.bind_eq_some_iff] at h
        obtain ⟨_, _, _, _, h⟩ := h
        split at h
        · simp only [Option.map_eq_some_iff, Prod.mk.injEq] at h
          obtain ⟨_, h1, _, rfl⟩ := h; exact stn_ro hw h1
        · cases h
      · cases h
    | clear esz z x =>
      simp only [effO, Option.map_eq_some_iff, Prod.mk.injEq] at h
      obtain ⟨_, h1, _, rfl⟩ := h
      unfold clearA at h1
      split at h1
      · cases h1; exact hw
      · split at h1
        · cases h1; exact hw
        · split at h1
          · exact stn_ro hw h1
          · cases h1
      · cases h1
    | call f args => exact hr _ _ _ _ _ _ h hw
    | callv x args =>
      simp only [effO] at h
      split at h
      · exact hr _ _ _ _ _ _ h hw
      · exact hr _ _ _ _ _ _ h hw
      · cases h
    | hop g args =>
      simp only [effO] at h
      rcases hopA_cases h with rfl | h1 | ⟨r, es, es', hb, rfl⟩
      · exact hw
      · exact new_ro hw h1
      · exact hw.set (fun l hl => by rw [hb] at hl; cases hl) _
    | _ => simp [effO] at h
end
section
variable {ρ : HF} {rec : Nat → List AV → AH → Option (AV × AH)}
theorem regA_ro (hr : ROrec rec) {base : Nat} : ∀ {l : List ROper} {T T' : List AV} {H H' : AH}, regA rec base l T H = some (T', H') → RoOf ρ H → RoOf ρ H'
  | [], T, T', H, H', h, hw => by simp only [regA] at h; cases h; exact hw
  | r :: l, T, T', H, H', h, hw => by
    simp only [regA, Option.bind_eq_some_iff] at h
    obtain ⟨⟨T1, H1⟩, h1, h2⟩ := h
    split at h2
    · have hw1 : RoOf ρ H1 := by
        unfold stepA at h1
        split at h1
        · simp only [Option.map_eq_some_iff, Prod.mk.injEq] at h1
          obtain ⟨⟨v, H2⟩, h3, _, rfl⟩ := h1
          exact opA_ro hr h3 hw
        · cases h1; exact hw
      exact regA_ro hr h2 hw1
    · cases h2
theorem iterA_ro {f : List AV → AH → Option (Ex × List AV × AH)} (hf : ∀ T H e T' H', f T H = some (e, T', H') → RoOf ρ H → RoOf ρ H') : ∀ (n : Nat) {T T' : List AV} {H H' : AH} {e : Ex}, iterA f n T H = some (e, T', H') → RoOf ρ H → RoOf ρ H'
  | 0, _, _, _, _, _, h, _ => by simp [iterA] at h
  | n + 1, T, T', H, H', e, h, hw => by
    simp only [iterA, Option.bind_eq_some_iff] at h
    obtain ⟨⟨e1, T1, H1⟩, h1, h2⟩ := h
    have k := hf _ _ _ _ _ h1 hw
    cases e1 with
    | norm => exact iterA_ro hf n h2 k
    | ret => simp only at h2; cases h2; exact k
    | out id => simp only at h2; cases h2; exact k
theorem rcA_ro (hr : ROrec rec) {fuel : Nat} : ∀ (c : RC) {T T' : List AV} {H H' : AH} {e : Ex}, rcA rec fuel c T H = some (e, T', H') → RoOf ρ H → RoOf ρ H'
  | .skip, _, _, _, _, _, h, hw => by simp only [rcA] at h; cases h; exact hw
  | .ret, _, _, _, _, _, h, hw => by simp only [rcA] at h; cases h; exact hw
  | .exit _, _, _, _, _, _, h, hw => by simp only [rcA] at h; cases h; exact hw
  | .region n ops, T, T', H, H', e, h, hw => by
    simp only [rcA, Option.map_eq_some_iff] at h
    obtain ⟨⟨T1, H1⟩, h1, h2⟩ := h
    cases h2
    exact regA_ro hr h1 (hw.bump n)
  | .seq a b, T, T', H, H', e, h, hw => by
    simp only [rcA, Option.bind_eq_some_iff] at h
    obtain ⟨⟨e1, T1, H1⟩, h1, h2⟩ := h
    have k := rcA_ro hr a h1 hw
    cases e1 with
    | norm => exact rcA_ro hr b h2 k
    | ret => simp only at h2; cases h2; exact k
    | out id => simp only at h2; cases h2; exact k
  | .cond c a b, T, T', H, H', e, h, hw => by
    simp only [rcA] at h
    split at h
    · exact rcA_ro hr a h hw
    · exact rcA_ro hr b h hw
    · cases h
  | .block id a, T, T', H, H', e, h, hw => by
    simp only [rcA, Option.map_eq_some_iff] at h
    obtain ⟨⟨e1, T1, H1⟩, h1, h2⟩ := h
    cases h2
    exact rcA_ro hr a h1 hw
  | .loop a, T, T', H, H', e, h, hw => by
    simp only [rcA] at h
    exact iterA_ro (f := rcA rec fuel a) (fun _ _ _ _ _ h => rcA_ro hr a h) fuel h hw
end
theorem run_ro {tab : Nat → Option RFunc} {ext : Nat → List AV → AH → Option (AV × AH)} (he : ROrec ext) : ∀ n, ROrec (run tab ext n)
  | 0 => fun ρ f args H v H' h _ => by simp [run] at h
  | n + 1 => by
    intro ρ f args H v H' h hw
    simp only [run] at h
    split at h
    · exact he _ _ _ _ _ _ h hw
    · simp only [Option.bind_eq_some_iff] at h
      obtain ⟨⟨e1, T1, H1⟩, h1, h2⟩ := h
      have k := rcA_ro (run_ro he n) _ h1 hw
      split at h2
      · cases h2
      · simp only [Option.map_eq_some_iff, Prod.mk.injEq] at h2
        obtain ⟨_, _, _, rfl⟩ := h2
        exact k
theorem CallP.mono_ro {tab : Nat → Option RFunc} {ext : Nat → List AV → AH → Option (AV × AH)} (he : ROrec ext) {ρ : HF} {f : Nat} {args : List AV} {H : AH} (hw : RoOf ρ H) {K K' : AV → AH → Prop} (h : CallP tab ext f args H K) (hk : ∀ v H', RoOf ρ H' → K v H' → K' v H') : CallP tab ext f args H K' :=
  let ⟨n, v, H', h1, h2⟩ := h; ⟨n, v, H', h1, hk v H' (run_ro he n _ _ _ _ _ _ h1 hw) h2⟩
structure Asr where
  p : HF → HF → List Nat → Prop
  loc : ∀ {ρ f g : HF} {S : List Nat}, (∀ b ∈ S, g b = f b) → p ρ f S → p ρ g S
inductive SatL (ρ f : HF) : List Asr → List Nat → Prop
  | nil : SatL ρ f [] []
  | cons {A : Asr} {l : List Asr} {S S' : List Nat} : A.p ρ f S → SatL ρ f l S' → (∀ b ∈ S, b ∉ S') → SatL ρ f (A :: l) (S ++ S')
theorem SatL.cons_inv {ρ f : HF} {A : Asr} {l : List Asr} {S : List Nat} (h : SatL ρ f (A :: l) S) : ∃ S1 S2, S = S1 ++ S2 ∧ A.p ρ f S1 ∧ SatL ρ f l S2 ∧ ∀ b ∈ S1, b ∉ S2 := by
  cases h with | cons h1 h2 h3 => exact ⟨_, _, rfl, h1, h2, h3⟩
theorem SatL.loc {ρ f g : HF} {l : List Asr} {S : List Nat} (h : SatL ρ f l S) (hg : ∀ b ∈ S, g b = f b) : SatL ρ g l S := by
  induction h with
  | nil => exact .nil
  | cons h1 h2 h3 ih => exact .cons (Asr.loc _ (fun b hb => hg b (by simp [hb])) h1) (ih fun b hb => hg b (by simp [hb])) h3
theorem SatL.append {ρ f : HF} {l r : List Asr} {S S' : List Nat} (h : SatL ρ f l S) (h' : SatL ρ f r S') (hd : ∀ b ∈ S, b ∉ S') : SatL ρ f (l ++ r) (S ++ S') := by
  induction h with
  | nil => exact h'
  | cons h1 h2 h3 ih =>
    rw [List.cons_append, List.append_assoc]
    exact .cons h1 (ih fun b hb => hd b (by simp [hb])) fun b hb => by simp; exact ⟨h3 b hb, hd b (by simp [hb])⟩
theorem SatL.append_inv {ρ f : HF} {l r : List Asr} {S : List Nat} (h : SatL ρ f (l ++ r) S) : ∃ S1 S2, S = S1 ++ S2 ∧ SatL ρ f l S1 ∧ SatL ρ f r S2 ∧ ∀ b ∈ S1, b ∉ S2 := by
  induction l generalizing S with
  | nil => exact ⟨[], S, rfl, .nil, h, by simp⟩
  | cons A l ih =>
    obtain ⟨S1, S2, rfl, h1, h2, h3⟩ := SatL.cons_inv h
    obtain ⟨T1, T2, rfl, k1, k2, k3⟩ := ih h2
    simp only [List.mem_append, not_or] at h3
    refine ⟨S1 ++ T1, T2, by simp, .cons h1 k1 fun b hb => (h3 b hb).1, k2, fun b hb => ?_⟩
    rcases List.mem_append.1 hb with hb | hb
    · exact (h3 b hb).2
    · exact k3 b hb
theorem SatL.perm {ρ f : HF} {l l' : List Asr} (hp : l.Perm l') : ∀ {S : List Nat}, SatL ρ f l S → ∃ S', SatL ρ f l' S' ∧ ∀ b, b ∈ S' ↔ b ∈ S := by
  induction hp with
  | nil => exact fun h => ⟨_, h, fun _ => Iff.rfl⟩
  | cons A _ ih =>
    intro S h
    obtain ⟨S1, S2, rfl, h1, h2, h3⟩ := SatL.cons_inv h
    obtain ⟨T, k1, k2⟩ := ih h2
    exact ⟨S1 ++ T, .cons h1 k1 fun b hb => by rw [k2]; exact h3 b hb, fun b => by simp [k2]⟩
  | swap A B l =>
    intro S h
    obtain ⟨S1, S2, rfl, h1, h2, h3⟩ := SatL.cons_inv h
    obtain ⟨T1, T2, rfl, k1, k2, k3⟩ := SatL.cons_inv h2
    simp only [List.mem_append, not_or] at h3
    refine ⟨T1 ++ (S1 ++ T2), .cons k1 (.cons h1 k2 fun b hb => (h3 b hb).2) ?_, fun b => by simp only [List.mem_append]; exact ⟨fun h => by rcases h with h | h | h <;> simp [h], fun h => by rcases h with h | h | h <;> simp [h]⟩⟩
    intro b hb
    simp only [List.mem_append, not_or]
    exact ⟨fun hs => (h3 b hs).1 hb, k3 b hb⟩
  | trans _ _ ih1 ih2 =>
    intro S h
    obtain ⟨T, k1, k2⟩ := ih1 h
    obtain ⟨U, m1, m2⟩ := ih2 k1
    exact ⟨U, m1, fun b => (m2 b).trans (k2 b)⟩
def Sat (ρ : HF) (H : AH) (l : List Asr) : Prop := (WF H ∧ RoOf ρ H) ∧ ∃ S, SatL ρ H.blk l S ∧ ∀ b ∈ S, b < H.next
section
variable {ρ : HF}
theorem Sat.wf {H : AH} {l : List Asr} (h : Sat ρ H l) : WF H := h.1.1
theorem Sat.roOf {H : AH} {l : List Asr} (h : Sat ρ H l) : RoOf ρ H := h.1.2
theorem Sat.nil {H : AH} (h : WF H) (h' : RoOf ρ H) : Sat ρ H [] := ⟨⟨h, h'⟩, [], .nil, by simp⟩
theorem Sat.perm {H : AH} {l l' : List Asr} (h : Sat ρ H l) (hp : l.Perm l') : Sat ρ H l' := by
  obtain ⟨hw, S, h1, h2⟩ := h
  obtain ⟨T, k1, k2⟩ := h1.perm hp
  exact ⟨hw, T, k1, fun b hb => h2 b ((k2 b).1 hb)⟩
theorem Sat.front {H : AH} {l : List Asr} (h : Sat ρ H l) (i : Nat) (hi : i < l.length) : Sat ρ H (l[i] :: l.eraseIdx i) := by
  refine h.perm ?_
  have h1 : l = l.take i ++ l[i] :: l.drop (i + 1) := by simp
  have h2 : l.eraseIdx i = l.take i ++ l.drop (i + 1) := List.eraseIdx_eq_take_drop_succ l i
  rw [h2]
  conv => lhs; rw [h1]
  exact List.perm_middle
def Asr.emp : Asr := ⟨fun _ _ S => S = [], fun _ h => h⟩
theorem perm_idx {l : List Asr} {idx : List Nat} (h : idx.Perm (List.range l.length)) : l.Perm (idx.map fun i => (l[i]?).getD Asr.emp) := by
  have h1 : l = (List.range l.length).map fun i => (l[i]?).getD Asr.emp := by
    apply List.ext_getElem?
    intro i
    by_cases hi : i < l.length
    · simp [hi]
    · rw [List.getElem?_eq_none (by omega), List.getElem?_eq_none (by simp; omega)]
  conv => lhs; rw [h1]
  exact (h.map _).symm
theorem Sat.re {H : AH} {l : List Asr} (h : Sat ρ H l) (idx : List Nat) (hn : idx.length ≤ l.length) (hp : idx.Perm (List.range idx.length)) : Sat ρ H ((idx.map fun i => (l[i]?).getD Asr.emp) ++ l.drop idx.length) := by
  refine h.perm ?_
  have h1 : l = l.take idx.length ++ l.drop idx.length := (List.take_append_drop _ _).symm
  have hl : (l.take idx.length).length = idx.length := by rw [List.length_take]; omega
  have h2 := perm_idx (l := l.take idx.length) (idx := idx) (by rw [hl]; exact hp)
  have h3 : (idx.map fun i => ((l.take idx.length)[i]?).getD Asr.emp) = idx.map fun i => (l[i]?).getD Asr.emp := by
    apply List.map_congr_left
    intro i hi
    have : i < idx.length := by simpa using hp.mem_iff.1 hi
    rw [List.getElem?_take, if_pos this]
  rw [h3] at h2
  conv => lhs; rw [h1]
  exact h2.append_right _
theorem Sat.drop {H : AH} {A : Asr} {l : List Asr} (h : Sat ρ H (A :: l)) : Sat ρ H l := by
  obtain ⟨hw, S, h1, h2⟩ := h
  obtain ⟨S1, S2, rfl, _, k2, _⟩ := SatL.cons_inv h1
  exact ⟨hw, S2, k2, fun b hb => h2 b (by simp [hb])⟩
theorem Sat.drops {H : AH} {l r : List Asr} (h : Sat ρ H (l ++ r)) : Sat ρ H r := by
  induction l with
  | nil => exact h
  | cons A l ih => exact ih h.drop
theorem Sat.bump {H : AH} {l : List Asr} (h : Sat ρ H l) (n : Nat) : Sat ρ (H.bump n) l := by
  obtain ⟨hw, S, h1, h2⟩ := h
  exact ⟨⟨hw.1.bump _, hw.2⟩, S, h1, fun b hb => Nat.lt_of_lt_of_le (h2 b hb) (Nat.le_add_right _ _)⟩
end
def Cel (b : Nat) (l : List SV) : Asr := ⟨fun _ f S => S = [b] ∧ f b = some (.cells false l), fun hg ⟨h1, h2⟩ => ⟨h1, by rw [hg b (by simp [h1])]; exact h2⟩⟩
def Ro (b : Nat) (l : List SV) : Asr := ⟨fun _ f S => S = [b] ∧ f b = some (.cells true l), fun hg ⟨h1, h2⟩ => ⟨h1, by rw [hg b (by simp [h1])]; exact h2⟩⟩
def Fre (b : Nat) : Asr := ⟨fun _ f S => S = [b] ∧ f b = none, fun hg ⟨h1, h2⟩ => ⟨h1, by rw [hg b (by simp [h1])]; exact h2⟩⟩
def Asr.ex {α : Type} (F : α → Asr) : Asr := ⟨fun ρ f S => ∃ a, (F a).p ρ f S, fun hg ⟨a, h⟩ => ⟨a, (F a).loc hg h⟩⟩
def Asr.pure (P : Prop) : Asr := ⟨fun _ _ S => P ∧ S = [], fun _ h => h⟩
def Asr.all (l : List Asr) : Asr := ⟨fun ρ f S => SatL ρ f l S, fun hg h => h.loc hg⟩
def Asr.or (A B : Asr) : Asr := ⟨fun ρ f S => A.p ρ f S ∨ B.p ρ f S, fun hg h => h.elim (fun h => .inl (A.loc hg h)) (fun h => .inr (B.loc hg h))⟩
section
variable {ρ : HF} {H : AH} {R : List Asr}
theorem Sat.cel {b : Nat} {l : List SV} (h : Sat ρ H (Cel b l :: R)) : H.blk b = some (.cells false l) := by
  obtain ⟨_, S, h1, _⟩ := h
  obtain ⟨S1, S2, rfl, ⟨_, k⟩, _⟩ := SatL.cons_inv h1
  exact k
theorem Sat.ro {b : Nat} {l : List SV} (h : Sat ρ H (Ro b l :: R)) : H.blk b = some (.cells true l) := by
  obtain ⟨_, S, h1, _⟩ := h
  obtain ⟨S1, S2, rfl, ⟨_, k⟩, _⟩ := SatL.cons_inv h1
  exact k
theorem Sat.fre {b : Nat} (h : Sat ρ H (Fre b :: R)) : H.blk b = none := by
  obtain ⟨_, S, h1, _⟩ := h
  obtain ⟨S1, S2, rfl, ⟨_, k⟩, _⟩ := SatL.cons_inv h1
  exact k
theorem Sat.lt {b : Nat} {l : List SV} (h : Sat ρ H (Cel b l :: R)) : b < H.next := by
  obtain ⟨_, S, h1, h2⟩ := h
  obtain ⟨S1, S2, rfl, ⟨rfl, k⟩, _⟩ := SatL.cons_inv h1
  exact h2 b (by simp)
theorem Sat.ex {α : Type} {F : α → Asr} (h : Sat ρ H (Asr.ex F :: R)) : ∃ a, Sat ρ H (F a :: R) := by
  obtain ⟨hw, S, h1, h2⟩ := h
  obtain ⟨S1, S2, rfl, ⟨a, k⟩, k2, k3⟩ := SatL.cons_inv h1
  exact ⟨a, hw, _, .cons k k2 k3, h2⟩
theorem Sat.mkEx {α : Type} {F : α → Asr} (a : α) (h : Sat ρ H (F a :: R)) : Sat ρ H (Asr.ex F :: R) := by
  obtain ⟨hw, S, h1, h2⟩ := h
  obtain ⟨S1, S2, rfl, k, k2, k3⟩ := SatL.cons_inv h1
  exact ⟨hw, _, .cons (A := Asr.ex F) ⟨a, k⟩ k2 k3, h2⟩
theorem Sat.pure {P : Prop} (h : Sat ρ H (Asr.pure P :: R)) : P ∧ Sat ρ H R := by
  refine ⟨?_, h.drop⟩
  obtain ⟨hw, S, h1, h2⟩ := h
  obtain ⟨S1, S2, rfl, k, k2, k3⟩ := SatL.cons_inv h1
  exact k.1
theorem Sat.mkPure {P : Prop} (hp : P) (h : Sat ρ H R) : Sat ρ H (Asr.pure P :: R) := by
  obtain ⟨hw, S, h1, h2⟩ := h
  exact ⟨hw, _, .cons (A := Asr.pure P) (S := []) ⟨hp, rfl⟩ h1 (by simp), h2⟩
theorem Sat.all {l : List Asr} (h : Sat ρ H (Asr.all l :: R)) : Sat ρ H (l ++ R) := by
  obtain ⟨hw, S, h1, h2⟩ := h
  obtain ⟨S1, S2, rfl, k, k2, k3⟩ := SatL.cons_inv h1
  exact ⟨hw, _, SatL.append k k2 k3, h2⟩
theorem Sat.mkAll {l : List Asr} (h : Sat ρ H (l ++ R)) : Sat ρ H (Asr.all l :: R) := by
  obtain ⟨hw, S, h1, h2⟩ := h
  obtain ⟨S1, S2, rfl, k, k2, k3⟩ := SatL.append_inv h1
  exact ⟨hw, _, .cons (A := Asr.all l) k k2 k3, h2⟩
theorem Sat.or {A B : Asr} (h : Sat ρ H (Asr.or A B :: R)) : Sat ρ H (A :: R) ∨ Sat ρ H (B :: R) := by
  obtain ⟨hw, S, h1, h2⟩ := h
  obtain ⟨S1, S2, rfl, k, k2, k3⟩ := SatL.cons_inv h1
  rcases k with k | k
  · exact .inl ⟨hw, _, .cons k k2 k3, h2⟩
  · exact .inr ⟨hw, _, .cons k k2 k3, h2⟩
theorem Sat.imp {A B : Asr} (hi : ∀ f S, A.p ρ f S → B.p ρ f S) (h : Sat ρ H (A :: R)) : Sat ρ H (B :: R) := by
  obtain ⟨hw, S, h1, h2⟩ := h
  obtain ⟨S1, S2, rfl, k, k2, k3⟩ := SatL.cons_inv h1
  exact ⟨hw, _, .cons (hi _ _ k) k2 k3, h2⟩
theorem Sat.set {b : Nat} {l : List SV} (h : Sat ρ H (Cel b l :: R)) (l' : List SV) : Sat ρ (H.set b (.cells false l')) (Cel b l' :: R) := by
  obtain ⟨hw, S, h1, h2⟩ := h
  obtain ⟨S1, S2, rfl, ⟨rfl, k⟩, k2, k3⟩ := SatL.cons_inv h1
  refine ⟨⟨hw.1.set (h2 b (by simp)) _, hw.2.set (fun l hl => by rw [k] at hl; cases hl) _⟩, [b] ++ S2, .cons ⟨rfl, by simp⟩ (k2.loc fun c hc => ?_) k3, h2⟩
  rw [set_blk, if_neg]
  rintro rfl
  exact k3 c (by simp) hc
theorem Sat.mk {b : Nat} (h : Sat ρ H (Fre b :: R)) (l' : List SV) : Sat ρ (H.set b (.cells false l')) (Cel b l' :: R) := by
  obtain ⟨hw, S, h1, h2⟩ := h
  obtain ⟨S1, S2, rfl, ⟨rfl, k⟩, k2, k3⟩ := SatL.cons_inv h1
  refine ⟨⟨hw.1.set (h2 b (by simp)) _, hw.2.set (fun l hl => by rw [k] at hl; cases hl) _⟩, [b] ++ S2, .cons ⟨rfl, by simp⟩ (k2.loc fun c hc => ?_) k3, h2⟩
  rw [set_blk, if_neg]
  rintro rfl
  exact k3 c (by simp) hc
theorem Sat.kill {b : Nat} {l : List SV} (h : Sat ρ H (Cel b l :: R)) : Sat ρ (H.set b .dead) R := by
  obtain ⟨hw, S, h1, h2⟩ := h
  obtain ⟨S1, S2, rfl, ⟨rfl, k⟩, k2, k3⟩ := SatL.cons_inv h1
  refine ⟨⟨hw.1.set (h2 b (by simp)) _, hw.2.set (fun l hl => by rw [k] at hl; cases hl) _⟩, S2, (k2.loc fun c hc => ?_), fun c hc => h2 c (by simp [hc])⟩
  rw [set_blk, if_neg]
  rintro rfl
  exact k3 c (by simp) hc
theorem Sat.free (h : Sat ρ H R) (n i : Nat) (hi : i < n) : Sat ρ (H.bump n) (Fre (H.next + i) :: R) := by
  obtain ⟨hw, S, h1, h2⟩ := h
  refine ⟨⟨hw.1.bump _, hw.2⟩, [H.next + i] ++ S, .cons ⟨rfl, hw.1 _ (Nat.le_add_right _ _)⟩ h1 ?_, fun b hb => ?_⟩
  · intro b hb hs
    simp at hb
    have := h2 b hs; omega
  · simp at hb
    rcases hb with rfl | hb
    · simp; omega
    · have := h2 b hb; simp; omega
end
section
variable (tab : Nat → Option RFunc) (ext : Nat → List AV → AH → Option (AV × AH))
def Tri (f : Nat) (args : List AV) (P : List Asr) (Q : AV → List Asr → Prop) : Prop :=
  ∀ ρ H R, Sat ρ H (P ++ R) → CallP tab ext f args H fun v H' => ∃ P', Q v P' ∧ Sat ρ H' (P' ++ R)
end
section
variable {tab : Nat → Option RFunc} {ext : Nat → List AV → AH → Option (AV × AH)} {f : Nat} {args : List AV} {P : List Asr} {Q : AV → List Asr → Prop}
theorem Tri.use (h : Tri tab ext f args P Q) {ρ : HF} {H : AH} {R : List Asr} (hs : Sat ρ H (P ++ R)) {K : AV → AH → Prop} (hk : ∀ v H' P', Q v P' → Sat ρ H' (P' ++ R) → K v H') : CallP tab ext f args H K :=
  (h ρ H R hs).mono fun v H' ⟨P', h1, h2⟩ => hk v H' P' h1 h2
theorem Tri.of (ht : TabWf tab) (he : WFrec ext) (hn : NextOk ext) (hro : ROrec ext) (h : ∀ ρ H S, WF H → RoOf ρ H → SatL ρ H.blk P S → (∀ b ∈ S, b < H.next) → CallP tab ext f args H fun v H' => ∃ P', Q v P' ∧ ∃ S', SatL ρ H'.blk P' S' ∧ (∀ b ∈ S', b ∈ S ∨ H.next ≤ b) ∧ (∀ b ∈ S', b < H'.next) ∧ ∀ b, b < H.next → b ∉ S → H'.blk b = H.blk b) : Tri tab ext f args P Q := by
  intro ρ H R ⟨hw, S, h1, h2⟩
  obtain ⟨S1, S2, rfl, k1, k2, k3⟩ := h1.append_inv
  refine ((h ρ H S1 hw.1 hw.2 k1 fun b hb => h2 b (by simp [hb])).mono_wf ht he hn hw.1 (K' := fun v H' => WF H' ∧ H.next ≤ H'.next ∧ _) fun v H' a b c => ⟨a, b, c⟩).mono_ro hro hw.2 ?_
  rintro v H' hro' ⟨hw', hle, P', hq, S', m1, m2, m3, m4⟩
  refine ⟨P', hq, ⟨hw', hro'⟩, S' ++ S2, m1.append (k2.loc fun b hb => m4 b (h2 b (by simp [hb])) fun hs => k3 b hs hb) ?_, ?_⟩
  · intro b hb hs
    rcases m2 b hb with h | h
    · exact k3 b h hs
    · have := h2 b (by simp [hs]); omega
  · intro b hb
    rcases List.mem_append.1 hb with hb | hb
    · exact m3 b hb
    · exact Nat.lt_of_lt_of_le (h2 b (by simp [hb])) hle
end
end Go.AM

/-
  Rows of things behind slices, side by side with others: read, stored to, appended to.
-/
namespace Go.AM
abbrev i64 (n : Int) : AV := .s (.int .i64 n)
abbrev u64 (n : Int) : AV := .s (.int .u64 n)
abbrev bl (b : Bool) : AV := .s (.bool b)
abbrev ptr (p : Nat) : AV := .s (.ptr (some (p, 0)))
abbrev unit : AV := .tup []
section
variable {α : Type} (enc : α → List SV) (k : Nat)
def flat (r : List α) : List SV := r.flatMap enc
variable {enc k}
theorem flat_len (hk : ∀ e, (enc e).length = k) (r : List α) : (flat enc r).length = r.length * k := by
  induction r with
  | nil => simp [flat]
  | cons e r ih => simp only [flat, List.flatMap_cons, List.length_append, hk, List.length_cons] at ih ⊢; rw [ih, Nat.add_mul]; omega
theorem flat_split (hk : ∀ e, (enc e).length = k) (r : List α) (i : Nat) (hi : i < r.length) : flat enc r = flat enc (r.take i) ++ (enc r[i] ++ flat enc (r.drop (i + 1))) ∧ (flat enc (r.take i)).length = i * k := by
  refine ⟨?_, by rw [flat_len hk, List.length_take, Nat.min_eq_left (by omega)]⟩
  have h : r = r.take i ++ r[i] :: r.drop (i + 1) := by simp
  have h2 : flat enc (r.take i ++ r[i] :: r.drop (i + 1)) = flat enc (r.take i) ++ (enc r[i] ++ flat enc (r.drop (i + 1))) := by
    unfold flat; rw [List.flatMap_append, List.flatMap_cons]
  rw [← h2, ← h]
theorem flat_ldn (hk : ∀ e, (enc e).length = k) (r : List α) (j : List SV) (i : Nat) (hi : i < r.length) : ((flat enc r ++ j).drop (i * k)).take k = enc r[i] := by
  obtain ⟨h1, h2⟩ := flat_split hk r i hi
  rw [h1, List.append_assoc, ← h2, List.drop_left, List.append_assoc, ← hk r[i], List.take_left]
theorem flat_fit (hk : ∀ e, (enc e).length = k) (r : List α) (j : List SV) (i : Nat) (hi : i < r.length) : i * k + k ≤ (flat enc r ++ j).length := by
  rw [List.length_append, flat_len hk]
  have : (i + 1) * k ≤ r.length * k := Nat.mul_le_mul_right _ hi
  rw [Nat.add_mul] at this; omega
theorem flat_splice (hk : ∀ e, (enc e).length = k) (r : List α) (j : List SV) (i : Nat) (hi : i < r.length) (e : α) : splice (flat enc r ++ j) (i * k) (enc e) = flat enc (r.set i e) ++ j := by
  obtain ⟨h1, h2⟩ := flat_split hk r i hi
  have h3 : flat enc (r.set i e) = flat enc (r.take i) ++ (enc e ++ flat enc (r.drop (i + 1))) := by
    rw [List.set_eq_take_append_cons_drop, if_pos hi]
    simp [flat]
  unfold splice
  rw [h3, hk, h1]
  have e1 : ((flat enc (r.take i) ++ (enc r[i] ++ flat enc (r.drop (i + 1)))) ++ j).take (i * k) = flat enc (r.take i) := by
    rw [List.append_assoc, ← h2, List.take_left]
  have e2 : ((flat enc (r.take i) ++ (enc r[i] ++ flat enc (r.drop (i + 1)))) ++ j).drop (i * k + k) = flat enc (r.drop (i + 1)) ++ j := by
    rw [← List.drop_drop, List.append_assoc, ← h2, List.drop_left, ← hk r[i], List.append_assoc, List.drop_left]
  rw [e1, e2]; simp
end
section
variable {α : Type} {enc : α → List SV} {k : Nat}
theorem flat_append (r r2 : List α) : flat enc (r ++ r2) = flat enc r ++ flat enc r2 := by simp [flat]
theorem flat_one (e : α) : flat enc [e] = enc e := by simp [flat]
theorem flat_cell (hk : ∀ e, (enc e).length = k) {r : List α} {j : List SV} {i : Nat} {x : α} (hx : r[i]? = some x) (d : Nat) (hd : d < k) : (flat enc r ++ j)[i * k + d]? = (enc x)[d]? := by
  obtain ⟨hi, rfl⟩ := List.getElem?_eq_some_iff.1 hx
  have g1 := flat_ldn hk r j i hi
  rw [← g1, List.getElem?_take, if_pos hd, List.getElem?_drop]
theorem flat_part (hk : ∀ e, (enc e).length = k) (r : List α) (j : List SV) (l n : Nat) (h : l + n ≤ r.length) : ((flat enc r ++ j).drop (l * k)).take (n * k) = flat enc ((r.drop l).take n) := by
  have h1 : r = r.take l ++ ((r.drop l).take n ++ (r.drop l).drop n) := by rw [List.take_append_drop, List.take_append_drop]
  have h2 : (flat enc (r.take l)).length = l * k := by rw [flat_len hk, List.length_take, Nat.min_eq_left (by omega)]
  have h3 : (flat enc ((r.drop l).take n)).length = n * k := by rw [flat_len hk, List.length_take, List.length_drop, Nat.min_eq_left (by omega)]
  conv => lhs; rw [h1, flat_append, flat_append]
  rw [List.append_assoc, ← h2, List.drop_left, List.append_assoc, ← h3, List.take_left]
variable (enc k)
def Row (s : SV) (r : List α) : Asr := ⟨fun _ f S => (∃ e, s = .slice none 0 0 e ∧ r = [] ∧ S = []) ∨ ∃ b c j, s = .slice (some (b, 0)) r.length c k ∧ S = [b] ∧ f b = some (.cells false (flat enc r ++ j)) ∧ c * k ≤ (flat enc r ++ j).length ∧ r.length ≤ c,
  fun hg h => h.elim .inl fun ⟨b, c, j, h1, h2, h3, h4⟩ => .inr ⟨b, c, j, h1, h2, by rw [hg b (by simp [h2])]; exact h3, h4⟩⟩
variable {enc k}
theorem Sat.frees {ρ : HF} {H : AH} {R : List Asr} (h : Sat ρ H R) (n : Nat) (l : List Nat) (hl : ∀ i ∈ l, i < n) (hn : l.Nodup) : Sat ρ (H.bump n) (l.map (fun i => Fre (H.next + i)) ++ R) := by
  obtain ⟨hw, S, h1, h2⟩ := h
  have key : ∀ l : List Nat, l.Nodup → SatL ρ H.blk (l.map (fun i => Fre (H.next + i)) ++ R) (l.map (fun i => H.next + i) ++ S) := by
    intro l hn
    induction l with
    | nil => exact h1
    | cons i l ih =>
      rw [List.nodup_cons] at hn
      refine SatL.cons (S := [H.next + i]) ⟨rfl, hw.1 _ (Nat.le_add_right _ _)⟩ (ih hn.2) ?_
      intro b hb hs
      simp at hb
      subst hb
      rcases List.mem_append.1 hs with hs | hs
      · obtain ⟨i', hi', he⟩ := List.mem_map.1 hs
        have : i' = i := by omega
        exact hn.1 (this ▸ hi')
      · have := h2 _ hs; omega
  refine ⟨⟨hw.1.bump _, hw.2⟩, _, key l hn, fun b hb => ?_⟩
  rcases List.mem_append.1 hb with hb | hb
  · obtain ⟨i, hi, rfl⟩ := List.mem_map.1 hb
    have := hl i hi
    simp; omega
  · have := h2 b hb
    simp; omega
variable {ρ : HF} {H : AH} {R : List Asr} {s : SV} {r : List α}
theorem Sat.rowInv (h : Sat ρ H (Row enc k s r :: R)) : (∃ e, s = .slice none 0 0 e ∧ r = [] ∧ Sat ρ H R) ∨ ∃ b c j, s = .slice (some (b, 0)) r.length c k ∧ Sat ρ H (Cel b (flat enc r ++ j) :: R) ∧ c * k ≤ (flat enc r ++ j).length ∧ r.length ≤ c := by
  obtain ⟨hw, S, h1, h2⟩ := h
  obtain ⟨S1, S2, rfl, k1, k2, k3⟩ := h1.cons_inv
  rcases k1 with ⟨e, rfl, rfl, rfl⟩ | ⟨b, c, j, rfl, rfl, h3, h4, h5⟩
  · exact .inl ⟨e, rfl, rfl, hw, S2, k2, by simpa using h2⟩
  · exact .inr ⟨b, c, j, rfl, ⟨hw, _, .cons (A := Cel b _) ⟨rfl, h3⟩ k2 k3, h2⟩, h4, h5⟩
theorem Sat.mkRow {b c : Nat} {j : List SV} (h : Sat ρ H (Cel b (flat enc r ++ j) :: R)) (h1 : c * k ≤ (flat enc r ++ j).length) (h2 : r.length ≤ c) : Sat ρ H (Row enc k (.slice (some (b, 0)) r.length c k) r :: R) :=
  Sat.imp (A := Cel b _) (B := Row enc k _ r) (fun _ _ ⟨h3, h4⟩ => .inr ⟨b, c, j, rfl, h3, h4, h1, h2⟩) h
theorem Sat.mkNil (h : Sat ρ H R) (e : Nat) : Sat ρ H (Row enc k (.slice none 0 0 e) [] :: R) := by
  obtain ⟨hw, S, h1, h2⟩ := h
  exact ⟨hw, [] ++ S, .cons (A := Row enc k _ _) (.inl ⟨e, rfl, rfl, rfl⟩) h1 (by simp), h2⟩
theorem Sat.rowLen (h : Sat ρ H (Row enc k s r :: R)) : lenA (.s s) = some (i64 r.length) := by
  rcases h.rowInv with ⟨e, rfl, rfl, _⟩ | ⟨b, c, j, rfl, _⟩ <;> rfl
theorem Sat.rowBlk (h : Sat ρ H (Row enc k s r :: R)) (hr : 0 < r.length) : ∃ b c j, s = .slice (some (b, 0)) r.length c k ∧ H.blk b = some (.cells false (flat enc r ++ j)) ∧ c * k ≤ (flat enc r ++ j).length ∧ r.length ≤ c := by
  rcases h.rowInv with ⟨e, rfl, rfl, _⟩ | ⟨b, c, j, h1, h2, h3⟩
  · simp at hr
  · exact ⟨b, c, j, h1, h2.cel, h3⟩
theorem Sat.rowSrc (hk : ∀ e, (enc e).length = k) (h : Sat ρ H (Row enc k s r :: R)) : sliceCells k (.s s) r.length H = some (flat enc r) := by
  rcases h.rowInv with ⟨e, rfl, rfl, _⟩ | ⟨b, c, j, rfl, h2, h3⟩
  · rfl
  · simp only [sliceCells, ldn_of H h2.cel, Nat.zero_add]
    rw [if_pos ⟨trivial, Nat.le_refl _⟩, if_pos (by rw [List.length_append, flat_len hk]; omega), List.drop_zero, ← flat_len hk r, List.take_left]
theorem Sat.partSrc (hk : ∀ e, (enc e).length = k) {b len c : Nat} (h : Sat ρ H (Row enc k (.slice (some (b, 0)) len c k) r :: R)) {o l n c' : Nat} (ho : o = l * k) (hl : l + n ≤ r.length) : sliceCells k (.s (.slice (some (b, o)) n c' k)) n H = some (flat enc ((r.drop l).take n)) := by
  subst ho
  rcases h.rowInv with ⟨e, he, _⟩ | ⟨b', c2, j, he, h2, h3⟩
  · cases he
  · cases he
    have h4 : (l + n) * k ≤ r.length * k := Nat.mul_le_mul_right _ hl
    rw [Nat.add_mul] at h4
    simp only [sliceCells, ldn_of H h2.cel]
    rw [if_pos ⟨trivial, Nat.le_refl _⟩, if_pos (by rw [List.length_append, flat_len hk]; omega), flat_part hk r j l n hl]
theorem Sat.rowSl (h : Sat ρ H (Row enc k s r :: R)) : slLen (.s s) = some r.length := by
  rcases h.rowInv with ⟨e, rfl, rfl, _⟩ | ⟨b, c, j, rfl, _⟩ <;> rfl
theorem Sat.append (hk : ∀ e, (enc e).length = k) {id _n bytes : Nat} {x : AV} {r2 : List α} (h : Sat ρ H (Row enc k s r :: Fre id :: R)) (hx : sliceCells k x r2.length H = some (flat enc r2)) (hn : slLen x = some r2.length) (hb : (r.length + r2.length) * bytes ≤ 70368744177664) :
    ∃ s' H', appendA k bytes id (.s s) x H = some (.s s', H') ∧ Sat ρ H' (Row enc k s' (r ++ r2) :: R) ∧ H'.next = H.next := by
  rcases h.rowInv with ⟨e, rfl, rfl, h1⟩ | ⟨b, c, j, rfl, h1, h2, h3⟩
  · by_cases h0 : r2.length = 0
    · have : r2 = [] := List.length_eq_zero_iff.1 h0
      subst this
      refine ⟨.slice none 0 0 k, H, ?_, h1.drop.mkNil k, rfl⟩
      simp only [appendA, hx, hn, Option.bind_some]
      rw [if_pos (by simp), if_pos h0]
    · refine ⟨.slice (some (id, 0)) r2.length r2.length k, H.set id (.cells false (flat enc r2)), ?_, ?_, rfl⟩
      · simp only [appendA, hx, hn, Option.bind_some]
        rw [if_pos (by simpa using hb), if_neg h0, new_of H h1.fre]
        rfl
      · have h4 := Sat.mk h1 (flat enc r2)
        rw [← List.append_nil (flat enc r2)] at h4
        simpa using h4.mkRow (by simp [flat_len hk]) (Nat.le_refl _)
  · have hfl := flat_len hk r
    have hfl2 := flat_len hk r2
    have hl2 : (r ++ r2).length = r.length + r2.length := by simp
    by_cases hc : r.length + r2.length ≤ c
    · have hle : (r.length + r2.length) * k ≤ c * k := Nat.mul_le_mul_right _ hc
      have hl : r.length * k + (flat enc r2).length ≤ (flat enc r ++ j).length := by rw [hfl2]; rw [Nat.add_mul] at hle; omega
      refine ⟨.slice (some (b, 0)) (r.length + r2.length) c k, H.set b (.cells false (splice (flat enc r ++ j) (r.length * k) (flat enc r2))), ?_, ?_, rfl⟩
      · simp only [appendA, hx, hn, Option.bind_some]
        rw [if_pos ⟨trivial, hb⟩, if_pos hc, Nat.zero_add, stn_of H h1.cel hl]
        rfl
      · have e : splice (flat enc r ++ j) (r.length * k) (flat enc r2) = flat enc (r ++ r2) ++ j.drop (flat enc r2).length := by
          unfold splice
          rw [← hfl, List.take_left, ← List.drop_drop, List.drop_left, flat_append, List.append_assoc]
        have h4 := (Sat.set h1 (splice (flat enc r ++ j) (r.length * k) (flat enc r2)))
        rw [e] at h4 ⊢
        rw [← hl2]
        have h5 : Sat ρ _ (Cel b (flat enc (r ++ r2) ++ j.drop (flat enc r2).length) :: R) := (h4.perm (List.Perm.swap _ _ _)).drop
        refine h5.mkRow ?_ (by rw [hl2]; exact hc)
        rw [flat_append]
        simp only [List.length_append, List.length_drop] at h2 hl ⊢
        omega
    · have hne : id ≠ b := fun he => by
        have h6 := (h1.perm (List.Perm.swap _ _ _)).fre
        rw [he, h1.cel] at h6; cases h6
      refine ⟨.slice (some (id, 0)) (r.length + r2.length) (r.length + r2.length) k, (H.set b .dead).set id (.cells false (flat enc r ++ flat enc r2)), ?_, ?_, rfl⟩
      · have hf := (h1.perm (List.Perm.swap _ _ _)).fre
        simp only [appendA, hx, hn, Option.bind_some]
        rw [if_pos ⟨trivial, hb⟩, if_neg hc, h1.cel]
        simp only [Nat.zero_add]
        rw [if_pos (by simp [hfl]), new_of _ (by rw [set_blk, if_neg hne]; exact hf)]
        simp only [List.drop_zero, ← hfl, List.take_left, Option.map_some]
      · have h4 := Sat.mk (Sat.kill h1) (flat enc r ++ flat enc r2)
        rw [← flat_append, ← List.append_nil (flat enc (r ++ r2))] at h4
        rw [← hl2, ← flat_append]
        simpa using h4.mkRow (by simp [flat_append, hfl, hfl2, Nat.add_mul]) (Nat.le_refl _)
theorem Sat.append1 (hk : ∀ e, (enc e).length = k) {id bytes x : Nat} {e : α} {o : Nat} {l : List SV} {c : Nat} (h : Sat ρ H (Row enc k s r :: Fre id :: Cel x l :: R)) (hl : (l.drop o).take k = enc e) (ho : o + k ≤ l.length) (hb : (r.length + 1) * bytes ≤ 70368744177664) :
    ∃ s' H', appendA k bytes id (.s s) (.s (.slice (some (x, o)) 1 c k)) H = some (.s s', H') ∧ Sat ρ H' (Row enc k s' (r ++ [e]) :: Cel x l :: R) ∧ H'.next = H.next := by
  have hx : H.blk x = some (.cells false l) := (h.drop.drop).cel
  refine Sat.append hk (r2 := [e]) (_n := 1) (x := .s (.slice (some (x, o)) 1 c k)) h ?_ rfl hb
  simp only [sliceCells, ldn_of H hx, List.length_singleton, Nat.one_mul, flat_one]
  rw [if_pos ⟨trivial, Nat.le_refl _⟩, if_pos ho, hl]
theorem Sat.copy (hk : ∀ e, (enc e).length = k) {b1 b2 bytes : Nat} {x : AV} {r2 : List α} (h : Sat ρ H (Fre b1 :: Fre b2 :: R)) (hx : ∀ H', Sat ρ H' (Fre b2 :: R) → sliceCells k x r2.length H' = some (flat enc r2)) (hn : slLen x = some r2.length) (hb : r2.length * bytes ≤ 70368744177664) {K : AV × AH → Prop} (hK : ∀ s' H', H'.next = H.next → Sat ρ H' (Row enc k s' r2 :: R) → K (.s s', H')) :
    andThen (H.new b1 (.cells false [])) fun H1 => andThen (appendA k bytes b2 (.s (.slice (some (b1, 0)) 0 0 k)) x H1) K := by
  refine ⟨_, new_of H h.fre, ?_⟩
  have h1 := Sat.mk h []
  have h2 : Sat ρ _ (Row enc k (.slice (some (b1, 0)) 0 0 k) [] :: Fre b2 :: R) := Sat.mkRow (r := []) (j := []) (c := 0) h1 (by simp) (by simp)
  obtain ⟨s', H', e1, h3, e2⟩ := Sat.append hk (_n := 0) h2 (hx _ h1.drop) hn (by simpa using hb)
  exact ⟨_, e1, hK s' H' e2 h3⟩
theorem Tri.intro {tab : Nat → Option RFunc} {ext : Nat → List AV → AH → Option (AV × AH)} {f : Nat} {args : List AV} {P : List Asr} {Q : AV → List Asr → Prop}
    (h : ∀ (ρ : HF) (H : AH) (Rs : List Asr) (K : AV → AH → Prop), Sat ρ H (P ++ Rs) → (∀ v H' P', Q v P' → Sat ρ H' (P' ++ Rs) → K v H') → CallP tab ext f args H K) : Tri tab ext f args P Q :=
  fun ρ H Rs hs => h ρ H Rs _ hs fun _ _ P' hq hs => ⟨P', hq, hs⟩
theorem Sat.swap {A B : Asr} (h : Sat ρ H (A :: B :: R)) : Sat ρ H (B :: A :: R) := h.perm (List.Perm.swap _ _ _)
end
end Go.AM

/-
  WALKS: a code is gone through by what its slots are known to hold and by the things that lie on the heap, each by itself; what lies beside stays.
-/
namespace Go.AM
abbrev Env := List (Nat × AV)
def look : Env → Nat → Option AV
  | [], _ => none
  | (j, v) :: E, i => bif Nat.beq j i then some v else look E i
def LvE (T : List AV) (E : Env) : Prop := ∀ i v, look E i = some v → sl T i = v
def evo (E : Env) : Opd → Option AV
  | .t n => look E n
  | .c v => some v
  | .g n => some (.s (.ptr (some (n, 0))))
def evl (E : Env) : List Opd → Option (List AV)
  | [] => some []
  | x :: xs => (evo E x).bind fun a => (evl E xs).bind fun ys => some (a :: ys)
def evp (E : Env) : List (Nat × Nat × Opd) → Option (List (Nat × Nat × AV))
  | [] => some []
  | (o, n, x) :: xs => (evo E x).bind fun a => (evp E xs).bind fun ys => some ((o, n, a) :: ys)
def evm (E : Env) : Option Opd → Option (Option AV)
  | none => some none
  | some x => (evo E x).bind fun a => some (some a)
def binE (op : BinOp) (x y : AV) : Option AV :=
  match op, x, y with
  | .eql, .s (.int k a), .s (.int k' b) => if k = k' then some (.s (.bool (decide (a = b)))) else none
  | .neq, .s (.int k a), .s (.int k' b) => if k = k' then some (.s (.bool (decide (¬ a = b)))) else none
  | op, x, y => binA op x y
theorem binE_ok {op : BinOp} {x y v : AV} (h : binE op x y = some v) : binA op x y = some v := by
  unfold binE at h
  split at h
  · split at h
    · rename_i hk; subst hk; cases h; exact binA_eql _ _ _
    · cases h
  · split at h
    · rename_i hk; subst hk; cases h; exact binA_neq _ _ _
    · cases h
  · exact h
def pureE (E : Env) : ROp → Option AV
  | .move x => evo E x
  | .pick c a b => (evo E c).bind fun c => (evo E a).bind fun a => (evo E b).bind fun b => pickA c a b
  | .nilCheck x => (evo E x).bind nilCheckA
  | .build z ps => (evp E ps).bind fun ps => buildA z ps
  | .fieldAddr off x => (evo E x).bind fun x => fieldAddrA off x
  | .field m off x => (evo E x).bind fun x => fieldA m off x
  | .indexSl esz x i => (evo E x).bind fun x => (evo E i).bind fun i => indexSlA esz x i
  | .indexArr len esz x i => (evo E x).bind fun x => (evo E i).bind fun i => indexArrA len esz x i
  | .index len esz m x i => (evo E x).bind fun x => (evo E i).bind fun i => indexA len esz m x i
  | .slSl esz x lo hi mx => (evo E x).bind fun x => (evm E lo).bind fun lo => (evm E hi).bind fun hi => (evm E mx).bind fun mx => slSlA esz x lo hi mx
  | .bin op x y => match op with
    | .add => none
    | .sub => none
    | op => (evo E x).bind fun x => (evo E y).bind fun y => binE op x y
  | .eqs k ng x y => (evo E x).bind fun x => (evo E y).bind fun y => eqsA k ng x y
  | .eqAgg ks ng x y => (evo E x).bind fun x => (evo E y).bind fun y => eqAggA ks ng x y
  | .un op x => (evo E x).bind fun x => unA op x
  | .conv k x => (evo E x).bind fun x => convA k x
  | .makeFunc f caps => (evl E caps).bind fun l => (capsA l).map fun c => .s (.fn f c)
  | .bindf f x => (evo E x).bind fun x => bindA f x
  | .extract i x => (evo E x).bind fun x => extractA i x
  | .len x => (evo E x).bind lenA
  | .lenArr n => some (.s (.int .i64 n))
  | .minmax mx x y => (evo E x).bind fun x => (evo E y).bind fun y => minmaxA mx x y
  | _ => none
section
variable {T : List AV} {E : Env}
theorem evo_ok (h : LvE T E) {x : Opd} {v : AV} (hv : evo E x = some v) : ev T x = v := by
  cases x with
  | t n => exact h n v hv
  | c u => exact Option.some.inj hv
  | g n => exact Option.some.inj hv
theorem evl_ok (h : LvE T E) : ∀ {l : List Opd} {vs : List AV}, evl E l = some vs → l.map (ev T) = vs
  | [], vs, hv => by simp only [evl, Option.some.injEq] at hv; subst hv; rfl
  | x :: l, vs, hv => by
    simp only [evl, Option.bind_eq_some_iff, Option.some.injEq] at hv
    obtain ⟨a, h1, b, h2, rfl⟩ := hv
    rw [List.map_cons, evo_ok h h1, evl_ok h h2]
theorem evp_ok (h : LvE T E) : ∀ {l : List (Nat × Nat × Opd)} {vs : List (Nat × Nat × AV)}, evp E l = some vs → (l.map fun p => (p.1, p.2.1, ev T p.2.2)) = vs
  | [], vs, hv => by simp only [evp, Option.some.injEq] at hv; subst hv; rfl
  | (o, n, x) :: l, vs, hv => by
    simp only [evp, Option.bind_eq_some_iff, Option.some.injEq] at hv
    obtain ⟨a, h1, b, h2, rfl⟩ := hv
    rw [List.map_cons, evp_ok h h2]
    simp only [evo_ok h h1]
theorem evm_ok (h : LvE T E) {x : Option Opd} {v : Option AV} (hv : evm E x = some v) : x.map (ev T) = v := by
  cases x with
  | none => exact Option.some.inj hv
  | some x =>
    simp only [evm, Option.bind_eq_some_iff, Option.some.injEq] at hv
    obtain ⟨a, h1, rfl⟩ := hv
    rw [Option.map_some, evo_ok h h1]
theorem pureE_ok (h : LvE T E) {o : ROp} {v : AV} (hv : pureE E o = some v) : pureA (ev T) o = some v ∧ o.kind = .pure := by
  cases o <;> simp only [pureE, Option.bind_eq_some_iff, reduceCtorEq] at hv <;> refine ⟨?_, rfl⟩ <;> simp only [pureA]
  case move x => rw [evo_ok h hv]
  case pick c a b => obtain ⟨_, h1, _, h2, _, h3, h4⟩ := hv; rw [evo_ok h h1, evo_ok h h2, evo_ok h h3, h4]
  case nilCheck x => obtain ⟨_, h1, h4⟩ := hv; rw [evo_ok h h1, h4]
  case build z ps => obtain ⟨_, h1, h4⟩ := hv; rw [evp_ok h h1, h4]
  case fieldAddr off x => obtain ⟨_, h1, h4⟩ := hv; rw [evo_ok h h1, h4]
  case field m off x => obtain ⟨_, h1, h4⟩ := hv; rw [evo_ok h h1, h4]
  case indexSl esz x i => obtain ⟨_, h1, _, h2, h4⟩ := hv; rw [evo_ok h h1, evo_ok h h2, h4]
  case indexArr len esz x i => obtain ⟨_, h1, _, h2, h4⟩ := hv; rw [evo_ok h h1, evo_ok h h2, h4]
  case index len esz m x i => obtain ⟨_, h1, _, h2, h4⟩ := hv; rw [evo_ok h h1, evo_ok h h2, h4]
  case slSl esz x lo hi mx => obtain ⟨_, h1, _, h2, _, h3, _, h5, h4⟩ := hv; rw [evo_ok h h1, evm_ok h h2, evm_ok h h3, evm_ok h h5, h4]
  case bin op x y =>
    split at hv
    · cases hv
    · cases hv
    · simp only [Option.bind_eq_some_iff] at hv
      obtain ⟨_, h1, _, h2, h4⟩ := hv; rw [evo_ok h h1, evo_ok h h2, binE_ok h4]
  case eqs k ng x y => obtain ⟨_, h1, _, h2, h4⟩ := hv; rw [evo_ok h h1, evo_ok h h2, h4]
  case eqAgg k ng x y => obtain ⟨_, h1, _, h2, h4⟩ := hv; rw [evo_ok h h1, evo_ok h h2, h4]
  case un op x => obtain ⟨_, h1, h4⟩ := hv; rw [evo_ok h h1, h4]
  case conv k x => obtain ⟨_, h1, h4⟩ := hv; rw [evo_ok h h1, h4]
  case makeFunc f caps => obtain ⟨_, h1, h4⟩ := hv; rw [evl_ok h h1, h4]
  case bindf f x => obtain ⟨_, h1, h4⟩ := hv; rw [evo_ok h h1, h4]
  case extract i x => obtain ⟨_, h1, h4⟩ := hv; rw [evo_ok h h1, h4]
  case len x => obtain ⟨_, h1, h4⟩ := hv; rw [evo_ok h h1, h4]
  case lenArr n => exact hv
  case minmax mx x y => obtain ⟨_, h1, _, h2, h4⟩ := hv; rw [evo_ok h h1, evo_ok h h2, h4]
theorem LvE.put {n d : Nat} (hT : T.length = n) (hd : Nat.blt d n = true) (h : LvE T E) (v : AV) : LvE (put T (some d) v) ((d, v) :: E) := by
  intro i x hx
  have hd' : d < T.length := by rw [hT]; simpa [Nat.blt_eq] using hd
  simp only [look] at hx
  by_cases e : d = i
  · subst e
    simp only [Nat.beq_refl, cond_true, Option.some.injEq] at hx
    subst hx
    simp [sl, Go.AM.put, List.getD_eq_getElem?_getD, hd']
  · have : Nat.beq d i = false := by cases hb : Nat.beq d i with
      | false => rfl
      | true => exact absurd (Nat.eq_of_beq_eq_true hb) e
    rw [this, cond_false] at hx
    have := h i x hx
    simp only [sl, Go.AM.put, List.getD_eq_getElem?_getD] at this ⊢
    rw [List.getElem?_set_ne e]; exact this
theorem put_len {n : Nat} (hT : T.length = n) (d : Option Nat) (v : AV) : (Go.AM.put T d v).length = n := by cases d <;> simp [Go.AM.put, hT]
end
inductive In1 : Asr → List Asr → List Asr → Prop
  | h {A : Asr} {L : List Asr} : In1 A (A :: L) L
  | n {A B : Asr} {L R : List Asr} : In1 A L R → In1 A (B :: L) (B :: R)
inductive Ins : List Asr → List Asr → List Asr → Prop
  | e {L : List Asr} : Ins [] L L
  | c {A : Asr} {P L L' R : List Asr} : In1 A L L' → Ins P L' R → Ins (A :: P) L R
theorem In1.perm {A : Asr} {L R : List Asr} (h : In1 A L R) : L.Perm (A :: R) := by
  induction h with
  | h => exact List.Perm.refl _
  | n _ ih => exact (List.Perm.cons _ ih).trans (List.Perm.swap _ _ _)
theorem Ins.perm {P L R : List Asr} (h : Ins P L R) : L.Perm (P ++ R) := by
  induction h with
  | e => exact List.Perm.refl _
  | c h1 _ ih => exact h1.perm.trans (List.Perm.cons _ ih)
section
variable {ρ : HF} {H : AH}
theorem Ins.sat {P L R X : List Asr} (h : Ins P L R) (hs : Sat ρ H (L ++ X)) : Sat ρ H (P ++ (R ++ X)) := by
  rw [← List.append_assoc]; exact hs.perm (h.perm.append_right X)
theorem Sat.mid {A B C : List Asr} (h : Sat ρ H (A ++ (B ++ C))) : Sat ρ H (B ++ (A ++ C)) := by
  refine h.perm ?_
  rw [← List.append_assoc, ← List.append_assoc]
  exact List.perm_append_comm.append_right C
end
def LEnt (L L' : List Asr) : Prop := ∀ (ρ : HF) (H : AH) (R : List Asr), Sat ρ H (L ++ R) → Sat ρ H (L' ++ R)
theorem LEnt.refl (L : List Asr) : LEnt L L := fun _ _ _ h => h
theorem LEnt.trans {L L' L'' : List Asr} (h : LEnt L L') (h' : LEnt L' L'') : LEnt L L'' := fun ρ H R hs => h' ρ H R (h ρ H R hs)
theorem LEnt.of {P L R : List Asr} (h : Ins P L R) : LEnt L P := fun _ _ _ hs => (h.sat hs).mid.drops
structure Ld (L : List Asr) (b o : Nat) (x : SV) : Prop where
  of : ∀ (ρ : HF) (H : AH) (R : List Asr), Sat ρ H (L ++ R) → H.ld b o = some x
structure Ldn (L : List Asr) (b o n : Nat) (l : List SV) : Prop where
  of : ∀ (ρ : HF) (H : AH) (R : List Asr), Sat ρ H (L ++ R) → H.ldn b o n = some l
structure Stw (L : List Asr) (b o : Nat) (vs : List SV) (L' : List Asr) : Prop where
  of : ∀ (ρ : HF) (H : AH) (R : List Asr), Sat ρ H (L ++ R) → ∃ H', H.stn b o vs = some H' ∧ Sat ρ H' (L' ++ R)
def sb : SV → Nat
  | .slice (some (b, _)) _ _ _ => b
  | _ => 0
def sc : SV → Nat
  | .slice _ _ c _ => c
  | _ => 0
section
variable {L : List Asr} {A : Asr} {b o : Nat} {x : SV} {l : List SV}
theorem Sat.swapA {ρ : HF} {H : AH} {R : List Asr} (h : Sat ρ H ((A :: L) ++ R)) : Sat ρ H (L ++ (A :: R)) := h.perm List.perm_middle.symm
theorem Sat.swapB {ρ : HF} {H : AH} {R : List Asr} (h : Sat ρ H (L ++ (A :: R))) : Sat ρ H ((A :: L) ++ R) := h.perm List.perm_middle
theorem Ld.n (h : Ld L b o x) : Ld (A :: L) b o x := ⟨fun ρ H _ hs => h.of ρ H _ hs.swapA⟩
theorem Ld.c (h : l[o]? = some x) : Ld (Cel b l :: L) b o x := ⟨fun ρ H R hs => by rw [ld_of H hs.cel]; exact h⟩
theorem Ld.r (h : l[o]? = some x) : Ld (Ro b l :: L) b o x := ⟨fun ρ H R hs => by rw [ld_of H hs.ro]; exact h⟩
theorem Ldn.n {m : Nat} {l' : List SV} (h : Ldn L b o m l') : Ldn (A :: L) b o m l' := ⟨fun ρ H _ hs => h.of ρ H _ hs.swapA⟩
theorem Ldn.c {m : Nat} {l' : List SV} (h : o + m ≤ l.length) (h' : (l.drop o).take m = l') : Ldn (Cel b l :: L) b o m l' := ⟨fun ρ H R hs => by
  have := hs.cel
  rw [ldn_of H this, if_pos h, h']⟩
theorem Ldn.r {m : Nat} {l' : List SV} (h : o + m ≤ l.length) (h' : (l.drop o).take m = l') : Ldn (Ro b l :: L) b o m l' := ⟨fun ρ H R hs => by rw [ldn_of H hs.ro, if_pos h, h']⟩
theorem Stw.n {L' : List Asr} {vs : List SV} (h : Stw L b o vs L') : Stw (A :: L) b o vs (A :: L') := ⟨fun ρ H R hs => by
  obtain ⟨H', h1, h2⟩ := h.of ρ H _ hs.swapA
  exact ⟨H', h1, h2.swapB⟩⟩
theorem Stw.c {vs l' : List SV} (h : o + vs.length ≤ l.length) (h' : splice l o vs = l') : Stw (Cel b l :: L) b o vs (Cel b l' :: L) := ⟨fun ρ H R hs => by
  subst h'
  exact ⟨_, stn_of H (Sat.cel hs) h, Sat.set hs _⟩⟩
theorem Ldn.cb {m : Nat} {l' : List SV} (h : Nat.ble (o + m) l.length = true) (h' : (l.drop o).take m = l') : Ldn (Cel b l :: L) b o m l' := Ldn.c (Nat.le_of_ble_eq_true h) h'
theorem Ldn.rb {m : Nat} {l' : List SV} (h : Nat.ble (o + m) l.length = true) (h' : (l.drop o).take m = l') : Ldn (Ro b l :: L) b o m l' := Ldn.r (Nat.le_of_ble_eq_true h) h'
theorem Stw.cb {vs l' : List SV} (h : Nat.ble (o + vs.length) l.length = true) (h' : splice l o vs = l') : Stw (Cel b l :: L) b o vs (Cel b l' :: L) := Stw.c (Nat.le_of_ble_eq_true h) h'
theorem splice_set1 {l : List SV} {o : Nat} {v : SV} (h : o < l.length) : splice l o [v] = l.set o v := by
  unfold splice
  rw [List.set_eq_take_append_cons_drop, if_pos h]
  simp
theorem Stw.c1 {v : SV} {l' : List SV} (h : Nat.blt o l.length = true) (h' : l.set o v = l') : Stw (Cel b l :: L) b o [v] (Cel b l' :: L) := by
  have h : o < l.length := by simpa [Nat.blt_eq] using h
  exact Stw.c (by simp only [List.length_singleton]; omega) (by rw [splice_set1 h, h'])
end
def ix (c i k d : Nat) : Nat := c + (i * k + d)
section
variable {α : Type} {enc : α → List SV} {k : Nat} {L : List Asr} {s : SV} {r : List α}
theorem Ld.w (hk : ∀ e, (enc e).length = k) {i d : Nat} {e : α} {x : SV} (hi : r[i]? = some e) (h : (enc e)[d]? = some x) : Ld (Row enc k s r :: L) (sb s) (ix 0 i k d) x := ⟨fun ρ H R hs => by
  have hlt := (List.getElem?_eq_some_iff.1 hi).1
  obtain ⟨b, c, j, rfl, hb, _⟩ := Sat.rowBlk hs (by omega)
  have hd : d < k := by rw [← hk e]; exact (List.getElem?_eq_some_iff.1 h).1
  show H.ld b _ = _
  rw [ld_of H hb, ix, Nat.zero_add, flat_cell hk hi d hd, h]⟩
theorem Ldn.w (hk : ∀ e, (enc e).length = k) {i : Nat} {e : α} (hi : r[i]? = some e) : Ldn (Row enc k s r :: L) (sb s) (ix 0 i k 0) k (enc e) := ⟨fun ρ H R hs => by
  have hlt := (List.getElem?_eq_some_iff.1 hi).1
  obtain ⟨b, c, j, rfl, hb, _⟩ := Sat.rowBlk hs (by omega)
  show H.ldn b _ _ = _
  obtain ⟨_, rfl⟩ := List.getElem?_eq_some_iff.1 hi
  rw [ldn_of H hb, ix, Nat.zero_add, Nat.add_zero, if_pos (flat_fit hk r j i hlt), flat_ldn hk r j i hlt]⟩
theorem flat_set1 (hk : ∀ e, (enc e).length = k) {r : List α} {j : List SV} {i d : Nat} {x y : α} {v : SV} (hi : r[i]? = some x) (hd : d < k) (hy : enc y = (enc x).set d v) : (flat enc r ++ j).set (i * k + d) v = flat enc (r.set i y) ++ j := by
  obtain ⟨hlt, rfl⟩ := List.getElem?_eq_some_iff.1 hi
  obtain ⟨g1, g2⟩ := flat_split hk r i hlt
  have g3 : flat enc (r.set i y) = flat enc (r.take i) ++ (enc y ++ flat enc (r.drop (i + 1))) := by
    rw [List.set_eq_take_append_cons_drop, if_pos hlt]
    simp [flat]
  rw [g1, g3, hy]
  have e : i * k + d = (flat enc (r.take i)).length + d := by rw [g2]
  rw [e, List.append_assoc, List.set_append_right _ _ (by omega), Nat.add_sub_cancel_left, List.append_assoc, List.set_append_left _ _ (by rw [hk]; exact hd), List.append_assoc, List.append_assoc]
theorem Stw.w (hk : ∀ e, (enc e).length = k) {i d : Nat} {x : α} (y : α) {v : SV} (hi : r[i]? = some x) (hd : Nat.blt d k = true) (hy : enc y = (enc x).set d v) : Stw (Row enc k s r :: L) (sb s) (ix 0 i k d) [v] (Row enc k s (r.set i y) :: L) := ⟨fun ρ H R hs => by
  obtain ⟨hlt, rfl⟩ := List.getElem?_eq_some_iff.1 hi
  have hd : d < k := by simpa [Nat.blt_eq] using hd
  rcases Sat.rowInv hs with ⟨e, h1, h2, _⟩ | ⟨b, c, j, rfl, hs1, h1, h2⟩
  · rw [h2] at hlt; simp at hlt
  have hb := hs1.cel
  have hf := flat_fit hk r j i hlt
  have e1 : splice (flat enc r ++ j) (ix 0 i k d) [v] = flat enc (r.set i y) ++ j := by
    rw [splice_set1 (by rw [ix]; omega), ix, Nat.zero_add, flat_set1 hk (by rw [List.getElem?_eq_getElem hlt]) hd hy]
  refine ⟨_, stn_of H hb (by simp only [List.length_singleton, ix]; omega), ?_⟩
  rw [e1]
  have h3 := Sat.set hs1 (flat enc (r.set i y) ++ j)
  have h4 := h3.mkRow (c := c) (by simpa [flat_len hk] using h1) (by simpa using h2)
  rwa [List.length_set] at h4⟩
theorem Ld.a {b c : Nat} {pre post : List SV} (hc : Nat.beq pre.length c = true) (hk : ∀ e, (enc e).length = k) {i d : Nat} {e : α} {x : SV} (hi : r[i]? = some e) (h : (enc e)[d]? = some x) : Ld (Cel b (pre ++ (flat enc r ++ post)) :: L) b (ix c i k d) x := ⟨fun ρ H R hs => by
  have hc := Nat.eq_of_beq_eq_true hc
  have hd : d < k := by rw [← hk e]; exact (List.getElem?_eq_some_iff.1 h).1
  subst hc
  rw [ld_of H hs.cel, ix, List.getElem?_append_right (by omega), Nat.add_sub_cancel_left, flat_cell hk hi d hd, h]⟩
theorem Stw.a {b c : Nat} {pre post : List SV} (hc : Nat.beq pre.length c = true) (hk : ∀ e, (enc e).length = k) {i d : Nat} {x : α} (y : α) {v : SV} (hi : r[i]? = some x) (hd : Nat.blt d k = true) (hy : enc y = (enc x).set d v) : Stw (Cel b (pre ++ (flat enc r ++ post)) :: L) b (ix c i k d) [v] (Cel b (pre ++ (flat enc (r.set i y) ++ post)) :: L) := by
  have hc := Nat.eq_of_beq_eq_true hc
  have hd : d < k := by simpa [Nat.blt_eq] using hd
  have hlt := (List.getElem?_eq_some_iff.1 hi).1
  have hf := flat_fit hk r post i hlt
  subst hc
  refine Stw.c (by simp only [List.length_singleton, ix, List.length_append] at hf ⊢; omega) ?_
  rw [splice_set1 (by simp only [ix, List.length_append] at hf ⊢; omega), ix, List.set_append_right _ _ (by omega), Nat.add_sub_cancel_left, flat_set1 hk hi hd hy]
end
structure RowIn {α : Type} (L : List Asr) (enc : α → List SV) (k : Nat) (s : SV) (r : List α) : Prop where
  of : ∀ (ρ : HF) (H : AH) (R : List Asr), Sat ρ H (L ++ R) → ∃ R', Sat ρ H (Row enc k s r :: R')
theorem RowIn.h {α : Type} {enc : α → List SV} {k : Nat} {L : List Asr} {s : SV} {r : List α} : RowIn (Row enc k s r :: L) enc k s r := ⟨fun _ _ _ h => ⟨_, h⟩⟩
theorem RowIn.n {α : Type} {enc : α → List SV} {k : Nat} {L : List Asr} {A : Asr} {s : SV} {r : List α} (h : RowIn L enc k s r) : RowIn (A :: L) enc k s r := ⟨fun ρ H _ hs => h.of ρ H _ hs.swapA⟩
theorem Stw.ae {α : Type} {enc : α → List SV} {k : Nat} {L : List Asr} {r : List α} {b c : Nat} {pre post : List SV} (hc : Nat.beq pre.length c = true) (hk : ∀ e, (enc e).length = k) {i : Nat} (y : α) (hi : i < r.length) : Stw (Cel b (pre ++ (flat enc r ++ post)) :: L) b (ix c i k 0) (enc y) (Cel b (pre ++ (flat enc (r.set i y) ++ post)) :: L) := by
  have hc := Nat.eq_of_beq_eq_true hc
  have hf := flat_fit hk r post i hi
  subst hc
  refine Stw.c (by rw [hk]; simp only [ix, List.length_append] at hf ⊢; omega) ?_
  have h1 := flat_splice hk r post i hi y
  unfold splice at h1 ⊢
  rw [ix, Nat.add_zero, List.take_append, List.drop_append]
  rw [List.take_of_length_le (by omega : pre.length ≤ pre.length + i * k), List.drop_eq_nil_of_le (by omega : pre.length ≤ pre.length + i * k + (enc y).length), Nat.add_sub_cancel_left, List.nil_append, List.append_assoc, show pre.length + i * k + (enc y).length - pre.length = i * k + (enc y).length by omega, h1]
theorem Stw.we {α : Type} {enc : α → List SV} {k : Nat} {L : List Asr} {s : SV} {r : List α} (hk : ∀ e, (enc e).length = k) {i : Nat} (y : α) (hi : i < r.length) : Stw (Row enc k s r :: L) (sb s) (ix 0 i k 0) (enc y) (Row enc k s (r.set i y) :: L) := ⟨fun ρ H R hs => by
  rcases Sat.rowInv hs with ⟨e, h1, h2, _⟩ | ⟨b, c, j, rfl, hs1, h1, h2⟩
  · rw [h2] at hi; simp at hi
  have hf := flat_fit hk r j i hi
  refine ⟨_, stn_of H hs1.cel (by simp only [ix, hk]; omega), ?_⟩
  have e1 : splice (flat enc r ++ j) (ix 0 i k 0) (enc y) = flat enc (r.set i y) ++ j := by
    rw [ix, Nat.zero_add, Nat.add_zero, flat_splice hk r j i hi]
  show Sat ρ (H.set b _) _
  rw [e1]
  have h3 := Sat.set hs1 (flat enc (r.set i y) ++ j)
  have h4 := h3.mkRow (c := c) (by simpa [flat_len hk] using h1) (by simpa using h2)
  rwa [List.length_set] at h4⟩
structure RdIn {α : Type} (L : List Asr) (k : Nat) (s : SV) (r : List α) : Prop where
  of : ∀ (ρ : HF) (H : AH) (R : List Asr), Sat ρ H (L ++ R) → lenA (.s s) = some (i64 r.length) ∧ (0 < r.length → ∃ c, s = .slice (some (sb s, 0)) r.length c k)
theorem RowIn.rd {α : Type} {enc : α → List SV} {k : Nat} {L : List Asr} {s : SV} {r : List α} (h : RowIn L enc k s r) : RdIn L k s r := ⟨fun ρ H R hs => by
  obtain ⟨R', h1⟩ := h.of ρ H R hs
  refine ⟨h1.rowLen, fun h0 => ?_⟩
  obtain ⟨b, c, j, rfl, _⟩ := Sat.rowBlk h1 h0
  exact ⟨c, rfl⟩⟩
theorem RdIn.h {α : Type} {enc : α → List SV} {k : Nat} {L : List Asr} {s : SV} {r : List α} : RdIn (Row enc k s r :: L) k s r := RowIn.h.rd
theorem RdIn.n {α : Type} {k : Nat} {L : List Asr} {A : Asr} {s : SV} {r : List α} (h : RdIn L k s r) : RdIn (A :: L) k s r := ⟨fun ρ H _ hs => h.of ρ H _ hs.swapA⟩
section
variable (tab : Nat → Option RFunc) (ext : Nat → List AV → AH → Option (AV × AH))
abbrev Pst := Ex → Env → List Asr → Prop
def Sem (n : Nat) (ρ : HF) (Rs : List Asr) (K : Pst) : Ex → List AV → AH → Prop := fun e T H => ∃ E L, K e E L ∧ T.length = n ∧ LvE T E ∧ Sat ρ H (L ++ Rs)
def TC (n : Nat) (E : Env) (L : List Asr) (c : RC) (K : Pst) : Prop :=
  ∀ (ρ : HF) (Rs : List Asr) (T : List AV) (H : AH), T.length = n → LvE T E → Sat ρ H (L ++ Rs) → wpC tab ext c T H (Sem n ρ Rs K)
def fres (base : Nat) (ops : List ROper) : List Asr := ops.map fun o => Fre (base + o.idx)
def RP (n : Nat) (E : Env) (L : List Asr) (ops : List ROper) (K : Env → List Asr → Prop) : Prop :=
  ∀ (ρ : HF) (Rs : List Asr) (base : Nat) (T : List AV) (H : AH), T.length = n → LvE T E → Sat ρ H (fres base ops ++ (L ++ Rs)) →
    wpR tab ext base ops T H (fun T H => ∃ E L, K E L ∧ T.length = n ∧ LvE T E ∧ Sat ρ H (L ++ Rs))
def wOk (E : Env) (L : List Asr) (w : Watch) : Prop :=
  ∀ g, (match w.guard with | none => some (AV.s (.bool true)) | some p => look E p.1) = some g → (∀ p, w.guard = some p → gd g p.2 = true) →
    ∃ b o v, evo E w.a = some (.s (.ptr (some (b, o)))) ∧ look E w.dst = some v ∧ ((w.m = none ∧ ∃ x, v = .s x ∧ Ld L b o x) ∨ ∃ m l, w.m = some m ∧ v = .agg l ∧ Ldn L b o m l)
def WK (n : Nat) : List Watch → Env → Env → List Asr → List ROper → (Env → List Asr → Prop) → Prop
  | [], _, E, L, os, K => RP tab ext n E L os K
  | w :: ws, E0, E, L, os, K => (wOk E0 L w ∧ (∀ p, w.guard = some p → (look E0 p.1).isSome = true)) ∧ WK n ws E0 E L os K
def sq (n : Nat) (b : RC) (K : Pst) : Pst
  | .norm, E, L => TC tab ext n E L b K
  | .ret, E, L => K .ret E L
  | .out i, E, L => K (.out i) E L
def bk (id : Nat) (K : Pst) : Pst
  | .norm, E, L => K .norm E L
  | .ret, E, L => K .ret E L
  | .out i, E, L => bif Nat.beq i id then K .norm E L else K (.out i) E L
end
def ELe : Env → Env → Prop
  | [], _ => True
  | (i, v) :: E', E => look E i = some v ∧ ELe E' E
theorem ELe.lv {T : List AV} : ∀ {E' E : Env}, ELe E' E → LvE T E → LvE T E'
  | [], _, _, _ => fun i v h => by simp [look] at h
  | (j, u) :: E', E, h, hl => fun i v hv => by
    simp only [look] at hv
    cases hb : Nat.beq j i with
    | true =>
      rw [hb, cond_true] at hv
      cases hv
      have : j = i := Nat.eq_of_beq_eq_true hb
      subst this
      exact hl _ _ h.1
    | false => rw [hb, cond_false] at hv; exact ELe.lv h.2 hl i v hv
def lpK {α : Type} (m : α → Nat) (I : α → Prop) (Ei : α → Env) (Li : α → List Asr) (a : α) (K : Pst) : Pst
  | .norm, E, L => ∃ a', I a' ∧ m a' < m a ∧ ELe (Ei a') E ∧ LEnt L (Li a')
  | .ret, E, L => K .ret E L
  | .out i, E, L => K (.out i) E L
def mdx {α : Type} (I : α → Prop) (Ei : α → Env) (Li : α → List Asr) (K : Pst) : Pst
  | .norm, E, L => ∃ a, I a ∧ ELe (Ei a) E ∧ LEnt L (Li a)
  | .ret, E, L => K .ret E L
  | .out i, E, L => K (.out i) E L
def resE (E : Env) (L : List Asr) : List RRes → AV → Prop
  | [.tmp t], v => look E t = some v
  | [.cell t m], v => ∃ b o, look E t = some (.s (.ptr (some (b, o)))) ∧ ((m = none ∧ ∃ x, v = .s x ∧ Ld L b o x) ∨ ∃ n l, m = some n ∧ v = .agg l ∧ Ldn L b o n l)
  | rs, v => ∃ ps, v = .tup ps ∧ resL rs ps
where
  resL : List RRes → List Part → Prop
  | [], [] => True
  | .tmp t :: rs, p :: ps => look E t = some p.av ∧ resL rs ps
  | .cell t m :: rs, p :: ps => (∃ b o, look E t = some (.s (.ptr (some (b, o)))) ∧ ((m = none ∧ ∃ x, p = .s x ∧ Ld L b o x) ∨ ∃ n l, m = some n ∧ p = .agg l ∧ Ldn L b o n l)) ∧ resL rs ps
  | _, _ => False
def rt (rs : List RRes) (Q : AV → List Asr → Prop) : Pst
  | .out _, _, _ => False
  | _, E, L => ∃ v P', resE E L rs v ∧ Q v P' ∧ LEnt L P'
end Go.AM

/-
  WALKS: the rules.
-/
namespace Go.AM
section
variable {tab : Nat → Option RFunc} {ext : Nat → List AV → AH → Option (AV × AH)} {n : Nat} {E : Env} {L : List Asr} {K : Pst}
theorem wpO_mono {ρ : Opd → AV} {id : Nat} {H : AH} {o : ROp} {K K' : AV → AH → Prop} (hk : ∀ v H', K v H' → K' v H') (h : wpO tab ext ρ id H o K) : wpO tab ext ρ id H o K' := by
  cases o with
  | call f args => exact CallP.mono h hk
  | callv x args =>
    simp only [wpO, callvP] at h ⊢
    split at h
    · exact CallP.mono h hk
    · exact CallP.mono h hk
    · exact h
  | move x => exact hk _ _ h
  | box x => obtain ⟨l, h0, H', h1, h2⟩ := h; exact ⟨l, h0, H', h1, hk _ _ h2⟩
  | buildSlice esz len z ps => obtain ⟨l, h0, H', h1, h2⟩ := h; exact ⟨l, h0, H', h1, hk _ _ h2⟩
  | makeSlice esz bytes z l c => obtain ⟨l, h0, H', h1, h2⟩ := h; exact ⟨l, h0, H', h1, hk _ _ h2⟩
  | _ => obtain ⟨l, h0, h2⟩ := h; exact ⟨l, h0, hk _ _ h2⟩
theorem gP_mono {c : Bool} {H : AH} {P P' : (AV → AH → Prop) → Prop} {K K' : AV → AH → Prop} (hP : (∀ v H', K v H' → K' v H') → P K → P' K') (hk : ∀ v H', K v H' → K' v H') (h : gP c H P K) : gP c H P' K' := by
  unfold gP at *
  cases c with
  | true => exact hP hk h
  | false => exact hk _ _ h
theorem watchP_mono {T : List AV} {H : AH} {P P' : Prop} (hp : P → P') : ∀ {ws : List Watch}, watchP T H ws P → watchP T H ws P'
  | [], h => hp h
  | _ :: _, h => ⟨h.1, watchP_mono hp h.2⟩
theorem wpR_mono {base : Nat} {K K' : List AV → AH → Prop} (hk : ∀ T H, K T H → K' T H) : ∀ {l : List ROper} {T : List AV} {H : AH}, wpR tab ext base l T H K → wpR tab ext base l T H K'
  | [], _, _, h => hk _ _ h
  | o :: l, T, H, h => by
    simp only [wpR] at h ⊢
    split at h
    · exact wpO_mono (fun v H' => watchP_mono (wpR_mono hk)) h
    · exact gP_mono (fun hk' => wpO_mono hk') (fun v H' => watchP_mono (wpR_mono hk)) h
theorem wpC_mono : ∀ {c : RC} {T : List AV} {H : AH} {K K' : Ex → List AV → AH → Prop}, (∀ e T H, K e T H → K' e T H) → wpC tab ext c T H K → wpC tab ext c T H K'
  | .skip, _, _, _, _, hk, h => hk _ _ _ h
  | .ret, _, _, _, _, hk, h => hk _ _ _ h
  | .exit _, _, _, _, _, hk, h => hk _ _ _ h
  | .region _ _, _, _, _, _, hk, h => wpR_mono (hk .norm) h
  | .seq a b, T, H, K, K', hk, h => wpC_mono (c := a) (fun e T H h => by
      cases e with
      | norm => exact wpC_mono (c := b) hk h
      | ret => exact hk _ _ _ h
      | out id => exact hk _ _ _ h) h
  | .cond c a b, T, H, K, K', hk, h => by
    simp only [wpC, condP] at h ⊢
    split at h
    · exact wpC_mono (c := a) hk h
    · exact wpC_mono (c := b) hk h
    · exact h.elim
  | .block id a, T, H, K, K', hk, h => wpC_mono (c := a) (fun e T H h => by
      cases e with
      | norm => exact hk _ _ _ h
      | ret => exact hk _ _ _ h
      | out i =>
        simp only [blockK] at h ⊢
        split
        · rename_i he; rw [if_pos he] at h; exact hk _ _ _ h
        · rename_i he; rw [if_neg he] at h; exact hk _ _ _ h) h
  | .loop a, T, H, K, K', hk, ⟨k, e, T', H', h1, h2⟩ => ⟨k, e, T', H', h1, hk _ _ _ h2⟩
theorem wpO_pure {ρ : Opd → AV} {id : Nat} {H : AH} {o : ROp} {v : AV} {K : AV → AH → Prop} (h : pureA ρ o = some v) (hk : o.kind = .pure) (hK : K v H) : wpO tab ext ρ id H o K := by
  cases o <;> simp only [ROp.kind, reduceCtorEq] at hk
  case move x => simp only [pureA, Option.some.injEq] at h; subst h; exact hK
  case stuck => simp [pureA] at h
  all_goals exact ⟨v, h, hK⟩
theorem WK.watch {E0 : Env} {os : List ROper} {K : Env → List Asr → Prop} {ρ : HF} {Rs : List Asr} {base : Nat} {T0 T : List AV} {H : AH} (hT : T.length = n) (hl0 : LvE T0 E0) : ∀ {ws : List Watch}, WK tab ext n ws E0 E L os K → LvE T E → Sat ρ H (fres base os ++ (L ++ Rs)) →
    watchP T0 H ws (wpR tab ext base os T H (fun T H => ∃ E L, K E L ∧ T.length = n ∧ LvE T E ∧ Sat ρ H (L ++ Rs)))
  | [], h, hl, hs => h ρ Rs base T H hT hl hs
  | w :: ws, ⟨⟨h1, h0⟩, h2⟩, hl, hs => by
    refine ⟨?_, WK.watch hT hl0 h2 hl hs⟩
    have key : (∀ p, w.guard = some p → gd (T0.getD p.1 undef) p.2 = true) → loadA w.m (ev T0 w.a) H = some (T0.getD w.dst undef) := by
      intro hg
      have : ∃ g, (match w.guard with | none => some (AV.s (.bool true)) | some p => look E0 p.1) = some g ∧ (∀ p, w.guard = some p → gd g p.2 = true) := by
        cases hw : w.guard with
        | none => exact ⟨_, rfl, fun _ h => by cases h⟩
        | some p =>
          have h3 := h0 p hw
          obtain ⟨g, hgE⟩ := Option.isSome_iff_exists.1 h3
          refine ⟨g, hgE, fun q hq => ?_⟩
          cases hq
          have h4 := hg p hw
          have h5 : T0.getD p.1 undef = g := hl0 _ _ hgE
          rw [h5] at h4; exact h4
      obtain ⟨g, g1, g2⟩ := this
      obtain ⟨b, o, v, e1, e2, e3⟩ := h1 g g1 g2
      rw [evo_ok hl0 e1]
      have e4 : T0.getD w.dst undef = v := hl0 _ _ e2
      rw [e4]
      rcases e3 with ⟨e5, x, rfl, e6⟩ | ⟨m, l, e5, rfl, e6⟩
      · rw [e5]; show (H.ld b o).map AV.s = _; rw [e6.of ρ H _ hs.mid]; rfl
      · rw [e5]; show (H.ldn b o m).map AV.agg = _; rw [e6.of ρ H _ hs.mid]; rfl
    cases hw : w.guard with
    | none => exact key (fun _ h => by rw [hw] at h; cases h)
    | some p => obtain ⟨t, b⟩ := p; exact fun hg => key (fun q hq => by rw [hw] at hq; cases hq; exact hg)
variable {os : List ROper} {Kr : Env → List Asr → Prop} {d i : Nat} {ws : List Watch}
theorem RP.gen {o : ROper} (hg : o.guard = none) (h : ∀ (ρ : HF) (Rs : List Asr) (base : Nat) (T : List AV) (H : AH), T.length = n → LvE T E → Sat ρ H (Fre (base + o.idx) :: (fres base os ++ (L ++ Rs))) →
    wpO tab ext (ev T) (base + o.idx) H o.op fun v H' => ∃ E' L', WK tab ext n o.watch E E' L' os Kr ∧ LvE (put T o.dst v) E' ∧ Sat ρ H' (fres base os ++ (L' ++ Rs))) : RP tab ext n E L (o :: os) Kr := by
  intro ρ Rs base T H hT hl hs
  simp only [wpR, hg]
  refine wpO_mono ?_ (h ρ Rs base T H hT hl hs)
  rintro v H' ⟨E', L', h1, h2, h3⟩
  exact WK.watch (put_len hT _ _) hl h1 h2 h3
theorem RP.done (h : Kr E L) : RP tab ext n E L [] Kr := fun _ _ _ _ _ hT hl hs => ⟨E, L, h, hT, hl, hs⟩
theorem WK.z {E0 : Env} (h : RP tab ext n E L os Kr) : WK tab ext n [] E0 E L os Kr := h
theorem RP.p {op : ROp} {v : AV} (h : pureE E op = some v) (hd : Nat.blt d n = true) (k : RP tab ext n ((d, v) :: E) L os Kr) : RP tab ext n E L (⟨some d, op, none, i, []⟩ :: os) Kr :=
  RP.gen rfl fun _ _ _ _ _ hT hl hs => let h1 := pureE_ok hl h; wpO_pure h1.1 h1.2 ⟨_, L, k, hl.put hT hd v, hs.drop⟩
theorem RP.pn {op : ROp} {v : AV} (h : pureE E op = some v) (k : RP tab ext n E L os Kr) : RP tab ext n E L (⟨none, op, none, i, []⟩ :: os) Kr :=
  RP.gen rfl fun _ _ _ _ _ _ hl hs => let h1 := pureE_ok hl h; wpO_pure h1.1 h1.2 ⟨_, L, k, hl, hs.drop⟩
theorem RP.l {a : Opd} {b o : Nat} {x : SV} (ha : evo E a = some (.s (.ptr (some (b, o))))) (hl : Ld L b o x) (hd : Nat.blt d n = true) (k : RP tab ext n ((d, .s x) :: E) L os Kr) : RP tab ext n E L (⟨some d, .load none a, none, i, []⟩ :: os) Kr :=
  RP.gen rfl fun ρ Rs base T H hT hv hs => by
    refine ⟨.s x, ?_, _, L, k, hv.put hT hd _, hs.drop⟩
    simp only [evo_ok hv ha]
    show (H.ld b o).map AV.s = _
    rw [hl.of ρ H _ hs.drop.mid]; rfl
theorem RP.ln {a : Opd} {b o m : Nat} {l : List SV} (ha : evo E a = some (.s (.ptr (some (b, o))))) (hl : Ldn L b o m l) (hd : Nat.blt d n = true) (k : RP tab ext n ((d, .agg l) :: E) L os Kr) : RP tab ext n E L (⟨some d, .load (some m) a, none, i, []⟩ :: os) Kr :=
  RP.gen rfl fun ρ Rs base T H hT hv hs => by
    refine ⟨.agg l, ?_, _, L, k, hv.put hT hd _, hs.drop⟩
    simp only [evo_ok hv ha]
    show (H.ldn b o m).map AV.agg = _
    rw [hl.of ρ H _ hs.drop.mid]; rfl
theorem RP.s {a v : Opd} {b o m : Nat} {u : AV} {vs : List SV} {L' : List Asr} (ha : evo E a = some (.s (.ptr (some (b, o))))) (hv : evo E v = some u) (hc : u.cells? = some vs) (hm : Nat.beq vs.length m = true) (hst : Stw L b o vs L') (k : WK tab ext n ws E E L' os Kr) : RP tab ext n E L (⟨none, .store m a v, none, i, ws⟩ :: os) Kr :=
  RP.gen rfl fun ρ Rs base T H hT hl hs => by
    obtain ⟨H', h1, h2⟩ := hst.of ρ H _ hs.drop.mid
    refine ⟨H', ?_, _, L', k, hl, h2.mid⟩
    rw [evo_ok hl ha, evo_ok hl hv]
    show (match u.cells? with | some l => if l.length = m then H.stn b o l else none | none => none) = _
    rw [hc]
    simp only
    rw [if_pos (Nat.eq_of_beq_eq_true hm), h1]
theorem RP.nw {l : List SV} (hd : Nat.blt d n = true) (k : ∀ b, RP tab ext n ((d, .s (.ptr (some (b, 0)))) :: E) (Cel b l :: L) os Kr) : RP tab ext n E L (⟨some d, .newc l, none, i, []⟩ :: os) Kr :=
  RP.gen rfl fun ρ Rs base T H hT hl hs => by
    have h1 := Sat.mk hs l
    refine ⟨_, new_of H hs.fre, _, _, k _, hl.put hT hd _, ?_⟩
    exact h1.perm (List.perm_middle.symm)
theorem RP.bx {x : Opd} {u : AV} {l : List SV} (hx : evo E x = some u) (hc : u.cells? = some l) (hd : Nat.blt d n = true) (k : ∀ b, RP tab ext n ((d, .s (.ptr (some (b, 0)))) :: E) (Cel b l :: L) os Kr) : RP tab ext n E L (⟨some d, .box x, none, i, []⟩ :: os) Kr :=
  RP.gen rfl fun ρ Rs base T H hT hl hs => by
    have h1 := Sat.mk hs l
    refine ⟨l, by rw [evo_ok hl hx, hc], _, new_of H hs.fre, _, _, k _, hl.put hT hd _, ?_⟩
    exact h1.perm (List.perm_middle.symm)
theorem RP.bs {esz len : Nat} {z : List SV} {ps : List (Nat × Nat × Opd)} {us : List (Nat × Nat × AV)} {l : List SV} (hp : evp E ps = some us) (hf : fillA z us = some l) (hd : Nat.blt d n = true) (k : ∀ b, RP tab ext n ((d, .s (.slice (some (b, 0)) len len esz)) :: E) (Cel b l :: L) os Kr) : RP tab ext n E L (⟨some d, .buildSlice esz len z ps, none, i, []⟩ :: os) Kr :=
  RP.gen rfl fun ρ Rs base T H hT hl hs => by
    have h1 := Sat.mk hs l
    refine ⟨l, by rw [evp_ok hl hp, hf], _, new_of H hs.fre, _, _, k _, hl.put hT hd _, ?_⟩
    exact h1.perm (List.perm_middle.symm)
theorem RP.mk {esz bytes : Nat} {z l : List SV} {a c : Opd} {ua uc : AV} {na nc : Nat} (ha : evo E a = some ua) (hc : evo E c = some uc) (hm : makeA esz bytes z ua uc = some (l, na, nc)) (hd : Nat.blt d n = true) (k : ∀ b, RP tab ext n ((d, .s (.slice (some (b, 0)) na nc esz)) :: E) (Cel b l :: L) os Kr) : RP tab ext n E L (⟨some d, .makeSlice esz bytes z a c, none, i, []⟩ :: os) Kr :=
  RP.gen rfl fun ρ Rs base T H hT hl hs => by
    have h1 := Sat.mk hs l
    refine ⟨_, by rw [evo_ok hl ha, evo_ok hl hc, hm], _, new_of H hs.fre, _, _, k _, hl.put hT hd _, ?_⟩
    exact h1.perm (List.perm_middle.symm)
theorem RP.c {f : Nat} {args : List Opd} {vs : List AV} {P R : List Asr} {Q : AV → List Asr → Prop} (ha : evl E args = some vs) (t : Tri tab ext f vs P Q) (hin : Ins P L R) (hd : Nat.blt d n = true)
    (k : ∀ v P', Q v P' → WK tab ext n ws E ((d, v) :: E) (P' ++ R) os Kr) : RP tab ext n E L (⟨some d, .call f args, none, i, ws⟩ :: os) Kr :=
  RP.gen rfl fun ρ Rs base T H hT hl hs => by
    show CallP tab ext f (args.map (ev T)) H _
    rw [evl_ok hl ha]
    refine t.use (R := R ++ (fres base os ++ Rs)) (hin.sat hs.drop.mid) ?_
    intro v H' P' hq hs'
    refine ⟨_, _, k v P' hq, hl.put hT hd _, ?_⟩
    rw [← List.append_assoc] at hs'
    exact hs'.mid
theorem RP.cn {f : Nat} {args : List Opd} {vs : List AV} {P R : List Asr} {Q : AV → List Asr → Prop} (ha : evl E args = some vs) (t : Tri tab ext f vs P Q) (hin : Ins P L R)
    (k : ∀ v P', Q v P' → WK tab ext n ws E E (P' ++ R) os Kr) : RP tab ext n E L (⟨none, .call f args, none, i, ws⟩ :: os) Kr :=
  RP.gen rfl fun ρ Rs base T H hT hl hs => by
    show CallP tab ext f (args.map (ev T)) H _
    rw [evl_ok hl ha]
    refine t.use (R := R ++ (fres base os ++ Rs)) (hin.sat hs.drop.mid) ?_
    intro v H' P' hq hs'
    refine ⟨_, _, k v P' hq, hl, ?_⟩
    rw [← List.append_assoc] at hs'
    exact hs'.mid
theorem RP.cv {x : Opd} {f : Nat} {caps : List (Nat × Nat)} {args : List Opd} {vs : List AV} {P R : List Asr} {Q : AV → List Asr → Prop} (hx : evo E x = some (.s (.fn f caps))) (ha : evl E args = some vs) (t : Tri tab ext f (vs ++ caps.map fun a => .s (.ptr (some a))) P Q) (hin : Ins P L R) (hd : Nat.blt d n = true)
    (k : ∀ v P', Q v P' → WK tab ext n ws E ((d, v) :: E) (P' ++ R) os Kr) : RP tab ext n E L (⟨some d, .callv x args, none, i, ws⟩ :: os) Kr :=
  RP.gen rfl fun ρ Rs base T H hT hl hs => by
    show callvP tab ext (ev T x) (args.map (ev T)) H _
    rw [evl_ok hl ha, evo_ok hl hx]
    refine t.use (R := R ++ (fres base os ++ Rs)) (hin.sat hs.drop.mid) ?_
    intro v H' P' hq hs'
    refine ⟨_, _, k v P' hq, hl.put hT hd _, ?_⟩
    rw [← List.append_assoc] at hs'
    exact hs'.mid
theorem RP.g {t : Nat} {b c : Bool} {dst : Option Nat} {op : ROp} (ht : look E t = some (.s (.bool c)))
    (h1 : c = b → RP tab ext n ((t, .s (.bool b)) :: E) L (⟨dst, op, none, i, ws⟩ :: os) Kr) (h2 : c = !b → RP tab ext n ((t, .s (.bool !b)) :: E) L (⟨dst, .move (.c undef), none, i, ws⟩ :: os) Kr) : RP tab ext n E L (⟨dst, op, some (t, b), i, ws⟩ :: os) Kr := by
  intro ρ Rs base T H hT hl hs
  have e : T.getD t undef = .s (.bool c) := hl _ _ ht
  have hl2 : LvE T ((t, .s (.bool c)) :: E) := fun j v hv => by
    simp only [look] at hv
    cases hb : Nat.beq t j with
    | true => rw [hb, cond_true] at hv; cases hv; have := Nat.eq_of_beq_eq_true hb; subst this; exact e
    | false => rw [hb, cond_false] at hv; exact hl _ _ hv
  simp only [wpR, e, gd_bool]
  by_cases hc : c = b
  · subst hc
    rw [show (c == c) = true by simp]
    have := h1 rfl ρ Rs base T H hT hl2 hs
    simpa only [wpR, gP_true] using this
  · have hc' : c = !b := by cases c <;> cases b <;> simp_all
    subst hc'
    rw [show ((!b) == b) = false by cases b <;> rfl]
    have := h2 rfl ρ Rs base T H hT hl2 hs
    simpa only [wpR, wpO, ev, gP_false] using this
theorem RP.gt {t : Nat} {b : Bool} {dst : Option Nat} {op : ROp} (ht : look E t = some (.s (.bool b))) (h1 : RP tab ext n E L (⟨dst, op, none, i, ws⟩ :: os) Kr) : RP tab ext n E L (⟨dst, op, some (t, b), i, ws⟩ :: os) Kr := by
  intro ρ Rs base T H hT hl hs
  have e : T.getD t undef = .s (.bool b) := hl _ _ ht
  simp only [wpR, e, gd_bool]
  rw [show (b == b) = true by simp]
  have := h1 ρ Rs base T H hT hl hs
  simpa only [wpR, gP_true] using this
theorem RP.gf {t : Nat} {b : Bool} {dst : Option Nat} {op : ROp} (ht : look E t = some (.s (.bool !b))) (h1 : RP tab ext n E L (⟨dst, .move (.c undef), none, i, ws⟩ :: os) Kr) : RP tab ext n E L (⟨dst, op, some (t, b), i, ws⟩ :: os) Kr := by
  intro ρ Rs base T H hT hl hs
  have e : T.getD t undef = .s (.bool !b) := hl _ _ ht
  simp only [wpR, e, gd_bool]
  rw [show ((!b) == b) = false by cases b <;> rfl]
  have := h1 ρ Rs base T H hT hl hs
  simpa only [wpR, wpO, ev, gP_false] using this
theorem RP.gu {t : Nat} {b : Bool} {dst : Option Nat} {op : ROp} {l : List Part} (ht : look E t = some (.tup l)) (h1 : RP tab ext n E L (⟨dst, .move (.c undef), none, i, ws⟩ :: os) Kr) : RP tab ext n E L (⟨dst, op, some (t, b), i, ws⟩ :: os) Kr := by
  intro ρ Rs base T H hT hl hs
  have e : T.getD t undef = .tup l := hl _ _ ht
  simp only [wpR, e, gd_tup]
  have := h1 ρ Rs base T H hT hl hs
  simpa only [wpR, wpO, ev, gP_false] using this
theorem RP.fact {p : Prop} (h : ∀ (ρ : HF) (H : AH) (R : List Asr), Sat ρ H (L ++ R) → p) (k : p → RP tab ext n E L os Kr) : RP tab ext n E L os Kr :=
  fun ρ Rs base T H hT hl hs => k (h ρ H _ hs.mid) ρ Rs base T H hT hl hs
theorem RP.imp {α : Type} {L' : α → List Asr} (h : ∀ (ρ : HF) (H : AH) (R : List Asr), Sat ρ H (L ++ R) → ∃ a, Sat ρ H (L' a ++ R)) (k : ∀ a, RP tab ext n E (L' a) os Kr) : RP tab ext n E L os Kr :=
  fun ρ Rs base T H hT hl hs => let ⟨a, h1⟩ := h ρ H _ hs.mid; k a ρ Rs base T H hT hl h1.mid
theorem RP.ent {L' : List Asr} (h : LEnt L L') (k : RP tab ext n E L' os Kr) : RP tab ext n E L os Kr :=
  fun ρ Rs base T H hT hl hs => k ρ Rs base T H hT hl (h ρ H _ hs.mid).mid
theorem RP.env {E' : Env} (h : ELe E' E) (k : RP tab ext n E' L os Kr) : RP tab ext n E L os Kr :=
  fun ρ Rs base T H hT hl hs => k ρ Rs base T H hT (h.lv hl) hs
theorem RP.pw {op : BinOp} {x y : Opd} {a b v : AV} (hx : evo E x = some a) (hy : evo E y = some b) (h : binA op a b = some v) (hd : Nat.blt d n = true) (k : RP tab ext n ((d, v) :: E) L os Kr) : RP tab ext n E L (⟨some d, .bin op x y, none, i, []⟩ :: os) Kr :=
  RP.gen rfl fun ρ Rs base T H hT hl hs => wpO_pure (o := .bin op x y) (by simp only [pureA, evo_ok hl hx, evo_ok hl hy, h]) rfl ⟨_, L, k, hl.put hT hd v, hs.drop⟩
theorem RP.ad {x y : Opd} {a b : Int} (hx : evo E x = some (i64 a)) (hy : evo E y = some (i64 b)) (h : -9223372036854775808 ≤ a + b ∧ a + b < 9223372036854775808) (hd : Nat.blt d n = true) (k : RP tab ext n ((d, i64 (a + b)) :: E) L os Kr) : RP tab ext n E L (⟨some d, .bin .add x y, none, i, []⟩ :: os) Kr :=
  RP.pw hx hy (by simp [wrap_i64 h.1 h.2]) hd k
theorem RP.su {x y : Opd} {a b : Int} (hx : evo E x = some (i64 a)) (hy : evo E y = some (i64 b)) (h : -9223372036854775808 ≤ a - b ∧ a - b < 9223372036854775808) (hd : Nat.blt d n = true) (k : RP tab ext n ((d, i64 (a - b)) :: E) L os Kr) : RP tab ext n E L (⟨some d, .bin .sub x y, none, i, []⟩ :: os) Kr :=
  RP.pw hx hy (by simp [wrap_i64 h.1 h.2]) hd k
theorem RP.inc {x y : Opd} {a : Nat} (hx : evo E x = some (i64 a)) (hy : evo E y = some (i64 1)) (h : a < 4611686018427387904) (hd : Nat.blt d n = true) (k : RP tab ext n ((d, i64 ((a + 1 : Nat) : Int)) :: E) L os Kr) : RP tab ext n E L (⟨some d, .bin .add x y, none, i, []⟩ :: os) Kr :=
  RP.pw hx hy (by simp; rw [wrap_i64 (by omega) (by omega)]) hd k
theorem RP.dec {x y : Opd} {a : Nat} (hx : evo E x = some (i64 ((a + 1 : Nat) : Int))) (hy : evo E y = some (i64 1)) (h : a < 4611686018427387904) (hd : Nat.blt d n = true) (k : RP tab ext n ((d, i64 a) :: E) L os Kr) : RP tab ext n E L (⟨some d, .bin .sub x y, none, i, []⟩ :: os) Kr :=
  RP.pw hx hy (by simp; exact wrap_i64 (by omega) (by omega)) hd k
theorem RP.ix {α : Type} {k : Nat} {s : SV} {r : List α} {x y : Opd} {kd : IntKind} {a : Int} (hx : evo E x = some (.s s)) (hy : evo E y = some (.s (.int kd a))) (hr : RdIn L k s r) (h : 0 ≤ a ∧ a < r.length) (hd : Nat.blt d n = true) (kk : RP tab ext n ((d, .s (.ptr (some (sb s, Go.AM.ix 0 a.toNat k 0)))) :: E) L os Kr) : RP tab ext n E L (⟨some d, .indexSl k x y, none, i, []⟩ :: os) Kr :=
  RP.fact (p := indexSlA k (.s s) (.s (.int kd a)) = some (.s (.ptr (some (sb s, Go.AM.ix 0 a.toNat k 0))))) (fun ρ H X hs => by
    obtain ⟨c, e⟩ := (hr.of ρ H X hs).2 (by omega)
    rw [e]
    simp [Go.AM.sb, Go.AM.ix, h.1, h.2]) fun hp => RP.p (by simp only [pureE, hx, hy, Option.bind_some, hp]) hd kk
theorem RP.ixn {α : Type} {k : Nat} {s : SV} {r : List α} {x y : Opd} {kd : IntKind} {a : Nat} (hx : evo E x = some (.s s)) (hy : evo E y = some (.s (.int kd a))) (hr : RdIn L k s r) (h : a < r.length) (hd : Nat.blt d n = true) (kk : RP tab ext n ((d, .s (.ptr (some (sb s, Go.AM.ix 0 a k 0)))) :: E) L os Kr) : RP tab ext n E L (⟨some d, .indexSl k x y, none, i, []⟩ :: os) Kr :=
  RP.ix hx hy hr ⟨by omega, by omega⟩ hd (by simpa using kk)
theorem RP.ixs {k b o len c e : Nat} {x y : Opd} {kd : IntKind} {a : Int} (hx : evo E x = some (.s (.slice (some (b, o)) len c e))) (hy : evo E y = some (.s (.int kd a))) (h : 0 ≤ a ∧ a < (len : Int)) (hd : Nat.blt d n = true) (kk : RP tab ext n ((d, .s (.ptr (some (b, Go.AM.ix o a.toNat k 0)))) :: E) L os Kr) : RP tab ext n E L (⟨some d, .indexSl k x y, none, i, []⟩ :: os) Kr :=
  RP.p (by simp [pureE, hx, hy, h.1, h.2, Go.AM.ix]) hd kk
theorem RP.ia {k b o len : Nat} {x y : Opd} {kd : IntKind} {a : Int} (hx : evo E x = some (.s (.ptr (some (b, o))))) (hy : evo E y = some (.s (.int kd a))) (h : 0 ≤ a ∧ a < (len : Int)) (hd : Nat.blt d n = true) (kk : RP tab ext n ((d, .s (.ptr (some (b, Go.AM.ix o a.toNat k 0)))) :: E) L os Kr) : RP tab ext n E L (⟨some d, .indexArr len k x y, none, i, []⟩ :: os) Kr :=
  RP.p (by simp [pureE, hx, hy, h.1, h.2, Go.AM.ix]) hd kk
theorem RP.ian {k b o len : Nat} {x y : Opd} {kd : IntKind} {a : Nat} (hx : evo E x = some (.s (.ptr (some (b, o))))) (hy : evo E y = some (.s (.int kd a))) (h : a < len) (hd : Nat.blt d n = true) (kk : RP tab ext n ((d, .s (.ptr (some (b, Go.AM.ix o a k 0)))) :: E) L os Kr) : RP tab ext n E L (⟨some d, .indexArr len k x y, none, i, []⟩ :: os) Kr :=
  RP.ia hx hy ⟨by omega, by omega⟩ hd (by simpa using kk)
theorem RP.ixp {k b l len c e : Nat} {x y : Opd} {kd : IntKind} {a : Nat} (hx : evo E x = some (.s (.slice (some (b, l * k)) len c e))) (hy : evo E y = some (.s (.int kd a))) (h : a < len) (hd : Nat.blt d n = true) (kk : RP tab ext n ((d, .s (.ptr (some (b, Go.AM.ix 0 (l + a) k 0)))) :: E) L os Kr) : RP tab ext n E L (⟨some d, .indexSl k x y, none, i, []⟩ :: os) Kr :=
  RP.ixs hx hy ⟨by omega, by omega⟩ hd (by simpa [Go.AM.ix, Nat.add_mul] using kk)
theorem RP.pt {α : Type} {enc : α → List SV} {k : Nat} {s : SV} {r : List α} {x : Opd} {lo hi mx : Option Opd} {lo' hi' mx' : Option AV} {l h m : Nat} (hx : evo E x = some (.s s)) (hr : RowIn L enc k s r) (h0 : 0 < r.length) (h1 : evm E lo = some lo') (h2 : evm E hi = some hi') (h3 : evm E mx = some mx') (hb : r.length ≤ sc s → boundsA r.length (sc s) lo' hi' mx' = some (l, h, m)) (hd : Nat.blt d n = true)
    (kk : RP tab ext n ((d, .s (.slice (some (sb s, l * k)) (h - l) (m - l) k)) :: E) L os Kr) : RP tab ext n E L (⟨some d, .slSl k x lo hi mx, none, i, []⟩ :: os) Kr :=
  RP.fact (p := ∃ c, s = .slice (some (sb s, 0)) r.length c k ∧ c = sc s ∧ r.length ≤ c) (fun ρ H X hs => by
    obtain ⟨R', hs1⟩ := hr.of ρ H X hs
    obtain ⟨b, c, j, rfl, _, _, h5⟩ := Sat.rowBlk hs1 h0
    exact ⟨c, rfl, rfl, h5⟩) fun ⟨c, hp, hc, hcl⟩ => RP.p (v := .s (.slice (some (sb s, l * k)) (h - l) (m - l) k)) (by
      subst hc
      have hb := hb hcl
      simp only [pureE, hx, h1, h2, h3, Option.bind_some]
      rw [hp]
      simp only [slSlA, if_true]
      rw [← hp, hb]
      simp) hd kk
theorem RP.ln1 {α : Type} {k : Nat} {s : SV} {r : List α} {x : Opd} (hx : evo E x = some (.s s)) (hr : RdIn L k s r) (hd : Nat.blt d n = true) (kk : RP tab ext n ((d, i64 r.length) :: E) L os Kr) : RP tab ext n E L (⟨some d, .len x, none, i, []⟩ :: os) Kr :=
  RP.fact (p := lenA (.s s) = some (i64 r.length)) (fun ρ H X hs => (hr.of ρ H X hs).1) fun hp => RP.p (by simp only [pureE, hx, Option.bind_some, hp]) hd kk
theorem RP.fa {x : Opd} {b o off : Nat} (hx : evo E x = some (.s (.ptr (some (b, o))))) (hd : Nat.blt d n = true) (kk : RP tab ext n ((d, .s (.ptr (some (b, o + off)))) :: E) L os Kr) : RP tab ext n E L (⟨some d, .fieldAddr off x, none, i, []⟩ :: os) Kr :=
  RP.p (by simp [pureE, hx]) hd kk
theorem RP.fx {x : Opd} {b c a k d1 off : Nat} (hx : evo E x = some (.s (.ptr (some (b, Go.AM.ix c a k d1))))) (hd : Nat.blt d n = true) (kk : RP tab ext n ((d, .s (.ptr (some (b, Go.AM.ix c a k (d1 + off))))) :: E) L os Kr) : RP tab ext n E L (⟨some d, .fieldAddr off x, none, i, []⟩ :: os) Kr :=
  RP.p (by simp [pureE, hx, Nat.add_assoc, Go.AM.ix]) hd kk
theorem RP.gp {t : Nat} {p : Prop} [Decidable p] {dst : Option Nat} {op : ROp} (ht : look E t = some (.s (.bool (decide p))))
    (h1 : p → RP tab ext n ((t, .s (.bool true)) :: E) L (⟨dst, op, none, i, ws⟩ :: os) Kr) (h2 : ¬ p → RP tab ext n ((t, .s (.bool false)) :: E) L (⟨dst, .move (.c undef), none, i, ws⟩ :: os) Kr) : RP tab ext n E L (⟨dst, op, some (t, true), i, ws⟩ :: os) Kr :=
  RP.g ht (fun h => h1 (of_decide_eq_true h)) (fun h => h2 (of_decide_eq_false h))
theorem RP.gq {t : Nat} {p : Prop} [Decidable p] {dst : Option Nat} {op : ROp} (ht : look E t = some (.s (.bool (decide p))))
    (h1 : ¬ p → RP tab ext n ((t, .s (.bool false)) :: E) L (⟨dst, op, none, i, ws⟩ :: os) Kr) (h2 : p → RP tab ext n ((t, .s (.bool true)) :: E) L (⟨dst, .move (.c undef), none, i, ws⟩ :: os) Kr) : RP tab ext n E L (⟨dst, op, some (t, false), i, ws⟩ :: os) Kr :=
  RP.g ht (fun h => h1 (of_decide_eq_false h)) (fun h => h2 (of_decide_eq_true h))
theorem RP.ap {α : Type} {esz bytes : Nat} {s x : Opd} {sv xv : AV} {v' : α → AV} {L' : α → List Asr} (hs : evo E s = some sv) (hx : evo E x = some xv) (hd : Nat.blt d n = true)
    (h : ∀ (ρ : HF) (H : AH) (id : Nat) (X : List Asr), Sat ρ H (Fre id :: (L ++ X)) → ∃ a H', appendA esz bytes id sv xv H = some (v' a, H') ∧ Sat ρ H' (L' a ++ X))
    (k : ∀ a, WK tab ext n ws E ((d, v' a) :: E) (L' a) os Kr) : RP tab ext n E L (⟨some d, .append esz bytes s x, none, i, ws⟩ :: os) Kr :=
  RP.gen rfl fun ρ Rs base T H hT hl hq => by
    obtain ⟨a, H', h1, h2⟩ := h ρ H _ (fres base os ++ Rs) (hq.perm (List.Perm.cons _ (by rw [← List.append_assoc, ← List.append_assoc]; exact List.perm_append_comm.append_right _)))
    refine ⟨_, by rw [evo_ok hl hs, evo_ok hl hx]; exact h1, _, L' a, k a, hl.put hT hd _, h2.mid⟩
theorem RP.cl {esz : Nat} {z : List SV} {x : Opd} {xv : AV} {L' : List Asr} (hx : evo E x = some xv)
    (h : ∀ (ρ : HF) (H : AH) (X : List Asr), Sat ρ H (L ++ X) → ∃ H', clearA esz z xv H = some H' ∧ Sat ρ H' (L' ++ X))
    (k : WK tab ext n ws E E L' os Kr) : RP tab ext n E L (⟨none, .clear esz z x, none, i, ws⟩ :: os) Kr :=
  RP.gen rfl fun ρ Rs base T H hT hl hq => by
    obtain ⟨H', h1, h2⟩ := h ρ H _ hq.drop.mid
    refine ⟨_, by rw [evo_ok hl hx]; exact h1, _, L', k, hl, h2.mid⟩
theorem RP.cy {esz : Nat} {s x : Opd} {sv xv : AV} {dst : Option Nat} {v' : AV} {L' : List Asr} {E' : Env} (hs : evo E s = some sv) (hx : evo E x = some xv)
    (h : ∀ (ρ : HF) (H : AH) (X : List Asr), Sat ρ H (L ++ X) → ∃ H', copyA esz sv xv H = some (v', H') ∧ Sat ρ H' (L' ++ X)) (he : ∀ T : List AV, T.length = n → LvE T E → LvE (put T dst v') E')
    (k : WK tab ext n ws E E' L' os Kr) : RP tab ext n E L (⟨dst, .copy esz s x, none, i, ws⟩ :: os) Kr :=
  RP.gen rfl fun ρ Rs base T H hT hl hq => by
    obtain ⟨H', h1, h2⟩ := h ρ H _ hq.drop.mid
    refine ⟨_, by rw [evo_ok hl hs, evo_ok hl hx]; exact h1, _, L', k, he T hT hl, h2.mid⟩
theorem is_rp {ops : List ROper} (h : RP tab ext n E L ops Kr) : RP tab ext n E L ops Kr := h
theorem is_tc {c : RC} (h : TC tab ext n E L c K) : TC tab ext n E L c K := h
theorem is_l {dst : Option Nat} {m : Option Nat} {a : Opd} (h : RP tab ext n E L (⟨dst, .load m a, none, i, ws⟩ :: os) Kr) : RP tab ext n E L (⟨dst, .load m a, none, i, ws⟩ :: os) Kr := h
theorem is_b {dst : Option Nat} {op : BinOp} {x y : Opd} (h : RP tab ext n E L (⟨dst, .bin op x y, none, i, ws⟩ :: os) Kr) : RP tab ext n E L (⟨dst, .bin op x y, none, i, ws⟩ :: os) Kr := h
theorem is_x {dst : Option Nat} {k : Nat} {x y : Opd} (h : RP tab ext n E L (⟨dst, .indexSl k x y, none, i, ws⟩ :: os) Kr) : RP tab ext n E L (⟨dst, .indexSl k x y, none, i, ws⟩ :: os) Kr := h
theorem is_s {dst : Option Nat} {k : Nat} {x y : Opd} (h : RP tab ext n E L (⟨dst, .store k x y, none, i, ws⟩ :: os) Kr) : RP tab ext n E L (⟨dst, .store k x y, none, i, ws⟩ :: os) Kr := h
def okIdx (k : Nat) : List ROper → Bool
  | [] => true
  | o :: os => Nat.blt o.idx k && (os.all fun p => !(Nat.beq p.idx o.idx)) && okIdx k os
theorem okIdx_ok {k : Nat} : ∀ {ops : List ROper}, okIdx k ops = true → (ops.map (·.idx)).Nodup ∧ ∀ i ∈ ops.map (·.idx), i < k
  | [], _ => ⟨List.nodup_nil, by simp⟩
  | o :: os, h => by
    simp only [okIdx, Bool.and_eq_true, List.all_eq_true, Bool.not_eq_true', Nat.blt_eq] at h
    obtain ⟨⟨h1, h2⟩, h3⟩ := h
    obtain ⟨g1, g2⟩ := okIdx_ok h3
    refine ⟨?_, ?_⟩
    · rw [List.map_cons, List.nodup_cons]
      refine ⟨?_, g1⟩
      intro hm
      obtain ⟨p, hp, he⟩ := List.mem_map.1 hm
      have := h2 p hp
      rw [he, Nat.beq_refl] at this; cases this
    · intro i hi
      rw [List.map_cons] at hi
      rcases List.mem_cons.1 hi with rfl | hi
      · exact h1
      · exact g2 i hi
theorem TC.reg {k : Nat} {ops : List ROper} (hk : okIdx k ops = true) (h : RP tab ext n E L ops (K .norm)) : TC tab ext n E L (.region k ops) K := by
  intro ρ Rs T H hT hl hs
  obtain ⟨h1, h2⟩ := okIdx_ok hk
  have h3 := Sat.frees hs k (ops.map (·.idx)) h2 h1
  rw [List.map_map] at h3
  exact h ρ Rs H.next T (H.bump k) hT hl h3
theorem TC.seq {a b : RC} (h : TC tab ext n E L a (sq tab ext n b K)) : TC tab ext n E L (.seq a b) K := by
  intro ρ Rs T H hT hl hs
  show wpC tab ext a T H _
  refine wpC_mono ?_ (h ρ Rs T H hT hl hs)
  rintro e T' H' ⟨E', L', h1, h2, h3, h4⟩
  cases e with
  | norm => exact h1 ρ Rs T' H' h2 h3 h4
  | ret => exact ⟨E', L', h1, h2, h3, h4⟩
  | out id => exact ⟨E', L', h1, h2, h3, h4⟩
theorem TC.blk {id : Nat} {a : RC} (h : TC tab ext n E L a (bk id K)) : TC tab ext n E L (.block id a) K := by
  intro ρ Rs T H hT hl hs
  show wpC tab ext a T H _
  refine wpC_mono ?_ (h ρ Rs T H hT hl hs)
  rintro e T' H' ⟨E', L', h1, h2, h3, h4⟩
  cases e with
  | norm => exact ⟨E', L', h1, h2, h3, h4⟩
  | ret => exact ⟨E', L', h1, h2, h3, h4⟩
  | out i =>
    simp only [bk] at h1
    simp only [blockK]
    by_cases e : i = id
    · subst e; rw [if_pos rfl]; rw [Nat.beq_refl, cond_true] at h1; exact ⟨E', L', h1, h2, h3, h4⟩
    · rw [if_neg e]
      have : Nat.beq i id = false := by cases hb : Nat.beq i id with
        | false => rfl
        | true => exact absurd (Nat.eq_of_beq_eq_true hb) e
      rw [this, cond_false] at h1; exact ⟨E', L', h1, h2, h3, h4⟩
theorem TC.skip (h : K .norm E L) : TC tab ext n E L .skip K := fun _ _ _ _ hT hl hs => ⟨E, L, h, hT, hl, hs⟩
theorem TC.ret (h : K .ret E L) : TC tab ext n E L .ret K := fun _ _ _ _ hT hl hs => ⟨E, L, h, hT, hl, hs⟩
theorem TC.exit {id : Nat} (h : K (.out id) E L) : TC tab ext n E L (.exit id) K := fun _ _ _ _ hT hl hs => ⟨E, L, h, hT, hl, hs⟩
theorem TC.cT {c : Opd} {a b : RC} (hc : evo E c = some (.s (.bool true))) (h : TC tab ext n E L a K) : TC tab ext n E L (.cond c a b) K := fun ρ Rs T H hT hl hs => by
  simp only [wpC, evo_ok hl hc]; exact h ρ Rs T H hT hl hs
theorem TC.cF {c : Opd} {a b : RC} (hc : evo E c = some (.s (.bool false))) (h : TC tab ext n E L b K) : TC tab ext n E L (.cond c a b) K := fun ρ Rs T H hT hl hs => by
  simp only [wpC, evo_ok hl hc]; exact h ρ Rs T H hT hl hs
theorem TC.cP {c : Opd} {a b : RC} {p : Prop} [Decidable p] (hc : evo E c = some (.s (.bool (decide p)))) (h1 : p → TC tab ext n E L a K) (h2 : ¬ p → TC tab ext n E L b K) : TC tab ext n E L (.cond c a b) K := fun ρ Rs T H hT hl hs => by
  simp only [wpC, evo_ok hl hc]
  by_cases hp : p
  · rw [decide_eq_true hp]; exact h1 hp ρ Rs T H hT hl hs
  · rw [decide_eq_false hp]; exact h2 hp ρ Rs T H hT hl hs
theorem TC.cB {c : Opd} {a b : RC} {p : Bool} (hc : evo E c = some (.s (.bool p))) (h1 : p = true → TC tab ext n E L a K) (h2 : p = false → TC tab ext n E L b K) : TC tab ext n E L (.cond c a b) K := fun ρ Rs T H hT hl hs => by
  simp only [wpC, evo_ok hl hc]
  cases p with
  | true => exact h1 rfl ρ Rs T H hT hl hs
  | false => exact h2 rfl ρ Rs T H hT hl hs
theorem TC.fact {c : RC} {p : Prop} (h : ∀ (ρ : HF) (H : AH) (R : List Asr), Sat ρ H (L ++ R) → p) (k : p → TC tab ext n E L c K) : TC tab ext n E L c K :=
  fun ρ Rs T H hT hl hs => k (h ρ H _ hs) ρ Rs T H hT hl hs
theorem TC.imp {c : RC} {α : Type} {L' : α → List Asr} (h : ∀ (ρ : HF) (H : AH) (R : List Asr), Sat ρ H (L ++ R) → ∃ a, Sat ρ H (L' a ++ R)) (k : ∀ a, TC tab ext n E (L' a) c K) : TC tab ext n E L c K :=
  fun ρ Rs T H hT hl hs => let ⟨a, h1⟩ := h ρ H _ hs; k a ρ Rs T H hT hl h1
theorem TC.ent {c : RC} {L' : List Asr} (h : LEnt L L') (k : TC tab ext n E L' c K) : TC tab ext n E L c K :=
  fun ρ Rs T H hT hl hs => k ρ Rs T H hT hl (h ρ H _ hs)
theorem TC.env {c : RC} {E' : Env} (h : ELe E' E) (k : TC tab ext n E' L c K) : TC tab ext n E L c K :=
  fun ρ Rs T H hT hl hs => k ρ Rs T H hT (h.lv hl) hs
theorem TC.mono {c : RC} {K' : Pst} (h : TC tab ext n E L c K) (hk : ∀ e E L, K e E L → K' e E L) : TC tab ext n E L c K' := fun ρ Rs T H hT hl hs =>
  wpC_mono (fun _ _ _ ⟨E', L', h1, h2⟩ => ⟨E', L', hk _ _ _ h1, h2⟩) (h ρ Rs T H hT hl hs)
theorem TC.loop {c : RC} {α : Type} (m : α → Nat) (I : α → Prop) (Ei : α → Env) (Li : α → List Asr) (a0 : α) (h0 : I a0) (hE : ELe (Ei a0) E) (hL : LEnt L (Li a0)) (step : ∀ a, I a → TC tab ext n (Ei a) (Li a) c (lpK m I Ei Li a K)) : TC tab ext n E L (.loop c) K := by
  intro ρ Rs T H hT hl hs
  refine loopP_inv (I := fun k T H => T.length = n ∧ ∃ a, I a ∧ m a = k ∧ LvE T (Ei a) ∧ Sat ρ H (Li a ++ Rs)) ?_ (m a0) T H ⟨hT, a0, h0, rfl, hE.lv hl, hL _ _ _ hs⟩
  rintro k T H ⟨hT, a, hI, rfl, hl, hs⟩
  refine wpC_mono ?_ (step a hI ρ Rs T H hT hl hs)
  rintro e T' H' ⟨E', L', h1, h2, h3, h4⟩
  cases e with
  | norm =>
    obtain ⟨a', g0, g1, g2, g3⟩ := h1
    exact ⟨m a', g1, h2, a', g0, rfl, g2.lv h3, g3 _ _ _ h4⟩
  | ret => exact ⟨E', L', h1, h2, h3, h4⟩
  | out id => exact ⟨E', L', h1, h2, h3, h4⟩
theorem TC.mid {α : Type} (I : α → Prop) (Ei : α → Env) (Li : α → List Asr) {c b : RC} (h : TC tab ext n E L c (mdx I Ei Li K)) (k : ∀ p, I p → TC tab ext n (Ei p) (Li p) b K) : TC tab ext n E L c (sq tab ext n b K) :=
  h.mono fun e E' L' hk => by
    cases e with
    | norm => obtain ⟨p, h1, h2, h3⟩ := hk; exact TC.env h2 (TC.ent h3 (k p h1))
    | ret => exact hk
    | out i => exact hk
theorem TC.midb {α : Type} (I : α → Prop) (Ei : α → Env) (Li : α → List Asr) {id : Nat} {c b : RC} (h : TC tab ext n E L c (bk id (mdx I Ei Li K))) (k : ∀ p, I p → TC tab ext n (Ei p) (Li p) b K) : TC tab ext n E L c (bk id (sq tab ext n b K)) :=
  h.mono fun e E' L' hk => by
    cases e with
    | norm => obtain ⟨p, h1, h2, h3⟩ := hk; exact TC.env h2 (TC.ent h3 (k p h1))
    | ret => exact hk
    | out i =>
      simp only [bk] at hk ⊢
      cases hb : Nat.beq i id with
      | true => rw [hb, cond_true] at hk; rw [cond_true]; obtain ⟨p, h1, h2, h3⟩ := hk; exact TC.env h2 (TC.ent h3 (k p h1))
      | false => rw [hb, cond_false] at hk; rw [cond_false]; exact hk
section
variable {α : Type} {I : α → Prop} {Ei : α → Env} {Li : α → List Asr}
theorem md_r (h : K .ret E L) : mdx I Ei Li K .ret E L := h
theorem md_o {i : Nat} (h : K (.out i) E L) : mdx I Ei Li K (.out i) E L := h
theorem md_n (a : α) (h0 : I a) (h2 : ELe (Ei a) E) (h3 : LEnt L (Li a)) : mdx I Ei Li K .norm E L := ⟨a, h0, h2, h3⟩
end
theorem sq_n {b : RC} (h : TC tab ext n E L b K) : sq tab ext n b K .norm E L := h
theorem sq_r {b : RC} (h : K .ret E L) : sq tab ext n b K .ret E L := h
theorem sq_o {b : RC} {i : Nat} (h : K (.out i) E L) : sq tab ext n b K (.out i) E L := h
theorem bk_n {id : Nat} (h : K .norm E L) : bk id K .norm E L := h
theorem bk_r {id : Nat} (h : K .ret E L) : bk id K .ret E L := h
theorem bk_e {id : Nat} (h : K .norm E L) : bk id K (.out id) E L := by simp only [bk]; rw [Nat.beq_refl, cond_true]; exact h
theorem bk_o {id i : Nat} (hi : Nat.beq i id = false) (h : K (.out i) E L) : bk id K (.out i) E L := by simp only [bk]; rw [hi, cond_false]; exact h
section
variable {α : Type} {m : α → Nat} {I : α → Prop} {Ei : α → Env} {Li : α → List Asr} {a : α}
theorem lp_r (h : K .ret E L) : lpK m I Ei Li a K .ret E L := h
theorem lp_o {i : Nat} (h : K (.out i) E L) : lpK m I Ei Li a K (.out i) E L := h
theorem lp_n (a' : α) (h0 : I a') (h1 : m a' < m a) (h2 : ELe (Ei a') E) (h3 : LEnt L (Li a')) : lpK m I Ei Li a K .norm E L := ⟨a', h0, h1, h2, h3⟩
end
theorem rt_n {rs : List RRes} {Q : AV → List Asr → Prop} {v : AV} {P' : List Asr} (h1 : resE E L rs v) (h2 : Q v P') (h3 : LEnt L P') : rt rs Q .norm E L := ⟨v, P', h1, h2, h3⟩
theorem rt_r {rs : List RRes} {Q : AV → List Asr → Prop} {v : AV} {P' : List Asr} (h1 : resE E L rs v) (h2 : Q v P') (h3 : LEnt L P') : rt rs Q .ret E L := ⟨v, P', h1, h2, h3⟩
theorem resE2 {E : Env} {L : List Asr} {t1 t2 : Nat} {x1 x2 : SV} (h1 : look E t1 = some (.s x1)) (h2 : look E t2 = some (.s x2)) : resE E L [.tmp t1, .tmp t2] (.tup [.s x1, .s x2]) := ⟨_, rfl, h1, h2, trivial⟩
def env0 : Nat → List AV → Env
  | _, [] => []
  | i, v :: vs => (i, v) :: env0 (i + 1) vs
theorem env0_lv : ∀ (vs : List AV) (i : Nat) (T : List AV), (∀ j v, vs[j]? = some v → sl T (i + j) = v) → LvE T (env0 i vs)
  | [], i, T, _ => fun j v h => by simp [env0, look] at h
  | v :: vs, i, T, h => fun j u hu => by
    simp only [env0, look] at hu
    cases hb : Nat.beq i j with
    | true =>
      rw [hb, cond_true] at hu
      cases hu
      have := Nat.eq_of_beq_eq_true hb
      subst this
      simpa using h 0 v (by simp)
    | false =>
      rw [hb, cond_false] at hu
      exact env0_lv vs (i + 1) T (fun k w hw => by rw [show i + 1 + k = i + (k + 1) by omega]; exact h (k + 1) w (by simpa using hw)) j u hu
theorem resE_ok {ρ : HF} {H : AH} {R : List Asr} {T : List AV} (hl : LvE T E) (hs : Sat ρ H (L ++ R)) {rs : List RRes} {v : AV} (h : resE E L rs v) : resA rs T H = some v := by
  have one : ∀ {t : Nat} {u : AV}, look E t = some u → T.getD t undef = u := fun h => hl _ _ h
  have many : ∀ {rs : List RRes} {ps : List Part}, resE.resL E L rs ps → ∃ vs, rs.mapM (resA1 T H) = some vs ∧ partsA vs = some ps := by
    intro rs
    induction rs with
    | nil => intro ps h; cases ps with
      | nil => exact ⟨[], rfl, rfl⟩
      | cons => simp [resE.resL] at h
    | cons r rs ih =>
      intro ps h
      cases ps with
      | nil => cases r <;> simp [resE.resL] at h
      | cons p ps =>
        cases r with
        | tmp t =>
          obtain ⟨h1, h2⟩ := h
          obtain ⟨vs, g1, g2⟩ := ih h2
          have e0 : resA1 T H (.tmp t) = some p.av := congrArg some (one h1)
          refine ⟨p.av :: vs, by simp [List.mapM_cons, e0, g1], ?_⟩
          simp only [partsA, g2]
          cases p <;> rfl
        | cell t m =>
          obtain ⟨⟨b, o, h1, h3⟩, h2⟩ := h
          obtain ⟨vs, g1, g2⟩ := ih h2
          have : resA1 T H (.cell t m) = some p.av := by
            simp only [resA1, one h1]
            rcases h3 with ⟨rfl, x, rfl, h4⟩ | ⟨k, l, rfl, rfl, h4⟩
            · show (H.ld b o).map AV.s = _; rw [h4.of ρ H R hs]; rfl
            · show (H.ldn b o k).map AV.agg = _; rw [h4.of ρ H R hs]; rfl
          refine ⟨p.av :: vs, by simp [List.mapM_cons, this, g1], ?_⟩
          simp only [partsA, g2]
          cases p <;> rfl
  unfold resE at h
  unfold resA
  split at h
  · exact congrArg some (one h)
  · obtain ⟨b, o, h1, h3⟩ := h
    simp only [resA1, one h1]
    rcases h3 with ⟨rfl, x, rfl, h4⟩ | ⟨k, l, rfl, rfl, h4⟩
    · show (H.ld b o).map AV.s = _; rw [h4.of ρ H R hs]; rfl
    · show (H.ldn b o k).map AV.agg = _; rw [h4.of ρ H R hs]; rfl
  · rename_i h1 h2
    obtain ⟨ps, rfl, h3⟩ := h
    obtain ⟨vs, g1, g2⟩ := many h3
    split
    · rename_i r
      cases r with
      | tmp t => exact absurd rfl (h1 t)
      | cell t m => exact absurd rfl (h2 t m)
    · simp [g1, g2]
theorem Tri.go {f : Nat} {rf : RFunc} {args : List AV} {P : List Asr} {Q : AV → List Asr → Prop} (hf : tab f = some rf) (ha : Nat.ble args.length rf.ntmps = true) (h : TC tab ext rf.ntmps (env0 0 args) P rf.body (rt rf.results Q)) : Tri tab ext f args P Q := by
  intro ρ H R hs
  refine CallP_of hf (wpC_mono ?_ (h ρ R _ H ?_ (env0_lv args 0 _ fun j v hv => ?_) hs))
  · rintro e T' H' ⟨E', L', h1, h2, h3, h4⟩
    have key : (∃ v P', resE E' L' rf.results v ∧ Q v P' ∧ LEnt L' P') → andThen (resA rf.results T' H') fun v => ∃ P', Q v P' ∧ Sat ρ H' (P' ++ R) := by
      rintro ⟨v, P', g1, g2, g3⟩
      exact ⟨v, resE_ok h3 h4 g1, P', g2, g3 _ _ _ h4⟩
    cases e with
    | norm => exact key h1
    | ret => exact key h1
    | out id => exact h1.elim
  · simp; have := Nat.le_of_ble_eq_true ha; omega
  · have hj := (List.getElem?_eq_some_iff.1 hv).1
    simp only [sl, Nat.zero_add, List.getD_eq_getElem?_getD]
    rw [List.getElem?_append_left hj, hv]; rfl
end
end Go.AM
