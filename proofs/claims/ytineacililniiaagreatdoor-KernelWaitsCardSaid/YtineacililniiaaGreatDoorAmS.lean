/-
  THE ABSTRACT MACHINE: things on the heap side by side; what a call does with some of them leaves the others.
-/
import Derived.Test.YtineacililniiaaGreatDoorAmP
namespace Go.AM

abbrev HF := Nat → Option Blk

/- ---- what may only be read stays ---- -/

/-- What may only be read, of ρ, lies there. -/
def RoOf (ρ : HF) (H : AH) : Prop := ∀ b l, ρ b = some (.cells true l) → H.blk b = some (.cells true l)

def ROrec (rec : Nat → List AV → AH → Option (AV × AH)) : Prop := ∀ ρ f args H v H', rec f args H = some (v, H') → RoOf ρ H → RoOf ρ H'

section
variable {ρ : HF} {H : AH}

theorem RoOf.bump (h : RoOf ρ H) (n : Nat) : RoOf ρ (H.bump n) := h
theorem RoOf.set (h : RoOf ρ H) {b : Nat} (hb : ∀ l, H.blk b ≠ some (.cells true l)) (x : Blk) : RoOf ρ (H.set b x) := by
  intro c l hc
  have := h c l hc
  have hne : c ≠ b := fun he => by subst he; exact hb l this
  rw [set_blk, if_neg hne]
  exact this

theorem stn_ro {H' : AH} (h : RoOf ρ H) {b o : Nat} {l : List SV} (hs : H.stn b o l = some H') : RoOf ρ H' := by
  unfold AH.stn at hs
  split at hs
  · rename_i l' hb
    split at hs
    · cases hs
      exact h.set (fun l hl => by rw [hb] at hl; cases hl) _
    · cases hs
  · cases hs

theorem new_ro {H' : AH} (h : RoOf ρ H) {b : Nat} {x : Blk} (hs : H.new b x = some H') : RoOf ρ H' := by
  unfold AH.new at hs
  split at hs
  · rename_i hb
    cases hs; exact h.set (fun l hl => by rw [hb] at hl; cases hl) _
  · cases hs

theorem opA_ro {rec : Nat → List AV → AH → Option (AV × AH)} (hr : ROrec rec) {f : Opd → AV} {id : Nat} {H' : AH} {r : ROp} {v : AV} (h : opA rec f id H r = some (v, H')) (hw : RoOf ρ H) : RoOf ρ H' := by
  unfold opA at h
  split at h
  · simp only [Option.map_eq_some_iff, Prod.mk.injEq] at h
    obtain ⟨_, _, _, rfl⟩ := h; exact hw
  · simp only [Option.map_eq_some_iff, Prod.mk.injEq] at h
    obtain ⟨_, _, _, rfl⟩ := h; exact hw
  · simp only [Option.bind_eq_some_iff, Option.map_eq_some_iff, Prod.mk.injEq] at h
    obtain ⟨_, _, _, h1, _, rfl⟩ := h; exact new_ro hw h1
  · cases r with
    | store n b u =>
      simp only [effO, Option.map_eq_some_iff, Prod.mk.injEq] at h
      obtain ⟨_, h1, _, rfl⟩ := h
      unfold storeA at h1
      split at h1
      · split at h1
        · split at h1
          · exact stn_ro hw h1
          · cases h1
        · cases h1
      · cases h1
    | append esz bytes s x =>
      simp only [effO, appendA] at h
      split at h
      · simp only [Option.bind_eq_some_iff] at h
        obtain ⟨_, _, _, _, h⟩ := h
        split at h
        · split at h
          · cases h; exact hw
          · simp only [Option.map_eq_some_iff, Prod.mk.injEq] at h
            obtain ⟨_, h1, _, rfl⟩ := h; exact new_ro hw h1
        · cases h
      · simp only [Option.bind_eq_some_iff] at h
        obtain ⟨_, _, _, _, h⟩ := h
        split at h
        · split at h
          · simp only [Option.map_eq_some_iff, Prod.mk.injEq] at h
            obtain ⟨_, h1, _, rfl⟩ := h; exact stn_ro hw h1
          · split at h
            · rename_i hb
              split at h
              · simp only [Option.map_eq_some_iff, Prod.mk.injEq] at h
                obtain ⟨_, h1, _, rfl⟩ := h
                exact new_ro (hw.set (fun l hl => by rw [hb] at hl; cases hl) _) h1
              · cases h
            · cases h
        · cases h
      · cases h
    | copy esz d s =>
      simp only [effO, copyA] at h
      split at h
      · simp only [Option.bind_eq_some_iff] at h
        obtain ⟨_, _, _, _, h⟩ := h
        cases h; exact hw
      · simp only [Option.bind_eq_some_iff] at h
        obtain ⟨_, _, _, _, h⟩ := h
        split at h
        · simp only [Option.map_eq_some_iff, Prod.mk.injEq] at h
          obtain ⟨_, h1, _, rfl⟩ := h; exact stn_ro hw h1
        · cases h
      · cases h
    | clear esz z x =>
      simp only [effO, Option.map_eq_some_iff, Prod.mk.injEq] at h
      obtain ⟨_, h1, _, rfl⟩ := h
      unfold clearA at h1
      split at h1
      · cases h1; exact hw
      · split at h1
        · cases h1; exact hw
        · split at h1
          · exact stn_ro hw h1
          · cases h1
      · cases h1
    | call f args => exact hr _ _ _ _ _ _ h hw
    | callv x args =>
      simp only [effO] at h
      split at h
      · exact hr _ _ _ _ _ _ h hw
      · exact hr _ _ _ _ _ _ h hw
      · cases h
    | hop g args =>
      simp only [effO] at h
      rcases hopA_cases h with rfl | h1 | ⟨r, es, es', hb, rfl⟩
      · exact hw
      · exact new_ro hw h1
      · exact hw.set (fun l hl => by rw [hb] at hl; cases hl) _
    | _ => simp [effO] at h
end

section
variable {ρ : HF} {rec : Nat → List AV → AH → Option (AV × AH)}

theorem regA_ro (hr : ROrec rec) {base : Nat} : ∀ {l : List ROper} {T T' : List AV} {H H' : AH}, regA rec base l T H = some (T', H') → RoOf ρ H → RoOf ρ H'
  | [], T, T', H, H', h, hw => by simp only [regA] at h; cases h; exact hw
  | r :: l, T, T', H, H', h, hw => by
    simp only [regA, Option.bind_eq_some_iff] at h
    obtain ⟨⟨T1, H1⟩, h1, h2⟩ := h
    split at h2
    · have hw1 : RoOf ρ H1 := by
        unfold stepA at h1
        split at h1
        · simp only [Option.map_eq_some_iff, Prod.mk.injEq] at h1
          obtain ⟨⟨v, H2⟩, h3, _, rfl⟩ := h1
          exact opA_ro hr h3 hw
        · cases h1; exact hw
      exact regA_ro hr h2 hw1
    · cases h2

theorem iterA_ro {f : List AV → AH → Option (Ex × List AV × AH)} (hf : ∀ T H e T' H', f T H = some (e, T', H') → RoOf ρ H → RoOf ρ H') : ∀ (n : Nat) {T T' : List AV} {H H' : AH} {e : Ex}, iterA f n T H = some (e, T', H') → RoOf ρ H → RoOf ρ H'
  | 0, _, _, _, _, _, h, _ => by simp [iterA] at h
  | n + 1, T, T', H, H', e, h, hw => by
    simp only [iterA, Option.bind_eq_some_iff] at h
    obtain ⟨⟨e1, T1, H1⟩, h1, h2⟩ := h
    have k := hf _ _ _ _ _ h1 hw
    cases e1 with
    | norm => exact iterA_ro hf n h2 k
    | ret => simp only at h2; cases h2; exact k
    | out id => simp only at h2; cases h2; exact k

theorem rcA_ro (hr : ROrec rec) {fuel : Nat} : ∀ (c : RC) {T T' : List AV} {H H' : AH} {e : Ex}, rcA rec fuel c T H = some (e, T', H') → RoOf ρ H → RoOf ρ H'
  | .skip, _, _, _, _, _, h, hw => by simp only [rcA] at h; cases h; exact hw
  | .ret, _, _, _, _, _, h, hw => by simp only [rcA] at h; cases h; exact hw
  | .exit _, _, _, _, _, _, h, hw => by simp only [rcA] at h; cases h; exact hw
  | .region n ops, T, T', H, H', e, h, hw => by
    simp only [rcA, Option.map_eq_some_iff] at h
    obtain ⟨⟨T1, H1⟩, h1, h2⟩ := h
    cases h2
    exact regA_ro hr h1 (hw.bump n)
  | .seq a b, T, T', H, H', e, h, hw => by
    simp only [rcA, Option.bind_eq_some_iff] at h
    obtain ⟨⟨e1, T1, H1⟩, h1, h2⟩ := h
    have k := rcA_ro hr a h1 hw
    cases e1 with
    | norm => exact rcA_ro hr b h2 k
    | ret => simp only at h2; cases h2; exact k
    | out id => simp only at h2; cases h2; exact k
  | .cond c a b, T, T', H, H', e, h, hw => by
    simp only [rcA] at h
    split at h
    · exact rcA_ro hr a h hw
    · exact rcA_ro hr b h hw
    · cases h
  | .block id a, T, T', H, H', e, h, hw => by
    simp only [rcA, Option.map_eq_some_iff] at h
    obtain ⟨⟨e1, T1, H1⟩, h1, h2⟩ := h
    cases h2
    exact rcA_ro hr a h1 hw
  | .loop a, T, T', H, H', e, h, hw => by
    simp only [rcA] at h
    exact iterA_ro (f := rcA rec fuel a) (fun _ _ _ _ _ h => rcA_ro hr a h) fuel h hw
end

theorem run_ro {tab : Nat → Option RFunc} {ext : Nat → List AV → AH → Option (AV × AH)} (he : ROrec ext) : ∀ n, ROrec (run tab ext n)
  | 0 => fun ρ f args H v H' h _ => by simp [run] at h
  | n + 1 => by
    intro ρ f args H v H' h hw
    simp only [run] at h
    split at h
    · exact he _ _ _ _ _ _ h hw
    · simp only [Option.bind_eq_some_iff] at h
      obtain ⟨⟨e1, T1, H1⟩, h1, h2⟩ := h
      have k := rcA_ro (run_ro he n) _ h1 hw
      split at h2
      · cases h2
      · simp only [Option.map_eq_some_iff, Prod.mk.injEq] at h2
        obtain ⟨_, _, _, rfl⟩ := h2
        exact k

theorem noExt_ro : ROrec noExt := fun _ _ _ _ _ _ h => by cases h

theorem CallP.mono_ro {tab : Nat → Option RFunc} {ext : Nat → List AV → AH → Option (AV × AH)} (he : ROrec ext) {ρ : HF} {f : Nat} {args : List AV} {H : AH} (hw : RoOf ρ H) {K K' : AV → AH → Prop} (h : CallP tab ext f args H K) (hk : ∀ v H', RoOf ρ H' → K v H' → K' v H') : CallP tab ext f args H K' :=
  let ⟨n, v, H', h1, h2⟩ := h; ⟨n, v, H', h1, hk v H' (run_ro he n _ _ _ _ _ _ h1 hw) h2⟩


/-- A thing on the heap: what blocks hold, with the blocks that it has (ρ: what may only be read). -/
structure Asr where
  p : HF → HF → List Nat → Prop
  loc : ∀ {ρ f g : HF} {S : List Nat}, (∀ b ∈ S, g b = f b) → p ρ f S → p ρ g S

inductive SatL (ρ f : HF) : List Asr → List Nat → Prop
  | nil : SatL ρ f [] []
  | cons {A : Asr} {l : List Asr} {S S' : List Nat} : A.p ρ f S → SatL ρ f l S' → (∀ b ∈ S, b ∉ S') → SatL ρ f (A :: l) (S ++ S')

theorem SatL.nil_inv {ρ f : HF} {S : List Nat} (h : SatL ρ f [] S) : S = [] := by cases h; rfl
theorem SatL.cons_inv {ρ f : HF} {A : Asr} {l : List Asr} {S : List Nat} (h : SatL ρ f (A :: l) S) : ∃ S1 S2, S = S1 ++ S2 ∧ A.p ρ f S1 ∧ SatL ρ f l S2 ∧ ∀ b ∈ S1, b ∉ S2 := by
  cases h with | cons h1 h2 h3 => exact ⟨_, _, rfl, h1, h2, h3⟩

theorem SatL.loc {ρ f g : HF} {l : List Asr} {S : List Nat} (h : SatL ρ f l S) (hg : ∀ b ∈ S, g b = f b) : SatL ρ g l S := by
  induction h with
  | nil => exact .nil
  | cons h1 h2 h3 ih => exact .cons (Asr.loc _ (fun b hb => hg b (by simp [hb])) h1) (ih fun b hb => hg b (by simp [hb])) h3

theorem SatL.append {ρ f : HF} {l r : List Asr} {S S' : List Nat} (h : SatL ρ f l S) (h' : SatL ρ f r S') (hd : ∀ b ∈ S, b ∉ S') : SatL ρ f (l ++ r) (S ++ S') := by
  induction h with
  | nil => exact h'
  | cons h1 h2 h3 ih =>
    rw [List.cons_append, List.append_assoc]
    exact .cons h1 (ih fun b hb => hd b (by simp [hb])) fun b hb => by simp; exact ⟨h3 b hb, hd b (by simp [hb])⟩

theorem SatL.append_inv {ρ f : HF} {l r : List Asr} {S : List Nat} (h : SatL ρ f (l ++ r) S) : ∃ S1 S2, S = S1 ++ S2 ∧ SatL ρ f l S1 ∧ SatL ρ f r S2 ∧ ∀ b ∈ S1, b ∉ S2 := by
  induction l generalizing S with
  | nil => exact ⟨[], S, rfl, .nil, h, by simp⟩
  | cons A l ih =>
    obtain ⟨S1, S2, rfl, h1, h2, h3⟩ := SatL.cons_inv h
    obtain ⟨T1, T2, rfl, k1, k2, k3⟩ := ih h2
    simp only [List.mem_append, not_or] at h3
    refine ⟨S1 ++ T1, T2, by simp, .cons h1 k1 fun b hb => (h3 b hb).1, k2, fun b hb => ?_⟩
    rcases List.mem_append.1 hb with hb | hb
    · exact (h3 b hb).2
    · exact k3 b hb

theorem SatL.perm {ρ f : HF} {l l' : List Asr} (hp : l.Perm l') : ∀ {S : List Nat}, SatL ρ f l S → ∃ S', SatL ρ f l' S' ∧ ∀ b, b ∈ S' ↔ b ∈ S := by
  induction hp with
  | nil => exact fun h => ⟨_, h, fun _ => Iff.rfl⟩
  | cons A _ ih =>
    intro S h
    obtain ⟨S1, S2, rfl, h1, h2, h3⟩ := SatL.cons_inv h
    obtain ⟨T, k1, k2⟩ := ih h2
    exact ⟨S1 ++ T, .cons h1 k1 fun b hb => by rw [k2]; exact h3 b hb, fun b => by simp [k2]⟩
  | swap A B l =>
    intro S h
    obtain ⟨S1, S2, rfl, h1, h2, h3⟩ := SatL.cons_inv h
    obtain ⟨T1, T2, rfl, k1, k2, k3⟩ := SatL.cons_inv h2
    simp only [List.mem_append, not_or] at h3
    refine ⟨T1 ++ (S1 ++ T2), .cons k1 (.cons h1 k2 fun b hb => (h3 b hb).2) ?_, fun b => by simp only [List.mem_append]; exact ⟨fun h => by rcases h with h | h | h <;> simp [h], fun h => by rcases h with h | h | h <;> simp [h]⟩⟩
    intro b hb
    simp only [List.mem_append, not_or]
    exact ⟨fun hs => (h3 b hs).1 hb, k3 b hb⟩
  | trans _ _ ih1 ih2 =>
    intro S h
    obtain ⟨T, k1, k2⟩ := ih1 h
    obtain ⟨U, m1, m2⟩ := ih2 k1
    exact ⟨U, m1, fun b => (m2 b).trans (k2 b)⟩

/-- These things lie on the heap, each by itself. -/
def Sat (ρ : HF) (H : AH) (l : List Asr) : Prop := (WF H ∧ RoOf ρ H) ∧ ∃ S, SatL ρ H.blk l S ∧ ∀ b ∈ S, b < H.next

section
variable {ρ : HF}
theorem Sat.wf {H : AH} {l : List Asr} (h : Sat ρ H l) : WF H := h.1.1
theorem Sat.roOf {H : AH} {l : List Asr} (h : Sat ρ H l) : RoOf ρ H := h.1.2
theorem Sat.nil {H : AH} (h : WF H) (h' : RoOf ρ H) : Sat ρ H [] := ⟨⟨h, h'⟩, [], .nil, by simp⟩

theorem Sat.perm {H : AH} {l l' : List Asr} (h : Sat ρ H l) (hp : l.Perm l') : Sat ρ H l' := by
  obtain ⟨hw, S, h1, h2⟩ := h
  obtain ⟨T, k1, k2⟩ := h1.perm hp
  exact ⟨hw, T, k1, fun b hb => h2 b ((k2 b).1 hb)⟩

/-- The thing at a place comes to the front. -/
theorem Sat.front {H : AH} {l : List Asr} (h : Sat ρ H l) (i : Nat) (hi : i < l.length) : Sat ρ H (l[i] :: l.eraseIdx i) := by
  refine h.perm ?_
  have h1 : l = l.take i ++ l[i] :: l.drop (i + 1) := by simp
  have h2 : l.eraseIdx i = l.take i ++ l.drop (i + 1) := List.eraseIdx_eq_take_drop_succ l i
  rw [h2]
  conv => lhs; rw [h1]
  exact List.perm_middle

/-- What is nothing. -/
def Asr.emp : Asr := ⟨fun _ _ S => S = [], fun _ h => h⟩

theorem perm_idx {l : List Asr} {idx : List Nat} (h : idx.Perm (List.range l.length)) : l.Perm (idx.map fun i => (l[i]?).getD Asr.emp) := by
  have h1 : l = (List.range l.length).map fun i => (l[i]?).getD Asr.emp := by
    apply List.ext_getElem?
    intro i
    by_cases hi : i < l.length
    · simp [hi]
    · rw [List.getElem?_eq_none (by omega), List.getElem?_eq_none (by simp; omega)]
  conv => lhs; rw [h1]
  exact (h.map _).symm

/-- The first so many things in another order. -/
theorem Sat.re {H : AH} {l : List Asr} (h : Sat ρ H l) (idx : List Nat) (hn : idx.length ≤ l.length) (hp : idx.Perm (List.range idx.length)) : Sat ρ H ((idx.map fun i => (l[i]?).getD Asr.emp) ++ l.drop idx.length) := by
  refine h.perm ?_
  have h1 : l = l.take idx.length ++ l.drop idx.length := (List.take_append_drop _ _).symm
  have hl : (l.take idx.length).length = idx.length := by rw [List.length_take]; omega
  have h2 := perm_idx (l := l.take idx.length) (idx := idx) (by rw [hl]; exact hp)
  have h3 : (idx.map fun i => ((l.take idx.length)[i]?).getD Asr.emp) = idx.map fun i => (l[i]?).getD Asr.emp := by
    apply List.map_congr_left
    intro i hi
    have : i < idx.length := by simpa using hp.mem_iff.1 hi
    rw [List.getElem?_take, if_pos this]
  rw [h3] at h2
  conv => lhs; rw [h1]
  exact h2.append_right _

theorem Sat.drop {H : AH} {A : Asr} {l : List Asr} (h : Sat ρ H (A :: l)) : Sat ρ H l := by
  obtain ⟨hw, S, h1, h2⟩ := h
  obtain ⟨S1, S2, rfl, _, k2, _⟩ := SatL.cons_inv h1
  exact ⟨hw, S2, k2, fun b hb => h2 b (by simp [hb])⟩

theorem Sat.drops {H : AH} {l r : List Asr} (h : Sat ρ H (l ++ r)) : Sat ρ H r := by
  induction l with
  | nil => exact h
  | cons A l ih => exact ih h.drop

/-- Some of the first n things, in another order; the others of these are let go. -/
theorem Sat.sel {H : AH} {l : List Asr} (h : Sat ρ H l) (idx : List Nat) (n : Nat) (hn : n ≤ l.length) (hp : (idx ++ (List.range n).filter fun i => !idx.contains i).Perm (List.range n)) : Sat ρ H ((idx.map fun i => (l[i]?).getD Asr.emp) ++ l.drop n) := by
  have hl : (idx ++ (List.range n).filter fun i => !idx.contains i).length = n := by rw [hp.length_eq]; simp
  have h1 := h.re (idx ++ (List.range n).filter fun i => !idx.contains i) (by rw [hl]; exact hn) (by rw [hl]; exact hp)
  rw [hl, List.map_append, List.append_assoc] at h1
  refine Sat.drops (l := ((List.range n).filter fun i => !idx.contains i).map fun i => (l[i]?).getD Asr.emp) (h1.perm ?_)
  rw [← List.append_assoc, ← List.append_assoc]
  exact List.Perm.append_right _ List.perm_append_comm

theorem Sat.bump {H : AH} {l : List Asr} (h : Sat ρ H l) (n : Nat) : Sat ρ (H.bump n) l := by
  obtain ⟨hw, S, h1, h2⟩ := h
  exact ⟨⟨hw.1.bump _, hw.2⟩, S, h1, fun b hb => Nat.lt_of_lt_of_le (h2 b hb) (Nat.le_add_right _ _)⟩

end

/- ---- things ---- -/

/-- A block's cells. -/
def Cel (b : Nat) (l : List SV) : Asr := ⟨fun _ f S => S = [b] ∧ f b = some (.cells false l), fun hg ⟨h1, h2⟩ => ⟨h1, by rw [hg b (by simp [h1])]; exact h2⟩⟩
/-- A block that may only be read. -/
def Ro (b : Nat) (l : List SV) : Asr := ⟨fun _ f S => S = [b] ∧ f b = some (.cells true l), fun hg ⟨h1, h2⟩ => ⟨h1, by rw [hg b (by simp [h1])]; exact h2⟩⟩
/-- A name that is free. -/
def Fre (b : Nat) : Asr := ⟨fun _ f S => S = [b] ∧ f b = none, fun hg ⟨h1, h2⟩ => ⟨h1, by rw [hg b (by simp [h1])]; exact h2⟩⟩
def Asr.ex {α : Type} (F : α → Asr) : Asr := ⟨fun ρ f S => ∃ a, (F a).p ρ f S, fun hg ⟨a, h⟩ => ⟨a, (F a).loc hg h⟩⟩
def Asr.pure (P : Prop) : Asr := ⟨fun _ _ S => P ∧ S = [], fun _ h => h⟩
def Asr.all (l : List Asr) : Asr := ⟨fun ρ f S => SatL ρ f l S, fun hg h => h.loc hg⟩
def Asr.or (A B : Asr) : Asr := ⟨fun ρ f S => A.p ρ f S ∨ B.p ρ f S, fun hg h => h.elim (fun h => .inl (A.loc hg h)) (fun h => .inr (B.loc hg h))⟩

section
variable {ρ : HF} {H : AH} {R : List Asr}

theorem Sat.cel {b : Nat} {l : List SV} (h : Sat ρ H (Cel b l :: R)) : H.blk b = some (.cells false l) := by
  obtain ⟨_, S, h1, _⟩ := h
  obtain ⟨S1, S2, rfl, ⟨_, k⟩, _⟩ := SatL.cons_inv h1
  exact k
theorem Sat.ro {b : Nat} {l : List SV} (h : Sat ρ H (Ro b l :: R)) : H.blk b = some (.cells true l) := by
  obtain ⟨_, S, h1, _⟩ := h
  obtain ⟨S1, S2, rfl, ⟨_, k⟩, _⟩ := SatL.cons_inv h1
  exact k
theorem Sat.fre {b : Nat} (h : Sat ρ H (Fre b :: R)) : H.blk b = none := by
  obtain ⟨_, S, h1, _⟩ := h
  obtain ⟨S1, S2, rfl, ⟨_, k⟩, _⟩ := SatL.cons_inv h1
  exact k
theorem Sat.lt {b : Nat} {l : List SV} (h : Sat ρ H (Cel b l :: R)) : b < H.next := by
  obtain ⟨_, S, h1, h2⟩ := h
  obtain ⟨S1, S2, rfl, ⟨rfl, k⟩, _⟩ := SatL.cons_inv h1
  exact h2 b (by simp)
theorem Sat.ro_lt {b : Nat} {l : List SV} (h : Sat ρ H (Ro b l :: R)) : b < H.next := by
  obtain ⟨_, S, h1, h2⟩ := h
  obtain ⟨S1, S2, rfl, ⟨rfl, k⟩, _⟩ := SatL.cons_inv h1
  exact h2 b (by simp)

theorem Sat.ex {α : Type} {F : α → Asr} (h : Sat ρ H (Asr.ex F :: R)) : ∃ a, Sat ρ H (F a :: R) := by
  obtain ⟨hw, S, h1, h2⟩ := h
  obtain ⟨S1, S2, rfl, ⟨a, k⟩, k2, k3⟩ := SatL.cons_inv h1
  exact ⟨a, hw, _, .cons k k2 k3, h2⟩
theorem Sat.mkEx {α : Type} {F : α → Asr} (a : α) (h : Sat ρ H (F a :: R)) : Sat ρ H (Asr.ex F :: R) := by
  obtain ⟨hw, S, h1, h2⟩ := h
  obtain ⟨S1, S2, rfl, k, k2, k3⟩ := SatL.cons_inv h1
  exact ⟨hw, _, .cons (A := Asr.ex F) ⟨a, k⟩ k2 k3, h2⟩
theorem Sat.pure {P : Prop} (h : Sat ρ H (Asr.pure P :: R)) : P ∧ Sat ρ H R := by
  refine ⟨?_, h.drop⟩
  obtain ⟨hw, S, h1, h2⟩ := h
  obtain ⟨S1, S2, rfl, k, k2, k3⟩ := SatL.cons_inv h1
  exact k.1
theorem Sat.mkPure {P : Prop} (hp : P) (h : Sat ρ H R) : Sat ρ H (Asr.pure P :: R) := by
  obtain ⟨hw, S, h1, h2⟩ := h
  exact ⟨hw, _, .cons (A := Asr.pure P) (S := []) ⟨hp, rfl⟩ h1 (by simp), h2⟩
theorem Sat.all {l : List Asr} (h : Sat ρ H (Asr.all l :: R)) : Sat ρ H (l ++ R) := by
  obtain ⟨hw, S, h1, h2⟩ := h
  obtain ⟨S1, S2, rfl, k, k2, k3⟩ := SatL.cons_inv h1
  exact ⟨hw, _, SatL.append k k2 k3, h2⟩
theorem Sat.mkAll {l : List Asr} (h : Sat ρ H (l ++ R)) : Sat ρ H (Asr.all l :: R) := by
  obtain ⟨hw, S, h1, h2⟩ := h
  obtain ⟨S1, S2, rfl, k, k2, k3⟩ := SatL.append_inv h1
  exact ⟨hw, _, .cons (A := Asr.all l) k k2 k3, h2⟩
theorem Sat.or {A B : Asr} (h : Sat ρ H (Asr.or A B :: R)) : Sat ρ H (A :: R) ∨ Sat ρ H (B :: R) := by
  obtain ⟨hw, S, h1, h2⟩ := h
  obtain ⟨S1, S2, rfl, k, k2, k3⟩ := SatL.cons_inv h1
  rcases k with k | k
  · exact .inl ⟨hw, _, .cons k k2 k3, h2⟩
  · exact .inr ⟨hw, _, .cons k k2 k3, h2⟩
theorem Sat.imp {A B : Asr} (hi : ∀ f S, A.p ρ f S → B.p ρ f S) (h : Sat ρ H (A :: R)) : Sat ρ H (B :: R) := by
  obtain ⟨hw, S, h1, h2⟩ := h
  obtain ⟨S1, S2, rfl, k, k2, k3⟩ := SatL.cons_inv h1
  exact ⟨hw, _, .cons (hi _ _ k) k2 k3, h2⟩

/-- A block is stored to. -/
theorem Sat.set {b : Nat} {l : List SV} (h : Sat ρ H (Cel b l :: R)) (l' : List SV) : Sat ρ (H.set b (.cells false l')) (Cel b l' :: R) := by
  obtain ⟨hw, S, h1, h2⟩ := h
  obtain ⟨S1, S2, rfl, ⟨rfl, k⟩, k2, k3⟩ := SatL.cons_inv h1
  refine ⟨⟨hw.1.set (h2 b (by simp)) _, hw.2.set (fun l hl => by rw [k] at hl; cases hl) _⟩, [b] ++ S2, .cons ⟨rfl, by simp⟩ (k2.loc fun c hc => ?_) k3, h2⟩
  rw [set_blk, if_neg]
  rintro rfl
  exact k3 c (by simp) hc
/-- A free name gets a block. -/
theorem Sat.mk {b : Nat} (h : Sat ρ H (Fre b :: R)) (l' : List SV) : Sat ρ (H.set b (.cells false l')) (Cel b l' :: R) := by
  obtain ⟨hw, S, h1, h2⟩ := h
  obtain ⟨S1, S2, rfl, ⟨rfl, k⟩, k2, k3⟩ := SatL.cons_inv h1
  refine ⟨⟨hw.1.set (h2 b (by simp)) _, hw.2.set (fun l hl => by rw [k] at hl; cases hl) _⟩, [b] ++ S2, .cons ⟨rfl, by simp⟩ (k2.loc fun c hc => ?_) k3, h2⟩
  rw [set_blk, if_neg]
  rintro rfl
  exact k3 c (by simp) hc
theorem Sat.kill {b : Nat} {l : List SV} (h : Sat ρ H (Cel b l :: R)) : Sat ρ (H.set b .dead) R := by
  obtain ⟨hw, S, h1, h2⟩ := h
  obtain ⟨S1, S2, rfl, ⟨rfl, k⟩, k2, k3⟩ := SatL.cons_inv h1
  refine ⟨⟨hw.1.set (h2 b (by simp)) _, hw.2.set (fun l hl => by rw [k] at hl; cases hl) _⟩, S2, (k2.loc fun c hc => ?_), fun c hc => h2 c (by simp [hc])⟩
  rw [set_blk, if_neg]
  rintro rfl
  exact k3 c (by simp) hc

/-- The names of a region are free. -/
theorem Sat.free (h : Sat ρ H R) (n i : Nat) (hi : i < n) : Sat ρ (H.bump n) (Fre (H.next + i) :: R) := by
  obtain ⟨hw, S, h1, h2⟩ := h
  refine ⟨⟨hw.1.bump _, hw.2⟩, [H.next + i] ++ S, .cons ⟨rfl, hw.1 _ (Nat.le_add_right _ _)⟩ h1 ?_, fun b hb => ?_⟩
  · intro b hb hs
    simp at hb
    have := h2 b hs; omega
  · simp at hb
    rcases hb with rfl | hb
    · simp; omega
    · have := h2 b hb; simp; omega

theorem Sat.free2 (h : Sat ρ H R) (n i j : Nat) (hi : i < n) (hj : j < n) (hij : i ≠ j) : Sat ρ (H.bump n) (Fre (H.next + i) :: Fre (H.next + j) :: R) := by
  obtain ⟨hw, S, h1, h2⟩ := h
  refine ⟨⟨hw.1.bump _, hw.2⟩, [H.next + i] ++ ([H.next + j] ++ S), .cons ⟨rfl, hw.1 _ (Nat.le_add_right _ _)⟩ (.cons ⟨rfl, hw.1 _ (Nat.le_add_right _ _)⟩ h1 ?_) ?_, fun b hb => ?_⟩
  · intro b hb hs
    simp at hb
    have := h2 b hs; omega
  · intro b hb hs
    simp at hb
    simp only [List.mem_append, List.mem_singleton] at hs
    rcases hs with hs | hs
    · omega
    · have := h2 b hs; omega
  · simp at hb
    rcases hb with rfl | rfl | hb
    · simp; omega
    · simp; omega
    · have := h2 b hb; simp; omega
end

/- ---- calls ---- -/
section
variable (tab : Nat → Option RFunc) (ext : Nat → List AV → AH → Option (AV × AH))

/-- A call that has P leaves all others. -/
def Tri (f : Nat) (args : List AV) (P : List Asr) (Q : AV → List Asr → Prop) : Prop :=
  ∀ ρ H R, Sat ρ H (P ++ R) → CallP tab ext f args H fun v H' => ∃ P', Q v P' ∧ Sat ρ H' (P' ++ R)
end

section
variable {tab : Nat → Option RFunc} {ext : Nat → List AV → AH → Option (AV × AH)} {f : Nat} {args : List AV} {P : List Asr} {Q : AV → List Asr → Prop}

theorem Tri.use (h : Tri tab ext f args P Q) {ρ : HF} {H : AH} {R : List Asr} (hs : Sat ρ H (P ++ R)) {K : AV → AH → Prop} (hk : ∀ v H' P', Q v P' → Sat ρ H' (P' ++ R) → K v H') : CallP tab ext f args H K :=
  (h ρ H R hs).mono fun v H' ⟨P', h1, h2⟩ => hk v H' P' h1 h2

/-- From a contract with the blocks that a thing has. -/
theorem Tri.of (ht : TabWf tab) (he : WFrec ext) (hn : NextOk ext) (hro : ROrec ext) (h : ∀ ρ H S, WF H → RoOf ρ H → SatL ρ H.blk P S → (∀ b ∈ S, b < H.next) → CallP tab ext f args H fun v H' => ∃ P', Q v P' ∧ ∃ S', SatL ρ H'.blk P' S' ∧ (∀ b ∈ S', b ∈ S ∨ H.next ≤ b) ∧ (∀ b ∈ S', b < H'.next) ∧ ∀ b, b < H.next → b ∉ S → H'.blk b = H.blk b) : Tri tab ext f args P Q := by
  intro ρ H R ⟨hw, S, h1, h2⟩
  obtain ⟨S1, S2, rfl, k1, k2, k3⟩ := h1.append_inv
  refine ((h ρ H S1 hw.1 hw.2 k1 fun b hb => h2 b (by simp [hb])).mono_wf ht he hn hw.1 (K' := fun v H' => WF H' ∧ H.next ≤ H'.next ∧ _) fun v H' a b c => ⟨a, b, c⟩).mono_ro hro hw.2 ?_
  rintro v H' hro' ⟨hw', hle, P', hq, S', m1, m2, m3, m4⟩
  refine ⟨P', hq, ⟨hw', hro'⟩, S' ++ S2, m1.append (k2.loc fun b hb => m4 b (h2 b (by simp [hb])) fun hs => k3 b hs hb) ?_, ?_⟩
  · intro b hb hs
    rcases m2 b hb with h | h
    · exact k3 b h hs
    · have := h2 b (by simp [hs]); omega
  · intro b hb
    rcases List.mem_append.1 hb with hb | hb
    · exact m3 b hb
    · exact Nat.lt_of_lt_of_le (h2 b (by simp [hb])) hle
end

end Go.AM
