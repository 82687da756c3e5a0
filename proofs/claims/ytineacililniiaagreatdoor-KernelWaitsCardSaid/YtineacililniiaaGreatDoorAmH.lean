/-
  THE ABSTRACT MACHINE: whole functions. What its run gives, the model's call gives.
-/
import Derived.Test.YtineacililniiaaGreatDoorAmG
import Derived.LoopN
namespace Go.AM

variable {P : Program} {G : List Nat} {φ : Phi} {T : List AV} {a : Act} {w : World} {B : Nat} {w0 : World} {H H' : AH}

def chkGuard (ops : Array Oper) : Option (Nat × Bool) → Option (Nat × Bool) → Bool
  | none, none => true
  | some (j, b), some (t, b') => decide ((ops[j]?).bind (·.dst) = some t) && b == b'
  | _, _ => false

def chkOper (P : Program) (G : List Nat) (ops : Array Oper) (o : Oper) (r : ROper) : Bool :=
  decide (r.dst = o.dst) && chkGuard ops o.guard r.guard && chkOp P G r.op o.op

theorem wanted_eq {ops : Array Oper} {o : Oper} {g : Option (Nat × Bool)} (hc : chkGuard ops o.guard g = true) (hT : TRel φ T a.tmps) : Region.wanted o (yielded ops a.tmps) = wantedA T g := by
  unfold chkGuard at hc
  split at hc
  · rename_i h1
    simp [Region.wanted, h1, wantedA]
  · rename_i j b t b' h1
    simp only [Bool.and_eq_true, decide_eq_true_eq, beq_iff_eq] at hc
    obtain ⟨h2, h3⟩ := hc
    subst h3
    simp only [Region.wanted, h1, yielded, h2, wantedA, Option.bind_some]
    have hg := hT.get t
    have hb : ∀ c, a.tmps[t]? = some (.bool c) ↔ T.getD t undef = .s (.bool c) := by
      intro c
      constructor
      · intro hc
        rw [Array.getD_eq_getD_getElem?, hc] at hg
        simp only [Option.getD_some] at hg
        generalize T.getD t undef = x at hg
        cases x with
        | s x => cases x with
          | bool d => simp only [AVRel, SVRel, Value.bool.injEq] at hg; rw [hg]
          | ptr p => cases p <;> simp [AVRel, SVRel] at hg
          | slice p => cases p <;> simp [AVRel, SVRel] at hg
          | map p => cases p <;> simp [AVRel, SVRel] at hg
          | _ => simp [AVRel, SVRel] at hg
        | agg l => obtain ⟨_, _, h⟩ := hg; cases h
        | tup l => obtain ⟨_, _, h⟩ := hg; cases h
      · intro hc
        rw [hc] at hg
        have hg : a.tmps.getD t Go.undef = .bool c := hg
        rw [Array.getD_eq_getD_getElem?] at hg
        cases hx : a.tmps[t]? with
        | none => rw [hx] at hg; cases hg
        | some y => rw [hx] at hg; simp only [Option.getD_some] at hg; rw [hg]
    cases hx : a.tmps[t]? with
    | none =>
      have : ∀ c, T.getD t undef ≠ .s (.bool c) := fun c hc => by rw [(hb c).2 hc] at hx; cases hx
      generalize T.getD t undef = x at *
      cases x with
      | s x => cases x <;> first | rfl | exact absurd rfl (this _)
      | _ => rfl
    | some y =>
      cases y with
      | bool c => rw [(hb c).1 hx]; cases c <;> cases b <;> rfl
      | _ =>
        have : ∀ c, T.getD t undef ≠ .s (.bool c) := fun c hc => by rw [(hb c).2 hc] at hx; cases hx
        generalize T.getD t undef = x at *
        cases x with
        | s x => cases x <;> first | rfl | exact absurd rfl (this _)
        | _ => rfl
  · cases hc

/-- What holds of a state of the model. -/
structure St (B : Nat) (w0 : World) (G : List Nat) (φ : Phi) (T : List AV) (H : AH) (a : Act) (w : World) : Prop where
  heap : HRel B w0 φ H w
  tmps : TRel φ T a.tmps
  glob : GRel G φ
  defs : a.defers = []

theorem put_defers (a : Act) (d : Option Tmp) (v : Value) : (a.put d v).defers = a.defers := by cases d <;> rfl

/-- One operation of a region. -/
theorem step_sim {rec : Nat → List AV → AH → Option (AV × AH)} (hrec : CallsOk P G B w0 rec) (hs : St B w0 G φ T H a w) {ops : Array Oper} {o : Oper} {r : ROper} (hc : chkOper P G ops o r = true) {base : Nat} (hid : base + r.idx < H.next)
    {T' : List AV} (h : stepA rec base r T H = some (T', H')) {K : Act → World → Prop} {Q : Exit → Act → World → Prop} (hK : ∀ φ' a' w', Ext φ φ' → St B w0 G φ' T' H' a' w' → K a' w') :
    if Region.wanted o (yielded ops a.tmps) then o.wp P a w K Q else K (a.put o.dst Go.undef) w := by
  simp only [chkOper, Bool.and_eq_true, decide_eq_true_eq] at hc
  obtain ⟨⟨h1, h2⟩, h3⟩ := hc
  rw [wanted_eq h2 hs.tmps]
  unfold stepA at h
  split at h
  · rename_i hw
    rw [if_pos hw]
    simp only [Option.map_eq_some_iff, Prod.mk.injEq] at h
    obtain ⟨⟨v, H1⟩, ho, h4, h5⟩ := h
    subst h4; subst h5
    refine op_sim hrec hs.heap hs.tmps hs.glob h3 hid ho ?_
    intro φ' cv w' e1 e2 e3
    exact hK φ' _ w' e1 ⟨e2, by rw [← h1]; exact (hs.tmps.mono e1).put _ e3, hs.glob.mono e1, by rw [put_defers]; exact hs.defs⟩
  · rename_i hw
    rw [if_neg hw]
    simp only [Option.some.injEq, Prod.mk.injEq] at h
    obtain ⟨rfl, rfl⟩ := h
    exact hK φ _ w (Ext.refl _) ⟨hs.heap, by rw [← h1]; exact hs.tmps.put _ (AVRel_undef _), hs.glob, by rw [put_defers]; exact hs.defs⟩

def plainOpers (P : Program) (G : List Nat) (ops : Array Oper) (n : Nat) : List Oper → List ROper → Bool
  | [], [] => true
  | o :: os, r :: rs => chkOper P G ops o r && decide (r.idx < n) && r.watch.isEmpty && plainOpers P G ops n os rs
  | _, _ => false

def exOf : Ex → Exit
  | .norm => .normal
  | .ret => .ret
  | .out id => .exit id

/-- A number of ids is kept by what a step does. -/
def NextOk (rec : Nat → List AV → AH → Option (AV × AH)) : Prop := ∀ f args H v H', rec f args H = some (v, H') → H.next ≤ H'.next

theorem stn_next {b o : Nat} {l : List SV} (h : H.stn b o l = some H') : H'.next = H.next := by
  unfold AH.stn at h
  split at h
  · split at h
    · cases h; rfl
    · cases h
  · cases h

theorem new_next {id : Nat} {x : Blk} (h : H.new id x = some H') : H'.next = H.next := by
  unfold AH.new at h
  split at h
  · cases h; rfl
  · cases h

theorem opA_next {rec : Nat → List AV → AH → Option (AV × AH)} (hr : NextOk rec) {ρ : Opd → AV} {id : Nat} {r : ROp} {v : AV} (h : opA rec ρ id H r = some (v, H')) : H.next ≤ H'.next := by
  unfold opA at h
  split at h
  · simp only [Option.map_eq_some_iff, Prod.mk.injEq] at h
    obtain ⟨_, _, _, rfl⟩ := h; exact Nat.le_refl _
  · simp only [Option.map_eq_some_iff, Prod.mk.injEq] at h
    obtain ⟨_, _, _, rfl⟩ := h; exact Nat.le_refl _
  · simp only [Option.bind_eq_some_iff, Option.map_eq_some_iff, Prod.mk.injEq] at h
    obtain ⟨_, _, _, h1, _, rfl⟩ := h; exact Nat.le_of_eq (new_next h1).symm
  · cases r with
    | store n b u =>
      simp only [effO, Option.map_eq_some_iff, Prod.mk.injEq] at h
      obtain ⟨_, h1, _, rfl⟩ := h
      unfold storeA at h1
      split at h1
      · split at h1
        · split at h1
          · exact Nat.le_of_eq (stn_next h1).symm
          · cases h1
        · cases h1
      · cases h1
    | append esz bytes s x =>
      simp only [effO, appendA] at h
      split at h
      · simp only [Option.bind_eq_some_iff] at h
        obtain ⟨_, _, _, _, h⟩ := h
        split at h
        · split at h
          · cases h; exact Nat.le_refl _
          · simp only [Option.map_eq_some_iff, Prod.mk.injEq] at h
            obtain ⟨_, h1, _, rfl⟩ := h; exact Nat.le_of_eq (new_next h1).symm
        · cases h
      · simp only [Option.bind_eq_some_iff] at h
        obtain ⟨_, _, _, _, h⟩ := h
        split at h
        · split at h
          · simp only [Option.map_eq_some_iff, Prod.mk.injEq] at h
            obtain ⟨_, h1, _, rfl⟩ := h; exact Nat.le_of_eq (stn_next h1).symm
          · split at h
            · split at h
              · simp only [Option.map_eq_some_iff, Prod.mk.injEq] at h
                obtain ⟨_, h1, _, rfl⟩ := h; exact Nat.le_of_eq (new_next h1).symm
              · cases h
            · cases h
        · cases h
      · cases h
    | copy esz d s =>
      simp only [effO, copyA] at h
      split at h
      · simp only [Option.bind_eq_some_iff] at h
        obtain ⟨_, _, _, _, h⟩ := h
        cases h; exact Nat.le_refl _
      · simp only [Option.bind_eq_some_iff] at h
        obtain ⟨_, _, _, _, h⟩ := h
        split at h
        · simp only [Option.map_eq_some_iff, Prod.mk.injEq] at h
          obtain ⟨_, h1, _, rfl⟩ := h; exact Nat.le_of_eq (stn_next h1).symm
        · cases h
      · cases h
    | clear esz z x =>
      simp only [effO, Option.map_eq_some_iff, Prod.mk.injEq] at h
      obtain ⟨_, h1, _, rfl⟩ := h
      unfold clearA at h1
      split at h1
      · cases h1; exact Nat.le_refl _
      · split at h1
        · cases h1; exact Nat.le_refl _
        · split at h1
          · exact Nat.le_of_eq (stn_next h1).symm
          · cases h1
      · cases h1
    | call f args => exact hr _ _ _ _ _ h
    | callv x args =>
      simp only [effO] at h
      split at h
      · exact hr _ _ _ _ _ h
      · exact hr _ _ _ _ _ h
      · cases h
    | hop g args =>
      simp only [effO] at h
      rcases hopA_cases h with rfl | h1 | ⟨r, es, es', _, rfl⟩
      · exact Nat.le_refl _
      · exact Nat.le_of_eq (new_next h1).symm
      · exact Nat.le_refl _
    | _ => simp [effO] at h

theorem stepA_next {rec : Nat → List AV → AH → Option (AV × AH)} (hr : NextOk rec) {base : Nat} {r : ROper} {T' : List AV} (h : stepA rec base r T H = some (T', H')) : H.next ≤ H'.next := by
  unfold stepA at h
  split at h
  · simp only [Option.map_eq_some_iff, Prod.mk.injEq] at h
    obtain ⟨⟨v, H1⟩, h1, _, rfl⟩ := h
    exact opA_next hr h1
  · simp only [Option.some.injEq, Prod.mk.injEq] at h
    obtain ⟨_, rfl⟩ := h; exact Nat.le_refl _

theorem plain_sim {rec : Nat → List AV → AH → Option (AV × AH)} (hrec : CallsOk P G B w0 rec) (hnx : NextOk rec) {ops : Array Oper} {Q : Exit → Act → World → Prop} {n base : Nat} {Tz : List AV} {Hz : AH} :
    ∀ (l : List Oper) (rs : List ROper) (φ : Phi) (T : List AV) (H : AH) (a : Act) (w : World), plainOpers P G ops n l rs = true → base + n ≤ H.next → St B w0 G φ T H a w → regA rec base rs T H = some (Tz, Hz) →
      (∀ φ' a' w', Ext φ φ' → St B w0 G φ' Tz Hz a' w' → Q .normal a' w') → wpList P ops Q l a w
  | [], [], φ, T, H, a, w, _, _, hs, h, hQ => by
    simp only [regA, Option.some.injEq, Prod.mk.injEq] at h
    obtain ⟨rfl, rfl⟩ := h
    exact wpList_nil (hQ φ a w (Ext.refl _) hs)
  | o :: l, r :: rs, φ, T, H, a, w, hc, hb, hs, h, hQ => by
    simp only [plainOpers, Bool.and_eq_true, decide_eq_true_eq] at hc
    obtain ⟨⟨⟨h1, h2⟩, h3⟩, h4⟩ := hc
    simp only [regA, Option.bind_eq_some_iff] at h
    obtain ⟨⟨T1, H1⟩, hst, h⟩ := h
    split at h
    · refine wpList_step fun K hK => ?_
      refine step_sim hrec hs h1 (by omega) hst ?_
      intro φ' a' w' e1 hs'
      exact hK a' w' (plain_sim hrec hnx l rs φ' T1 H1 a' w' h4 (Nat.le_trans hb (stepA_next hnx hst)) hs' h (fun φ'' a'' w'' e2 => hQ φ'' a'' w'' (e1.trans e2)))
    · cases h
  | [], _ :: _, _, _, _, _, _, hc, _, _, _, _ => by simp [plainOpers] at hc
  | _ :: _, [], _, _, _, _, _, hc, _, _, _, _ => by simp [plainOpers] at hc

end Go.AM
