/-
  THE ABSTRACT MACHINE: more fuel gives the same; names that are still to come are free; what must hold ahead of a code, so that something holds behind it.
-/
import Derived.Test.YtineacililniiaaGreatDoorAmM
namespace Go.AM

/- ---- more fuel ---- -/

def Le (r r' : Nat → List AV → AH → Option (AV × AH)) : Prop := ∀ f args H x, r f args H = some x → r' f args H = some x

section
variable {rec rec' : Nat → List AV → AH → Option (AV × AH)}

theorem opA_mono (h : Le rec rec') {ρ : Opd → AV} {id : Nat} {H : AH} {o : ROp} {x : AV × AH} (hx : opA rec ρ id H o = some x) : opA rec' ρ id H o = some x := by
  cases o <;> simp only [opA, ROp.kind, effO] at hx ⊢ <;> first
    | exact hx
    | exact h _ _ _ _ hx
    | (split at hx
       · exact h _ _ _ _ hx
       · exact h _ _ _ _ hx
       · cases hx)

theorem stepA_mono (h : Le rec rec') {base : Nat} {o : ROper} {T : List AV} {H : AH} {x : List AV × AH} (hx : stepA rec base o T H = some x) : stepA rec' base o T H = some x := by
  unfold stepA at *
  split at hx
  · rename_i hw
    rw [if_pos hw]
    simp only [Option.map_eq_some_iff] at hx ⊢
    obtain ⟨r, h1, h2⟩ := hx
    exact ⟨r, opA_mono h h1, h2⟩
  · rename_i hw; rw [if_neg hw]; exact hx

theorem regA_mono (h : Le rec rec') {base : Nat} : ∀ {l : List ROper} {T : List AV} {H : AH} {x : List AV × AH}, regA rec base l T H = some x → regA rec' base l T H = some x
  | [], _, _, _, hx => hx
  | o :: l, T, H, x, hx => by
    simp only [regA, Option.bind_eq_some_iff] at hx ⊢
    obtain ⟨r, h1, h2⟩ := hx
    refine ⟨r, stepA_mono h h1, ?_⟩
    split at h2
    · rename_i hw; rw [if_pos hw]; exact regA_mono h h2
    · cases h2

theorem iterA_mono {f f' : List AV → AH → Option (Ex × List AV × AH)} (h : ∀ T H x, f T H = some x → f' T H = some x) : ∀ {n m : Nat} (_ : n ≤ m) {T : List AV} {H : AH} {x : Ex × List AV × AH}, iterA f n T H = some x → iterA f' m T H = some x
  | 0, _, _, _, _, _, hx => by simp [iterA] at hx
  | n + 1, 0, hnm, _, _, _, _ => by omega
  | n + 1, m + 1, hnm, T, H, x, hx => by
    simp only [iterA, Option.bind_eq_some_iff] at hx ⊢
    obtain ⟨⟨e, T1, H1⟩, h1, h2⟩ := hx
    refine ⟨_, h _ _ _ h1, ?_⟩
    cases e with
    | norm => exact iterA_mono h (by omega) h2
    | ret => exact h2
    | out id => exact h2

theorem rcA_mono (h : Le rec rec') {n m : Nat} (hnm : n ≤ m) : ∀ (c : RC) {T : List AV} {H : AH} {x : Ex × List AV × AH}, rcA rec n c T H = some x → rcA rec' m c T H = some x
  | .skip, _, _, _, hx => hx
  | .ret, _, _, _, hx => hx
  | .exit _, _, _, _, hx => hx
  | .region k ops, T, H, x, hx => by
    simp only [rcA, Option.map_eq_some_iff] at hx ⊢
    obtain ⟨r, h1, h2⟩ := hx
    exact ⟨r, regA_mono h h1, h2⟩
  | .seq a b, T, H, x, hx => by
    simp only [rcA, Option.bind_eq_some_iff] at hx ⊢
    obtain ⟨⟨e, T1, H1⟩, h1, h2⟩ := hx
    refine ⟨_, rcA_mono h hnm a h1, ?_⟩
    cases e with
    | norm => exact rcA_mono h hnm b h2
    | ret => exact h2
    | out id => exact h2
  | .cond c a b, T, H, x, hx => by
    simp only [rcA] at hx ⊢
    split at hx
    · exact rcA_mono h hnm a hx
    · exact rcA_mono h hnm b hx
    · cases hx
  | .block id a, T, H, x, hx => by
    simp only [rcA, Option.map_eq_some_iff] at hx ⊢
    obtain ⟨r, h1, h2⟩ := hx
    exact ⟨r, rcA_mono h hnm a h1, h2⟩
  | .loop a, T, H, x, hx => by
    simp only [rcA] at hx ⊢
    exact iterA_mono (f := rcA rec n a) (fun T H x hx => rcA_mono h hnm a hx) hnm hx
end

section
variable {tab : Nat → Option RFunc} {ext : Nat → List AV → AH → Option (AV × AH)}

theorem run_mono : ∀ {n m : Nat}, n ≤ m → Le (run tab ext n) (run tab ext m)
  | 0, _, _ => fun _ _ _ _ hx => by simp [run] at hx
  | n + 1, 0, h => by omega
  | n + 1, m + 1, h => by
    intro f args H x hx
    simp only [run] at hx ⊢
    split at hx
    · exact hx
    · simp only [Option.bind_eq_some_iff] at hx ⊢
      obtain ⟨r, h1, h2⟩ := hx
      exact ⟨r, rcA_mono (run_mono (by omega)) (by omega) _ h1, h2⟩
end

/- ---- names that are still to come are free ---- -/

def WF (H : AH) : Prop := ∀ b, H.next ≤ b → H.blk b = none

def WFrec (rec : Nat → List AV → AH → Option (AV × AH)) : Prop := ∀ f args H v H', rec f args H = some (v, H') → WF H → WF H'

theorem WF.bump {H : AH} (h : WF H) (n : Nat) : WF (H.bump n) := fun b hb => h b (Nat.le_trans (Nat.le_add_right _ _) hb)

theorem WF.set {H : AH} (h : WF H) {b : Nat} (hb : b < H.next) (x : Blk) : WF (H.set b x) := by
  intro c hc
  have hc' : H.next ≤ c := hc
  simp only [AH.set, upd]
  rw [if_neg (by omega)]
  exact h c hc'

theorem stn_wf {H H' : AH} (h : WF H) {b o : Nat} {l : List SV} (hs : H.stn b o l = some H') : WF H' := by
  unfold AH.stn at hs
  split at hs
  · rename_i l' hb
    split at hs
    · cases hs
      refine h.set ?_ _
      apply Classical.byContradiction
      intro hn
      rw [h b (by omega)] at hb; cases hb
    · cases hs
  · cases hs

theorem new_wf {H H' : AH} (h : WF H) {b : Nat} (hb : b < H.next) {x : Blk} (hs : H.new b x = some H') : WF H' := by
  unfold AH.new at hs
  split at hs
  · cases hs; exact h.set hb _
  · cases hs

theorem opA_wf {rec : Nat → List AV → AH → Option (AV × AH)} (hr : WFrec rec) {ρ : Opd → AV} {id : Nat} {H H' : AH} {r : ROp} {v : AV} (h : opA rec ρ id H r = some (v, H')) (hw : WF H) (hid : id < H.next) : WF H' := by
  unfold opA at h
  split at h
  · simp only [Option.map_eq_some_iff, Prod.mk.injEq] at h
    obtain ⟨_, _, _, rfl⟩ := h; exact hw
  · simp only [Option.map_eq_some_iff, Prod.mk.injEq] at h
    obtain ⟨_, _, _, rfl⟩ := h; exact hw
  · simp only [Option.bind_eq_some_iff, Option.map_eq_some_iff, Prod.mk.injEq] at h
    obtain ⟨_, _, _, h1, _, rfl⟩ := h; exact new_wf hw hid h1
  · cases r with
    | store n b u =>
      simp only [effO, Option.map_eq_some_iff, Prod.mk.injEq] at h
      obtain ⟨_, h1, _, rfl⟩ := h
      unfold storeA at h1
      split at h1
      · split at h1
        · split at h1
          · exact stn_wf hw h1
          · cases h1
        · cases h1
      · cases h1
    | append esz bytes s x =>
      simp only [effO, appendA] at h
      split at h
      · simp only [Option.bind_eq_some_iff] at h
        obtain ⟨_, _, _, _, h⟩ := h
        split at h
        · split at h
          · cases h; exact hw
          · simp only [Option.map_eq_some_iff, Prod.mk.injEq] at h
            obtain ⟨_, h1, _, rfl⟩ := h; exact new_wf hw hid h1
        · cases h
      · simp only [Option.bind_eq_some_iff] at h
        obtain ⟨_, _, _, _, h⟩ := h
        split at h
        · split at h
          · simp only [Option.map_eq_some_iff, Prod.mk.injEq] at h
            obtain ⟨_, h1, _, rfl⟩ := h; exact stn_wf hw h1
          · split at h
            · rename_i b o _ _ hs _ _ _ l hb
              split at h
              · simp only [Option.map_eq_some_iff, Prod.mk.injEq] at h
                obtain ⟨_, h1, _, rfl⟩ := h
                refine new_wf (WF.set hw ?_ _) hid h1
                apply Classical.byContradiction
                intro hn
                rw [hw _ (by omega)] at hb; cases hb
              · cases h
            · cases h
        · cases h
      · cases h
    | copy esz d s =>
      simp only [effO, copyA] at h
      split at h
      · simp only [Option.bind_eq_some_iff] at h
        obtain ⟨_, _, _, _, h⟩ := h
        cases h; exact hw
      · simp only [Option.bind_eq_some_iff] at h
        obtain ⟨_, _, _, _, h⟩ := h
        split at h
        · simp only [Option.map_eq_some_iff, Prod.mk.injEq] at h
          obtain ⟨_, h1, _, rfl⟩ := h; exact stn_wf hw h1
        · cases h
      · cases h
    | clear esz z x =>
      simp only [effO, Option.map_eq_some_iff, Prod.mk.injEq] at h
      obtain ⟨_, h1, _, rfl⟩ := h
      unfold clearA at h1
      split at h1
      · cases h1; exact hw
      · split at h1
        · cases h1; exact hw
        · split at h1
          · exact stn_wf hw h1
          · cases h1
      · cases h1
    | call f args => exact hr _ _ _ _ _ h hw
    | callv x args =>
      simp only [effO] at h
      split at h
      · exact hr _ _ _ _ _ h hw
      · exact hr _ _ _ _ _ h hw
      · cases h
    | hop g args =>
      simp only [effO] at h
      rcases hopA_cases h with rfl | h1 | ⟨r, es, es', hb, rfl⟩
      · exact hw
      · exact new_wf hw hid h1
      · refine hw.set ?_ _
        apply Classical.byContradiction
        intro hn
        rw [hw _ (by omega)] at hb; cases hb
    | _ => simp [effO] at h

/- ---- what must hold ahead ---- -/

def andThen {α : Type} (o : Option α) (K : α → Prop) : Prop := ∃ a, o = some a ∧ K a

@[simp] theorem andThen_some {α : Type} (a : α) (K : α → Prop) : andThen (some a) K = K a := by simp [andThen]
@[simp] theorem andThen_none {α : Type} (K : α → Prop) : andThen none K = False := by simp [andThen]
@[simp] theorem andThen_map {α β : Type} (o : Option α) (f : α → β) (K : β → Prop) : andThen (o.map f) K = andThen o (fun a => K (f a)) := by cases o <;> simp
@[simp] theorem andThen_bind {α β : Type} (o : Option α) (f : α → Option β) (K : β → Prop) : andThen (o.bind f) K = andThen o (fun a => andThen (f a) K) := by cases o <;> simp
@[simp] theorem andThen_ite {α : Type} (c : Prop) [Decidable c] (x y : Option α) (K : α → Prop) : andThen (if c then x else y) K = if c then andThen x K else andThen y K := by split <;> rfl

theorem andThen.mono {α : Type} {o : Option α} {K K' : α → Prop} (h : ∀ a, K a → K' a) (hk : andThen o K) : andThen o K' := let ⟨a, h1, h2⟩ := hk; ⟨a, h1, h a h2⟩

def gd (v : AV) (b : Bool) : Bool :=
  match v with
  | .s (.bool c) => c == b
  | _ => false

@[simp] theorem gd_bool (c b : Bool) : gd (.s (.bool c)) b = (c == b) := rfl

theorem wanted_gd (T : List AV) (t : Nat) (b : Bool) : wantedA T (some (t, b)) = gd (T.getD t undef) b := rfl

section
variable (tab : Nat → Option RFunc) (ext : Nat → List AV → AH → Option (AV × AH))

/-- What holds behind a call. -/
def CallP (f : Nat) (args : List AV) (H : AH) (K : AV → AH → Prop) : Prop := ∃ n v H', run tab ext n f args H = some (v, H') ∧ K v H'

def callvP (x : AV) (args : List AV) (H : AH) (K : AV → AH → Prop) : Prop :=
  match x with
  | .s (.fn f caps) => CallP tab ext f (args ++ caps.map fun a => .s (.ptr (some a))) H K
  | .s (.bfn f a) => CallP tab ext f (.s (.ptr (some a)) :: args) H K
  | _ => False

def wpO (ρ : Opd → AV) (id : Nat) (H : AH) (o : ROp) (K : AV → AH → Prop) : Prop :=
  match o with
  | .move x => K (ρ x) H
  | .load m a => andThen (loadA m (ρ a) H) fun v => K v H
  | .newc l => andThen (H.new id (.cells false l)) fun H => K (.s (.ptr (some (id, 0)))) H
  | .box x => andThen ((ρ x).cells?) fun l => andThen (H.new id (.cells false l)) fun H => K (.s (.ptr (some (id, 0)))) H
  | .buildSlice esz len z ps => andThen (fillA z (ps.map fun p => (p.1, p.2.1, ρ p.2.2))) fun l => andThen (H.new id (.cells false l)) fun H => K (.s (.slice (some (id, 0)) len len esz)) H
  | .makeSlice esz bytes z l c => andThen (makeA esz bytes z (ρ l) (ρ c)) fun r => andThen (H.new id (.cells false r.1)) fun H => K (.s (.slice (some (id, 0)) r.2.1 r.2.2 esz)) H
  | .store n a v => andThen (storeA n (ρ a) (ρ v) H) fun H => K undef H
  | .append esz bytes s x => andThen (appendA esz bytes id (ρ s) (ρ x) H) fun r => K r.1 r.2
  | .copy esz d s => andThen (copyA esz (ρ d) (ρ s) H) fun r => K r.1 r.2
  | .clear esz z x => andThen (clearA esz z (ρ x) H) fun H => K undef H
  | .call f args => CallP tab ext f (args.map ρ) H K
  | .callv x args => callvP tab ext (ρ x) (args.map ρ) H K
  | .hop h args => andThen (hopA h id (args.map ρ) H) fun r => K r.1 r.2
  | o => andThen (pureA ρ o) fun v => K v H

def watchP (T : List AV) (H : AH) : List Watch → Prop → Prop
  | [], P => P
  | w :: ws, P => (match w.guard with
    | none => loadA w.m (ev T w.a) H = some (T.getD w.dst undef)
    | some (t, b) => gd (T.getD t undef) b = true → loadA w.m (ev T w.a) H = some (T.getD w.dst undef)) ∧ watchP T H ws P

def gP (c : Bool) (H : AH) (P : (AV → AH → Prop) → Prop) (K : AV → AH → Prop) : Prop := if c then P K else K undef H

def wpR (base : Nat) : List ROper → List AV → AH → (List AV → AH → Prop) → Prop
  | [], T, H, K => K T H
  | o :: os, T, H, K =>
    match o.guard with
    | none => wpO tab ext (ev T) (base + o.idx) H o.op fun v H' => watchP T H' o.watch (wpR base os (put T o.dst v) H' K)
    | some (t, b) => gP (gd (T.getD t undef) b) H (wpO tab ext (ev T) (base + o.idx) H o.op) fun v H' => watchP T H' o.watch (wpR base os (put T o.dst v) H' K)

/-- What holds behind a loop. -/
def loopP (c : RC) (T : List AV) (H : AH) (K : Ex → List AV → AH → Prop) : Prop := ∃ n e T' H', iterA (rcA (run tab ext n) n c) n T H = some (e, T', H') ∧ K e T' H'

def condP (v : AV) (A B : Prop) : Prop :=
  match v with
  | .s (.bool true) => A
  | .s (.bool false) => B
  | _ => False

def seqK (b : List AV → AH → Prop) (K : Ex → List AV → AH → Prop) (e : Ex) (T : List AV) (H : AH) : Prop :=
  match e with
  | .norm => b T H
  | .ret => K .ret T H
  | .out id => K (.out id) T H

def blockK (id : Nat) (K : Ex → List AV → AH → Prop) (e : Ex) (T : List AV) (H : AH) : Prop :=
  match e with
  | .norm => K .norm T H
  | .ret => K .ret T H
  | .out id' => if id' = id then K .norm T H else K (.out id') T H

def wpC : RC → List AV → AH → (Ex → List AV → AH → Prop) → Prop
  | .skip, T, H, K => K .norm T H
  | .ret, T, H, K => K .ret T H
  | .exit id, T, H, K => K (.out id) T H
  | .region n ops, T, H, K => wpR tab ext H.next ops T (H.bump n) (K .norm)
  | .seq a b, T, H, K => wpC a T H (seqK (fun T H => wpC b T H K) K)
  | .cond c a b, T, H, K => condP (ev T c) (wpC a T H K) (wpC b T H K)
  | .block id a, T, H, K => wpC a T H (blockK id K)
  | .loop a, T, H, K => loopP tab ext a T H K
end

section
variable {tab : Nat → Option RFunc} {ext : Nat → List AV → AH → Option (AV × AH)}

theorem CallP.mono {f : Nat} {args : List AV} {H : AH} {K K' : AV → AH → Prop} (h : CallP tab ext f args H K) (hk : ∀ v H', K v H' → K' v H') : CallP tab ext f args H K' :=
  let ⟨n, v, H', h1, h2⟩ := h; ⟨n, v, H', h1, hk v H' h2⟩

@[simp] theorem condP_bool (b : Bool) (A B : Prop) : condP (.s (.bool b)) A B = if b then A else B := by cases b <;> simp [condP]

theorem wpO_sound {ρ : Opd → AV} {id : Nat} {H : AH} {o : ROp} {K : AV → AH → Prop} (h : wpO tab ext ρ id H o K) : ∃ n v H', opA (run tab ext n) ρ id H o = some (v, H') ∧ K v H' := by
  cases o with
  | call f args =>
    obtain ⟨n, v, H', h1, h2⟩ := h
    exact ⟨n, v, H', h1, h2⟩
  | callv x args =>
    simp only [wpO, callvP] at h
    split at h
    · rename_i f caps hx
      obtain ⟨n, v, H', h1, h2⟩ := h
      exact ⟨n, v, H', by simp only [opA, ROp.kind, effO, hx]; exact h1, h2⟩
    · rename_i f p hx
      obtain ⟨n, v, H', h1, h2⟩ := h
      exact ⟨n, v, H', by simp only [opA, ROp.kind, effO, hx]; exact h1, h2⟩
    · exact h.elim
  | move x => exact ⟨0, _, _, by simp [opA, ROp.kind, pureA], h⟩
  | load m a => obtain ⟨v, h1, h2⟩ := h; exact ⟨0, v, H, by simp [opA, ROp.kind, loadO, h1], h2⟩
  | newc l => obtain ⟨H', h1, h2⟩ := h; exact ⟨0, _, H', by simp [opA, ROp.kind, allocO, h1], h2⟩
  | box x => obtain ⟨l, h0, H', h1, h2⟩ := h; exact ⟨0, _, H', by simp [opA, ROp.kind, allocO, h0, h1], h2⟩
  | buildSlice esz len z ps => obtain ⟨l, h0, H', h1, h2⟩ := h; exact ⟨0, _, H', by simp [opA, ROp.kind, allocO, h0, h1], h2⟩
  | makeSlice esz bytes z l c => obtain ⟨r, h0, H', h1, h2⟩ := h; exact ⟨0, _, H', by simp [opA, ROp.kind, allocO, h0, h1], h2⟩
  | store n a v => obtain ⟨H', h1, h2⟩ := h; exact ⟨0, _, H', by simp [opA, ROp.kind, effO, h1], h2⟩
  | append esz bytes s x => obtain ⟨r, h1, h2⟩ := h; exact ⟨0, r.1, r.2, by simp [opA, ROp.kind, effO, h1], h2⟩
  | copy esz d s => obtain ⟨r, h1, h2⟩ := h; exact ⟨0, r.1, r.2, by simp [opA, ROp.kind, effO, h1], h2⟩
  | clear esz z x => obtain ⟨H', h1, h2⟩ := h; exact ⟨0, _, H', by simp [opA, ROp.kind, effO, h1], h2⟩
  | hop g args => obtain ⟨r, h1, h2⟩ := h; exact ⟨0, r.1, r.2, by simp only [opA, ROp.kind, effO, h1], h2⟩
  | _ => obtain ⟨v, h1, h2⟩ := h; exact ⟨0, v, H, by simp only [opA, ROp.kind, h1, Option.map_some], h2⟩

theorem watchP_sound {T : List AV} {H : AH} {P : Prop} : ∀ {ws : List Watch}, watchP T H ws P → ws.all (watchOk T H) = true ∧ P
  | [], h => ⟨rfl, h⟩
  | w :: ws, h => by
    obtain ⟨h1, h2⟩ := h
    obtain ⟨h3, h4⟩ := watchP_sound h2
    refine ⟨?_, h4⟩
    simp only [List.all_cons, h3, Bool.and_true]
    unfold watchOk
    cases hg : w.guard with
    | none => rw [hg] at h1; simp only [wantedA]; simpa using h1
    | some p =>
      obtain ⟨t, b⟩ := p
      rw [hg] at h1
      rw [wanted_gd]
      split
      · rename_i hgd; simpa using h1 hgd
      · rfl

theorem wpR_sound {base : Nat} : ∀ {l : List ROper} {T : List AV} {H : AH} {K : List AV → AH → Prop}, wpR tab ext base l T H K → ∃ n T' H', regA (run tab ext n) base l T H = some (T', H') ∧ K T' H'
  | [], T, H, K, h => ⟨0, T, H, rfl, h⟩
  | o :: l, T, H, K, h => by
    have key : ∃ n v H', (wantedA T o.guard = true ∧ opA (run tab ext n) (ev T) (base + o.idx) H o.op = some (v, H') ∨ wantedA T o.guard = false ∧ v = undef ∧ H' = H) ∧ watchP T H' o.watch (wpR tab ext base l (put T o.dst v) H' K) := by
      simp only [wpR] at h
      split at h
      · rename_i hg
        obtain ⟨n, v, H', h1, h2⟩ := wpO_sound h
        exact ⟨n, v, H', .inl ⟨by simp [hg, wantedA], h1⟩, h2⟩
      · rename_i t b hg
        unfold gP at h
        split at h
        · rename_i hgd
          obtain ⟨n, v, H', h1, h2⟩ := wpO_sound h
          exact ⟨n, v, H', .inl ⟨by rw [hg, wanted_gd]; exact hgd, h1⟩, h2⟩
        · rename_i hgd
          exact ⟨0, undef, H, .inr ⟨by rw [hg, wanted_gd]; simpa using hgd, rfl, rfl⟩, h⟩
    obtain ⟨n, v, H', h1, h2⟩ := key
    obtain ⟨h3, h4⟩ := watchP_sound h2
    obtain ⟨m, T2, H2, h5, h6⟩ := wpR_sound h4
    refine ⟨max n m, T2, H2, ?_, h6⟩
    simp only [regA, Option.bind_eq_some_iff]
    refine ⟨(put T o.dst v, H'), ?_, ?_⟩
    · unfold stepA
      rcases h1 with ⟨hw, h1⟩ | ⟨hw, rfl, rfl⟩
      · rw [if_pos hw, opA_mono (run_mono (Nat.le_max_left n m)) h1]; rfl
      · rw [if_neg (by simp [hw])]
    · simp only
      rw [if_pos h3]
      exact regA_mono (run_mono (Nat.le_max_right n m)) h5

theorem wpC_sound : ∀ {c : RC} {T : List AV} {H : AH} {K : Ex → List AV → AH → Prop}, wpC tab ext c T H K → ∃ n e T' H', rcA (run tab ext n) n c T H = some (e, T', H') ∧ K e T' H'
  | .skip, T, H, K, h => ⟨0, _, _, _, rfl, h⟩
  | .ret, T, H, K, h => ⟨0, _, _, _, rfl, h⟩
  | .exit _, T, H, K, h => ⟨0, _, _, _, rfl, h⟩
  | .region k ops, T, H, K, h => by
    obtain ⟨n, T', H', h1, h2⟩ := wpR_sound h
    exact ⟨n, .norm, T', H', by simp [rcA, h1], h2⟩
  | .seq a b, T, H, K, h => by
    obtain ⟨n, e, T1, H1, h1, h2⟩ := wpC_sound (c := a) h
    cases e with
    | norm =>
      obtain ⟨m, e, T2, H2, h3, h4⟩ := wpC_sound (c := b) h2
      refine ⟨max n m, e, T2, H2, ?_, h4⟩
      simp only [rcA, Option.bind_eq_some_iff]
      exact ⟨_, rcA_mono (run_mono (Nat.le_max_left n m)) (Nat.le_max_left n m) a h1, rcA_mono (run_mono (Nat.le_max_right n m)) (Nat.le_max_right n m) b h3⟩
    | ret => exact ⟨n, .ret, T1, H1, by simp [rcA, h1], h2⟩
    | out id => exact ⟨n, .out id, T1, H1, by simp [rcA, h1], h2⟩
  | .cond c a b, T, H, K, h => by
    simp only [wpC, condP] at h
    split at h
    · rename_i hv
      obtain ⟨n, e, T1, H1, h1, h2⟩ := wpC_sound (c := a) h
      exact ⟨n, e, T1, H1, by simp only [rcA, hv]; exact h1, h2⟩
    · rename_i hv
      obtain ⟨n, e, T1, H1, h1, h2⟩ := wpC_sound (c := b) h
      exact ⟨n, e, T1, H1, by simp only [rcA, hv]; exact h1, h2⟩
    · exact h.elim
  | .block id a, T, H, K, h => by
    obtain ⟨n, e, T1, H1, h1, h2⟩ := wpC_sound (c := a) h
    refine ⟨n, if e = .out id then .norm else e, T1, H1, by simp [rcA, h1], ?_⟩
    cases e with
    | norm => simpa [blockK] using h2
    | ret => simpa [blockK] using h2
    | out id' =>
      simp only [blockK] at h2
      by_cases hid : id' = id
      · subst hid; simpa using h2
      · have : (Ex.out id' : Ex) ≠ .out id := fun hc => hid (by cases hc; rfl)
        rw [if_neg this]; rw [if_neg hid] at h2; exact h2
  | .loop a, T, H, K, h => by
    obtain ⟨n, e, T', H', h1, h2⟩ := h
    exact ⟨n, e, T', H', h1, h2⟩

/-- A loop, by what holds at each round's head and a number that each round lowers. -/
theorem loopP_inv {c : RC} {K : Ex → List AV → AH → Prop} (I : Nat → List AV → AH → Prop) (step : ∀ n T H, I n T H → wpC tab ext c T H (seqK (fun T' H' => ∃ m, m < n ∧ I m T' H') K)) :
    ∀ (n : Nat) (T : List AV) (H : AH), I n T H → loopP tab ext c T H K := by
  intro n
  induction n using Nat.strongRecOn with
  | _ n ih =>
    intro T H h
    obtain ⟨k, e, T1, H1, h1, h2⟩ := wpC_sound (step n T H h)
    cases e with
    | norm =>
      obtain ⟨m, hm, hI⟩ := h2
      obtain ⟨j, e, T2, H2, h3, h4⟩ := ih m hm T1 H1 hI
      refine ⟨max k j + 1, e, T2, H2, ?_, h4⟩
      simp only [iterA, Option.bind_eq_some_iff]
      refine ⟨_, rcA_mono (run_mono (by omega)) (by omega) c h1, ?_⟩
      exact iterA_mono (f := rcA (run tab ext j) j c) (fun T H x hx => rcA_mono (run_mono (by omega)) (by omega) c hx) (by omega) h3
    | ret =>
      refine ⟨k + 1, .ret, T1, H1, ?_, h2⟩
      simp only [iterA, Option.bind_eq_some_iff]
      exact ⟨_, rcA_mono (run_mono (by omega)) (by omega) c h1, rfl⟩
    | out id =>
      refine ⟨k + 1, .out id, T1, H1, ?_, h2⟩
      simp only [iterA, Option.bind_eq_some_iff]
      exact ⟨_, rcA_mono (run_mono (by omega)) (by omega) c h1, rfl⟩

/-- What is made of a function's results. -/
def retK (rs : List RRes) (K : AV → AH → Prop) (e : Ex) (T : List AV) (H : AH) : Prop :=
  match e with
  | .out _ => False
  | _ => andThen (resA rs T H) fun v => K v H

theorem CallP_of {f : Nat} {rf : RFunc} {args : List AV} {H : AH} {K : AV → AH → Prop} (hf : tab f = some rf) (h : wpC tab ext rf.body (args ++ List.replicate (rf.ntmps - args.length) undef) H (retK rf.results K)) : CallP tab ext f args H K := by
  obtain ⟨n, e, T', H', h1, h2⟩ := wpC_sound h
  have hne : ∀ id, e ≠ .out id := by rintro id rfl; exact h2
  have h3 : andThen (resA rf.results T' H') fun v => K v H' := by
    cases e with
    | norm => exact h2
    | ret => exact h2
    | out id => exact absurd rfl (hne id)
  obtain ⟨v, h4, h5⟩ := h3
  refine ⟨n + 1, v, H', ?_, h5⟩
  simp only [run, hf, h1, Option.bind_some]
  cases e with
  | norm => simp [h4]
  | ret => simp [h4]
  | out id => exact absurd rfl (hne id)
end

/- ---- names that are to come, over a whole run ---- -/

def rcOk : RC → Bool
  | .region n ops => ops.all fun o => decide (o.idx < n)
  | .seq a b => rcOk a && rcOk b
  | .cond _ a b => rcOk a && rcOk b
  | .block _ a => rcOk a
  | .loop a => rcOk a
  | _ => true

section
variable {rec : Nat → List AV → AH → Option (AV × AH)}

theorem regA_wf (hr : WFrec rec) (hn : NextOk rec) {base n : Nat} : ∀ {l : List ROper} {T T' : List AV} {H H' : AH}, regA rec base l T H = some (T', H') → (∀ o ∈ l, o.idx < n) → base + n ≤ H.next → WF H → WF H'
  | [], T, T', H, H', h, _, _, hw => by simp only [regA] at h; cases h; exact hw
  | r :: l, T, T', H, H', h, hi, hb, hw => by
    simp only [regA, Option.bind_eq_some_iff] at h
    obtain ⟨⟨T1, H1⟩, h1, h2⟩ := h
    split at h2
    · have hidx := hi r (by simp)
      have hw1 : WF H1 := by
        unfold stepA at h1
        split at h1
        · simp only [Option.map_eq_some_iff, Prod.mk.injEq] at h1
          obtain ⟨⟨v, H2⟩, h3, _, rfl⟩ := h1
          exact opA_wf hr h3 hw (by omega)
        · cases h1; exact hw
      exact regA_wf hr hn h2 (fun o ho => hi o (by simp [ho])) (Nat.le_trans hb (stepA_next hn h1)) hw1
    · cases h2

theorem iterA_wf {f : List AV → AH → Option (Ex × List AV × AH)} (hf : ∀ T H e T' H', f T H = some (e, T', H') → WF H → WF H') : ∀ (n : Nat) {T T' : List AV} {H H' : AH} {e : Ex}, iterA f n T H = some (e, T', H') → WF H → WF H'
  | 0, _, _, _, _, _, h, _ => by simp [iterA] at h
  | n + 1, T, T', H, H', e, h, hw => by
    simp only [iterA, Option.bind_eq_some_iff] at h
    obtain ⟨⟨e1, T1, H1⟩, h1, h2⟩ := h
    have k := hf _ _ _ _ _ h1 hw
    cases e1 with
    | norm => exact iterA_wf hf n h2 k
    | ret => simp only at h2; cases h2; exact k
    | out id => simp only at h2; cases h2; exact k

theorem rcA_wf (hr : WFrec rec) (hn : NextOk rec) {fuel : Nat} : ∀ (c : RC) {T T' : List AV} {H H' : AH} {e : Ex}, rcOk c = true → rcA rec fuel c T H = some (e, T', H') → WF H → WF H'
  | .skip, _, _, _, _, _, _, h, hw => by simp only [rcA] at h; cases h; exact hw
  | .ret, _, _, _, _, _, _, h, hw => by simp only [rcA] at h; cases h; exact hw
  | .exit _, _, _, _, _, _, _, h, hw => by simp only [rcA] at h; cases h; exact hw
  | .region n ops, T, T', H, H', e, hc, h, hw => by
    simp only [rcA, Option.map_eq_some_iff] at h
    obtain ⟨⟨T1, H1⟩, h1, h2⟩ := h
    cases h2
    refine regA_wf hr hn (n := n) h1 ?_ (Nat.le_refl _) (hw.bump n)
    intro o ho
    simp only [rcOk, List.all_eq_true, decide_eq_true_eq] at hc
    exact hc o ho
  | .seq a b, T, T', H, H', e, hc, h, hw => by
    simp only [rcOk, Bool.and_eq_true] at hc
    simp only [rcA, Option.bind_eq_some_iff] at h
    obtain ⟨⟨e1, T1, H1⟩, h1, h2⟩ := h
    have k := rcA_wf hr hn a hc.1 h1 hw
    cases e1 with
    | norm => exact rcA_wf hr hn b hc.2 h2 k
    | ret => simp only at h2; cases h2; exact k
    | out id => simp only at h2; cases h2; exact k
  | .cond c a b, T, T', H, H', e, hc, h, hw => by
    simp only [rcOk, Bool.and_eq_true] at hc
    simp only [rcA] at h
    split at h
    · exact rcA_wf hr hn a hc.1 h hw
    · exact rcA_wf hr hn b hc.2 h hw
    · cases h
  | .block id a, T, T', H, H', e, hc, h, hw => by
    simp only [rcA, Option.map_eq_some_iff] at h
    obtain ⟨⟨e1, T1, H1⟩, h1, h2⟩ := h
    cases h2
    exact rcA_wf hr hn a hc h1 hw
  | .loop a, T, T', H, H', e, hc, h, hw => by
    simp only [rcA] at h
    exact iterA_wf (f := rcA rec fuel a) (fun _ _ _ _ _ h => rcA_wf hr hn a hc h) fuel h hw
end

section
variable {tab : Nat → Option RFunc} {ext : Nat → List AV → AH → Option (AV × AH)}

def tabWfL (l : List (Option RFunc)) : Bool := l.all fun o => match o with | none => true | some rf => rcOk rf.body

def TabWf (tab : Nat → Option RFunc) : Prop := ∀ f rf, tab f = some rf → rcOk rf.body = true

theorem tabWf_of {l : List (Option RFunc)} (h : tabWfL l = true) : TabWf (fun f => (l[f]?).join) := by
  intro f rf hf
  have hf : (l[f]?).join = some rf := hf
  have hl : l[f]? = some (some rf) := by
    cases hl : l[f]? with
    | none => rw [hl] at hf; cases hf
    | some x => rw [hl] at hf; simp at hf; rw [hf]
  simp only [tabWfL, List.all_eq_true] at h
  exact h _ (List.mem_of_getElem? hl)

theorem run_wf (ht : TabWf tab) (he : WFrec ext) (hn : NextOk ext) : ∀ n, WFrec (run tab ext n)
  | 0, _, _, _, _, _, h, _ => by simp [run] at h
  | n + 1, f, args, H, v, H', h, hw => by
    simp only [run] at h
    split at h
    · exact he _ _ _ _ _ h hw
    · rename_i rf hrf
      simp only [Option.bind_eq_some_iff] at h
      obtain ⟨⟨e1, T1, H1⟩, h1, h2⟩ := h
      have k := rcA_wf (run_wf ht he hn n) (run_next hn n) _ (ht f rf hrf) h1 hw
      split at h2
      · cases h2
      · simp only [Option.map_eq_some_iff, Prod.mk.injEq] at h2
        obtain ⟨_, _, _, rfl⟩ := h2
        exact k

theorem CallP.mono_wf (ht : TabWf tab) (he : WFrec ext) (hn : NextOk ext) {f : Nat} {args : List AV} {H : AH} (hw : WF H) {K K' : AV → AH → Prop} (h : CallP tab ext f args H K) (hk : ∀ v H', WF H' → H.next ≤ H'.next → K v H' → K' v H') : CallP tab ext f args H K' :=
  let ⟨n, v, H', h1, h2⟩ := h; ⟨n, v, H', h1, hk v H' (run_wf ht he hn n _ _ _ _ _ h1 hw) (run_next hn n _ _ _ _ _ h1) h2⟩
end

/-- No function beside the table. -/
def noExt : Nat → List AV → AH → Option (AV × AH) := fun _ _ _ => none

theorem noExt_calls {P : Program} {G : List Nat} {B : Nat} {w0 : World} : CallsOk P G B w0 noExt := fun _ _ _ _ _ h => by cases h
theorem noExt_frame : FrmOk noExt := fun _ _ _ _ _ _ _ h => by cases h
theorem noExt_next : NextOk noExt := fun _ _ _ _ _ h => by cases h
theorem noExt_wf : WFrec noExt := fun _ _ _ _ _ h => by cases h

end Go.AM
