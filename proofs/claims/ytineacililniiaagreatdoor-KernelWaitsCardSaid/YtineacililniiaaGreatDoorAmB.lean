/-
  THE ABSTRACT MACHINE: what a value, a heap of it stands for in the model's memory; how the relation is kept by each step of the memory.
-/
import Derived.Test.YtineacililniiaaGreatDoorAmA
import Derived.Laws.CopyRow
namespace Go.AM

/-- Two lists, member by member. -/
def R2 {α β : Type} (R : α → β → Prop) : List α → List β → Prop
  | [], [] => True
  | a :: as, b :: bs => R a b ∧ R2 R as bs
  | _, _ => False

theorem R2.length {α β : Type} {R : α → β → Prop} : ∀ {as : List α} {bs : List β}, R2 R as bs → as.length = bs.length
  | [], [], _ => rfl
  | _ :: _, _ :: _, h => by simp [R2.length h.2]

theorem R2.mono {α β : Type} {R S : α → β → Prop} (hm : ∀ a b, R a b → S a b) : ∀ {as : List α} {bs : List β}, R2 R as bs → R2 S as bs
  | [], [], _ => trivial
  | _ :: _, _ :: _, h => ⟨hm _ _ h.1, R2.mono hm h.2⟩

theorem R2.append {α β : Type} {R : α → β → Prop} : ∀ {as : List α} {bs : List β} {as' : List α} {bs' : List β}, R2 R as bs → R2 R as' bs' → R2 R (as ++ as') (bs ++ bs')
  | [], [], _, _, _, h' => h'
  | _ :: _, _ :: _, _, _, h, h' => ⟨h.1, R2.append h.2 h'⟩

theorem R2.get {α β : Type} {R : α → β → Prop} : ∀ {as : List α} {bs : List β}, R2 R as bs → ∀ (i : Nat) (a : α), as[i]? = some a → ∃ b, bs[i]? = some b ∧ R a b
  | [], [], _, i, a, h => by simp at h
  | x :: _, y :: _, h, 0, a, ha => by
    simp at ha; subst ha; exact ⟨y, by simp, h.1⟩
  | _ :: _, _ :: _, h, i + 1, a, ha => by
    simp at ha ⊢; exact R2.get h.2 i a ha

theorem R2.get' {α β : Type} {R : α → β → Prop} : ∀ {as : List α} {bs : List β}, R2 R as bs → ∀ (i : Nat) (b : β), bs[i]? = some b → ∃ a, as[i]? = some a ∧ R a b
  | [], [], _, i, a, h => by simp at h
  | x :: _, y :: _, h, 0, a, ha => by
    simp at ha; subst ha; exact ⟨x, by simp, h.1⟩
  | _ :: _, _ :: _, h, i + 1, a, ha => by
    simp at ha ⊢; exact R2.get' h.2 i a ha

theorem R2.of_get {α β : Type} {R : α → β → Prop} : ∀ {as : List α} {bs : List β}, as.length = bs.length → (∀ (i : Nat) (a : α) (b : β), as[i]? = some a → bs[i]? = some b → R a b) → R2 R as bs
  | [], [], _, _ => trivial
  | a :: as, b :: bs, hl, h => ⟨h 0 a b (by simp) (by simp), R2.of_get (by simpa using hl) fun i x y hx hy => h (i + 1) x y (by simpa using hx) (by simpa using hy)⟩
  | [], _ :: _, hl, _ => by simp at hl
  | _ :: _, [], hl, _ => by simp at hl

theorem R2.take {α β : Type} {R : α → β → Prop} (n : Nat) {as : List α} {bs : List β} (h : R2 R as bs) : R2 R (as.take n) (bs.take n) := by
  induction n generalizing as bs with
  | zero => simp [R2]
  | succ n ih => cases as <;> cases bs <;> simp [R2] at h ⊢; exact ⟨h.1, ih h.2⟩

theorem R2.drop {α β : Type} {R : α → β → Prop} (n : Nat) {as : List α} {bs : List β} (h : R2 R as bs) : R2 R (as.drop n) (bs.drop n) := by
  induction n generalizing as bs with
  | zero => simpa using h
  | succ n ih => cases as <;> cases bs <;> simp [R2] at h ⊢; exact ih h.2

theorem R2.map {α β γ δ : Type} {R : α → β → Prop} {S : γ → δ → Prop} {f : α → γ} {g : β → δ} (hm : ∀ a b, R a b → S (f a) (g b)) : ∀ {as : List α} {bs : List β}, R2 R as bs → R2 S (as.map f) (bs.map g)
  | [], [], _ => trivial
  | _ :: _, _ :: _, h => ⟨hm _ _ h.1, R2.map hm h.2⟩

/-- Where an abstract block lies: the model's block, the first cell, how many cells that block has. -/
abbrev Phi := Nat → Option (Nat × Nat × Nat)

def ptrRel (φ : Phi) (a : Nat × Nat) (v : Addr) : Prop := ∃ cb sh cs, φ a.1 = some (cb, sh, cs) ∧ v = ⟨cb, sh + a.2, none⟩

def SVRel (φ : Phi) : SV → Value → Prop
  | .int k n, v => v = .int k n
  | .bool b, v => v = .bool b
  | .str s, v => v = .string s
  | .ptr none, v => v = .pointer none
  | .ptr (some a), v => ∃ x, ptrRel φ a x ∧ v = .pointer (some x)
  | .slice none l c _, v => l = 0 ∧ c = 0 ∧ v = .slice none 0 0
  | .slice (some a) l c e, v => 0 < e ∧ l ≤ c ∧ ∃ cb sh cs x c', φ a.1 = some (cb, sh, cs) ∧ c ≤ c' ∧ v = .slice (some x) l c' ∧ (c' ≠ 0 → x = ⟨cb, sh + a.2, none⟩ ∧ sh + a.2 + c' * e ≤ cs)
  | .map none, v => v = .map none
  | .map (some b), v => ∃ cb sh cs, φ b = some (cb, sh, cs) ∧ v = .map (some cb)
  | .fn f caps, v => ∃ xs : List Addr, R2 (ptrRel φ) caps xs ∧ v = .func (.func f) #[] (xs.map fun x => Value.pointer (some x)).toArray
  | .nilfn, v => v = .nilFunc
  | .bfn f a, v => ∃ x : Addr, ptrRel φ a x ∧ v = .func (.func f) #[.pointer (some x)] #[]

def PartRel (φ : Phi) : Part → Value → Prop
  | .s x, v => SVRel φ x v
  | .agg l, v => ∃ cs : List Value, R2 (SVRel φ) l cs ∧ v = .agg cs.toArray

def AVRel (φ : Phi) : AV → Value → Prop
  | .s x, v => SVRel φ x v
  | .agg l, v => ∃ cs : List Value, R2 (SVRel φ) l cs ∧ v = .agg cs.toArray
  | .tup ps, v => ∃ vs : List Value, R2 (PartRel φ) ps vs ∧ v = .tuple vs.toArray

theorem AVRel_undef (φ : Phi) : AVRel φ undef Go.undef := ⟨[], trivial, rfl⟩

def Ext (φ φ' : Phi) : Prop := ∀ b x, φ b = some x → φ' b = some x

theorem Ext.refl (φ : Phi) : Ext φ φ := fun _ _ h => h
theorem Ext.trans {φ φ' φ'' : Phi} (h : Ext φ φ') (h' : Ext φ' φ'') : Ext φ φ'' := fun b x hx => h' b x (h b x hx)

theorem ptrRel.mono {φ φ' : Phi} (h : Ext φ φ') {a : Nat × Nat} {v : Addr} (hr : ptrRel φ a v) : ptrRel φ' a v := by
  obtain ⟨cb, sh, cs, h1, h2⟩ := hr
  exact ⟨cb, sh, cs, h _ _ h1, h2⟩

theorem SVRel.mono {φ φ' : Phi} (h : Ext φ φ') : ∀ {x : SV} {v : Value}, SVRel φ x v → SVRel φ' x v
  | .int .., _, hr => hr
  | .bool .., _, hr => hr
  | .str .., _, hr => hr
  | .ptr none, _, hr => hr
  | .ptr (some _), _, ⟨x, hx, hv⟩ => ⟨x, hx.mono h, hv⟩
  | .slice none .., _, hr => hr
  | .slice (some _) .., _, ⟨h0, h1, cb, sh, cs, x, c', h2, h3⟩ => ⟨h0, h1, cb, sh, cs, x, c', h _ _ h2, h3⟩
  | .map none, _, hr => hr
  | .map (some _), _, ⟨cb, sh, cs, h1, h2⟩ => ⟨cb, sh, cs, h _ _ h1, h2⟩
  | .fn .., _, ⟨xs, h1, h2⟩ => ⟨xs, R2.mono (fun _ _ hp => hp.mono h) h1, h2⟩
  | .bfn .., _, ⟨x, h1, h2⟩ => ⟨x, h1.mono h, h2⟩
  | .nilfn, _, hr => hr

theorem R2.ext {φ φ' : Phi} (h : Ext φ φ') {l : List SV} {cs : List Value} (hr : R2 (SVRel φ) l cs) : R2 (SVRel φ') l cs := R2.mono (fun _ _ => SVRel.mono h) hr

theorem PartRel.mono {φ φ' : Phi} (h : Ext φ φ') : ∀ {x : Part} {v : Value}, PartRel φ x v → PartRel φ' x v
  | .s _, _, hr => SVRel.mono h hr
  | .agg _, _, ⟨cs, h1, h2⟩ => ⟨cs, R2.ext h h1, h2⟩

theorem AVRel.mono {φ φ' : Phi} (h : Ext φ φ') : ∀ {x : AV} {v : Value}, AVRel φ x v → AVRel φ' x v
  | .s _, _, hr => SVRel.mono h hr
  | .agg _, _, ⟨cs, h1, h2⟩ => ⟨cs, R2.ext h h1, h2⟩
  | .tup _, _, ⟨vs, h1, h2⟩ => ⟨vs, R2.mono (fun _ _ => PartRel.mono h) h1, h2⟩

theorem SVRel.oneCell {φ : Phi} : ∀ {x : SV} {v : Value}, SVRel φ x v → v.oneCell' = true
  | .int .., _, hr => by subst hr; rfl
  | .bool .., _, hr => by subst hr; rfl
  | .str .., _, hr => by subst hr; rfl
  | .ptr none, _, hr => by subst hr; rfl
  | .ptr (some _), _, ⟨x, _, hv⟩ => by subst hv; rfl
  | .slice none .., _, ⟨_, _, hr⟩ => by subst hr; rfl
  | .slice (some _) .., _, ⟨_, _, _, _, _, _, _, _, _, hv, _⟩ => by subst hv; rfl
  | .map none, _, hr => by subst hr; rfl
  | .map (some _), _, ⟨_, _, _, _, hv⟩ => by subst hv; rfl
  | .fn .., _, ⟨_, _, hv⟩ => by subst hv; rfl
  | .bfn .., _, ⟨_, _, hv⟩ => by subst hv; rfl
  | .nilfn, _, hr => by subst hr; rfl

theorem R2.oneCell {φ : Phi} {l : List SV} {cs : List Value} (h : R2 (SVRel φ) l cs) : ∀ v ∈ cs, v.oneCell' = true := by
  intro v hv
  obtain ⟨i, hi⟩ := List.getElem?_of_mem hv
  obtain ⟨a, _, hr⟩ := h.get' i v hi
  exact hr.oneCell

/-- The cells of a value. -/
theorem AVRel.cells {φ : Phi} {x : AV} {v : Value} {l : List SV} (h : AVRel φ x v) (hc : x.cells? = some l) : R2 (SVRel φ) l v.cells.toList := by
  cases x with
  | s x =>
    simp only [AV.cells?, Option.some.injEq] at hc
    subst hc
    have h1 := SVRel.oneCell h
    have : v.cells = #[v] := by cases v <;> first | rfl | simp [Value.oneCell'] at h1
    rw [this]
    exact ⟨h, trivial⟩
  | agg l' =>
    simp only [AV.cells?, Option.some.injEq] at hc
    subst hc
    obtain ⟨cs, h1, rfl⟩ := h
    simpa [Value.cells] using h1
  | tup l' => simp [AV.cells?] at hc

structure HRel (B : Nat) (w0 : World) (φ : Phi) (H : AH) (w : World) : Prop where
  dom : ∀ b, H.blk b = none → φ b = none
  lt : ∀ b, H.next ≤ b → H.blk b = none
  cells : ∀ b ro l, H.blk b = some (.cells ro l) → ∃ cb sh cs c e fr, φ b = some (cb, sh, cs) ∧ w.heap[cb]? = some (.cells c e fr) ∧ c.size = cs ∧
    sh + l.length ≤ cs ∧ (∀ i x, l[i]? = some x → ∃ v, c[sh + i]? = some v ∧ SVRel φ x v) ∧ (ro = false → fr = (0, 0) ∧ B ≤ cb)
  maps : ∀ b es, H.blk b = some (.map es) → ∃ cb sh cs ces clk, φ b = some (cb, sh, cs) ∧ w.heap[cb]? = some (.map ces clk) ∧
    R2 (fun (p : SV × Part) (q : MapEntry) => SVRel φ p.1 q.key ∧ PartRel φ p.2 q.val) es ces.toList ∧ B ≤ cb
  inj : ∀ b b' x x', φ b = some x → φ b' = some x' → H.blk b ≠ some .dead → H.blk b' ≠ some .dead → x.1 = x'.1 → b = b' ∨ ∃ l l', H.blk b = some (.cells true l) ∧ H.blk b' = some (.cells true l')
  old : ∀ c, c < B → w.heap[c]? = w0.heap[c]?
  bound : B ≤ w.heap.size
  os : w.os = w0.os
  out : w.output = w0.output
  nf : ∀ (k : Nat) c e fr, B ≤ k → w.heap[k]? = some (.cells c e fr) → fr = (0, 0)

variable {B : Nat} {w0 : World} {φ : Phi} {H : AH} {w : World}

theorem HRel.lt_size (h : HRel B w0 φ H w) {b : Nat} {x : Nat × Nat × Nat} (hx : φ b = some x) (hl : H.blk b ≠ some .dead) : x.1 < w.heap.size := by
  cases hb : H.blk b with
  | none => rw [h.dom b hb] at hx; cases hx
  | some k =>
    cases k with
    | dead => exact absurd hb hl
    | cells ro l =>
      obtain ⟨cb, sh, cs, c, e, fr, h1, h2, _⟩ := h.cells b ro l hb
      rw [hx] at h1
      cases h1
      exact (Array.getElem?_eq_some_iff.1 h2).1
    | map es =>
      obtain ⟨cb, sh, cs, c, e, h1, h2, _⟩ := h.maps b es hb
      rw [hx] at h1
      cases h1
      exact (Array.getElem?_eq_some_iff.1 h2).1

/-- The relation hangs on the heap of the world alone. -/
theorem HRel.heap_eq (h : HRel B w0 φ H w) {w' : World} (he : w'.heap = w.heap) (ho : w'.os = w.os) (hu : w'.output = w.output) : HRel B w0 φ H w' :=
  { dom := h.dom, lt := h.lt, inj := h.inj, cells := by rw [he]; exact h.cells, maps := by rw [he]; exact h.maps, old := by rw [he]; exact h.old, bound := by rw [he]; exact h.bound, os := ho.trans h.os, out := hu.trans h.out, nf := by rw [he]; exact h.nf }

theorem HRel.bump (h : HRel B w0 φ H w) (n : Nat) : HRel B w0 φ (H.bump n) w :=
  { dom := h.dom, lt := fun b hb => h.lt b (by simp [AH.bump] at hb; omega), inj := h.inj, cells := h.cells, maps := h.maps, old := h.old, bound := h.bound, os := h.os, out := h.out, nf := h.nf }

theorem cell?_of {cb i : Nat} {c : Array Value} {e : TypeId} {fr : Nat × Nat} (hc : w.heap[cb]? = some (.cells c e fr)) : w.cell? ⟨cb, i, none⟩ = c[i]? := by
  simp [World.cell?, hc]

/-- What a cell of an abstract block stands for. -/
theorem HRel.ld (h : HRel B w0 φ H w) {b o : Nat} {x : SV} (hl : H.ld b o = some x) : ∃ cb sh cs v, φ b = some (cb, sh, cs) ∧ w.cell? ⟨cb, sh + o, none⟩ = some v ∧ SVRel φ x v := by
  unfold AH.ld at hl
  split at hl
  · rename_i ro l hb
    obtain ⟨cb, sh, cs, c, e, fr, h1, h2, h3, h4, h5, h6⟩ := h.cells b ro l hb
    obtain ⟨v, hv, hr⟩ := h5 o x hl
    exact ⟨cb, sh, cs, v, h1, by rw [cell?_of h2]; exact hv, hr⟩
  · cases hl

theorem HRel.ldn (h : HRel B w0 φ H w) {b o n : Nat} {l : List SV} (hl : H.ldn b o n = some l) : ∃ cb sh cs vs, φ b = some (cb, sh, cs) ∧ l.length = n ∧ vs.length = n ∧
    (∀ j v, vs[j]? = some v → w.cell? ⟨cb, sh + o + j, none⟩ = some v) ∧ R2 (SVRel φ) l vs := by
  unfold AH.ldn at hl
  split at hl
  · rename_i ro l' hb
    split at hl
    · rename_i hle
      obtain ⟨cb, sh, cs, c, e, fr, h1, h2, h3, h4, h5, h6⟩ := h.cells b ro l' hb
      cases hl
      refine ⟨cb, sh, cs, (c.toList.drop (sh + o)).take n, h1, by simp; omega, by simp; omega, ?_, ?_⟩
      · intro j v hj
        rw [cell?_of h2]
        rw [List.getElem?_take] at hj
        split at hj
        · simpa using hj
        · cases hj
      · refine R2.of_get (by simp; omega) ?_
        intro i x v hx hv
        rw [List.getElem?_take] at hx hv
        split at hx
        · rw [if_pos (by assumption)] at hv
          rw [List.getElem?_drop] at hx hv
          obtain ⟨v', hv', hr⟩ := h5 (o + i) x hx
          have : c[sh + (o + i)]? = some v := by simpa [Nat.add_assoc] using hv
          rw [hv'] at this
          cases this
          exact hr
        · cases hx
    · cases hl
  · cases hl

theorem setRow_get (w : World) (g : Nat) (c : Array Value) (x : Nat) : (w.setRow g c).heap[x]? = if x = g then (w.heap[g]?).map (fun o => match o with | .cells _ e fr => .cells c e fr | o => o) else w.heap[x]? := by
  unfold World.setRow
  simp only [Array.getElem?_modify]
  by_cases hx : x = g
  · subst hx; simp; rfl
  · simp [hx, Ne.symm hx]

theorem splice_length (l vs : List SV) (o : Nat) (h : o + vs.length ≤ l.length) : (splice l o vs).length = l.length := by
  unfold splice; simp; omega

theorem splice_get (l vs : List SV) (o i : Nat) (h : o + vs.length ≤ l.length) : (splice l o vs)[i]? = if o ≤ i ∧ i < o + vs.length then vs[i - o]? else l[i]? := by
  unfold splice
  rw [List.getElem?_append]
  simp only [List.length_take]
  by_cases h1 : i < o
  · rw [if_pos (by omega), if_neg (by omega), List.getElem?_take, if_pos h1]
  · rw [if_neg (by omega), List.getElem?_append]
    have : min o l.length = o := by omega
    rw [this]
    by_cases h2 : i < o + vs.length
    · rw [if_pos (by omega), if_pos ⟨by omega, h2⟩]
    · rw [if_neg (by omega), if_neg (by omega), List.getElem?_drop]
      congr 1; omega

theorem vals_get (c : List Value) (vs : List Value) (o i : Nat) (h : o + vs.length ≤ c.length) : (c.take o ++ vs ++ c.drop (o + vs.length))[i]? = if o ≤ i ∧ i < o + vs.length then vs[i - o]? else c[i]? := by
  rw [List.append_assoc, List.getElem?_append]
  simp only [List.length_take]
  by_cases h1 : i < o
  · rw [if_pos (by omega), if_neg (by omega), List.getElem?_take, if_pos h1]
  · rw [if_neg (by omega), List.getElem?_append]
    have : min o c.length = o := by omega
    rw [this]
    by_cases h2 : i < o + vs.length
    · rw [if_pos (by omega), if_pos ⟨by omega, h2⟩]
    · rw [if_neg (by omega), if_neg (by omega), List.getElem?_drop]
      congr 1; omega

/-- A store of some cells. -/
theorem nf_setRow {B : Nat} {w : World} (h : ∀ (k : Nat) c e fr, B ≤ k → w.heap[k]? = some (.cells c e fr) → fr = (0, 0)) (g : Nat) (x : Array Value) : ∀ (k : Nat) c e fr, B ≤ k → (w.setRow g x).heap[k]? = some (.cells c e fr) → fr = (0, 0) := by
  intro k c e fr hk hc
  rw [setRow_get] at hc
  split at hc
  · rename_i hkg
    subst hkg
    cases hw : w.heap[k]? with
    | none => rw [hw] at hc; cases hc
    | some o =>
      rw [hw] at hc
      cases o <;> simp at hc
      rename_i c0 e0 fr0
      obtain ⟨_, _, rfl⟩ := hc
      exact h k c0 e0 fr0 hk hw
  · exact h k c e fr hk hc

theorem HRel.stn (P : Program) (h : HRel B w0 φ H w) {b o : Nat} {l : List SV} {H' : AH} (hs : H.stn b o l = some H') {vs : List Value} (hr : R2 (SVRel φ) l vs) :
    ∃ cb sh cs w', φ b = some (cb, sh, cs) ∧ (storeCells ⟨cb, sh + o, none⟩ vs).run P w = .ok () w' ∧ HRel B w0 φ H' w' ∧ w'.heap.size = w.heap.size := by
  unfold AH.stn at hs
  split at hs
  · rename_i l' hb
    split at hs
    · rename_i hle
      obtain ⟨cb, sh, cs, c, e, fr, h1, h2, h3, h4, h5, h6⟩ := h.cells b false l' hb
      obtain ⟨hfr, hB⟩ := h6 rfl
      subst hfr
      cases hs
      have hlen := hr.length
      refine ⟨cb, sh, cs, _, h1, run_storeCells_at P cb (sh + o) e vs 0 c w h2 (by omega) hr.oneCell, ?_, by simp [World.setRow]⟩
      simp only [Nat.add_zero]
      have hcl : sh + o + vs.length ≤ c.toList.length := by simp; omega
      refine { dom := ?_, lt := ?_, cells := ?_, maps := ?_, inj := ?_, old := ?_, bound := ?_, os := h.os, out := h.out, nf := nf_setRow h.nf _ _ }
      · intro b' hb'
        simp only [AH.set, upd] at hb'
        split at hb'
        · cases hb'
        · exact h.dom b' hb'
      · intro b' hb'
        simp only [AH.set, upd] at hb' ⊢
        rw [if_neg (fun hc => by subst hc; rw [h.lt _ hb'] at hb; cases hb)]
        exact h.lt b' hb'
      · intro b' ro' l'' hb'
        simp only [AH.set, upd] at hb'
        split at hb'
        · rename_i heq
          subst heq
          cases hb'
          refine ⟨cb, sh, cs, (c.toList.take (sh + o) ++ vs ++ c.toList.drop (sh + o + vs.length)).toArray, e, (0, 0), h1, ?_, ?_, ?_, ?_, fun _ => ⟨rfl, hB⟩⟩
          · rw [setRow_get, if_pos rfl, h2]; rfl
          · simp; simp at hcl; omega
          · rw [splice_length _ _ _ hle]; exact h4
          · intro i x hx
            rw [splice_get _ _ _ _ hle] at hx
            rw [List.getElem?_toArray, vals_get _ _ _ _ hcl]
            by_cases hi : o ≤ i ∧ i < o + l.length
            · rw [if_pos hi] at hx
              rw [if_pos (by omega)]
              obtain ⟨v, hv, hrv⟩ := hr.get (i - o) x hx
              exact ⟨v, by rw [show sh + i - (sh + o) = i - o by omega]; exact hv, hrv⟩
            · rw [if_neg hi] at hx
              rw [if_neg (by omega)]
              simpa using h5 i x hx
        · rename_i hne
          obtain ⟨cb', sh', cs', c', e', fr', g1, g2, g3, g4, g5, g6⟩ := h.cells b' ro' l'' hb'
          have hcb : cb' ≠ cb := by
            intro heq
            subst heq
            rcases h.inj b' b _ _ g1 h1 (by rw [hb']; simp) (by rw [hb]; simp) rfl with heq | ⟨_, _, _, hx⟩
            · exact hne heq
            · rw [hb] at hx; cases hx
          exact ⟨cb', sh', cs', c', e', fr', g1, by rw [setRow_get, if_neg hcb]; exact g2, g3, g4, g5, g6⟩
      · intro b' es hb'
        simp only [AH.set, upd] at hb'
        split at hb'
        · cases hb'
        · rename_i hne
          obtain ⟨cb', sh', cs', ces, clk, g1, g2, g3, g4⟩ := h.maps b' es hb'
          have hcb : cb' ≠ cb := by
            intro heq
            subst heq
            rw [h2] at g2
            cases g2
          exact ⟨cb', sh', cs', ces, clk, g1, by rw [setRow_get, if_neg hcb]; exact g2, g3, g4⟩
      · intro b1 b2 x1 x2 hx1 hx2 hd1 hd2 hxe
        have hlive : ∀ b', (H.set b (.cells false (splice l' o l))).blk b' ≠ some .dead → H.blk b' ≠ some .dead := by
          intro b' hb' hd
          simp only [AH.set, upd] at hb'
          split at hb'
          · rename_i heq; subst heq; rw [hb] at hd; cases hd
          · exact hb' hd
        rcases h.inj b1 b2 x1 x2 hx1 hx2 (hlive _ hd1) (hlive _ hd2) hxe with heq | ⟨m1, m2, e1, e2⟩
        · exact .inl heq
        · refine .inr ⟨m1, m2, ?_, ?_⟩
          · simp only [AH.set, upd]; rw [if_neg (fun hc => by subst hc; rw [hb] at e1; cases e1)]; exact e1
          · simp only [AH.set, upd]; rw [if_neg (fun hc => by subst hc; rw [hb] at e2; cases e2)]; exact e2
      · intro c' hc'
        rw [setRow_get, if_neg (by omega)]
        exact h.old c' hc'
      · simpa [World.setRow] using h.bound
    · cases hs
  · cases hs

/-- A new block. -/
theorem HRel.new (h : HRel B w0 φ H w) {id : Nat} {l : List SV} {H' : AH} (hn : H.new id (.cells false l) = some H') (hid : id < H.next) {c : Array Value} (hc : l.length ≤ c.size)
    (hr : ∀ (i : Nat) (x : SV), l[i]? = some x → ∃ v, c[i]? = some v ∧ SVRel φ x v) (e : TypeId) (w' : World) (hw : w'.heap = w.heap.push (.cells c e (0, 0))) (ho : w'.os = w.os) (hu : w'.output = w.output) :
    ∃ φ', Ext φ φ' ∧ φ' id = some (w.heap.size, 0, c.size) ∧ HRel B w0 φ' H' w' := by
  unfold AH.new at hn
  split at hn
  · rename_i hb
    cases hn
    have hφ := h.dom id hb
    refine ⟨fun b => if b = id then some (w.heap.size, 0, c.size) else φ b, ?_, by simp, ?_⟩
    · intro b x hx
      by_cases hbi : b = id
      · subst hbi; rw [hφ] at hx; cases hx
      · simp [hbi, hx]
    · have hext : Ext φ (fun b => if b = id then some (w.heap.size, 0, c.size) else φ b) := by
        intro b x hx
        by_cases hbi : b = id
        · subst hbi; rw [hφ] at hx; cases hx
        · simp [hbi, hx]
      have hget : ∀ x, x < w.heap.size → w'.heap[x]? = w.heap[x]? := by
        intro x hx; rw [hw, Array.getElem?_push]; rw [if_neg (by omega)]
      refine { dom := ?_, lt := ?_, cells := ?_, maps := ?_, inj := ?_, old := ?_, bound := ?_, os := ho.trans h.os, out := hu.trans h.out, nf := ?_ }
      · intro b' hb'
        simp only [AH.set, upd] at hb'
        split at hb'
        · cases hb'
        · rename_i hne; simp [hne, h.dom b' hb']
      · intro b' hb'
        simp only [AH.set, upd] at hb' ⊢
        rw [if_neg (by omega)]
        exact h.lt b' hb'
      · intro b' ro' l'' hb'
        simp only [AH.set, upd] at hb'
        split at hb'
        · rename_i heq
          cases hb'
          refine ⟨w.heap.size, 0, c.size, c, e, (0, 0), by simp [heq], by rw [hw]; simp, rfl, by simpa using hc, ?_, fun _ => ⟨rfl, h.bound⟩⟩
          intro i x hx
          obtain ⟨v, hv, hrv⟩ := hr i x hx
          exact ⟨v, by simpa using hv, hrv.mono hext⟩
        · rename_i hne
          obtain ⟨cb', sh', cs', c', e', fr', g1, g2, g3, g4, g5, g6⟩ := h.cells b' ro' l'' hb'
          have hlt := (Array.getElem?_eq_some_iff.1 g2).1
          refine ⟨cb', sh', cs', c', e', fr', by simp [hne, g1], by rw [hget _ hlt]; exact g2, g3, g4, ?_, g6⟩
          intro i x hx
          obtain ⟨v, hv, hrv⟩ := g5 i x hx
          exact ⟨v, hv, hrv.mono hext⟩
      · intro b' es hb'
        simp only [AH.set, upd] at hb'
        split at hb'
        · cases hb'
        · rename_i hne
          obtain ⟨cb', sh', cs', ces, clk, g1, g2, g3, g4⟩ := h.maps b' es hb'
          have hlt := (Array.getElem?_eq_some_iff.1 g2).1
          exact ⟨cb', sh', cs', ces, clk, by simp [hne, g1], by rw [hget _ hlt]; exact g2, R2.mono (fun _ _ hp => ⟨hp.1.mono hext, hp.2.mono hext⟩) g3, g4⟩
      · intro b1 b2 x1 x2 hx1 hx2 hd1 hd2 hxe
        by_cases e1 : b1 = id
        · by_cases e2 : b2 = id
          · exact .inl (e1.trans e2.symm)
          · simp only [e1, e2, if_true, if_false] at hx1 hx2
            cases hx1
            have := h.lt_size hx2 (by intro hd; apply hd2; simp only [AH.set, upd]; rw [if_neg e2]; exact hd)
            simp only at hxe; omega
        · by_cases e2 : b2 = id
          · simp only [e1, e2, if_true, if_false] at hx1 hx2
            cases hx2
            have := h.lt_size hx1 (by intro hd; apply hd1; simp only [AH.set, upd]; rw [if_neg e1]; exact hd)
            simp only at hxe; omega
          · simp only [e1, e2, if_false] at hx1 hx2
            have l1 : H.blk b1 ≠ some .dead := by intro hd; apply hd1; simp only [AH.set, upd]; rw [if_neg e1]; exact hd
            have l2 : H.blk b2 ≠ some .dead := by intro hd; apply hd2; simp only [AH.set, upd]; rw [if_neg e2]; exact hd
            rcases h.inj b1 b2 x1 x2 hx1 hx2 l1 l2 hxe with heq | ⟨m1, m2, k1, k2⟩
            · exact .inl heq
            · exact .inr ⟨m1, m2, by simp only [AH.set, upd]; rw [if_neg e1]; exact k1, by simp only [AH.set, upd]; rw [if_neg e2]; exact k2⟩
      · intro c' hc'
        rw [hget _ (by have := h.bound; omega)]
        exact h.old c' hc'
      · rw [hw]; simp; have := h.bound; omega
      · intro k c' e' fr' hk hc'
        by_cases hlt : k < w.heap.size
        · rw [hget k hlt] at hc'; exact h.nf k c' e' fr' hk hc'
        · rw [hw, Array.getElem?_push] at hc'
          split at hc'
          · cases hc'; rfl
          · rw [Array.getElem?_eq_none (by omega)] at hc'; cases hc'
  · cases hn

end Go.AM
