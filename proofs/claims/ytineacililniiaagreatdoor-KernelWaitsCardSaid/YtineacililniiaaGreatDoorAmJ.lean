/-
  THE ABSTRACT MACHINE: in whatever order a region's operations come that Go leaves open, its run comes to the same.
-/
import Derived.Test.YtineacililniiaaGreatDoorAmI
namespace Go.AM

/- ---- what an operation reads ---- -/

def Opd.slots : Opd → List Nat
  | .t n => [n]
  | _ => []

def optSlots : Option Opd → List Nat
  | none => []
  | some x => x.slots

def ROp.opds : ROp → List Opd
  | .move x | .nilCheck x | .box x | .load _ x | .fieldAddr _ x | .field _ _ x | .un _ x | .conv _ x | .extract _ x | .bindf _ x | .len x | .clear _ _ x => [x]
  | .pick c a b => [c, a, b]
  | .newc _ | .lenArr _ | .stuck => []
  | .build _ ps | .buildSlice _ _ _ ps => ps.map fun p => p.2.2
  | .store _ a v => [a, v]
  | .indexSl _ x i | .indexArr _ _ x i | .index _ _ _ x i | .bin _ x i | .eqs _ _ x i | .eqAgg _ _ x i | .makeSlice _ _ _ x i | .append _ _ x i | .copy _ x i | .minmax _ x i => [x, i]
  | .slSl _ x lo hi mx => x :: (lo.toList ++ hi.toList ++ mx.toList)
  | .makeFunc _ caps => caps
  | .call _ args | .hop _ args => args
  | .callv x args => x :: args

def ROp.reads (r : ROp) : List Nat := r.opds.flatMap Opd.slots

theorem opts_congr {ρ ρ' : Opd → AV} {x : Option Opd} (h : ∀ y ∈ x.toList, ρ y = ρ' y) : x.map ρ = x.map ρ' := by
  cases x with
  | none => rfl
  | some y => simp [h y (by simp)]

theorem map_congr' {ρ ρ' : Opd → AV} {l : List Opd} (h : ∀ y ∈ l, ρ y = ρ' y) : l.map ρ = l.map ρ' := List.map_congr_left h

theorem parts_congr {ρ ρ' : Opd → AV} {ps : List (Nat × Nat × Opd)} (h : ∀ y ∈ ps.map (fun p => p.2.2), ρ y = ρ' y) :
    ps.map (fun p => (p.1, p.2.1, ρ p.2.2)) = ps.map (fun p => (p.1, p.2.1, ρ' p.2.2)) := by
  apply List.map_congr_left
  intro p hp
  rw [h p.2.2 (List.mem_map.2 ⟨p, hp, rfl⟩)]

theorem opA_congr {rec : Nat → List AV → AH → Option (AV × AH)} {ρ ρ' : Opd → AV} {id : Nat} {H : AH} {r : ROp} (h : ∀ y ∈ r.opds, ρ y = ρ' y) : opA rec ρ id H r = opA rec ρ' id H r := by
  cases r <;> simp only [ROp.opds, List.mem_cons, List.not_mem_nil, or_false, forall_eq_or_imp, forall_eq, List.mem_append] at h <;>
    simp only [opA, ROp.kind, pureA, loadO, allocO, effO] <;>
    first
    | rfl
    | (simp only [h]; done)
    | (obtain ⟨h1, h2⟩ := h; simp only [h1, h2]; done)
    | (obtain ⟨h1, h2, h3⟩ := h; simp only [h1, h2, h3]; done)
    | (rw [parts_congr h]; done)
    | (rw [map_congr' h]; done)
    | (obtain ⟨h1, h2⟩ := h; rw [h1, map_congr' h2]; done)
    | (obtain ⟨h1, h2⟩ := h
       rw [h1, opts_congr (fun y hy => h2 y (.inl (.inl hy))), opts_congr (fun y hy => h2 y (.inl (.inr hy))), opts_congr (fun y hy => h2 y (.inr hy))])

def guardSlots : Option (Nat × Bool) → List Nat
  | none => []
  | some (t, _) => [t]

/-- All slots that an operation looks at. -/
def ROper.looks (r : ROper) : List Nat := guardSlots r.guard ++ r.op.reads

def hits (d : Option Nat) (l : List Nat) : Bool :=
  match d with
  | none => false
  | some d => l.contains d

theorem getD_put {T : List AV} {d : Option Nat} {v : AV} {t : Nat} (h : hits d [t] = false) : (put T d v).getD t undef = T.getD t undef := by
  cases d with
  | none => rfl
  | some d =>
    have hne : d ≠ t := by intro hc; subst hc; simp [hits] at h
    simp [put, List.getD_eq_getElem?_getD, List.getElem?_set, hne]

theorem hits_sub {d : Option Nat} {l m : List Nat} (h : hits d l = false) (hs : ∀ t ∈ m, t ∈ l) : hits d m = false := by
  cases d with
  | none => rfl
  | some d =>
    simp only [hits] at h ⊢
    rw [Bool.eq_false_iff] at h ⊢
    intro hc
    exact h (by simp only [List.contains_iff_mem] at hc ⊢; exact hs _ hc)

theorem ev_put {T : List AV} {d : Option Nat} {v : AV} {y : Opd} (h : hits d y.slots = false) : ev (put T d v) y = ev T y := by
  cases y with
  | t n => exact getD_put h
  | c v => rfl
  | g n => rfl

theorem wanted_put {T : List AV} {d : Option Nat} {v : AV} {g : Option (Nat × Bool)} (h : hits d (guardSlots g) = false) : wantedA (put T d v) g = wantedA T g := by
  cases g with
  | none => rfl
  | some p => obtain ⟨t, b⟩ := p; simp only [wantedA]; rw [getD_put h]

section
variable {rec : Nat → List AV → AH → Option (AV × AH)} {base : Nat}

/-- What an operation gives, a guard that is not met included. -/
def opR (rec : Nat → List AV → AH → Option (AV × AH)) (base : Nat) (r : ROper) (T : List AV) (H : AH) : Option (AV × AH) :=
  if wantedA T r.guard then opA rec (ev T) (base + r.idx) H r.op else some (undef, H)

theorem stepA_eq (r : ROper) (T : List AV) (H : AH) : stepA rec base r T H = (opR rec base r T H).map fun x => (put T r.dst x.1, x.2) := by
  unfold stepA opR
  split <;> simp

theorem opR_put {r : ROper} {T : List AV} {H : AH} {d : Option Nat} {v : AV} (h : hits d r.looks = false) : opR rec base r (put T d v) H = opR rec base r T H := by
  unfold opR
  rw [wanted_put (hits_sub h (fun t ht => by simp [ROper.looks, ht]))]
  split
  · refine opA_congr fun y hy => ev_put (hits_sub h fun t ht => ?_)
    simp only [ROper.looks, List.mem_append]
    exact .inr (List.mem_flatMap.2 ⟨y, hy, ht⟩)
  · rfl

theorem put_comm {T : List AV} {d e : Option Nat} {u v : AV} (h : hits d e.toList = false) : put (put T d u) e v = put (put T e v) d u := by
  cases d with
  | none => rfl
  | some d =>
    cases e with
    | none => rfl
    | some e =>
      have hne : d ≠ e := by intro hc; subst hc; simp [hits] at h
      simp only [put]
      exact List.set_comm _ _ hne

/-- The slots of two operations do not meet. -/
def apart (p q : ROper) : Bool := !hits p.dst q.looks && !hits q.dst p.looks && !hits p.dst q.dst.toList

theorem apart_spec {p q : ROper} (h : apart p q = true) : hits p.dst q.looks = false ∧ hits q.dst p.looks = false ∧ hits p.dst q.dst.toList = false := by
  simpa [apart, and_assoc] using h

/-- What comes first may come last: of two operations, by what they do to the heap. -/
theorem swap_of {y z : ROper} (ha : apart y z = true) {T : List AV} {H : AH} {s1 s2 : List AV × AH} (hy : stepA rec base y T H = some s1) (hz : stepA rec base z s1.1 s1.2 = some s2)
    (hc : ∀ v H1 u H2, opR rec base y T H = some (v, H1) → opR rec base z T H1 = some (u, H2) → ∃ H', opR rec base z T H = some (u, H') ∧ opR rec base y T H' = some (v, H2)) :
    ∃ s', stepA rec base z T H = some s' ∧ stepA rec base y s'.1 s'.2 = some s2 := by
  obtain ⟨a1, a2, a3⟩ := apart_spec ha
  rw [stepA_eq] at hy hz
  simp only [Option.map_eq_some_iff] at hy hz
  obtain ⟨⟨v, H1⟩, h1, rfl⟩ := hy
  obtain ⟨⟨u, H2⟩, h2, rfl⟩ := hz
  simp only at h2
  rw [opR_put a1] at h2
  obtain ⟨H', h3, h4⟩ := hc v H1 u H2 h1 h2
  refine ⟨(put T z.dst u, H'), ?_, ?_⟩
  · rw [stepA_eq, h3]; rfl
  · rw [stepA_eq]
    simp only
    rw [opR_put a2, h4]
    simp only [Option.map_some, Option.some.injEq, Prod.mk.injEq, and_true]
    exact (put_comm a3).symm

theorem opR_pure {r : ROper} (hk : r.op.kind = .pure) {T : List AV} {H H' : AH} {v : AV} (h : opR rec base r T H = some (v, H')) : H' = H ∧ ∀ H2, opR rec base r T H2 = some (v, H2) := by
  unfold opR at *
  split at h
  · rename_i hw
    unfold opA at h
    rw [hk] at h
    simp only [Option.map_eq_some_iff, Prod.mk.injEq] at h
    obtain ⟨u, h1, h2, h3⟩ := h
    subst h2
    refine ⟨h3.symm, fun H2 => ?_⟩
    rw [if_pos hw]
    unfold opA
    rw [hk]
    simp [h1]
  · rename_i hw
    cases h
    exact ⟨rfl, fun H2 => by rw [if_neg hw]⟩

theorem opR_load {r : ROper} (hk : r.op.kind = .load) {T : List AV} {H H' : AH} {v : AV} (h : opR rec base r T H = some (v, H')) : H' = H := by
  unfold opR at h
  split at h
  · unfold opA at h
    rw [hk] at h
    simp only [Option.map_eq_some_iff, Prod.mk.injEq] at h
    obtain ⟨u, h1, h2, h3⟩ := h
    exact h3.symm
  · cases h; rfl

/-- A load behind a new block. -/
theorem opR_load_set {r : ROper} (hk : r.op.kind = .load) {T : List AV} {H H' : AH} {v : AV} (h : opR rec base r T H = some (v, H')) {x : Nat} {X : Blk} (hx : H.blk x = none) : opR rec base r T (H.set x X) = some (v, H.set x X) := by
  unfold opR at *
  split at h
  · rename_i hw
    rw [if_pos hw]
    unfold opA at *
    rw [hk] at h ⊢
    simp only [Option.map_eq_some_iff, Prod.mk.injEq] at h ⊢
    obtain ⟨u, h1, h2, h3⟩ := h
    refine ⟨u, ?_, h2, trivial⟩
    generalize r.op = o at h1 ⊢
    cases o <;> simp only [loadO, reduceCtorEq] at h1 ⊢
    exact loadA_frame hx h1
  · rename_i hw; rw [if_neg hw]; cases h; rfl

/-- An allocation: nothing of the heap is asked but that its name is free. -/
theorem opR_alloc {r : ROper} (hk : r.op.kind = .alloc) {T : List AV} {H H' : AH} {v : AV} (h : opR rec base r T H = some (v, H')) :
    (H' = H ∧ ∀ H2, opR rec base r T H2 = some (v, H2)) ∨ ∃ X, H.blk (base + r.idx) = none ∧ H' = H.set (base + r.idx) X ∧ ∀ H2 : AH, H2.blk (base + r.idx) = none → opR rec base r T H2 = some (v, H2.set (base + r.idx) X) := by
  unfold opR at *
  split at h
  · rename_i hw
    unfold opA at h
    rw [hk] at h
    simp only [Option.bind_eq_some_iff, Option.map_eq_some_iff, Prod.mk.injEq] at h
    obtain ⟨⟨l, u⟩, h1, H1, h2, h3, h4⟩ := h
    subst h4
    right
    unfold AH.new at h2
    split at h2
    · rename_i hb
      cases h2
      refine ⟨.cells false l, hb, rfl, fun H2 hb2 => ?_⟩
      rw [if_pos hw]
      unfold opA
      rw [hk]
      simp [h1, AH.new, hb2]
      exact h3
    · cases h2
  · rename_i hw
    cases h
    exact .inl ⟨rfl, fun H2 => by rw [if_neg hw]⟩

theorem opR_frame (hr : FrmOk rec) {r : ROper} {T : List AV} {H H' : AH} {v : AV} (h : opR rec base r T H = some (v, H')) {x : Nat} {X : Blk} (hx : H.blk x = none) (hlt : x < H.next) (hne : base + r.idx ≠ x) :
    opR rec base r T (H.set x X) = some (v, H'.set x X) ∧ H'.blk x = none := by
  unfold opR at *
  split at h
  · rename_i hw; rw [if_pos hw]; exact opA_frame hr h hx hlt hne
  · rename_i hw; rw [if_neg hw]; cases h; exact ⟨rfl, hx⟩

end

/-- Which two may come in either order, the first one first. -/
def kindOk (p q : Kind) : Bool :=
  match p, q with
  | .pure, _ | _, .pure => true
  | .load, .load | .load, .alloc | .load, .eff | .alloc, .alloc | .eff, .alloc => true
  | _, _ => false

section
variable {rec : Nat → List AV → AH → Option (AV × AH)} {base : Nat}

/-- Two neighbours in the other order. -/
theorem swap_ok (hr : FrmOk rec) {y z : ROper} (ha : apart y z = true) (hk : kindOk y.op.kind z.op.kind = true) (hne : y.idx ≠ z.idx) {T : List AV} {H : AH} (hlt : base + z.idx < H.next)
    (hz : z.op.kind = .alloc → H.blk (base + z.idx) = none) {s1 s2 : List AV × AH} (h1 : stepA rec base y T H = some s1) (h2 : stepA rec base z s1.1 s1.2 = some s2)
    (hd : y.op.kind = .load → z.op.kind = .eff → ∀ v H1, opR rec base y T H = some (v, H1) → opR rec base y T s2.2 = some (v, s2.2)) :
    ∃ s', stepA rec base z T H = some s' ∧ stepA rec base y s'.1 s'.2 = some s2 := by
  refine swap_of ha h1 h2 ?_
  intro v H1 u H2 g1 g2
  -- the heap behind both
  have hs2 : s2.2 = H2 := by
    obtain ⟨a1, a2, a3⟩ := apart_spec ha
    rw [stepA_eq, g1] at h1
    simp only [Option.map_some, Option.some.injEq] at h1
    subst h1
    rw [stepA_eq] at h2
    simp only at h2
    rw [opR_put a1, g2] at h2
    simp only [Option.map_some, Option.some.injEq] at h2
    rw [← h2]
  cases hyk : y.op.kind with
  | pure =>
    obtain ⟨e1, e2⟩ := opR_pure hyk g1
    subst e1
    exact ⟨H2, g2, e2 H2⟩
  | load =>
    have e1 := opR_load hyk g1
    subst e1
    cases hzk : z.op.kind with
    | pure =>
      obtain ⟨e1, e2⟩ := opR_pure hzk g2
      subst e1
      exact ⟨H2, e2 H2, g1⟩
    | load =>
      have e2 := opR_load hzk g2
      subst e2
      exact ⟨H2, g2, g1⟩
    | alloc =>
      rcases opR_alloc hzk g2 with ⟨e2, _⟩ | ⟨X, e2, e3, _⟩
      · subst e2; exact ⟨H2, g2, g1⟩
      · subst e3; exact ⟨_, g2, opR_load_set hyk g1 e2⟩
    | eff =>
      have := hd hyk hzk v _ g1
      rw [hs2] at this
      exact ⟨H2, g2, this⟩
  | alloc =>
    cases hzk : z.op.kind with
    | pure =>
      obtain ⟨e1, e2⟩ := opR_pure hzk g2
      subst e1
      exact ⟨H, e2 H, g1⟩
    | load => rw [hyk, hzk] at hk; cases hk
    | alloc =>
      rcases opR_alloc hyk g1 with ⟨e1, e1'⟩ | ⟨X, e1, e2, e3⟩
      · subst e1; exact ⟨H2, g2, e1' H2⟩
      · subst e2
        rcases opR_alloc hzk g2 with ⟨f1, f1'⟩ | ⟨Z, f1, f2, f3⟩
        · subst f1; exact ⟨H, f1' H, g1⟩
        · subst f2
          have hzH := hz hzk
          refine ⟨_, f3 H hzH, ?_⟩
          rw [e3 _ (set_none e1 (by omega))]
          rw [set_comm (by omega)]
    | eff => rw [hyk, hzk] at hk; cases hk
  | eff =>
    cases hzk : z.op.kind with
    | pure =>
      obtain ⟨e1, e2⟩ := opR_pure hzk g2
      subst e1
      exact ⟨H, e2 H, g1⟩
    | load => rw [hyk, hzk] at hk; cases hk
    | alloc =>
      have hzH := hz hzk
      rcases opR_alloc hzk g2 with ⟨f1, f1'⟩ | ⟨Z, f1, f2, f3⟩
      · subst f1; exact ⟨H, f1' H, g1⟩
      · subst f2
        exact ⟨_, f3 H hzH, (opR_frame hr g1 hzH hlt (by omega)).1⟩
    | eff => rw [hyk, hzk] at hk; cases hk

/-- A region's run without its looks again. -/
def runL (rec : Nat → List AV → AH → Option (AV × AH)) (base : Nat) : List ROper → List AV × AH → Option (List AV × AH)
  | [], s => some s
  | r :: l, s => (stepA rec base r s.1 s.2).bind (runL rec base l)

theorem runL_append (l m : List ROper) (s : List AV × AH) : runL rec base (l ++ m) s = (runL rec base l s).bind (runL rec base m) := by
  induction l generalizing s with
  | nil => rfl
  | cons r l ih =>
    simp only [List.cons_append, runL]
    cases stepA rec base r s.1 s.2 with
    | none => rfl
    | some s' => exact ih s'

theorem regA_run : ∀ (l : List ROper) (T : List AV) (H : AH) (s : List AV × AH), regA rec base l T H = some s → runL rec base l (T, H) = some s
  | [], _, _, _, h => h
  | r :: l, T, H, s, h => by
    simp only [regA, runL, Option.bind_eq_some_iff] at h ⊢
    obtain ⟨s1, h1, h2⟩ := h
    split at h2
    · exact ⟨s1, h1, regA_run l s1.1 s1.2 s h2⟩
    · cases h2

theorem regA_append (l m : List ROper) (T : List AV) (H : AH) : regA rec base (l ++ m) T H = (regA rec base l T H).bind fun s => regA rec base m s.1 s.2 := by
  induction l generalizing T H with
  | nil => rfl
  | cons r l ih =>
    simp only [List.cons_append, regA]
    cases stepA rec base r T H with
    | none => rfl
    | some s' =>
      simp only [Option.bind_some]
      split
      · exact ih s'.1 s'.2
      · rfl

theorem runL_next (hn : NextOk rec) : ∀ (l : List ROper) {s s' : List AV × AH}, runL rec base l s = some s' → s.2.next ≤ s'.2.next
  | [], _, _, h => by cases h; exact Nat.le_refl _
  | r :: l, s, s', h => by
    simp only [runL, Option.bind_eq_some_iff] at h
    obtain ⟨s1, h1, h2⟩ := h
    exact Nat.le_trans (stepA_next hn h1) (runL_next hn l h2)

/-- What no operation of a row names stays free. -/
theorem runL_free (hr : FrmOk rec) (hn : NextOk rec) {x : Nat} : ∀ (l : List ROper) {s s' : List AV × AH}, runL rec base l s = some s' → s.2.blk x = none → x < s.2.next → (∀ r ∈ l, base + r.idx ≠ x) → s'.2.blk x = none
  | [], _, _, h, hx, _, _ => by cases h; exact hx
  | r :: l, s, s', h, hx, hlt, hl => by
    simp only [runL, Option.bind_eq_some_iff] at h
    obtain ⟨s1, h1, h2⟩ := h
    exact runL_free hr hn l h2 (stepA_frame (X := .dead) hr h1 hx hlt (hl r (by simp))).2 (Nat.lt_of_lt_of_le hlt (stepA_next hn h1)) (fun r' hr' => hl r' (by simp [hr']))

/-- The look again at a load. -/
def watchOf (r : ROper) : Option Watch :=
  match r.op, r.dst with
  | .load m a, some d => some ⟨d, m, a, r.guard⟩
  | _, _ => none

/-- A load that is looked at again does not write what it looks at. -/
def selfOk (r : ROper) : Bool := !hits r.dst r.looks

theorem watch_put {T : List AV} {d : Option Nat} {v : AV} {H : AH} {r : ROper} {w : Watch} (hw : watchOf r = some w) (h1 : hits d r.looks = false) (h2 : hits d r.dst.toList = false) : watchOk (put T d v) H w = watchOk T H w := by
  unfold watchOf at hw
  split at hw
  · rename_i m a e he1 he2
    cases hw
    have hg : hits d (guardSlots r.guard) = false := hits_sub h1 (fun t ht => by simp [ROper.looks, ht])
    have ha : hits d a.slots = false := hits_sub h1 (fun t ht => by simp [ROper.looks, ROp.reads, he1, ROp.opds, ht])
    have hd : hits d [e] = false := by rw [he2] at h2; exact h2
    unfold watchOk
    rw [wanted_put hg]
    simp only
    rw [ev_put ha, getD_put hd]
  · cases hw

/-- What a look again says of the load. -/
theorem watch_load {T : List AV} {H H2 : AH} {r : ROper} {w : Watch} (hw : watchOf r = some w) (hs : selfOk r = true) {v : AV} {H1 : AH} (h : opR rec base r T H = some (v, H1)) (hd : r.dst.all (· < T.length) = true) (hok : watchOk (put T r.dst v) H2 w = true) : opR rec base r T H2 = some (v, H2) := by
  have hs' : hits r.dst r.looks = false := by simpa [selfOk] using hs
  unfold watchOf at hw
  split at hw
  · rename_i m a e he1 he2
    cases hw
    have hg : hits r.dst (guardSlots r.guard) = false := hits_sub hs' (fun t ht => by simp [ROper.looks, ht])
    have ha : hits r.dst a.slots = false := hits_sub hs' (fun t ht => by simp [ROper.looks, ROp.reads, he1, ROp.opds, ht])
    unfold watchOk at hok
    rw [wanted_put hg] at hok
    simp only at hok
    rw [ev_put ha] at hok
    unfold opR at *
    split at h
    · rename_i hwd
      rw [if_pos hwd] at hok ⊢
      simp only [decide_eq_true_eq] at hok
      have hv : (put T r.dst v).getD e undef = v := by
        rw [he2] at hd ⊢
        have : e < T.length := by simpa using hd
        simp [put, List.getD_eq_getElem?_getD, List.getElem?_set, this]
      rw [hv] at hok
      simp [opA, he1, ROp.kind, loadO, hok]
    · rename_i hwd
      rw [if_neg hwd]
      cases h; rfl
  · cases hw

end

end Go.AM
