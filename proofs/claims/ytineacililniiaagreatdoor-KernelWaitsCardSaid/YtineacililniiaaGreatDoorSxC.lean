/-
  THE SYMBOLIC MACHINE: what its parts stand for.
-/
import Derived.Test.YtineacililniiaaGreatDoorSxB
namespace Go.AM

section
variable (ρ : Nat → Int)
def XV.ev : XV → SV
  | .s x => x
  | .y k n => .int k (n.ev ρ)
def XPart.ev : XPart → Part
  | .s x => .s (x.ev ρ)
  | .agg l => .agg (l.map (XV.ev ρ))
def XAV.ev : XAV → AV
  | .s x => .s (x.ev ρ)
  | .agg l => .agg (l.map (XV.ev ρ))
  | .tup l => .tup (l.map (XPart.ev ρ))
def XBlk.ev : XBlk → Blk
  | .dead => .dead
  | .cells ro l => .cells ro (l.map (XV.ev ρ))
  | .map es => .map (es.map fun p => (p.1, p.2.ev ρ))

structure XRel (st : XS) (H : AH) : Prop where
  has : ∀ b x, st.h.get b = some x → H.blk b = some (x.ev ρ)
  free : ∀ b, b < st.lo ∨ st.gc ≤ b → st.h.get b = none → H.blk b = none
  next : H.next = st.next
  facts : FactsOk ρ st.facts
end

section
variable {ρ : Nat → Int}

theorem ofs_ev : ∀ l : List SV, (XV.ofs l).map (XV.ev ρ) = l
  | [] => rfl
  | x :: l => by simp only [XV.ofs, List.map_cons, ofs_ev l, XV.ev]

theorem of_ev (v : AV) : (XAV.of v).ev ρ = v := by
  cases v with
  | s x => rfl
  | agg l => simp only [XAV.of, XAV.ev, ofs_ev]
  | tup l =>
    simp only [XAV.of, XAV.ev, List.map_map, AV.tup.injEq]
    conv => rhs; rw [← List.map_id l]
    apply List.map_congr_left
    intro p _
    cases p with
    | s x => rfl
    | agg l => simp only [Function.comp, XPart.ev, ofs_ev, id]

theorem concL_ev : ∀ {l : List XV} {r : List SV}, concL l = some r → l.map (XV.ev ρ) = r
  | [], r, h => by simp only [concL, Option.some.injEq] at h; subst h; rfl
  | .s x :: l, r, h => by
    simp only [concL] at h
    split at h
    · rename_i l' hl
      cases h
      simp only [List.map_cons, concL_ev hl, XV.ev]
    · cases h
  | .y _ _ :: l, r, h => by simp [concL] at h

theorem conc_ev {x : XAV} {a : AV} (h : x.conc = some a) : x.ev ρ = a := by
  unfold XAV.conc at h
  split at h
  · cases h; rfl
  · rename_i l
    split at h
    · rename_i l' hl; cases h; simp only [XAV.ev, concL_ev hl]
    · cases h
  · cases h

theorem cells_ev {x : XAV} {l : List XV} (h : x.cells? = some l) : (x.ev ρ).cells? = some (l.map (XV.ev ρ)) := by
  cases x <;> simp only [XAV.cells?, Option.some.injEq, reduceCtorEq] at h <;> subst h <;> rfl

theorem part_ev {x : XAV} {p : XPart} (h : x.part? = some p) : (x.ev ρ).part? = some (p.ev ρ) := by
  cases x <;> simp only [XAV.part?, Option.some.injEq, reduceCtorEq] at h <;> subst h <;> rfl

theorem av_ev (p : XPart) : p.av.ev ρ = (p.ev ρ).av := by cases p <;> rfl

section
variable {α : Type}
theorem takeS_eq : ∀ {l : List α} {n : Nat} {r : List α}, takeS l n = some r → r = l.take n ∧ n ≤ l.length
  | l, 0, r, h => by
    have : takeS l 0 = some [] := by cases l <;> rfl
    rw [this] at h; cases h; exact ⟨by simp, by omega⟩
  | [], n + 1, r, h => by simp [takeS] at h
  | x :: l, n + 1, r, h => by
    simp only [takeS] at h
    split at h
    · rename_i r' hr
      cases h
      obtain ⟨h1, h2⟩ := takeS_eq hr
      exact ⟨by rw [h1]; rfl, by simpa using h2⟩
    · cases h

theorem subS_eq : ∀ {l : List α} {o n : Nat} {r : List α}, subS l o n = some r → r = (l.drop o).take n ∧ o + n ≤ l.length
  | l, 0, n, r, h => by
    have : subS l 0 n = takeS l n := by cases l <;> rfl
    rw [this] at h
    obtain ⟨h1, h2⟩ := takeS_eq h
    exact ⟨by rw [h1]; rfl, by omega⟩
  | [], o + 1, n, r, h => by simp [subS] at h
  | x :: l, o + 1, n, r, h => by
    simp only [subS] at h
    obtain ⟨h1, h2⟩ := subS_eq h
    exact ⟨by rw [h1]; rfl, by simp only [List.length_cons]; omega⟩

theorem overS_eq : ∀ {l vs : List α} {r : List α}, overS l vs = some r → r = vs ++ l.drop vs.length ∧ vs.length ≤ l.length
  | l, [], r, h => by
    have : overS l [] = some l := by cases l <;> rfl
    rw [this] at h; cases h; exact ⟨by simp, by simp⟩
  | [], _ :: _, r, h => by simp [overS] at h
  | _ :: l, v :: vs, r, h => by
    simp only [overS] at h
    split at h
    · rename_i r' hr
      cases h
      obtain ⟨h1, h2⟩ := overS_eq hr
      exact ⟨by rw [h1]; rfl, by simpa using h2⟩
    · cases h

theorem setS_eq : ∀ {l : List α} {o : Nat} {vs r : List α}, setS l o vs = some r → r = l.take o ++ (vs ++ l.drop (o + vs.length)) ∧ o + vs.length ≤ l.length
  | l, 0, vs, r, h => by
    have : setS l 0 vs = overS l vs := by cases l <;> rfl
    rw [this] at h
    obtain ⟨h1, h2⟩ := overS_eq h
    exact ⟨by rw [h1]; simp, by omega⟩
  | [], o + 1, vs, r, h => by simp [setS] at h
  | x :: l, o + 1, vs, r, h => by
    simp only [setS] at h
    split at h
    · rename_i r' hr
      cases h
      obtain ⟨h1, h2⟩ := setS_eq hr
      exact ⟨by rw [h1, show o + 1 + vs.length = (o + vs.length) + 1 by omega]; rfl, by simp only [List.length_cons]; omega⟩
    · cases h

theorem catS_eq : ∀ {l m r : List α}, catS l m = some r → r = l ++ m
  | [], m, r, h => by simp only [catS, Option.some.injEq] at h; exact h.symm
  | x :: l, m, r, h => by
    simp only [catS] at h
    split at h
    · rename_i r' hr
      cases h
      rw [catS_eq hr]; rfl
    · cases h

theorem getS_eq : ∀ (l : List α) (n : Nat), getS l n = l[n]?
  | [], n => by simp [getS]
  | x :: l, 0 => rfl
  | x :: l, n + 1 => by simp only [getS, getS_eq l n, List.getElem?_cons_succ]
end

theorem ble_ff {a b : Nat} (h : Nat.ble a b = false) : ¬ a ≤ b := fun h' => by
  have e : Nat.ble a b = true := by rw [Nat.ble_eq]; exact h'
  rw [e] at h; cases h

theorem partX_ev {m : Option Nat} {l : List XV} {off : Nat} {v : XAV} (h : partX m l off = some v) : partA m (l.map (XV.ev ρ)) off = some (v.ev ρ) := by
  cases m with
  | none =>
    simp only [partX, getS_eq] at h
    split at h
    · rename_i x hx
      cases h
      simp only [partA, List.getElem?_map, hx, Option.map_some, XAV.ev]
    · cases h
  | some n =>
    simp only [partX] at h
    split at h
    · rename_i r hr
      cases h
      obtain ⟨h1, h2⟩ := subS_eq hr
      simp only [partA, List.length_map]
      rw [if_pos h2, h1]
      simp only [XAV.ev, List.map_take, List.map_drop]
    · cases h

variable {st : XS} {H : AH}

theorem loadX_ev (hR : XRel ρ st H) {m : Option Nat} {a v : XAV} (h : loadX m a st = some v) : loadA m (a.ev ρ) H = some (v.ev ρ) := by
  unfold loadX at h
  split at h
  · rename_i p
    split at h
    · rename_i ro l hb
      have hb' := hR.has _ _ hb
      have := partX_ev (ρ := ρ) h
      cases m with
      | none =>
        simp only [partA] at this
        simp only [XAV.ev, XV.ev, loadA]
        rw [ld_of H hb']; exact this
      | some n =>
        simp only [partA] at this
        simp only [XAV.ev, XV.ev, loadA]
        rw [ldn_of H hb']
        split at this
        · rename_i hle; rw [if_pos hle]; exact this
        · cases this
    · cases h
  · cases h

theorem fillX_ev : ∀ {ps : List (Nat × Nat × XAV)} {z r : List XV}, fillX z ps = some r → fillA (z.map (XV.ev ρ)) (ps.map fun p => (p.1, p.2.1, p.2.2.ev ρ)) = some (r.map (XV.ev ρ))
  | [], z, r, h => by simp only [fillX, Option.some.injEq] at h; subst h; rfl
  | (off, size, v) :: ps, z, r, h => by
    simp only [fillX] at h
    split at h
    · rename_i l hl
      split at h
      · rename_i hs
        have hs := Nat.eq_of_beq_eq_true hs
        split at h
        · rename_i z' hz
          obtain ⟨h1, h2⟩ := setS_eq hz
          have ih := fillX_ev h
          simp only [List.map_cons, fillA, cells_ev hl, List.length_map]
          rw [if_pos ⟨hs, by omega⟩]
          have : splice (z.map (XV.ev ρ)) off (l.map (XV.ev ρ)) = z'.map (XV.ev ρ) := by
            rw [h1]; simp only [splice, List.map_append, List.map_take, List.map_drop, List.length_map]
          rw [this]; exact ih
        · cases h
      · cases h
    · cases h

theorem putBlk_ok (hR : XRel ρ st H) {b : Nat} {x : XBlk} {k : XS → Bool} (h : putBlk st b x k = true) : ∃ st', XRel ρ st' (H.set b (x.ev ρ)) ∧ k st' = true := by
  unfold putBlk at h
  split at h
  · rename_i h' hs
    refine ⟨⟨h', st.next, st.facts, st.gc, st.lo⟩, ⟨fun c y hc => ?_, fun c hg hc => ?_, hR.next, hR.facts⟩, h⟩
    · have := Tr.get_set _ _ _ hs c
      simp only [set_blk]
      rw [this] at hc
      split at hc
      · rename_i e
        rw [if_pos e]
        cases hc; rfl
      · rename_i e
        rw [if_neg e]
        exact hR.has c y hc
    · have := Tr.get_set _ _ _ hs c
      simp only [set_blk]
      rw [this] at hc
      split at hc
      · cases hc
      · rename_i e
        rw [if_neg e]
        exact hR.free c hg hc
  · cases h

theorem inGap {a b c : Nat} (h : cond (Nat.blt a b) true (Nat.ble c a) = true) : a < b ∨ c ≤ a := by
  cases e : Nat.blt a b with
  | true => exact .inl (Nat.blt_eq ▸ e)
  | false => rw [e, cond_false, Nat.ble_eq] at h; exact .inr h

theorem newX_ok (hR : XRel ρ st H) {id : Nat} {l : List XV} {k : XS → Bool} (h : newX st id l k = true) : ∃ H' st', H.new id (.cells false (l.map (XV.ev ρ))) = some H' ∧ XRel ρ st' H' ∧ k st' = true := by
  unfold newX at h
  split at h
  · rename_i hg
    cases hgc : cond (Nat.blt id st.lo) true (Nat.ble st.gc id) with
    | false => rw [hgc] at h; cases h
    | true =>
      rw [hgc, cond_true] at h
      have hgc := inGap hgc
      obtain ⟨st', h1, h2⟩ := putBlk_ok hR h
      exact ⟨_, st', new_of H (hR.free id hgc hg), h1, h2⟩
  · cases h

theorem stnX_ok (hR : XRel ρ st H) {b o : Nat} {vs : List XV} {k : XS → Bool} (h : stnX st b o vs k = true) : ∃ H' st', H.stn b o (vs.map (XV.ev ρ)) = some H' ∧ XRel ρ st' H' ∧ k st' = true := by
  unfold stnX at h
  split at h
  · rename_i l hg
    split at h
    · rename_i r hr
      obtain ⟨h1, h2⟩ := setS_eq hr
      obtain ⟨st', h3, h4⟩ := putBlk_ok hR h
      have hb := hR.has _ _ hg
      refine ⟨_, st', stn_of H hb (by simp only [List.length_map]; exact h2), ?_, h4⟩
      have : splice (l.map (XV.ev ρ)) o (vs.map (XV.ev ρ)) = r.map (XV.ev ρ) := by
        rw [h1]; simp only [splice, List.map_append, List.map_take, List.map_drop, List.length_map]
      rw [this]; exact h3
    · cases h
  · cases h

/- ---- ways that part ---- -/
theorem XRel.fact (hR : XRel ρ st H) {d : SI} {lo hi : Option Int} (h : Rng.ok (lo, hi) (d.ev ρ)) : XRel ρ (st.fact d lo hi) H := by
  refine ⟨hR.has, hR.free, hR.next, addFact_ok hR.facts ⟨fun y hy => ?_, fun y hy => ?_⟩⟩
  · cases lo with
    | none => cases hy
    | some x => simp only [shiftO, Option.some.injEq] at hy; have := h.1 x rfl; simp only [SI.ev] at this; omega
  · cases hi with
    | none => cases hy
    | some x => simp only [shiftO, Option.some.injEq] at hy; have := h.2 x rfl; simp only [SI.ev] at this; omega

theorem split2_ok (hR : XRel ρ st H) {d : SI} {kn kg : XS → Bool} (h : split2 st d kn kg = true) : ∃ st', XRel ρ st' H ∧ ((d.ev ρ < 0 ∧ kn st' = true) ∨ (0 ≤ d.ev ρ ∧ kg st' = true)) := by
  unfold split2 at h
  have h1 := signOf_ok (rng_ok hR.facts d)
  have h2 := signOf_ok (rngV_ok hR.facts d)
  split at h
  · rename_i hs
    exact ⟨st, hR, .inl ⟨h1.1 hs, h⟩⟩
  · rename_i hs
    exact ⟨st, hR, .inr ⟨h1.2.1 hs, h⟩⟩
  · rename_i hs
    exact (h1.2.2 hs).elim
  · split at h
    · rename_i hs
      exact ⟨st, hR, .inl ⟨h2.1 hs, h⟩⟩
    · rename_i hs
      exact ⟨st, hR, .inr ⟨h2.2.1 hs, h⟩⟩
    · rename_i hs
      exact (h2.2.2 hs).elim
    · rw [Bool.and_eq_true] at h
      by_cases hd : d.ev ρ < 0
      · exact ⟨_, hR.fact ⟨fun _ h => (by cases h), fun y h => (by cases h; omega)⟩, .inl ⟨hd, h.1⟩⟩
      · exact ⟨_, hR.fact ⟨fun y h => (by cases h; omega), fun _ h => (by cases h)⟩, .inr ⟨by omega, h.2⟩⟩

theorem split0_ok (hR : XRel ρ st H) {d : SI} {kz kn : XS → Bool} (h : split0 st d kz kn = true) : ∃ st', XRel ρ st' H ∧ ((d.ev ρ = 0 ∧ kz st' = true) ∨ (d.ev ρ ≠ 0 ∧ kn st' = true)) := by
  unfold split0 at h
  obtain ⟨st1, h1, ⟨h2, h3⟩ | ⟨h2, h3⟩⟩ := split2_ok hR h
  · exact ⟨st1, h1, .inr ⟨by omega, h3⟩⟩
  · have e : SI.ev ρ ⟨-1 + d.c, d.l⟩ = d.ev ρ - 1 := by simp only [SI.ev]; omega
    obtain ⟨st2, k1, ⟨k2, k3⟩ | ⟨k2, k3⟩⟩ := split2_ok h1 h3
    · rw [e] at k2; exact ⟨st2, k1, .inl ⟨by omega, k3⟩⟩
    · rw [e] at k2; exact ⟨st2, k1, .inr ⟨by omega, k3⟩⟩

theorem allFrom_ok : ∀ {n : Nat} {v : Int} {f : Int → Bool}, allFrom n v f = true → ∀ x, v ≤ x → x < v + n → f x = true
  | 0, v, f, _, x, h1, h2 => by omega
  | n + 1, v, f, h, x, h1, h2 => by
    simp only [allFrom, Bool.and_eq_true] at h
    by_cases e : x = v
    · subst e; exact h.1
    · exact allFrom_ok h.2 x (by omega) (by omega)

theorem withSI_ok (hR : XRel ρ st H) {n : SI} {k : Int → XS → Bool} (h : withSI st n k = true) : ∃ st', XRel ρ st' H ∧ k (n.ev ρ) st' = true := by
  unfold withSI at h
  have hr := rng_ok hR.facts n
  split at h
  · rename_i lo hi hrg
    rw [hrg] at hr
    have h1 := hr.1 lo rfl
    have h2 := hr.2 hi rfl
    split at h
    · have := allFrom_ok h (n.ev ρ) h1 (by omega)
      exact ⟨_, hR.fact ⟨fun y hy => (by cases hy; exact Int.le_refl _), fun y hy => (by cases hy; exact Int.le_refl _)⟩, this⟩
    · cases h
  · cases h

theorem withInt_ok (hR : XRel ρ st H) {x : XAV} {k : IntKind → Int → XS → Bool} (h : withInt st x k = true) : ∃ kd n st', x.ev ρ = .s (.int kd n) ∧ XRel ρ st' H ∧ k kd n st' = true := by
  unfold withInt at h
  split at h
  · exact ⟨_, _, st, rfl, hR, h⟩
  · obtain ⟨st', h1, h2⟩ := withSI_ok hR h
    exact ⟨_, _, st', rfl, h1, h2⟩
  · cases h

theorem withOpt_ok (hR : XRel ρ st H) {x : Option XAV} {k : Option AV → XS → Bool} (h : withOpt st x k = true) : ∃ st', XRel ρ st' H ∧ k (x.map (XAV.ev ρ)) st' = true := by
  cases x with
  | none => exact ⟨st, hR, h⟩
  | some x =>
    obtain ⟨kd, n, st', h1, h2, h3⟩ := withInt_ok hR (k := fun kd n st => k (some (.s (.int kd n))) st) h
    refine ⟨st', h2, ?_⟩
    simp only [Option.map_some, h1]; exact h3

theorem kindEqb_eq {a b : IntKind} (h : kindEqb a b = true) : a = b := by
  cases a <;> cases b <;> first | rfl | (simp [kindEqb] at h)

theorem mkInt_ok (hR : XRel ρ st H) {kd : IntKind} {n : SI} {k : XK} (h : mkInt st kd n k = true) : ∃ v st', XRel ρ st' H ∧ v.ev ρ = .s (.int kd (kd.wrap (n.ev ρ))) ∧ k v st' = true := by
  unfold mkInt at h
  split at h
  · rename_i hl
    refine ⟨_, st, hR, ?_, h⟩
    simp only [XAV.ev, XV.ev, SI.ev, hl, Lin.ev, Int.add_zero]
  · have hr := rng_ok hR.facts n
    split at h
    · rename_i lo hi hrg
      rw [hrg] at hr
      simp only [Bool.and_eq_true, Int.leb_iff] at h
      have h1 := hr.1 lo rfl
      have h2 := hr.2 hi rfl
      refine ⟨_, st, hR, ?_, h.2⟩
      simp only [XAV.ev, XV.ev]
      rw [wrap_in (by omega) (by omega)]
    · cases h

theorem forceI_ok {n : Int} {k : Int → Bool} (h : forceI n k = true) : k n = true := by
  unfold forceI at h
  split at h
  · split at h <;> exact h
  · split at h <;> exact h

theorem kO_ok {o : Option SV} {k : XK} (h : kO o k st = true) : ∃ v xv, o = some v ∧ xv.ev ρ = .s v ∧ k xv st = true := by
  unfold kO at h
  split at h
  · split at h
    · exact ⟨_, _, rfl, rfl, forceI_ok h⟩
    · rename_i b
      cases b with
      | true => exact ⟨_, _, rfl, rfl, h⟩
      | false => exact ⟨_, _, rfl, rfl, h⟩
    · exact ⟨_, _, rfl, rfl, h⟩
  · cases h

theorem kOpt_ok {o : Option AV} {k : XK} (h : kOpt o k st = true) : ∃ v xv, o = some v ∧ xv.ev ρ = v ∧ k xv st = true := by
  unfold kOpt at h
  split at h
  · split at h
    · obtain ⟨v, xv, h1, h2, h3⟩ := kO_ok (ρ := ρ) h
      cases h1
      exact ⟨_, xv, rfl, h2, h3⟩
    · exact ⟨_, _, rfl, of_ev _, h⟩
  · cases h

theorem forceV_ok {v : XAV} {k : XK} (h : forceV v k st = true) : ∃ xv, xv.ev ρ = v.ev ρ ∧ k xv st = true := by
  unfold forceV at h
  split at h
  · split at h <;> exact ⟨_, rfl, h⟩
  · exact ⟨_, rfl, h⟩
  · exact ⟨_, rfl, h⟩

theorem eqb_beq (a b : Int) : Int.eqb a b = (a == b) := by
  by_cases h : a = b
  · subst h
    have : Int.eqb a a = true := by cases a <;> simp [Int.eqb]
    rw [this]; simp
  · have : Int.eqb a b = false := by
      cases e : Int.eqb a b with
      | false => rfl
      | true => exact (h (Int.eqb_eq e)).elim
    rw [this]; simp [h]

theorem leb_dec (a b : Int) : Int.leb a b = decide (a ≤ b) := by
  by_cases h : a ≤ b
  · rw [Int.leb_iff.2 h, decide_eq_true h]
  · rw [Int.leb_false.2 (by omega), decide_eq_false h]

theorem leb_dec1 (a b : Int) : Int.leb (a + 1) b = decide (a < b) := by rw [leb_dec]; rfl

theorem binC_ok {op : BinOp} {k k' : IntKind} {a b : Int} {v : SV} (h : binC op k a k' b = some v) : binA op (.s (.int k a)) (.s (.int k' b)) = some (.s v) := by
  unfold binC at h
  split at h
  · simp only [binA, h, Option.map_some]
  · simp only [binA, h, Option.map_some]
  · rename_i h1 h2
    split at h
    · cases h
    · rename_i hk
      have := kindEqb_eq hk
      subst this
      have key : binA op (.s (.int k a)) (.s (.int k b)) = (arithA op k a b).map .s := by
        cases op <;> first | (simp [binA]; done) | exact absurd rfl h1 | exact absurd rfl h2
      rw [key]
      split at h <;> first
        | (rw [h]; rfl)
        | (cases h; rw [wrapF_eq]; rfl)
        | (cases h; rw [eqb_beq]; rfl)
        | (cases h; rw [leb_dec1]; rfl)
        | (cases h; rw [leb_dec]; rfl)

theorem toSI_ev {x : XAV} {k : IntKind} {n : SI} (h : toSI x = some (k, n)) : x.ev ρ = .s (.int k (n.ev ρ)) := by
  unfold toSI at h
  split at h
  · cases h; simp [XAV.ev, XV.ev, SI.ev, Lin.ev]
  · cases h; rfl
  · cases h

/-- What a pure operation leaves. -/
def PureX (ρ : Nat → Int) (H : AH) (o : Option AV) (k : XK) : Prop := ∃ v xv st', o = some v ∧ xv.ev ρ = v ∧ XRel ρ st' H ∧ k xv st' = true

theorem bothX_ok (hR : XRel ρ st H) {op : BinOp} {x y : XAV} {k : XK} (h : bothX op x y st k = true) : PureX ρ H (binA op (x.ev ρ) (y.ev ρ)) k := by
  unfold bothX at h
  obtain ⟨k1, n1, st1, h1, h2, h3⟩ := withInt_ok hR h
  obtain ⟨k2, n2, st2, h4, h5, h6⟩ := withInt_ok h2 h3
  obtain ⟨v, xv, h7, h8, h9⟩ := kO_ok (ρ := ρ) h6
  rw [h1, h4]
  exact ⟨_, xv, st2, binC_ok h7, h8, h5, h9⟩

theorem symX_ok (hR : XRel ρ st H) {op : BinOp} {x y : XAV} {k1 : IntKind} {a b : SI} {k : XK} (hx : x.ev ρ = .s (.int k1 (a.ev ρ))) (hy : y.ev ρ = .s (.int k1 (b.ev ρ))) (h : symX op x y k1 a b st k = true) : PureX ρ H (binA op (x.ev ρ) (y.ev ρ)) k := by
  unfold symX at h
  have hsub := SI.sub_ev ρ a b
  have hsub' := SI.sub_ev ρ b a
  cases op <;> simp only at h
  case add =>
    obtain ⟨v, st', h1, h2, h3⟩ := mkInt_ok hR h
    rw [hx, hy, binA_add]
    exact ⟨_, v, st', rfl, by rw [h2, SI.add_ev], h1, h3⟩
  case sub =>
    obtain ⟨v, st', h1, h2, h3⟩ := mkInt_ok hR h
    rw [hx, hy, binA_sub]
    exact ⟨_, v, st', rfl, by rw [h2, hsub], h1, h3⟩
  case mul =>
    split at h
    · rename_i hl
      obtain ⟨v, st', h1, h2, h3⟩ := mkInt_ok hR h
      rw [hx, hy, binA_mul]
      refine ⟨_, v, st', rfl, ?_, h1, h3⟩
      rw [h2, SI.scale_ev]
      simp only [SI.ev, hl, Lin.ev, Int.add_zero]
    · rename_i hl _
      obtain ⟨v, st', h1, h2, h3⟩ := mkInt_ok hR h
      rw [hx, hy, binA_mul]
      refine ⟨_, v, st', rfl, ?_, h1, h3⟩
      rw [h2, SI.scale_ev, Int.mul_comm]
      simp only [SI.ev, hl, Lin.ev, Int.add_zero]
    · exact bothX_ok hR h
  case lss =>
    rw [hx, hy, binA_lss]
    obtain ⟨st', h1, ⟨h2, h3⟩ | ⟨h2, h3⟩⟩ := split2_ok hR h
    · exact ⟨_, .s (.s (.bool true)), st', rfl, by rw [decide_eq_true (by omega)]; rfl, h1, h3⟩
    · exact ⟨_, .s (.s (.bool false)), st', rfl, by rw [decide_eq_false (by omega)]; rfl, h1, h3⟩
  case geq =>
    rw [hx, hy, binA_geq]
    obtain ⟨st', h1, ⟨h2, h3⟩ | ⟨h2, h3⟩⟩ := split2_ok hR h
    · exact ⟨_, .s (.s (.bool false)), st', rfl, by rw [decide_eq_false (by omega)]; rfl, h1, h3⟩
    · exact ⟨_, .s (.s (.bool true)), st', rfl, by rw [decide_eq_true (by omega)]; rfl, h1, h3⟩
  case gtr =>
    rw [hx, hy, binA_gtr]
    obtain ⟨st', h1, ⟨h2, h3⟩ | ⟨h2, h3⟩⟩ := split2_ok hR h
    · exact ⟨_, .s (.s (.bool true)), st', rfl, by rw [decide_eq_true (by omega)]; rfl, h1, h3⟩
    · exact ⟨_, .s (.s (.bool false)), st', rfl, by rw [decide_eq_false (by omega)]; rfl, h1, h3⟩
  case leq =>
    rw [hx, hy, binA_leq]
    obtain ⟨st', h1, ⟨h2, h3⟩ | ⟨h2, h3⟩⟩ := split2_ok hR h
    · exact ⟨_, .s (.s (.bool false)), st', rfl, by rw [decide_eq_false (by omega)]; rfl, h1, h3⟩
    · exact ⟨_, .s (.s (.bool true)), st', rfl, by rw [decide_eq_true (by omega)]; rfl, h1, h3⟩
  case eql =>
    rw [hx, hy, binA_eql]
    obtain ⟨st', h1, ⟨h2, h3⟩ | ⟨h2, h3⟩⟩ := split0_ok hR h
    · exact ⟨_, .s (.s (.bool true)), st', rfl, by rw [decide_eq_true (by omega)]; rfl, h1, h3⟩
    · exact ⟨_, .s (.s (.bool false)), st', rfl, by rw [decide_eq_false (by omega)]; rfl, h1, h3⟩
  case neq =>
    rw [hx, hy, binA_neq]
    obtain ⟨st', h1, ⟨h2, h3⟩ | ⟨h2, h3⟩⟩ := split0_ok hR h
    · exact ⟨_, .s (.s (.bool false)), st', rfl, by rw [decide_eq_false (by omega)]; rfl, h1, h3⟩
    · exact ⟨_, .s (.s (.bool true)), st', rfl, by rw [decide_eq_true (by omega)]; rfl, h1, h3⟩
  case rem =>
    split at h
    · rename_i i m hv
      rw [hx, hy, binA_rem]
      have ha : a.ev ρ = ρ i := by
        unfold isVar at hv
        split at hv
        · cases hv; simp [SI.ev, Lin.ev, Atom.ev]
        · cases hv
      have hb : SI.ev ρ ⟨Int.ofNat (m + 1), []⟩ = ((m + 1 : Nat) : Int) := by simp [SI.ev, Lin.ev]
      rw [hb, if_neg (by omega), ha]
      refine ⟨_, _, st, rfl, ?_, hR, h⟩
      simp [XAV.ev, XV.ev, SI.ev, Lin.ev, Atom.ev]
    · exact bothX_ok hR h
  all_goals exact bothX_ok hR h

theorem binS_ok (hR : XRel ρ st H) {op : BinOp} {x y : XAV} {k : XK} (h : binS op x y st k = true) : PureX ρ H (binA op (x.ev ρ) (y.ev ρ)) k := by
  unfold binS at h
  split at h
  · rename_i k1 a hx
    split at h
    · rename_i k2 b hy
      split at h
      · exact bothX_ok hR h
      · rename_i hk
        have := kindEqb_eq hk
        subst this
        exact symX_ok hR (toSI_ev hx) (toSI_ev hy) h
    · cases h
  · cases h

theorem intOf_ev {x : XAV} {p : IntKind × Int} (h : intOf x = some p) : x.ev ρ = .s (.int p.1 p.2) := by
  unfold intOf at h
  split at h
  · split at h
    · split at h
      · cases h; rfl
      · cases h
    · cases h
  · cases h

theorem binX_ok (hR : XRel ρ st H) {op : BinOp} {x y : XAV} {k : XK} (h : binX op x y st k = true) : PureX ρ H (binA op (x.ev ρ) (y.ev ρ)) k := by
  unfold binX at h
  split at h
  · rename_i p hp
    split at h
    · rename_i q hq
      obtain ⟨v, xv, h7, h8, h9⟩ := kO_ok (ρ := ρ) h
      rw [intOf_ev hp, intOf_ev hq]
      exact ⟨_, xv, st, binC_ok h7, h8, hR, h9⟩
    · exact binS_ok hR h
  · exact binS_ok hR h

theorem convX_ok (hR : XRel ρ st H) {kd : IntKind} {x : XAV} {k : XK} (h : convX kd x st k = true) : PureX ρ H (convA kd (x.ev ρ)) k := by
  unfold convX at h
  split at h
  · exact ⟨_, _, st, rfl, by simp [XAV.ev, XV.ev, wrapF_eq], hR, forceI_ok h⟩
  · rename_i k0 n
    have hr := rng_ok hR.facts n
    split at h
    · rename_i lo hi hrg
      rw [hrg] at hr
      have h1 := hr.1 lo rfl
      have h2 := hr.2 hi rfl
      split at h
      · rename_i hc
        simp only [Bool.and_eq_true, Int.leb_iff] at hc
        refine ⟨_, _, st, rfl, ?_, hR, h⟩
        simp only [XAV.ev, XV.ev]
        rw [wrap_in (by omega) (by omega)]
      · obtain ⟨st', h3, h4⟩ := withSI_ok hR h
        exact ⟨_, _, st', rfl, rfl, h3, h4⟩
    · cases h
  · cases h

theorem minmaxX_ok (hR : XRel ρ st H) {mx : Bool} {x y : XAV} {k : XK} (h : minmaxX mx x y st k = true) : PureX ρ H (minmaxA mx (x.ev ρ) (y.ev ρ)) k := by
  unfold minmaxX at h
  split at h
  · rename_i k1 a k2 b hx hy
    have e1 := toSI_ev (ρ := ρ) hx
    have e2 := toSI_ev (ρ := ρ) hy
    have hb : XAV.ev ρ (match b.l with | [] => .s (.s (.int k1 b.c)) | _ => .s (.y k1 b)) = .s (.int k1 (b.ev ρ)) := by
      split
      · rename_i hl; simp [XAV.ev, XV.ev, SI.ev, hl, Lin.ev]
      · rfl
    have hs1 := SI.sub_ev ρ a b
    have hs2 := SI.sub_ev ρ b a
    split at h
    · obtain ⟨st', h1, ⟨h2, h3⟩ | ⟨h2, h3⟩⟩ := split2_ok hR h
      · refine ⟨_, _, st', ?_, hb, h1, h3⟩
        rw [e1, e2, minmaxA_max, if_pos (by omega)]
      · refine ⟨_, _, st', ?_, e1, h1, h3⟩
        rw [e1, e2, minmaxA_max, if_neg (by omega)]
    · obtain ⟨st', h1, ⟨h2, h3⟩ | ⟨h2, h3⟩⟩ := split2_ok hR h
      · refine ⟨_, _, st', ?_, hb, h1, h3⟩
        rw [e1, e2, minmaxA_min, if_pos (by omega)]
      · refine ⟨_, _, st', ?_, e1, h1, h3⟩
        rw [e1, e2, minmaxA_min, if_neg (by omega)]
  · cases h

theorem sliceX_ev (hR : XRel ρ st H) {esz : Nat} {x : XAV} {n : Nat} {l : List XV} (h : sliceX esz x n st = some l) : sliceCells esz (x.ev ρ) n H = some (l.map (XV.ev ρ)) := by
  unfold sliceX at h
  split at h
  · cases h; rfl
  · rename_i b o len cap e
    split at h
    · rename_i hc
      simp only [Bool.and_eq_true, Nat.ble_eq] at hc
      have he := Nat.eq_of_beq_eq_true hc.1
      unfold ldnX at h
      split at h
      · rename_i ro l' hb
        have hb' := hR.has _ _ hb
        obtain ⟨h1, h2⟩ := subS_eq h
        simp only [XAV.ev, XV.ev, sliceCells]
        rw [if_pos ⟨he, hc.2⟩, ldn_of H hb', List.length_map, if_pos h2, h1]
        simp only [List.map_take, List.map_drop]
      · cases h
    · cases h
  · cases h

theorem slLenX_ev {x : XAV} {n : Nat} (h : slLenX x = some n) : slLen (x.ev ρ) = some n := by
  unfold slLenX at h
  split at h
  · cases h; rfl
  · cases h

/-- What an operation with an effect leaves. -/
def EffX (ρ : Nat → Int) (o : Option (AV × AH)) (k : XK) : Prop := ∃ v H' xv st', o = some (v, H') ∧ xv.ev ρ = v ∧ XRel ρ st' H' ∧ k xv st' = true

theorem appendX_ok (hR : XRel ρ st H) {esz bytes id : Nat} {s x : XAV} {k : XK} (h : appendX esz bytes id s x st k = true) : EffX ρ (appendA esz bytes id (s.ev ρ) (x.ev ρ) H) k := by
  unfold appendX at h
  split at h
  · rename_i len cap e n hn
    split at h
    · rename_i new hnew
      split at h
      · rename_i hb
        rw [Nat.ble_eq] at hb
        rw [show XAV.ev ρ (.s (.s (.slice none len cap e))) = .s (.slice none len cap e) from rfl]
        simp only [appendA]
        have h1 := slLenX_ev (ρ := ρ) hn
        have h2 := sliceX_ev hR hnew
        split at h
        · refine ⟨.s (.slice none 0 0 esz), H, .s (.s (.slice none 0 0 esz)), st, ?_, rfl, hR, h⟩
          rw [h1, Option.bind_some, h2, Option.bind_some, if_pos hb, if_pos rfl]
        · obtain ⟨H', st', h3, h4, h5⟩ := newX_ok hR h
          refine ⟨_, H', _, st', ?_, rfl, h4, h5⟩
          rw [h1, Option.bind_some, h2, Option.bind_some, if_pos hb, if_neg (by omega), h3]
          rfl
      · cases h
    · cases h
  · rename_i b o len cap e n hn
    split at h
    · rename_i new hnew
      split at h
      · rename_i hb
        simp only [Bool.and_eq_true, Nat.ble_eq] at hb
        have he := Nat.eq_of_beq_eq_true hb.1
        rw [show XAV.ev ρ (.s (.s (.slice (some (b, o)) len cap e))) = .s (.slice (some (b, o)) len cap e) from rfl]
        simp only [appendA]
        have h1 := slLenX_ev (ρ := ρ) hn
        have h2 := sliceX_ev hR hnew
        split at h
        · rename_i hc
          rw [Nat.ble_eq] at hc
          obtain ⟨H', st', h3, h4, h5⟩ := stnX_ok hR h
          refine ⟨_, H', _, st', ?_, rfl, h4, h5⟩
          rw [h1, Option.bind_some, h2, Option.bind_some, if_pos ⟨he, hb.2⟩, if_pos hc, h3]
          rfl
        · rename_i hc
          have hc := ble_ff hc
          split at h
          · rename_i l hl
            split at h
            · rename_i old hold
              split at h
              · rename_i all hall
                obtain ⟨st1, h3, h4⟩ := putBlk_ok hR h
                obtain ⟨H', st', h5, h6, h7⟩ := newX_ok h3 h4
                obtain ⟨h8, h9⟩ := subS_eq hold
                have hb' := hR.has _ _ hl
                refine ⟨_, H', _, st', ?_, rfl, h6, h7⟩
                rw [h1, Option.bind_some, h2, Option.bind_some, if_pos ⟨he, hb.2⟩, if_neg hc, hb']
                simp only [XBlk.ev, List.length_map]
                rw [if_pos h9]
                have : ((l.map (XV.ev ρ)).drop o).take (len * esz) ++ new.map (XV.ev ρ) = all.map (XV.ev ρ) := by
                  rw [catS_eq hall, h8]
                  simp only [List.map_append, List.map_take, List.map_drop]
                rw [this]
                have h5' : (H.set b .dead).new id (.cells false (all.map (XV.ev ρ))) = some H' := h5
                rw [h5']; rfl
              · cases h
            · cases h
          · cases h
      · cases h
    · cases h
  · cases h

theorem natMin_eq (a b : Nat) : natMin a b = min a b := by
  unfold natMin
  split
  · rename_i h; rw [Nat.ble_eq] at h; omega
  · rename_i h
    have := ble_ff h
    omega

theorem copyX_ok (hR : XRel ρ st H) {esz : Nat} {d s : XAV} {k : XK} (h : copyX esz d s st k = true) : EffX ρ (copyA esz (d.ev ρ) (s.ev ρ) H) k := by
  unfold copyX at h
  split at h
  · rename_i len cap e n hn
    split at h
    · rename_i new hnew
      rw [natMin_eq] at *
      rw [show XAV.ev ρ (.s (.s (.slice none len cap e))) = .s (.slice none len cap e) from rfl]
      simp only [copyA]
      have h1 := slLenX_ev (ρ := ρ) hn
      have h2 := sliceX_ev hR hnew
      refine ⟨_, H, _, st, ?_, rfl, hR, h⟩
      rw [h1, Option.bind_some, h2, Option.bind_some]
      rfl
    · cases h
  · rename_i b o len cap e n hn
    split at h
    · rename_i new hnew
      rw [natMin_eq] at *
      simp only [Bool.and_eq_true] at h
      have he := Nat.eq_of_beq_eq_true h.1
      rw [show XAV.ev ρ (.s (.s (.slice (some (b, o)) len cap e))) = .s (.slice (some (b, o)) len cap e) from rfl]
      simp only [copyA]
      have h1 := slLenX_ev (ρ := ρ) hn
      have h2 := sliceX_ev hR hnew
      obtain ⟨H', st', h3, h4, h5⟩ := stnX_ok hR h.2
      refine ⟨_, H', _, st', ?_, rfl, h4, h5⟩
      rw [h1, Option.bind_some, h2, Option.bind_some, if_pos he, h3]
      rfl
    · cases h
  · cases h

theorem clearX_ok (hR : XRel ρ st H) {esz : Nat} {z : List SV} {x : XAV} {k : XS → Bool} (h : clearX esz z x st k = true) : ∃ H' st', clearA esz z (x.ev ρ) H = some H' ∧ XRel ρ st' H' ∧ k st' = true := by
  unfold clearX at h
  split at h
  · exact ⟨H, st, rfl, hR, h⟩
  · rename_i b o n cap e
    simp only [XAV.ev, XV.ev, clearA]
    split at h
    · exact ⟨H, st, by rw [if_pos rfl], hR, h⟩
    · simp only [Bool.and_eq_true] at h
      have he := Nat.eq_of_beq_eq_true h.1.1
      have hz := Nat.eq_of_beq_eq_true h.1.2
      obtain ⟨H', st', h3, h4, h5⟩ := stnX_ok hR h.2
      rw [ofs_ev] at h3
      exact ⟨H', st', by rw [if_neg (by omega), if_pos ⟨he, hz⟩, h3], h4, h5⟩
  · cases h

theorem eqCellsX_ok : ∀ {ks : List Bool} {xs ys : List XV} {st : XS} {k : Bool → XS → Bool}, XRel ρ st H → eqCellsX ks xs ys st k = true → ∃ r st', eqCells ks (xs.map (XV.ev ρ)) (ys.map (XV.ev ρ)) = some r ∧ XRel ρ st' H ∧ k r st' = true
  | [], [], [], st, k, hR, h => ⟨true, st, rfl, hR, h⟩
  | false :: ks, x :: xs, y :: ys, st, k, hR, h => by
    simp only [eqCellsX] at h
    split at h
    · rename_i k1 a k2 b hx hy
      simp only [Bool.and_eq_true] at h
      have := kindEqb_eq h.1
      subst this
      have e1 : x.ev ρ = .int k1 (a.ev ρ) := by have := toSI_ev (ρ := ρ) hx; simpa [XAV.ev] using this
      have e2 : y.ev ρ = .int k1 (b.ev ρ) := by have := toSI_ev (ρ := ρ) hy; simpa [XAV.ev] using this
      have hs := SI.sub_ev ρ a b
      obtain ⟨st1, h1, ⟨h2, h3⟩ | ⟨h2, h3⟩⟩ := split0_ok hR h.2
      · obtain ⟨r, st2, h4, h5, h6⟩ := eqCellsX_ok h1 h3
        refine ⟨r, st2, ?_, h5, h6⟩
        simp only [List.map_cons, e1, e2, eqCells, if_true, h4, Option.map_some]
        have : (a.ev ρ == b.ev ρ) = true := by simp; omega
        rw [this]; rfl
      · obtain ⟨r, st2, h4, h5, h6⟩ := eqCellsX_ok h1 h3
        refine ⟨false, st2, ?_, h5, h6⟩
        simp only [List.map_cons, e1, e2, eqCells, if_true, h4, Option.map_some]
        have : (a.ev ρ == b.ev ρ) = false := by simp; omega
        rw [this]; rfl
    · cases h
  | true :: ks, .s (.bool a) :: xs, .s (.bool b) :: ys, st, k, hR, h => by
    simp only [eqCellsX] at h
    obtain ⟨r, st2, h4, h5, h6⟩ := eqCellsX_ok hR h
    exact ⟨_, st2, by simp only [List.map_cons, XV.ev, eqCells, h4, Option.map_some], h5, h6⟩
  | [], [], _ :: _, _, _, _, h => by simp [eqCellsX] at h
  | [], _ :: _, _, _, _, _, h => by simp [eqCellsX] at h
  | false :: _, [], _, _, _, _, h => by simp [eqCellsX] at h
  | false :: _, _ :: _, [], _, _, _, h => by simp [eqCellsX] at h
  | true :: _, [], _, _, _, _, h => by simp [eqCellsX] at h
  | true :: _, _ :: _, [], _, _, _, h => by simp [eqCellsX] at h
  | true :: _, .y _ _ :: _, _ :: _, _, _, _, h => by simp [eqCellsX] at h
  | true :: _, .s (.bool _) :: _, .y _ _ :: _, _, _, _, h => by simp [eqCellsX] at h
  | true :: _, .s (.int _ _) :: _, _ :: _, _, _, _, h => by simp [eqCellsX] at h
  | true :: _, .s (.str _) :: _, _ :: _, _, _, _, h => by simp [eqCellsX] at h
  | true :: _, .s (.ptr _) :: _, _ :: _, _, _, _, h => by simp [eqCellsX] at h
  | true :: _, .s (.slice _ _ _ _) :: _, _ :: _, _, _, _, h => by simp [eqCellsX] at h
  | true :: _, .s (.map _) :: _, _ :: _, _, _, _, h => by simp [eqCellsX] at h
  | true :: _, .s (.fn _ _) :: _, _ :: _, _, _, _, h => by simp [eqCellsX] at h
  | true :: _, .s .nilfn :: _, _ :: _, _, _, _, h => by simp [eqCellsX] at h
  | true :: _, .s (.bfn _ _) :: _, _ :: _, _, _, _, h => by simp [eqCellsX] at h
  | true :: _, .s (.bool _) :: _, .s (.int _ _) :: _, _, _, _, h => by simp [eqCellsX] at h
  | true :: _, .s (.bool _) :: _, .s (.str _) :: _, _, _, _, h => by simp [eqCellsX] at h
  | true :: _, .s (.bool _) :: _, .s (.ptr _) :: _, _, _, _, h => by simp [eqCellsX] at h
  | true :: _, .s (.bool _) :: _, .s (.slice _ _ _ _) :: _, _, _, _, h => by simp [eqCellsX] at h
  | true :: _, .s (.bool _) :: _, .s (.map _) :: _, _, _, _, h => by simp [eqCellsX] at h
  | true :: _, .s (.bool _) :: _, .s (.fn _ _) :: _, _, _, _, h => by simp [eqCellsX] at h
  | true :: _, .s (.bool _) :: _, .s .nilfn :: _, _, _, _, h => by simp [eqCellsX] at h
  | true :: _, .s (.bool _) :: _, .s (.bfn _ _) :: _, _, _, _, h => by simp [eqCellsX] at h

/- ---- maps ---- -/
theorem findKX_ok {k : IntKind} {n : Int} : ∀ {es : List (SV × XPart)} {i : Nat} {x : Option (Nat × XPart)}, findKX k n es i = some x → findK k n (es.map fun p => (p.1, p.2.ev ρ)) i = some (x.map fun q => (q.1, q.2.ev ρ))
  | [], i, x, h => by simp only [findKX, Option.some.injEq] at h; subst h; rfl
  | (y, p) :: es, i, x, h => by
    cases y with
    | int k' n' =>
      simp only [findKX] at h
      split at h
      · rename_i hk
        have hk := kindEqb_eq hk
        subst hk
        split at h
        · rename_i hn
          have hn := Int.eqb_eq hn
          subst hn
          simp only [Option.some.injEq] at h
          subst h
          simp only [List.map_cons, findK, if_true, Option.map_some]
        · rename_i hn
          have hn : n ≠ n' := fun e => by
            subst e
            rw [eqb_beq] at hn
            simp at hn
          simp only [List.map_cons, findK, if_true, if_neg hn]
          exact findKX_ok h
      · cases h
    | _ => simp [findKX] at h

theorem mapOf_ok (hR : XRel ρ st H) {x : XAV} {q : Nat × List (SV × XPart)} (h : mapOf x st = some q) : x.ev ρ = .s (.map (some q.1)) ∧ H.blk q.1 = some (.map (q.2.map fun p => (p.1, p.2.ev ρ))) := by
  unfold mapOf at h
  split at h
  · split at h
    · rename_i hb
      cases h
      exact ⟨rfl, hR.has _ _ hb⟩
    · cases h
  · cases h

theorem lookX_ok (hR : XRel ρ st H) {ok : Bool} {id : Nat} {m key : XAV} {k : XK} (h : lookX ok m key st k = true) : EffX ρ (hopA (.lookup ok) id [m.ev ρ, key.ev ρ] H) k := by
  unfold lookX at h
  split at h
  · rename_i q hq
    obtain ⟨h1, h2⟩ := mapOf_ok hR hq
    obtain ⟨kd, n, st', h3, h4, h5⟩ := withInt_ok hR h
    split at h5
    · rename_i p hp
      have hf := findKX_ok (ρ := ρ) hp
      rw [h1, h3]
      cases ok with
      | true =>
        refine ⟨_, H, .tup [p.2, .s (.s (.bool true))], st', ?_, rfl, h4, h5⟩
        simp only [hopA, h2, hf, Option.map_some, if_true]
        rfl
      | false =>
        obtain ⟨xv, e1, e2⟩ := forceV_ok (ρ := ρ) h5
        refine ⟨_, H, xv, st', ?_, e1, h4, e2⟩
        simp only [hopA, h2, hf, Option.map_some, av_ev]
        rfl
    · cases h5
  · cases h

theorem updX_ok (hR : XRel ρ st H) {id : Nat} {m key v : XAV} {k : XS → Bool} (h : updX m key v st k = true) : ∃ H' st', hopA .update id [m.ev ρ, key.ev ρ, v.ev ρ] H = some (undef, H') ∧ XRel ρ st' H' ∧ k st' = true := by
  unfold updX at h
  split at h
  · rename_i q hq
    obtain ⟨h1, h2⟩ := mapOf_ok hR hq
    split at h
    · rename_i p hp
      have hp' := part_ev (ρ := ρ) hp
      obtain ⟨kd, n, st', h3, h4, h5⟩ := withInt_ok hR h
      split at h5
      · rename_i r hr
        have hf := findKX_ok (ρ := ρ) hr
        obtain ⟨st2, h6, h7⟩ := putBlk_ok h4 h5
        refine ⟨_, st2, ?_, h6, h7⟩
        rw [h1, h3]
        simp only [hopA, h2, hp', hf, Option.map_some, XBlk.ev, List.map_set]
      · rename_i hr
        have hf := findKX_ok (ρ := ρ) hr
        obtain ⟨st2, h6, h7⟩ := putBlk_ok h4 h5
        refine ⟨_, st2, ?_, h6, h7⟩
        rw [h1, h3]
        simp only [hopA, h2, hp', hf, Option.map_none, XBlk.ev, List.map_append, List.map_cons, List.map_nil]
      · cases h5
    · cases h
  · cases h

theorem erase_map {α β : Type} (f : α → β) : ∀ (l : List α) (i : Nat), (l.map f).eraseIdx i = (l.eraseIdx i).map f
  | [], _ => rfl
  | _ :: _, 0 => rfl
  | x :: l, i + 1 => by simp only [List.map_cons, List.eraseIdx_cons_succ, erase_map f l i]

theorem delX_ok (hR : XRel ρ st H) {id : Nat} {m key : XAV} {k : XS → Bool} (h : delX m key st k = true) : ∃ H' st', hopA .delete id [m.ev ρ, key.ev ρ] H = some (undef, H') ∧ XRel ρ st' H' ∧ k st' = true := by
  unfold delX at h
  split at h
  · rename_i q hq
    obtain ⟨h1, h2⟩ := mapOf_ok hR hq
    obtain ⟨kd, n, st', h3, h4, h5⟩ := withInt_ok hR h
    split at h5
    · rename_i r hr
      have hf := findKX_ok (ρ := ρ) hr
      obtain ⟨st2, h6, h7⟩ := putBlk_ok h4 h5
      refine ⟨_, st2, ?_, h6, h7⟩
      rw [h1, h3]
      simp only [hopA, h2, hf, Option.map_some, XBlk.ev, erase_map]
    · rename_i hr
      have hf := findKX_ok (ρ := ρ) hr
      obtain ⟨st2, h6, h7⟩ := putBlk_ok h4 h5
      refine ⟨_, st2, ?_, h6, h7⟩
      rw [h1, h3]
      simp only [hopA, h2, hf, Option.map_none, XBlk.ev]
    · cases h5
  · cases h

theorem hopX_ok (hR : XRel ρ st H) {g : HOp} {id : Nat} {args : List XAV} {k : XK} (h : hopX g id args st k = true) : EffX ρ (hopA g id (args.map (XAV.ev ρ)) H) k := by
  unfold hopX at h
  split at h
  · split at h
    · split at h
      · rename_i hg
        cases hgc : cond (Nat.blt id st.lo) true (Nat.ble st.gc id) with
        | false => rw [hgc] at h; cases h
        | true =>
          rw [hgc, cond_true] at h
          have hgc := inGap hgc
          obtain ⟨st', h1, h2⟩ := putBlk_ok hR h
          refine ⟨_, _, .s (.s (.map (some id))), st', ?_, rfl, h1, h2⟩
          simp only [List.map_nil, hopA, new_of H (hR.free id hgc hg), Option.map_some]
          rfl
      · cases h
    · cases h
  · split at h
    · exact lookX_ok hR h
    · cases h
  · split at h
    · obtain ⟨H', st', h1, h2, h3⟩ := updX_ok (id := id) hR h
      exact ⟨_, H', xundef, st', h1, rfl, h2, h3⟩
    · cases h
  · split at h
    · obtain ⟨H', st', h1, h2, h3⟩ := delX_ok (id := id) hR h
      exact ⟨_, H', xundef, st', h1, rfl, h2, h3⟩
    · cases h
  · rename_i len esz
    split at h
    · unfold slArrX at h
      split at h
      · split at h
        · rename_i p _ ro l hb
          split at h
          · rename_i hc
            simp only [Bool.and_eq_true, Nat.ble_eq] at hc
            have h0 : 0 < esz := by
              have : Nat.blt 0 esz = true := hc.1
              simp only [Nat.blt, Nat.ble_eq] at this
              exact this
            have hb' := hR.has _ _ hb
            refine ⟨_, H, _, st, ?_, rfl, hR, h⟩
            show hopA (.slArr len esz) id [.s (.ptr (some (p.1, p.2)))] H = _
            simp only [hopA, hb', XBlk.ev, List.length_map]
            rw [if_pos ⟨h0, hc.2⟩]
            rfl
          · cases h
        · cases h
      · cases h
    · cases h

end
end Go.AM
