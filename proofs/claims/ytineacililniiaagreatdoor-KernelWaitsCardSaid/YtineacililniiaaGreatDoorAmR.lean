/-
  ANY ARGUMENT of plain data: numbers, truths, texts, structs, arrays, slices of these, as the abstract machine holds it.
-/
import Derived.Test.YtineacililniiaaGreatDoorAmS
import Derived.WideShapes
import Derived.OpenShut
import Derived.ProofKit
namespace Go.AM
open Go.WideShapes Go.ChangeShapes

inductive Ty where
  | int (k : IntKind)
  | bool
  | str
  | unit
  | pair (a b : Ty)
  | arr (n : Nat) (a : Ty)
  | slice (a : Ty)

@[reducible] def Ty.den : Ty → Type
  | .int _ => Int
  | .bool => Bool
  | .str => ByteArray
  | .unit => Unit
  | .pair a b => a.den × b.den
  | .arr _ a => List a.den
  | .slice a => List a.den

def Ty.size : Ty → Nat
  | .int _ | .bool | .str | .slice _ => 1
  | .unit => 0
  | .pair a b => a.size + b.size
  | .arr n a => n * a.size

/-- No slice in it. -/
def Ty.plain : Ty → Bool
  | .int _ | .bool | .str | .unit => true
  | .slice _ => false
  | .pair a b => a.plain && b.plain
  | .arr _ a => a.plain
/-- No slice of slices in it. -/
def Ty.good : Ty → Bool
  | .int _ | .bool | .str | .unit => true
  | .slice a => a.plain
  | .pair a b => a.good && b.good
  | .arr _ a => a.good
/-- How many blocks at most, if it is good. -/
def Ty.cnt : Ty → Nat
  | .int _ | .bool | .str | .unit => 0
  | .slice _ => 1
  | .pair a b => a.cnt + b.cnt
  | .arr n a => n * a.cnt

/-- A datum of a type, by its cells. -/
def At (f : HF) : (t : Ty) → t.den → List SV → Prop
  | .int k, n, l => l = [.int k n] ∧ (Lit.int k n).wf = true
  | .bool, b, l => l = [.bool b]
  | .str, s, l => l = [.str s] ∧ s.size ≤ maxLen
  | .unit, _, l => l = []
  | .pair a b, x, l => ∃ l1 l2, l = l1 ++ l2 ∧ At f a x.1 l1 ∧ At f b x.2 l2
  | .arr n a, xs, l => xs.length = n ∧ ∃ ls : List (List SV), l = ls.flatten ∧ R2 (At f a) xs ls
  | .slice a, xs, l => ∃ s, l = [s] ∧ ((∃ o, s = .slice o 0 0 a.size ∧ xs = []) ∨ ∃ b c j ls, s = .slice (some (b, 0)) xs.length c a.size ∧ f b = some (.cells true (List.flatten ls ++ j)) ∧ xs.length ≤ c ∧ c * a.size ≤ (List.flatten ls ++ j).length ∧ R2 (At f a) xs ls)

theorem At.loc {f g : HF} (h : ∀ b x, f b = some (.cells true x) → g b = some (.cells true x)) : ∀ {t : Ty} {x : t.den} {l : List SV}, At f t x l → At g t x l
  | .int _, _, _, hx => hx
  | .bool, _, _, hx => hx
  | .str, _, _, hx => hx
  | .unit, _, _, hx => hx
  | .pair a b, _, _, ⟨l1, l2, h1, h2, h3⟩ => ⟨l1, l2, h1, h2.loc h, h3.loc h⟩
  | .arr _ a, _, _, ⟨h1, ls, h2, h3⟩ => ⟨h1, ls, h2, R2.mono (fun _ _ hx => At.loc h hx) h3⟩
  | .slice a, _, _, ⟨s, h1, h2⟩ => ⟨s, h1, h2.elim .inl fun ⟨b, c, j, ls, k1, k2, k3, k4, k5⟩ => .inr ⟨b, c, j, ls, k1, h b _ k2, k3, k4, R2.mono (fun _ _ hx => At.loc h hx) k5⟩⟩

theorem flatten_len {α β : Type} {R : α → List β → Prop} {n : Nat} (h : ∀ x l, R x l → l.length = n) : ∀ {xs : List α} {ls : List (List β)}, R2 R xs ls → ls.flatten.length = xs.length * n
  | [], [], _ => by simp
  | _ :: _, _ :: _, hx => by
    have := flatten_len h hx.2
    simp only [List.flatten_cons, List.length_append, List.length_cons, h _ _ hx.1, this, Nat.add_mul]
    omega

theorem At.len {f : HF} : ∀ {t : Ty} {x : t.den} {l : List SV}, At f t x l → l.length = t.size
  | .int _, _, _, hx => by rw [hx.1]; rfl
  | .bool, _, _, hx => by rw [show _ = _ from hx]; rfl
  | .str, _, _, hx => by rw [hx.1]; rfl
  | .unit, _, _, hx => by rw [show _ = _ from hx]; rfl
  | .pair a b, _, _, ⟨l1, l2, h1, h2, h3⟩ => by rw [h1, List.length_append, h2.len, h3.len]; rfl
  | .arr n a, _, _, ⟨h1, ls, h2, h3⟩ => by rw [h2, flatten_len (fun _ _ h => At.len h) h3, h1]; rfl
  | .slice a, _, _, ⟨s, h1, _⟩ => by rw [h1]; rfl

/- ---- the types of a program ---- -/
def fitsG (P : Program) : Ty → (TypeId → Bool) × (List Field → Nat → Bool)
  | .int k => (fun t => match P.underlying t with | some (.int k') => decide (k' = k) | _ => false, fun _ _ => false)
  | .bool => (fun t => match P.underlying t with | some .bool => true | _ => false, fun _ _ => false)
  | .str => (fun t => match P.underlying t with | some .string => true | _ => false, fun _ _ => false)
  | .unit => (fun _ => false, fun fs _ => match fs with | [] => true | _ => false)
  | .pair a b =>
    let F := fun fs off => match fs with
      | (f : Field) :: fs => decide (f.offset = off) && (fitsG P a).1 f.type && decide (P.cellsOf f.type = a.size) && (fitsG P b).2 fs (off + a.size)
      | [] => false
    (fun t => match P.underlying t with | some (.struct fs) => F fs.toList 0 && decide (P.cellsOf t = a.size + b.size) | _ => false, F)
  | .arr n a => (fun t => match P.underlying t with | some (.array n' e) => decide (n' = n) && (fitsG P a).1 e && decide (P.cellsOf e = a.size) && decide (P.cellsOf t = n * a.size) | _ => false, fun _ _ => false)
  | .slice a => (fun t => match P.underlying t with | some (.slice e) => (fitsG P a).1 e && decide (P.cellsOf e = a.size) && decide (0 < a.size) | _ => false, fun _ _ => false)

def fits (P : Program) (ty : Ty) (t : TypeId) : Bool := (fitsG P ty).1 t
def fitsF (P : Program) (ty : Ty) (fs : List Field) (off : Nat) : Bool := (fitsG P ty).2 fs off

section
variable {P : Program}
theorem fits_int (k : IntKind) (t : TypeId) : fits P (.int k) t = match P.underlying t with | some (.int k') => decide (k' = k) | _ => false := rfl
theorem fits_bool (t : TypeId) : fits P .bool t = match P.underlying t with | some .bool => true | _ => false := rfl
theorem fits_str (t : TypeId) : fits P .str t = match P.underlying t with | some .string => true | _ => false := rfl
theorem fits_unit (t : TypeId) : fits P .unit t = false := rfl
theorem fits_pair (a b : Ty) (t : TypeId) : fits P (.pair a b) t = match P.underlying t with | some (.struct fs) => fitsF P (.pair a b) fs.toList 0 && decide (P.cellsOf t = a.size + b.size) | _ => false := rfl
theorem fits_arr (n : Nat) (a : Ty) (t : TypeId) : fits P (.arr n a) t = match P.underlying t with | some (.array n' e) => decide (n' = n) && fits P a e && decide (P.cellsOf e = a.size) && decide (P.cellsOf t = n * a.size) | _ => false := rfl
theorem fits_slice (a : Ty) (t : TypeId) : fits P (.slice a) t = match P.underlying t with | some (.slice e) => fits P a e && decide (P.cellsOf e = a.size) && decide (0 < a.size) | _ => false := rfl
theorem fitsF_pair (a b : Ty) (f : Field) (fs : List Field) (off : Nat) : fitsF P (.pair a b) (f :: fs) off = (decide (f.offset = off) && fits P a f.type && decide (P.cellsOf f.type = a.size) && fitsF P b fs (off + a.size)) := rfl
end

/- ---- the heap that is opened ---- -/

/-- Where a block lies, how many cells; what it holds, if it has any. -/
abbrev RoL := List ((Nat × Nat × Nat) × Option (List SV))

def roPhi (L : RoL) : Phi := fun b => (L[b]?).map (·.1)
def roF (L : RoL) : HF := fun b => (L[b]?).map fun e => match e.2 with | none => .dead | some l => .cells true l
def roH (L : RoL) : AH := ⟨roF L, L.length⟩

def RoOk (w : World) (φ : Phi) (e : (Nat × Nat × Nat) × Option (List SV)) : Prop :=
  match e with
  | (_, none) => True
  | ((cb, sh, cs), some l) => ∃ c t fr, w.heap[cb]? = some (.cells c t fr) ∧ c.size = cs ∧ sh + l.length ≤ cs ∧ ∀ i x, l[i]? = some x → ∃ v, c[sh + i]? = some v ∧ SVRel φ x v

def RoInv (w : World) (L : RoL) : Prop := ∀ e ∈ L, RoOk w (roPhi L) e

theorem roPhi_ext (L M : RoL) : Ext (roPhi L) (roPhi (L ++ M)) := by
  intro b x h
  simp only [roPhi, Option.map_eq_some_iff] at h ⊢
  obtain ⟨e, h1, h2⟩ := h
  exact ⟨e, by rw [List.getElem?_append_left (List.getElem?_eq_some_iff.1 h1).1]; exact h1, h2⟩

theorem roF_ext (L M : RoL) : ∀ b x, roF L b = some (.cells true x) → roF (L ++ M) b = some (.cells true x) := by
  intro b x h
  simp only [roF, Option.map_eq_some_iff] at h ⊢
  obtain ⟨e, h1, h2⟩ := h
  exact ⟨e, by rw [List.getElem?_append_left (List.getElem?_eq_some_iff.1 h1).1]; exact h1, h2⟩

theorem RoOk.mono {w : World} {φ φ' : Phi} (h : Ext φ φ') {e : (Nat × Nat × Nat) × Option (List SV)} (hx : RoOk w φ e) : RoOk w φ' e := by
  obtain ⟨⟨cb, sh, cs⟩, o⟩ := e
  cases o with
  | none => trivial
  | some l =>
    obtain ⟨c, t, fr, h1, h2, h3, h4⟩ := hx
    exact ⟨c, t, fr, h1, h2, h3, fun i x hi => let ⟨v, k1, k2⟩ := h4 i x hi; ⟨v, k1, k2.mono h⟩⟩

theorem RoInv.snoc {w : World} {L : RoL} (h : RoInv w L) {e : (Nat × Nat × Nat) × Option (List SV)} (he : RoOk w (roPhi L) e) : RoInv w (L ++ [e]) := by
  intro x hx
  rcases List.mem_append.1 hx with hx | hx
  · exact (h x hx).mono (roPhi_ext _ _)
  · simp at hx; subst hx; exact he.mono (roPhi_ext _ _)

theorem roH_rel {w : World} {L : RoL} (h : RoInv w L) : HRel w.heap.size w (roPhi L) (roH L) w := by
  refine { dom := ?_, lt := ?_, cells := ?_, maps := ?_, inj := ?_, old := fun _ _ => rfl, bound := Nat.le_refl _, os := rfl, out := rfl, nf := ?_ }
  · intro b hb
    simp only [roH, roF, Option.map_eq_none_iff] at hb
    simp [roPhi, hb]
  · intro b hb
    simp only [roH] at hb ⊢
    simp [roF, List.getElem?_eq_none hb]
  · intro b ro l hb
    simp only [roH, roF, Option.map_eq_some_iff] at hb
    obtain ⟨⟨⟨cb, sh, cs⟩, o⟩, h1, h2⟩ := hb
    cases o with
    | none => cases h2
    | some l' =>
      cases h2
      obtain ⟨c, t, fr, k1, k2, k3, k4⟩ := h _ (List.mem_of_getElem? h1)
      exact ⟨cb, sh, cs, c, t, fr, by simp [roPhi, h1], k1, k2, k3, k4, by simp⟩
  · intro b es hb
    simp only [roH, roF, Option.map_eq_some_iff] at hb
    obtain ⟨⟨_, o⟩, h1, h2⟩ := hb
    cases o <;> cases h2
  · intro b b' x x' hx hx' hd hd' _
    right
    have key : ∀ {b : Nat} {x : Nat × Nat × Nat}, roPhi L b = some x → (roH L).blk b ≠ some .dead → ∃ ls, (roH L).blk b = some (.cells true ls) := by
      intro b x hx hd
      simp only [roPhi, Option.map_eq_some_iff] at hx
      obtain ⟨⟨p, o⟩, h1, _⟩ := hx
      simp only [roH, roF, h1, Option.map_some] at hd ⊢
      cases o with
      | none => simp at hd
      | some l => exact ⟨l, rfl⟩
    obtain ⟨l, h1⟩ := key hx hd
    obtain ⟨l', h2⟩ := key hx' hd'
    exact ⟨l, l', h1, h2⟩
  · intro k c e fr hk hh
    rw [Array.getElem?_eq_none hk] at hh; cases hh

/- ---- opening ---- -/
section
variable {H : Type} {enc : TypeId × Value → H} {P : Program} {w : World} {held : Bool}

abbrev TrodOk (enc : TypeId × Value → H) (P : Program) (w : World) (held : Bool) (n : Nat) (t : TypeId) (cs : List Value) : Prop := ∃ x, DataW.trod enc P w 0 (fun _ => true) held n t cs = some x

/-- What opening a datum gives. -/
def Opens (w : World) (ty : Ty) (L : RoL) (cs : List Value) : Prop :=
  ∃ M x l, RoInv w (L ++ M) ∧ R2 (SVRel (roPhi (L ++ M))) l cs ∧ At (roF (L ++ M)) ty x l ∧ (ty.plain = true → M = []) ∧ (ty.good = true → M.length ≤ ty.cnt)

/-- Items, one by one. -/
theorem opens_list {ty : Ty} {m : Nat} {e : TypeId} (ih : ∀ (n : Nat) (t : TypeId) (cs : List Value) (L : RoL), fits P ty t = true → TrodOk enc P w held n t cs → RoInv w L → Opens w ty L cs) (hf : fits P ty e = true) (g : Nat → List Value) :
    ∀ (n : Nat) (L : RoL), (∀ i, i < n → TrodOk enc P w held m e (g i)) → RoInv w L →
      ∃ (M : RoL) (xs : List ty.den) (ls : List (List SV)), RoInv w (L ++ M) ∧ xs.length = n ∧ R2 (At (roF (L ++ M)) ty) xs ls ∧ R2 (R2 (SVRel (roPhi (L ++ M)))) ls ((List.range n).map g) ∧ (ty.plain = true → M = []) ∧ (ty.good = true → M.length ≤ n * ty.cnt)
  | 0, L, _, hL => ⟨[], [], [], by simpa using hL, rfl, trivial, trivial, fun _ => rfl, fun _ => Nat.zero_le _⟩
  | n + 1, L, hg, hL => by
    obtain ⟨M, xs, ls, h1, h2, h3, h4, h5, h6⟩ := opens_list ih hf g n L (fun i hi => hg i (by omega)) hL
    obtain ⟨M', x, l, k1, k2, k3, k5, k6⟩ := ih m e (g n) (L ++ M) hf (hg n (by omega)) h1
    refine ⟨M ++ M', xs ++ [x], ls ++ [l], by rw [← List.append_assoc]; exact k1, by simp [h2], ?_, ?_, fun hp => by rw [h5 hp, k5 hp]; rfl, fun hp => by have := h6 hp; have := k6 hp; rw [List.length_append, Nat.add_mul]; omega⟩
    · rw [← List.append_assoc]
      exact R2.append (R2.mono (fun _ _ hx => hx.loc (roF_ext _ _)) h3) ⟨k3, trivial⟩
    · rw [← List.append_assoc, List.range_succ, List.map_append]
      exact R2.append (R2.mono (fun _ _ hx => R2.ext (roPhi_ext _ _) hx) h4) ⟨k2, trivial⟩

theorem R2_flatten {α β : Type} {R : α → β → Prop} : ∀ {as : List (List α)} {bs : List (List β)}, R2 (R2 R) as bs → R2 R as.flatten bs.flatten
  | [], [], _ => trivial
  | _ :: _, _ :: _, h => by simpa using R2.append h.1 (R2_flatten h.2)

theorem flatten_cuts {α : Type} (l : List α) (k : Nat) : ∀ n, l.length = n * k → ((List.range n).map fun i => (l.drop (i * k)).take k).flatten = l
  | 0, h => by
    have : l = [] := List.length_eq_zero_iff.1 (by simpa using h)
    subst this; rfl
  | n + 1, h => by
    rw [List.range_succ, List.map_append, List.flatten_append]
    have h0 : l.length = n * k + k := by rw [h, Nat.add_mul]; omega
    have ih := flatten_cuts (l.take (n * k)) k n (by rw [List.length_take]; omega)
    have e : ((List.range n).map fun i => (l.drop (i * k)).take k) = ((List.range n).map fun i => ((l.take (n * k)).drop (i * k)).take k) := by
      apply List.map_congr_left
      intro i hi
      simp only [List.mem_range] at hi
      have : i * k + k ≤ n * k := by
        have : (i + 1) * k ≤ n * k := Nat.mul_le_mul_right _ hi
        rw [Nat.add_mul] at this; omega
      rw [List.drop_take, List.take_take]
      congr 1; omega
    rw [e, ih]
    simp only [List.map_cons, List.map_nil, List.flatten_cons, List.flatten_nil, List.append_nil]
    have h2 : (l.drop (n * k)).take k = l.drop (n * k) := by rw [List.take_of_length_le]; rw [List.length_drop]; omega
    rw [h2, List.take_append_drop]

theorem row_flatten {w : World} {b off : Nat} {k : Nat} {g : Nat → List Value} : ∀ n, (∀ i, i < n → w.cells? 0 (Addr.add ⟨b, off, none⟩ (i * k)) k = some (g i)) → (((List.range n).map g).flatten).length = n * k ∧ ∀ i v, (((List.range n).map g).flatten)[i]? = some v → w.cell? ⟨b, off + i, none⟩ = some v
  | 0, _ => ⟨by simp, fun i v h => by simp at h⟩
  | n + 1, hg => by
    obtain ⟨hl, ih⟩ := row_flatten n fun i hi => hg i (by omega)
    obtain ⟨_, h2, h3⟩ := World.cells?_some (hg n (by omega))
    rw [List.range_succ, List.map_append, List.flatten_append]
    refine ⟨by simp [hl, h2, Nat.add_mul], fun i v h => ?_⟩
    by_cases hi : i < n * k
    · rw [List.getElem?_append_left (by rw [hl]; exact hi)] at h
      exact ih i v h
    · rw [List.getElem?_append_right (by rw [hl]; omega), hl] at h
      simp at h
      have hlt : i - n * k < (g n).length := (List.getElem?_eq_some_iff.1 h).1
      have := h3 (i - n * k) (by omega)
      rw [h, add_plain, add_plain] at this
      rw [← this]
      congr 2; omega

theorem opens_flat {ty : Ty} {L : RoL} {cs : List Value} (hL : RoInv w L) (x : ty.den) (l : List SV) (h1 : R2 (SVRel (roPhi L)) l cs) (h2 : At (roF L) ty x l) : Opens w ty L cs :=
  ⟨[], x, l, by simpa using hL, by simpa using h1, by simpa using h2, fun _ => rfl, fun _ => Nat.zero_le _⟩

mutual
theorem opens_ty : ∀ (ty : Ty) (n : Nat) (t : TypeId) (cs : List Value) (L : RoL), fits P ty t = true → TrodOk enc P w held n t cs → RoInv w L → Opens w ty L cs
  | .int k, n, t, cs, L, hf, ⟨x, hx⟩, hL => by
    rw [fits_int] at hf
    split at hf
    · rename_i k' ht
      simp only [decide_eq_true_eq] at hf
      subst hf
      obtain ⟨m, rfl, _, hw⟩ := DataW.trod_int ht hx
      exact opens_flat hL (ty := .int _) m [.int _ m] ⟨rfl, trivial⟩ ⟨rfl, hw⟩
    · cases hf
  | .bool, n, t, cs, L, hf, ⟨x, hx⟩, hL => by
    rw [fits_bool] at hf
    split at hf
    · rename_i ht
      obtain ⟨b, rfl, _⟩ := DataW.trod_bool ht hx
      exact opens_flat hL (ty := .bool) b [.bool b] ⟨rfl, trivial⟩ rfl
    · cases hf
  | .str, n, t, cs, L, hf, ⟨x, hx⟩, hL => by
    rw [fits_str] at hf
    split at hf
    · rename_i ht
      obtain ⟨s, rfl, _, hs⟩ := DataW.trod_string ht hx
      exact opens_flat hL (ty := .str) s [.str s] ⟨rfl, trivial⟩ ⟨rfl, hs⟩
    · cases hf
  | .unit, n, t, cs, L, hf, hx, hL => by cases hf
  | .pair a b, n, t, cs, L, hf, ⟨x, hx⟩, hL => by
    rw [fits_pair] at hf
    split at hf
    · rename_i fs ht
      simp only [Bool.and_eq_true, decide_eq_true_eq] at hf
      obtain ⟨xs, m, _, _, hl, hxl, hel⟩ := DataW.trod_struct ht hx
      have := opens_fields (.pair a b) m fs.toList 0 cs L hf.1 (fun i f hi => by
        have h1 := hel i f (by simpa using hi)
        have hlt : i < fs.size := by simpa using (List.getElem?_eq_some_iff.1 hi).1
        rw [List.getElem?_eq_getElem (by omega)] at h1
        exact ⟨_, h1⟩) hL
      rw [List.drop_zero, List.take_of_length_le (by rw [hl, hf.2]; exact Nat.le_refl _)] at this
      exact this
    · cases hf
  | .arr k a, n, t, cs, L, hf, ⟨x, hx⟩, hL => by
    rw [fits_arr] at hf
    split at hf
    · rename_i k' e ht
      simp only [Bool.and_eq_true, decide_eq_true_eq] at hf
      obtain ⟨⟨⟨rfl, hf2⟩, hf3⟩, hf4⟩ := hf
      obtain ⟨xs, m, _, _, hl, hxl, hel⟩ := DataW.trod_array ht hx
      obtain ⟨M, ds, ls, h1, h2, h3, h4, h5, h6⟩ := opens_list (m := m) (fun n t cs L => opens_ty a n t cs L) hf2 (fun i => (cs.drop (i * a.size)).take a.size) k' L (fun i hi => by
        have h1 := hel i hi
        rw [List.getElem?_eq_getElem (by omega), hf3] at h1
        exact ⟨_, h1⟩) hL
      refine ⟨M, ds, ls.flatten, h1, ?_, ⟨h2, ls, rfl, h3⟩, h5, h6⟩
      have := R2_flatten h4
      rwa [flatten_cuts cs a.size k' (by rw [hl, hf4])] at this
    · cases hf
  | .slice a, n, t, cs, L, hf, ⟨x, hx⟩, hL => by
    rw [fits_slice] at hf
    split at hf
    · rename_i e ht
      simp only [Bool.and_eq_true, decide_eq_true_eq] at hf
      obtain ⟨⟨hf1, hf2⟩, hf3⟩ := hf
      rcases DataW.trod_slice ht hx with ⟨rfl, _⟩ | ⟨ad, len, cap, elems, rest, m, _, rfl, _, _, hlc, hcm, hlen, hel, hsp, _⟩
      · exact opens_flat hL (ty := .slice a) [] [.slice none 0 0 a.size] ⟨⟨rfl, rfl, rfl⟩, trivial⟩ ⟨_, rfl, .inl ⟨none, rfl, rfl⟩⟩
      · obtain ⟨hrl, hre⟩ := hsp rfl
        rw [hf2] at hel hre
        by_cases hc0 : cap = 0
        · have hl0 : len = 0 := by omega
          subst hc0 hl0
          refine ⟨[((ad.block, ad.off, 0), none)], [], [.slice (some (L.length, 0)) 0 0 a.size], hL.snoc trivial, ⟨⟨hf3, Nat.le_refl _, ad.block, ad.off, 0, ad, 0, by simp [roPhi], Nat.le_refl _, rfl, fun h => absurd rfl h⟩, trivial⟩, ⟨_, rfl, .inl ⟨_, rfl, rfl⟩⟩, fun h => (by cases h), fun _ => Nat.le_refl _⟩
        · have each : ∀ i, i < cap → ∃ cs', w.cells? 0 (ad.add (i * a.size)) a.size = some cs' ∧ TrodOk enc P w held m e cs' := by
            intro i hi
            by_cases hil : i < len
            · have h1 := hel i hil
              rw [List.getElem?_eq_getElem (by omega), Option.bind_eq_some_iff] at h1
              obtain ⟨cs', h2, h3⟩ := h1
              exact ⟨cs', h2, _, h3⟩
            · have h1 := hre (i - len) (by omega)
              rw [List.getElem?_eq_getElem (by omega), Option.bind_eq_some_iff] at h1
              obtain ⟨cs', h2, h3⟩ := h1
              rw [show len + (i - len) = i by omega] at h2
              exact ⟨cs', h2, _, h3⟩
          have hspot : ad.spot = none := by
            obtain ⟨cs', h1, _⟩ := each 0 (by omega)
            obtain ⟨_, h2, h3⟩ := World.cells?_some h1
            have h4 := h3 0 hf3
            rw [List.getElem?_eq_getElem (by omega)] at h4
            simpa [Addr.add] using World.cell?_spot h4
          obtain ⟨blk, off, sp⟩ := ad
          simp only at hspot
          subst hspot
          have hg : ∀ i, i < cap → w.cells? 0 (Addr.add ⟨blk, off, none⟩ (i * a.size)) a.size = some ((w.cells? 0 (Addr.add ⟨blk, off, none⟩ (i * a.size)) a.size).getD []) := fun i hi => by
            obtain ⟨cs', h1, _⟩ := each i hi
            rw [h1]; rfl
          obtain ⟨M, ds, ls, h1, h2, h3, h4, hpl, _⟩ := opens_list (m := m) (fun n t cs L => opens_ty a n t cs L) hf1 (fun i => (w.cells? 0 (Addr.add ⟨blk, off, none⟩ (i * a.size)) a.size).getD []) cap L (fun i hi => by
            obtain ⟨cs', k1, k2⟩ := each i hi
            rw [k1]; exact k2) hL
          obtain ⟨r1, r2⟩ := row_flatten (w := w) (b := blk) (off := off) cap hg
          generalize hrow : (((List.range cap).map fun i => (w.cells? 0 (Addr.add ⟨blk, off, none⟩ (i * a.size)) a.size).getD []).flatten) = row at *
          have h5 := R2_flatten h4
          rw [hrow] at h5
          have hpos : 0 < row.length := by rw [r1]; exact Nat.mul_pos (by omega) hf3
          have hblk : ∃ c ty fr, w.heap[blk]? = some (.cells c ty fr) ∧ (∀ i v, row[i]? = some v → c[off + i]? = some v) := by
            have h6 : ∀ i v, row[i]? = some v → ∃ c ty fr, w.heap[blk]? = some (.cells c ty fr) ∧ c[off + i]? = some v := by
              intro i v hv
              have := r2 i v hv
              unfold World.cell? at this
              split at this
              · rename_i c ty fr hh
                simp at this
                exact ⟨c, ty, fr, hh, this⟩
              · cases this
            obtain ⟨c, ty, fr, hh, _⟩ := h6 0 row[0] (List.getElem?_eq_getElem hpos)
            refine ⟨c, ty, fr, hh, fun i v hv => ?_⟩
            obtain ⟨c', ty', fr', hh', hx'⟩ := h6 i v hv
            rw [hh] at hh'; cases hh'
            exact hx'
          obtain ⟨c, ty, fr, hh, hcell⟩ := hblk
          have hsz : off + row.length ≤ c.size := by
            have := hcell (row.length - 1) row[row.length - 1] (List.getElem?_eq_getElem (by omega))
            have := (Array.getElem?_eq_some_iff.1 this).1
            omega
          have hll : ls.flatten.length = row.length := h5.length
          have hlss : ls.length = cap := by rw [h4.length]; simp
          have hdl := flatten_len (R := At (roF (L ++ M)) a) (fun _ _ h => At.len h) h3
          refine ⟨M ++ [((blk, off, c.size), some ls.flatten)], ds.take len, [.slice (some ((L ++ M).length, 0)) len cap a.size], ?_, ?_, ?_, fun h => (by cases h), fun h => (by rw [hpl h]; exact Nat.le_refl _)⟩
          · rw [← List.append_assoc]
            refine h1.snoc ⟨c, ty, fr, hh, rfl, by rw [hll]; exact hsz, fun i x hi => ?_⟩
            obtain ⟨v, k1, k2⟩ := h5.get i x hi
            exact ⟨v, hcell i v k1, k2⟩
          · rw [← List.append_assoc]
            refine ⟨⟨hf3, hlc, blk, off, c.size, ⟨blk, off, none⟩, cap, by simp [roPhi], Nat.le_refl _, rfl, fun _ => ⟨by simp, by rw [← r1]; simpa using hsz⟩⟩, trivial⟩
          · rw [← List.append_assoc]
            have hmono : R2 (At (roF (L ++ M ++ [((blk, off, c.size), some ls.flatten)])) a) ds ls := R2.mono (fun _ _ hx => At.loc (roF_ext _ _) hx) h3
            refine ⟨_, rfl, .inr ⟨(L ++ M).length, cap, (ls.drop len).flatten, ls.take len, ?_, ?_, ?_, ?_, R2.take len hmono⟩⟩
            · rw [List.length_take, h2, Nat.min_eq_left hlc]
            · simp only [roF, List.getElem?_append_right (Nat.le_refl _), Nat.sub_self]
              rw [← List.flatten_append, List.take_append_drop]
              rfl
            · rw [List.length_take, h2]; omega
            · rw [← List.flatten_append, List.take_append_drop, hdl, h2]; exact Nat.le_refl _
    · cases hf
  termination_by ty => (SizeOf.sizeOf ty, 1)
theorem opens_fields : ∀ (ty : Ty) (n : Nat) (fs : List Field) (off : Nat) (cs : List Value) (L : RoL), fitsF P ty fs off = true → (∀ (i : Nat) (f : Field), fs[i]? = some f → TrodOk enc P w held n f.type ((cs.drop f.offset).take (P.cellsOf f.type))) → RoInv w L → Opens w ty L ((cs.drop off).take ty.size)
  | .unit, n, [], off, cs, L, hf, hx, hL => by
    rw [show Ty.unit.size = 0 from rfl, List.take_zero]
    exact opens_flat hL (ty := .unit) () [] trivial rfl
  | .unit, n, _ :: _, off, cs, L, hf, hx, hL => by cases hf
  | .pair a b, n, [], off, cs, L, hf, hx, hL => by cases hf
  | .pair a b, n, f :: fs, off, cs, L, hf, hx, hL => by
    rw [fitsF_pair] at hf
    simp only [Bool.and_eq_true, decide_eq_true_eq] at hf
    obtain ⟨⟨⟨h0, h1⟩, h2⟩, h3⟩ := hf
    have hx0 := hx 0 f rfl
    rw [h0, h2] at hx0
    obtain ⟨M, x, l, k1, k2, k3, k4, k5⟩ := opens_ty a n f.type _ L h1 hx0 hL
    obtain ⟨M', y, l', m1, m2, m3, m4, m5⟩ := opens_fields b n fs (off + a.size) cs (L ++ M) h3 (fun i f' hi => hx (i + 1) f' (by simpa using hi)) k1
    refine ⟨M ++ M', (x, y), l ++ l', by rw [← List.append_assoc]; exact m1, ?_, ⟨l, l', rfl, ?_, ?_⟩, fun hp => ?_, fun hp => ?_⟩
    · rw [← List.append_assoc]
      have e : (cs.drop off).take (Ty.pair a b).size = (cs.drop off).take a.size ++ (cs.drop (off + a.size)).take b.size := by
        show (cs.drop off).take (a.size + b.size) = _
        rw [← List.drop_drop, List.take_add]
      rw [e]
      exact R2.append (R2.ext (roPhi_ext _ _) k2) m2
    · rw [← List.append_assoc]; exact k3.loc (roF_ext _ _)
    · rw [← List.append_assoc]; exact m3
    · simp only [Ty.plain, Bool.and_eq_true] at hp
      rw [k4 hp.1, m4 hp.2]; rfl
    · simp only [Ty.good, Bool.and_eq_true] at hp
      have := k5 hp.1; have := m5 hp.2
      rw [List.length_append]; show _ ≤ a.cnt + b.cnt; omega
  | .int _, n, fs, off, cs, L, hf, hx, hL => by cases hf
  | .bool, n, fs, off, cs, L, hf, hx, hL => by cases hf
  | .str, n, fs, off, cs, L, hf, hx, hL => by cases hf
  | .arr _ _, n, fs, off, cs, L, hf, hx, hL => by cases hf
  | .slice _, n, fs, off, cs, L, hf, hx, hL => by cases hf
  termination_by ty => (SizeOf.sizeOf ty, 0)
end

/-- What an argument is, to the abstract machine. -/
def AvAt (f : HF) : (t : Ty) → t.den → AV → Prop
  | .int k, x, v => v = .s (.int k x) ∧ (Lit.int k x).wf = true
  | .bool, x, v => v = .s (.bool x)
  | .str, x, v => v = .s (.str x) ∧ x.size ≤ maxLen
  | .slice a, x, v => ∃ s, v = .s s ∧ At f (.slice a) x [s]
  | t, x, v => ∃ l, v = .agg l ∧ At f t x l

theorem AvAt.loc {f g : HF} (h : ∀ b x, f b = some (.cells true x) → g b = some (.cells true x)) {t : Ty} {x : t.den} {v : AV} (hx : AvAt f t x v) : AvAt g t x v := by
  cases t with
  | int k => exact hx
  | bool => exact hx
  | str => exact hx
  | slice a => obtain ⟨s, h1, h2⟩ := hx; exact ⟨s, h1, h2.loc h⟩
  | unit => obtain ⟨s, h1, h2⟩ := hx; exact ⟨s, h1, h2.loc h⟩
  | pair a b => obtain ⟨s, h1, h2⟩ := hx; exact ⟨s, h1, h2.loc h⟩
  | arr n a => obtain ⟨s, h1, h2⟩ := hx; exact ⟨s, h1, h2.loc h⟩

theorem opens_arg {ty : Ty} {t : TypeId} {v : Value} {r : Reach} {base : Nat} {d : DataW H} {ps : List MemPlace} {L : RoL} (hf : fits P ty t = true) (hval : Value.okWide P w r base t v) (hd : DataW.Trod enc P w 0 (fun _ => true) held t v d ps) (hL : RoInv w L) :
    ∃ M x av, RoInv w (L ++ M) ∧ AVRel (roPhi (L ++ M)) av v ∧ AvAt (roF (L ++ M)) ty x av ∧ (ty.good = true → M.length ≤ ty.cnt) := by
  obtain ⟨n, hd⟩ := hd
  obtain ⟨M, x, l, h1, h2, h3, _, hgood⟩ := opens_ty ty n t v.cells.toList L hf ⟨_, hd⟩ hL
  refine ⟨M, x, ?_⟩
  have agg : ∀ cs : Array Value, v = .agg cs → AVRel (roPhi (L ++ M)) (.agg l) v := fun cs hv => by
    subst hv
    exact ⟨cs.toList, h2, by simp⟩
  have one : ∀ s, l = [s] → (v.cells = #[v]) → AVRel (roPhi (L ++ M)) (.s s) v := fun s hs hv => by
    subst hs
    rw [hv] at h2
    exact h2.1
  cases ty with
  | int k =>
    rw [fits_int] at hf
    split at hf
    · rename_i k' ht
      obtain ⟨m, rfl⟩ := okWide_int ht hval
      obtain ⟨rfl, hw⟩ := h3
      exact ⟨_, h1, one _ rfl rfl, ⟨rfl, hw⟩, hgood⟩
    · cases hf
  | bool =>
    rw [fits_bool] at hf
    split at hf
    · rename_i ht
      obtain ⟨m, rfl⟩ := okWide_bool ht hval
      have := h3
      exact ⟨_, h1, one _ h3 rfl, rfl, hgood⟩
    · cases hf
  | str =>
    rw [fits_str] at hf
    split at hf
    · rename_i ht
      obtain ⟨m, rfl⟩ := okWide_string ht hval
      obtain ⟨rfl, hw⟩ := h3
      exact ⟨_, h1, one _ rfl rfl, ⟨rfl, hw⟩, hgood⟩
    · cases hf
  | unit => cases hf
  | pair a b =>
    rw [fits_pair] at hf
    split at hf
    · rename_i fs ht
      obtain ⟨cs, hv, _⟩ := okWide_struct ht hval
      exact ⟨_, h1, agg cs hv, ⟨l, rfl, h3⟩, hgood⟩
    · cases hf
  | arr k a =>
    rw [fits_arr] at hf
    split at hf
    · rename_i k' e ht
      have : ∃ cs, v = .agg cs ∧ cs.size = P.cellsOf t ∧ Row.okWide P w r base t cs := by
        unfold Value.okWide at hval
        rw [ht] at hval
        exact hval
      obtain ⟨cs, hv, _⟩ := this
      exact ⟨_, h1, agg cs hv, ⟨l, rfl, h3⟩, hgood⟩
    · cases hf
  | slice a =>
    rw [fits_slice] at hf
    split at hf
    · rename_i e ht
      obtain ⟨ad, len, cap, rfl⟩ := okWide_slice ht hval
      obtain ⟨s, rfl, h4⟩ := h3
      exact ⟨_, h1, one _ rfl rfl, ⟨s, rfl, s, rfl, h4⟩, hgood⟩
    · cases hf

/-- All arguments. -/
inductive ArgsAt (f : HF) : List Ty → List AV → Prop
  | nil : ArgsAt f [] []
  | cons {t : Ty} {ts : List Ty} {x : t.den} {v : AV} {vs : List AV} : AvAt f t x v → ArgsAt f ts vs → ArgsAt f (t :: ts) (v :: vs)

theorem ArgsAt.loc {f g : HF} (h : ∀ b x, f b = some (.cells true x) → g b = some (.cells true x)) {ts : List Ty} {vs : List AV} (hx : ArgsAt f ts vs) : ArgsAt g ts vs := by
  induction hx with
  | nil => exact .nil
  | cons h1 _ ih => exact .cons (h1.loc h) ih

theorem opens_args {r : Reach} {base : Nat} : ∀ {tys : List Ty} {ts : List TypeId} {vs : List Value} {ds : List (DataW H)} {ps : List MemPlace} {L : RoL}, R2 (fun ty t => fits P ty t = true) tys ts → (∀ (j : Nat) t v, ts[j]? = some t → vs[j]? = some v → Value.okWide P w r base t v) → DataW.TrodAll enc P w 0 (fun _ => true) held ts vs ds ps → RoInv w L →
    ∃ M avs, RoInv w (L ++ M) ∧ R2 (AVRel (roPhi (L ++ M))) avs vs ∧ ArgsAt (roF (L ++ M)) tys avs ∧ (tys.all Ty.good = true → M.length ≤ (tys.map Ty.cnt).sum)
  | [], [], vs, ds, ps, L, _, _, hA, hL => by
    obtain ⟨rfl, _, _⟩ := trodAll_nil hA
    exact ⟨[], [], by simpa using hL, trivial, .nil, fun _ => Nat.zero_le _⟩
  | ty :: tys, t :: ts, vs, ds, ps, L, hf, hval, hA, hL => by
    obtain ⟨v, vs, d, ds, p, q, rfl, rfl, rfl, h0, hr⟩ := trodAll_cons hA
    obtain ⟨M, x, av, h1, h2, h3, h4⟩ := opens_arg hf.1 (hval 0 t v rfl rfl) h0 hL
    obtain ⟨M', avs, k1, k2, k3, k4⟩ := opens_args hf.2 (fun j t v ht hv => hval (j + 1) t v (by simpa using ht) (by simpa using hv)) hr h1
    refine ⟨M ++ M', av :: avs, by rw [← List.append_assoc]; exact k1, ?_, ?_, fun hg => by
      simp only [List.all_cons, Bool.and_eq_true] at hg
      have := h4 hg.1; have := k4 hg.2
      rw [List.length_append, List.map_cons, List.sum_cons]; omega⟩
    · rw [← List.append_assoc]
      exact ⟨h2.mono (roPhi_ext _ _), k2⟩
    · rw [← List.append_assoc]
      exact .cons (h3.loc (roF_ext _ _)) k3
  | [], _ :: _, _, _, _, _, hf, _, _, _ => hf.elim
  | _ :: _, [], _, _, _, _, hf, _, _, _ => hf.elim
end

end Go.AM
