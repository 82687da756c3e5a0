/-
  ANY ARGUMENT of plain data: numbers, truths, texts, structs, arrays, slices of these, ya the abstract machine holds it.
-/
import Derived.Test.YtinlhpgfoojneaaMg1
import Derived.WideShapes
import Derived.OpenShut
import Derived.ProofKit
import Derived.Test.YtinlhpgfoojneaaProg
import Derived.KernelRfl
namespace Go.AM
open Go.WideShapes Go.ChangeShapes

inductive Ty where
  | int (k : IntKind)
  | bool
  | str
  | unit
  | pair (a b : Ty)
  | arr (n : Nat) (a : Ty)
  | slice (a : Ty)

@[reducible] def Ty.den : Ty → Type
  | .int _ => Int
  | .bool => Bool
  | .str => ByteArray
  | .unit => Unit
  | .pair a b => a.den × b.den
  | .arr _ a => List a.den
  | .slice a => List a.den

def Ty.size : Ty → Nat
  | .int _ | .bool | .str | .slice _ => 1
  | .unit => 0
  | .pair a b => a.size + b.size
  | .arr n a => n * a.size

/-- No slice in it. -/
def Ty.plain : Ty → Bool
  | .int _ | .bool | .str | .unit => true
  | .slice _ => false
  | .pair a b => a.plain && b.plain
  | .arr _ a => a.plain
/-- No slice of slices in it. -/
def Ty.good : Ty → Bool
  | .int _ | .bool | .str | .unit => true
  | .slice a => a.plain
  | .pair a b => a.good && b.good
  | .arr _ a => a.good
/-- How many blocks at most, if it is good. -/
def Ty.cnt : Ty → Nat
  | .int _ | .bool | .str | .unit => 0
  | .slice _ => 1
  | .pair a b => a.cnt + b.cnt
  | .arr n a => n * a.cnt

/-- A datum of a type, by its cells. -/
def At (f : HF) : (t : Ty) → t.den → List SV → Prop
  | .int k, n, l => l = [.int k n] ∧ (Lit.int k n).wf = true
  | .bool, b, l => l = [.bool b]
  | .str, s, l => l = [.str s] ∧ s.size ≤ maxLen
  | .unit, _, l => l = []
  | .pair a b, x, l => ∃ l1 l2, l = l1 ++ l2 ∧ At f a x.1 l1 ∧ At f b x.2 l2
  | .arr n a, xs, l => xs.length = n ∧ ∃ ls : List (List SV), l = ls.flatten ∧ R2 (At f a) xs ls
  | .slice a, xs, l => ∃ s, l = [s] ∧ ((∃ o, s = .slice o 0 0 a.size ∧ xs = []) ∨ ∃ b c j ls, s = .slice (some (b, 0)) xs.length c a.size ∧ f b = some (.cells true (List.flatten ls ++ j)) ∧ xs.length ≤ c ∧ c * a.size ≤ (List.flatten ls ++ j).length ∧ R2 (At f a) xs ls)

theorem At.loc {f g : HF} (h : ∀ b x, f b = some (.cells true x) → g b = some (.cells true x)) : ∀ {t : Ty} {x : t.den} {l : List SV}, At f t x l → At g t x l
  | .int _, _, _, hx => hx
  | .bool, _, _, hx => hx
  | .str, _, _, hx => hx
  | .unit, _, _, hx => hx
  | .pair _ _, _, _, ⟨l1, l2, h1, h2, h3⟩ => ⟨l1, l2, h1, h2.loc h, h3.loc h⟩
  | .arr _ _, _, _, ⟨h1, ls, h2, h3⟩ => ⟨h1, ls, h2, R2.mono (fun _ _ hx => At.loc h hx) h3⟩
  | .slice _, _, _, ⟨s, h1, h2⟩ => ⟨s, h1, h2.elim .inl fun ⟨b, c, j, ls, k1, k2, k3, k4, k5⟩ => .inr ⟨b, c, j, ls, k1, h b _ k2, k3, k4, R2.mono (fun _ _ hx => At.loc h hx) k5⟩⟩

theorem flatten_len {α β : Type} {R : α → List β → Prop} {n : Nat} (h : ∀ x l, R x l → l.length = n) : ∀ {xs : List α} {ls : List (List β)}, R2 R xs ls → ls.flatten.length = xs.length * n
  | [], [], _ => by simp
  | _ :: _, _ :: _, hx => by
    have := flatten_len h hx.2
    simp only [List.flatten_cons, List.length_append, List.length_cons, h _ _ hx.1, this, Nat.add_mul]
    omega

theorem At.len {f : HF} : ∀ {t : Ty} {x : t.den} {l : List SV}, At f t x l → l.length = t.size
  | .int _, _, _, hx => by rw [hx.1]; rfl
  | .bool, _, _, hx => by rw [show _ = _ from hx]; rfl
  | .str, _, _, hx => by rw [hx.1]; rfl
  | .unit, _, _, hx => by rw [show _ = _ from hx]; rfl
  | .pair a b, _, _, ⟨l1, l2, h1, h2, h3⟩ => by rw [h1, List.length_append, h2.len, h3.len]; rfl
  | .arr n a, _, _, ⟨h1, ls, h2, h3⟩ => by rw [h2, flatten_len (fun _ _ h => At.len h) h3, h1]; rfl
  | .slice a, _, _, ⟨s, h1, _⟩ => by rw [h1]; rfl

/- ---- the types of a program ---- -/
def fitsG (P : Program) : Ty → (TypeId → Bool) × (List Field → Nat → Bool)
  | .int k => (fun t => match P.underlying t with | some (.int k') => decide (k' = k) | _ => false, fun _ _ => false)
  | .bool => (fun t => match P.underlying t with | some .bool => true | _ => false, fun _ _ => false)
  | .str => (fun t => match P.underlying t with | some .string => true | _ => false, fun _ _ => false)
  | .unit => (fun _ => false, fun fs _ => match fs with | [] => true | _ => false)
  | .pair a b =>
    let F := fun fs off => match fs with
      | (f : Field) :: fs => decide (f.offset = off) && (fitsG P a).1 f.type && decide (P.cellsOf f.type = a.size) && (fitsG P b).2 fs (off + a.size)
      | [] => false
    (fun t => match P.underlying t with | some (.struct fs) => F fs.toList 0 && decide (P.cellsOf t = a.size + b.size) | _ => false, F)
  | .arr n a => (fun t => match P.underlying t with | some (.array n' e) => decide (n' = n) && (fitsG P a).1 e && decide (P.cellsOf e = a.size) && decide (P.cellsOf t = n * a.size) | _ => false, fun _ _ => false)
  | .slice a => (fun t => match P.underlying t with | some (.slice e) => (fitsG P a).1 e && decide (P.cellsOf e = a.size) && decide (0 < a.size) | _ => false, fun _ _ => false)

def fits (P : Program) (ty : Ty) (t : TypeId) : Bool := (fitsG P ty).1 t
def fitsF (P : Program) (ty : Ty) (fs : List Field) (off : Nat) : Bool := (fitsG P ty).2 fs off

section
variable {P : Program}
theorem fits_int (k : IntKind) (t : TypeId) : fits P (.int k) t = match P.underlying t with | some (.int k') => decide (k' = k) | _ => false := rfl
theorem fits_bool (t : TypeId) : fits P .bool t = match P.underlying t with | some .bool => true | _ => false := rfl
theorem fits_str (t : TypeId) : fits P .str t = match P.underlying t with | some .string => true | _ => false := rfl
theorem fits_unit (t : TypeId) : fits P .unit t = false := rfl
theorem fits_pair (a b : Ty) (t : TypeId) : fits P (.pair a b) t = match P.underlying t with | some (.struct fs) => fitsF P (.pair a b) fs.toList 0 && decide (P.cellsOf t = a.size + b.size) | _ => false := rfl
theorem fits_arr (n : Nat) (a : Ty) (t : TypeId) : fits P (.arr n a) t = match P.underlying t with | some (.array n' e) => decide (n' = n) && fits P a e && decide (P.cellsOf e = a.size) && decide (P.cellsOf t = n * a.size) | _ => false := rfl
theorem fits_slice (a : Ty) (t : TypeId) : fits P (.slice a) t = match P.underlying t with | some (.slice e) => fits P a e && decide (P.cellsOf e = a.size) && decide (0 < a.size) | _ => false := rfl
theorem fitsF_pair (a b : Ty) (f : Field) (fs : List Field) (off : Nat) : fitsF P (.pair a b) (f :: fs) off = (decide (f.offset = off) && fits P a f.type && decide (P.cellsOf f.type = a.size) && fitsF P b fs (off + a.size)) := rfl
end

/- ---- the heap that is opened ---- -/

/-- Where a block lies, how many cells; what it holds, if it has any. -/
abbrev RoL := List ((Nat × Nat × Nat) × Option (List SV))

def roPhi (L : RoL) : Phi := fun b => (L[b]?).map (·.1)
def roF (L : RoL) : HF := fun b => (L[b]?).map fun e => match e.2 with | none => .dead | some l => .cells true l
def roH (L : RoL) : AH := ⟨roF L, L.length⟩

def RoOk (w : World) (φ : Phi) (e : (Nat × Nat × Nat) × Option (List SV)) : Prop :=
  match e with
  | (_, none) => True
  | ((cb, sh, cs), some l) => ∃ c t fr, w.heap[cb]? = some (.cells c t fr) ∧ c.size = cs ∧ sh + l.length ≤ cs ∧ ∀ i x, l[i]? = some x → ∃ v, c[sh + i]? = some v ∧ SVRel φ x v

def RoInv (w : World) (L : RoL) : Prop := ∀ e ∈ L, RoOk w (roPhi L) e

theorem roPhi_ext (L M : RoL) : Ext (roPhi L) (roPhi (L ++ M)) := by
  intro b x h
  simp only [roPhi, Option.map_eq_some_iff] at h ⊢
  obtain ⟨e, h1, h2⟩ := h
  exact ⟨e, by rw [List.getElem?_append_left (List.getElem?_eq_some_iff.1 h1).1]; exact h1, h2⟩

theorem roF_ext (L M : RoL) : ∀ b x, roF L b = some (.cells true x) → roF (L ++ M) b = some (.cells true x) := by
  intro b x h
  simp only [roF, Option.map_eq_some_iff] at h ⊢
  obtain ⟨e, h1, h2⟩ := h
  exact ⟨e, by rw [List.getElem?_append_left (List.getElem?_eq_some_iff.1 h1).1]; exact h1, h2⟩

theorem RoOk.mono {w : World} {φ φ' : Phi} (h : Ext φ φ') {e : (Nat × Nat × Nat) × Option (List SV)} (hx : RoOk w φ e) : RoOk w φ' e := by
  obtain ⟨⟨cb, sh, cs⟩, o⟩ := e
  cases o with
  | none => trivial
  | some l =>
    obtain ⟨c, t, fr, h1, h2, h3, h4⟩ := hx
    exact ⟨c, t, fr, h1, h2, h3, fun i x hi => let ⟨v, k1, k2⟩ := h4 i x hi; ⟨v, k1, k2.mono h⟩⟩

theorem RoInv.snoc {w : World} {L : RoL} (h : RoInv w L) {e : (Nat × Nat × Nat) × Option (List SV)} (he : RoOk w (roPhi L) e) : RoInv w (L ++ [e]) := by
  intro x hx
  rcases List.mem_append.1 hx with hx | hx
  · exact (h x hx).mono (roPhi_ext _ _)
  · simp at hx; subst hx; exact he.mono (roPhi_ext _ _)

theorem roH_rel {w : World} {L : RoL} (h : RoInv w L) : HRel w.heap.size w (roPhi L) (roH L) w := by
  refine { dom := ?_, lt := ?_, cells := ?_, maps := ?_, inj := ?_, old := fun _ _ => rfl, bound := Nat.le_refl _, os := rfl, out := rfl, nf := ?_ }
  · intro b hb
    simp only [roH, roF, Option.map_eq_none_iff] at hb
    simp [roPhi, hb]
  · intro b hb
    simp only [roH] at hb ⊢
    simp [roF, List.getElem?_eq_none hb]
  · intro b ro l hb
    simp only [roH, roF, Option.map_eq_some_iff] at hb
    obtain ⟨⟨⟨cb, sh, cs⟩, o⟩, h1, h2⟩ := hb
    cases o with
    | none => cases h2
    | some l' =>
      cases h2
      obtain ⟨c, t, fr, k1, k2, k3, k4⟩ := h _ (List.mem_of_getElem? h1)
      exact ⟨cb, sh, cs, c, t, fr, by simp [roPhi, h1], k1, k2, k3, k4, by simp⟩
  · intro b es hb
    simp only [roH, roF, Option.map_eq_some_iff] at hb
    obtain ⟨⟨_, o⟩, h1, h2⟩ := hb
    cases o <;> cases h2
  · intro b b' x x' hx hx' hd hd' _
    right
    have key : ∀ {b : Nat} {x : Nat × Nat × Nat}, roPhi L b = some x → (roH L).blk b ≠ some .dead → ∃ ls, (roH L).blk b = some (.cells true ls) := by
      intro b x hx hd
      simp only [roPhi, Option.map_eq_some_iff] at hx
      obtain ⟨⟨p, o⟩, h1, _⟩ := hx
      simp only [roH, roF, h1, Option.map_some] at hd ⊢
      cases o with
      | none => simp at hd
      | some l => exact ⟨l, rfl⟩
    obtain ⟨l, h1⟩ := key hx hd
    obtain ⟨l', h2⟩ := key hx' hd'
    exact ⟨l, l', h1, h2⟩
  · intro k c e fr hk hh
    rw [Array.getElem?_eq_none hk] at hh; cases hh

/- ---- opening ---- -/
section
variable {H : Type} {enc : TypeId × Value → H} {P : Program} {w : World} {held : Bool}

abbrev TrodOk (enc : TypeId × Value → H) (P : Program) (w : World) (held : Bool) (n : Nat) (t : TypeId) (cs : List Value) : Prop := ∃ x, DataW.trod enc P w 0 (fun _ => true) held n t cs = some x

/-- What opening a datum gives. -/
def Opens (w : World) (ty : Ty) (L : RoL) (cs : List Value) : Prop :=
  ∃ M x l, RoInv w (L ++ M) ∧ R2 (SVRel (roPhi (L ++ M))) l cs ∧ At (roF (L ++ M)) ty x l ∧ (ty.plain = true → M = []) ∧ (ty.good = true → M.length ≤ ty.cnt)

/-- Items, one by one. -/
theorem opens_list {ty : Ty} {m : Nat} {e : TypeId} (ih : ∀ (n : Nat) (t : TypeId) (cs : List Value) (L : RoL), fits P ty t = true → TrodOk enc P w held n t cs → RoInv w L → Opens w ty L cs) (hf : fits P ty e = true) (g : Nat → List Value) :
    ∀ (n : Nat) (L : RoL), (∀ i, i < n → TrodOk enc P w held m e (g i)) → RoInv w L →
      ∃ (M : RoL) (xs : List ty.den) (ls : List (List SV)), RoInv w (L ++ M) ∧ xs.length = n ∧ R2 (At (roF (L ++ M)) ty) xs ls ∧ R2 (R2 (SVRel (roPhi (L ++ M)))) ls ((List.range n).map g) ∧ (ty.plain = true → M = []) ∧ (ty.good = true → M.length ≤ n * ty.cnt)
  | 0, L, _, hL => ⟨[], [], [], by simpa using hL, rfl, trivial, trivial, fun _ => rfl, fun _ => Nat.zero_le _⟩
  | n + 1, L, hg, hL => by
    obtain ⟨M, xs, ls, h1, h2, h3, h4, h5, h6⟩ := opens_list ih hf g n L (fun i hi => hg i (by omega)) hL
    obtain ⟨M', x, l, k1, k2, k3, k5, k6⟩ := ih m e (g n) (L ++ M) hf (hg n (by omega)) h1
    refine ⟨M ++ M', xs ++ [x], ls ++ [l], by rw [← List.append_assoc]; exact k1, by simp [h2], ?_, ?_, fun hp => by rw [h5 hp, k5 hp]; rfl, fun hp => by have := h6 hp; have := k6 hp; rw [List.length_append, Nat.add_mul]; omega⟩
    · rw [← List.append_assoc]
      exact R2.append (R2.mono (fun _ _ hx => hx.loc (roF_ext _ _)) h3) ⟨k3, trivial⟩
    · rw [← List.append_assoc, List.range_succ, List.map_append]
      exact R2.append (R2.mono (fun _ _ hx => R2.ext (roPhi_ext _ _) hx) h4) ⟨k2, trivial⟩

theorem R2_flatten {α β : Type} {R : α → β → Prop} : ∀ {ya : List (List α)} {bs : List (List β)}, R2 (R2 R) ya bs → R2 R ya.flatten bs.flatten
  | [], [], _ => trivial
  | _ :: _, _ :: _, h => by simpa using R2.append h.1 (R2_flatten h.2)

theorem flatten_cuts {α : Type} (l : List α) (k : Nat) : ∀ n, l.length = n * k → ((List.range n).map fun i => (l.drop (i * k)).take k).flatten = l
  | 0, h => by
    have : l = [] := List.length_eq_zero_iff.1 (by simpa using h)
    subst this; rfl
  | n + 1, h => by
    rw [List.range_succ, List.map_append, List.flatten_append]
    have h0 : l.length = n * k + k := by rw [h, Nat.add_mul]; omega
    have ih := flatten_cuts (l.take (n * k)) k n (by rw [List.length_take]; omega)
    have e : ((List.range n).map fun i => (l.drop (i * k)).take k) = ((List.range n).map fun i => ((l.take (n * k)).drop (i * k)).take k) := by
      apply List.map_congr_left
      intro i hi
      simp only [List.mem_range] at hi
      have : i * k + k ≤ n * k := by
        have : (i + 1) * k ≤ n * k := Nat.mul_le_mul_right _ hi
        rw [Nat.add_mul] at this; omega
      rw [List.drop_take, List.take_take]
      congr 1; omega
    rw [e, ih]
    simp only [List.map_cons, List.map_nil, List.flatten_cons, List.flatten_nil, List.append_nil]
    have h2 : (l.drop (n * k)).take k = l.drop (n * k) := by rw [List.take_of_length_le]; rw [List.length_drop]; omega
    rw [h2, List.take_append_drop]

theorem row_flatten {w : World} {b off : Nat} {k : Nat} {g : Nat → List Value} : ∀ n, (∀ i, i < n → w.cells? 0 (Addr.add ⟨b, off, none⟩ (i * k)) k = some (g i)) → (((List.range n).map g).flatten).length = n * k ∧ ∀ i v, (((List.range n).map g).flatten)[i]? = some v → w.cell? ⟨b, off + i, none⟩ = some v
  | 0, _ => ⟨by simp, fun i v h => by simp at h⟩
  | n + 1, hg => by
    obtain ⟨hl, ih⟩ := row_flatten n fun i hi => hg i (by omega)
    obtain ⟨_, h2, h3⟩ := World.cells?_some (hg n (by omega))
    rw [List.range_succ, List.map_append, List.flatten_append]
    refine ⟨by simp [hl, h2, Nat.add_mul], fun i v h => ?_⟩
    by_cases hi : i < n * k
    · rw [List.getElem?_append_left (by rw [hl]; exact hi)] at h
      exact ih i v h
    · rw [List.getElem?_append_right (by rw [hl]; omega), hl] at h
      simp at h
      have hlt : i - n * k < (g n).length := (List.getElem?_eq_some_iff.1 h).1
      have := h3 (i - n * k) (by omega)
      rw [h, add_plain, add_plain] at this
      rw [← this]
      congr 2; omega

theorem opens_flat {ty : Ty} {L : RoL} {cs : List Value} (hL : RoInv w L) (x : ty.den) (l : List SV) (h1 : R2 (SVRel (roPhi L)) l cs) (h2 : At (roF L) ty x l) : Opens w ty L cs :=
  ⟨[], x, l, by simpa using hL, by simpa using h1, by simpa using h2, fun _ => rfl, fun _ => Nat.zero_le _⟩

mutual
theorem opens_ty : ∀ (ty : Ty) (n : Nat) (t : TypeId) (cs : List Value) (L : RoL), fits P ty t = true → TrodOk enc P w held n t cs → RoInv w L → Opens w ty L cs
  | .int k, n, t, cs, L, hf, ⟨x, hx⟩, hL => by
    rw [fits_int] at hf
    split at hf
    · rename_i k' ht
      simp only [decide_eq_true_eq] at hf
      subst hf
      obtain ⟨m, rfl, _, hw⟩ := DataW.trod_int ht hx
      exact opens_flat hL (ty := .int _) m [.int _ m] ⟨rfl, trivial⟩ ⟨rfl, hw⟩
    · cases hf
  | .bool, n, t, cs, L, hf, ⟨x, hx⟩, hL => by
    rw [fits_bool] at hf
    split at hf
    · rename_i ht
      obtain ⟨b, rfl, _⟩ := DataW.trod_bool ht hx
      exact opens_flat hL (ty := .bool) b [.bool b] ⟨rfl, trivial⟩ rfl
    · cases hf
  | .str, n, t, cs, L, hf, ⟨x, hx⟩, hL => by
    rw [fits_str] at hf
    split at hf
    · rename_i ht
      obtain ⟨s, rfl, _, hs⟩ := DataW.trod_string ht hx
      exact opens_flat hL (ty := .str) s [.str s] ⟨rfl, trivial⟩ ⟨rfl, hs⟩
    · cases hf
  | .unit, n, t, cs, L, hf, hx, hL => by cases hf
  | .pair a b, n, t, cs, L, hf, ⟨x, hx⟩, hL => by
    rw [fits_pair] at hf
    split at hf
    · rename_i fs ht
      simp only [Bool.and_eq_true, decide_eq_true_eq] at hf
      obtain ⟨xs, m, _, _, hl, hxl, hel⟩ := DataW.trod_struct ht hx
      have := opens_fields (.pair a b) m fs.toList 0 cs L hf.1 (fun i f hi => by
        have h1 := hel i f (by simpa using hi)
        have hlt : i < fs.size := by simpa using (List.getElem?_eq_some_iff.1 hi).1
        rw [List.getElem?_eq_getElem (by omega)] at h1
        exact ⟨_, h1⟩) hL
      rw [List.drop_zero, List.take_of_length_le (by rw [hl, hf.2]; exact Nat.le_refl _)] at this
      exact this
    · cases hf
  | .arr k a, n, t, cs, L, hf, ⟨x, hx⟩, hL => by
    rw [fits_arr] at hf
    split at hf
    · rename_i k' e ht
      simp only [Bool.and_eq_true, decide_eq_true_eq] at hf
      obtain ⟨⟨⟨rfl, hf2⟩, hf3⟩, hf4⟩ := hf
      obtain ⟨xs, m, _, _, hl, hxl, hel⟩ := DataW.trod_array ht hx
      obtain ⟨M, ds, ls, h1, h2, h3, h4, h5, h6⟩ := opens_list (m := m) (fun n t cs L => opens_ty a n t cs L) hf2 (fun i => (cs.drop (i * a.size)).take a.size) k' L (fun i hi => by
        have h1 := hel i hi
        rw [List.getElem?_eq_getElem (by omega), hf3] at h1
        exact ⟨_, h1⟩) hL
      refine ⟨M, ds, ls.flatten, h1, ?_, ⟨h2, ls, rfl, h3⟩, h5, h6⟩
      have := R2_flatten h4
      rwa [flatten_cuts cs a.size k' (by rw [hl, hf4])] at this
    · cases hf
  | .slice a, n, t, cs, L, hf, ⟨x, hx⟩, hL => by
    rw [fits_slice] at hf
    split at hf
    · rename_i e ht
      simp only [Bool.and_eq_true, decide_eq_true_eq] at hf
      obtain ⟨⟨hf1, hf2⟩, hf3⟩ := hf
      rcases DataW.trod_slice ht hx with ⟨rfl, _⟩ | ⟨ad, len, cap, elems, rest, m, _, rfl, _, _, hlc, hcm, hlen, hel, hsp, _⟩
      · exact opens_flat hL (ty := .slice a) [] [.slice none 0 0 a.size] ⟨⟨rfl, rfl, rfl⟩, trivial⟩ ⟨_, rfl, .inl ⟨none, rfl, rfl⟩⟩
      · obtain ⟨hrl, hre⟩ := hsp rfl
        rw [hf2] at hel hre
        by_cases hc0 : cap = 0
        · have hl0 : len = 0 := by omega
          subst hc0 hl0
          refine ⟨[((ad.block, ad.off, 0), none)], [], [.slice (some (L.length, 0)) 0 0 a.size], hL.snoc trivial, ⟨⟨hf3, Nat.le_refl _, ad.block, ad.off, 0, ad, 0, by simp [roPhi], Nat.le_refl _, rfl, fun h => absurd rfl h⟩, trivial⟩, ⟨_, rfl, .inl ⟨_, rfl, rfl⟩⟩, fun h => (by cases h), fun _ => Nat.le_refl _⟩
        · have each : ∀ i, i < cap → ∃ cs', w.cells? 0 (ad.add (i * a.size)) a.size = some cs' ∧ TrodOk enc P w held m e cs' := by
            intro i hi
            by_cases hil : i < len
            · have h1 := hel i hil
              rw [List.getElem?_eq_getElem (by omega), Option.bind_eq_some_iff] at h1
              obtain ⟨cs', h2, h3⟩ := h1
              exact ⟨cs', h2, _, h3⟩
            · have h1 := hre (i - len) (by omega)
              rw [List.getElem?_eq_getElem (by omega), Option.bind_eq_some_iff] at h1
              obtain ⟨cs', h2, h3⟩ := h1
              rw [show len + (i - len) = i by omega] at h2
              exact ⟨cs', h2, _, h3⟩
          have hspot : ad.spot = none := by
            obtain ⟨cs', h1, _⟩ := each 0 (by omega)
            obtain ⟨_, h2, h3⟩ := World.cells?_some h1
            have h4 := h3 0 hf3
            rw [List.getElem?_eq_getElem (by omega)] at h4
            simpa [Addr.add] using World.cell?_spot h4
          obtain ⟨blk, off, sp⟩ := ad
          simp only at hspot
          subst hspot
          have hg : ∀ i, i < cap → w.cells? 0 (Addr.add ⟨blk, off, none⟩ (i * a.size)) a.size = some ((w.cells? 0 (Addr.add ⟨blk, off, none⟩ (i * a.size)) a.size).getD []) := fun i hi => by
            obtain ⟨cs', h1, _⟩ := each i hi
            rw [h1]; rfl
          obtain ⟨M, ds, ls, h1, h2, h3, h4, hpl, _⟩ := opens_list (m := m) (fun n t cs L => opens_ty a n t cs L) hf1 (fun i => (w.cells? 0 (Addr.add ⟨blk, off, none⟩ (i * a.size)) a.size).getD []) cap L (fun i hi => by
            obtain ⟨cs', k1, k2⟩ := each i hi
            rw [k1]; exact k2) hL
          obtain ⟨r1, r2⟩ := row_flatten (w := w) (b := blk) (off := off) cap hg
          generalize hrow : (((List.range cap).map fun i => (w.cells? 0 (Addr.add ⟨blk, off, none⟩ (i * a.size)) a.size).getD []).flatten) = row at *
          have h5 := R2_flatten h4
          rw [hrow] at h5
          have hpos : 0 < row.length := by rw [r1]; exact Nat.mul_pos (by omega) hf3
          have hblk : ∃ c ty fr, w.heap[blk]? = some (.cells c ty fr) ∧ (∀ i v, row[i]? = some v → c[off + i]? = some v) := by
            have h6 : ∀ i v, row[i]? = some v → ∃ c ty fr, w.heap[blk]? = some (.cells c ty fr) ∧ c[off + i]? = some v := by
              intro i v hv
              have := r2 i v hv
              unfold World.cell? at this
              split at this
              · rename_i c ty fr hh
                simp at this
                exact ⟨c, ty, fr, hh, this⟩
              · cases this
            obtain ⟨c, ty, fr, hh, _⟩ := h6 0 row[0] (List.getElem?_eq_getElem hpos)
            refine ⟨c, ty, fr, hh, fun i v hv => ?_⟩
            obtain ⟨c', ty', fr', hh', hx'⟩ := h6 i v hv
            rw [hh] at hh'; cases hh'
            exact hx'
          obtain ⟨c, ty, fr, hh, hcell⟩ := hblk
          have hsz : off + row.length ≤ c.size := by
            have := hcell (row.length - 1) row[row.length - 1] (List.getElem?_eq_getElem (by omega))
            have := (Array.getElem?_eq_some_iff.1 this).1
            omega
          have hll : ls.flatten.length = row.length := h5.length
          have hlss : ls.length = cap := by rw [h4.length]; simp
          have hdl := flatten_len (R := At (roF (L ++ M)) a) (fun _ _ h => At.len h) h3
          refine ⟨M ++ [((blk, off, c.size), some ls.flatten)], ds.take len, [.slice (some ((L ++ M).length, 0)) len cap a.size], ?_, ?_, ?_, fun h => (by cases h), fun h => (by rw [hpl h]; exact Nat.le_refl _)⟩
          · rw [← List.append_assoc]
            refine h1.snoc ⟨c, ty, fr, hh, rfl, by rw [hll]; exact hsz, fun i x hi => ?_⟩
            obtain ⟨v, k1, k2⟩ := h5.get i x hi
            exact ⟨v, hcell i v k1, k2⟩
          · rw [← List.append_assoc]
            refine ⟨⟨hf3, hlc, blk, off, c.size, ⟨blk, off, none⟩, cap, by simp [roPhi], Nat.le_refl _, rfl, fun _ => ⟨by simp, by rw [← r1]; simpa using hsz, by have := hcm; simp only [maxLen] at this; omega⟩⟩, trivial⟩
          · rw [← List.append_assoc]
            have hmono : R2 (At (roF (L ++ M ++ [((blk, off, c.size), some ls.flatten)])) a) ds ls := R2.mono (fun _ _ hx => At.loc (roF_ext _ _) hx) h3
            refine ⟨_, rfl, .inr ⟨(L ++ M).length, cap, (ls.drop len).flatten, ls.take len, ?_, ?_, ?_, ?_, R2.take len hmono⟩⟩
            · rw [List.length_take, h2, Nat.min_eq_left hlc]
            · simp only [roF, List.getElem?_append_right (Nat.le_refl _), Nat.sub_self]
              rw [← List.flatten_append, List.take_append_drop]
              rfl
            · rw [List.length_take, h2]; omega
            · rw [← List.flatten_append, List.take_append_drop, hdl, h2]; exact Nat.le_refl _
    · cases hf
  termination_by ty => (SizeOf.sizeOf ty, 1)
theorem opens_fields : ∀ (ty : Ty) (n : Nat) (fs : List Field) (off : Nat) (cs : List Value) (L : RoL), fitsF P ty fs off = true → (∀ (i : Nat) (f : Field), fs[i]? = some f → TrodOk enc P w held n f.type ((cs.drop f.offset).take (P.cellsOf f.type))) → RoInv w L → Opens w ty L ((cs.drop off).take ty.size)
  | .unit, n, [], off, cs, L, hf, hx, hL => by
    rw [show Ty.unit.size = 0 from rfl, List.take_zero]
    exact opens_flat hL (ty := .unit) () [] trivial rfl
  | .unit, n, _ :: _, off, cs, L, hf, hx, hL => by cases hf
  | .pair a b, n, [], off, cs, L, hf, hx, hL => by cases hf
  | .pair a b, n, f :: fs, off, cs, L, hf, hx, hL => by
    rw [fitsF_pair] at hf
    simp only [Bool.and_eq_true, decide_eq_true_eq] at hf
    obtain ⟨⟨⟨h0, h1⟩, h2⟩, h3⟩ := hf
    have hx0 := hx 0 f rfl
    rw [h0, h2] at hx0
    obtain ⟨M, x, l, k1, k2, k3, k4, k5⟩ := opens_ty a n f.type _ L h1 hx0 hL
    obtain ⟨M', y, l', m1, m2, m3, m4, m5⟩ := opens_fields b n fs (off + a.size) cs (L ++ M) h3 (fun i f' hi => hx (i + 1) f' (by simpa using hi)) k1
    refine ⟨M ++ M', (x, y), l ++ l', by rw [← List.append_assoc]; exact m1, ?_, ⟨l, l', rfl, ?_, ?_⟩, fun hp => ?_, fun hp => ?_⟩
    · rw [← List.append_assoc]
      have e : (cs.drop off).take (Ty.pair a b).size = (cs.drop off).take a.size ++ (cs.drop (off + a.size)).take b.size := by
        show (cs.drop off).take (a.size + b.size) = _
        rw [← List.drop_drop, List.take_add]
      rw [e]
      exact R2.append (R2.ext (roPhi_ext _ _) k2) m2
    · rw [← List.append_assoc]; exact k3.loc (roF_ext _ _)
    · rw [← List.append_assoc]; exact m3
    · simp only [Ty.plain, Bool.and_eq_true] at hp
      rw [k4 hp.1, m4 hp.2]; rfl
    · simp only [Ty.good, Bool.and_eq_true] at hp
      have := k5 hp.1; have := m5 hp.2
      rw [List.length_append]; show _ ≤ a.cnt + b.cnt; omega
  | .int _, n, fs, off, cs, L, hf, hx, hL => by cases hf
  | .bool, n, fs, off, cs, L, hf, hx, hL => by cases hf
  | .str, n, fs, off, cs, L, hf, hx, hL => by cases hf
  | .arr _ _, n, fs, off, cs, L, hf, hx, hL => by cases hf
  | .slice _, n, fs, off, cs, L, hf, hx, hL => by cases hf
  termination_by ty => (SizeOf.sizeOf ty, 0)
end

/-- What an argument is, to the abstract machine. -/
def AvAt (f : HF) : (t : Ty) → t.den → AV → Prop
  | .int k, x, v => v = .s (.int k x) ∧ (Lit.int k x).wf = true
  | .bool, x, v => v = .s (.bool x)
  | .str, x, v => v = .s (.str x) ∧ x.size ≤ maxLen
  | .slice a, x, v => ∃ s, v = .s s ∧ At f (.slice a) x [s]
  | t, x, v => ∃ l, v = .agg l ∧ At f t x l

theorem AvAt.loc {f g : HF} (h : ∀ b x, f b = some (.cells true x) → g b = some (.cells true x)) {t : Ty} {x : t.den} {v : AV} (hx : AvAt f t x v) : AvAt g t x v := by
  cases t with
  | int k => exact hx
  | bool => exact hx
  | str => exact hx
  | slice a => obtain ⟨s, h1, h2⟩ := hx; exact ⟨s, h1, h2.loc h⟩
  | unit => obtain ⟨s, h1, h2⟩ := hx; exact ⟨s, h1, h2.loc h⟩
  | pair a b => obtain ⟨s, h1, h2⟩ := hx; exact ⟨s, h1, h2.loc h⟩
  | arr n a => obtain ⟨s, h1, h2⟩ := hx; exact ⟨s, h1, h2.loc h⟩

theorem opens_arg {ty : Ty} {t : TypeId} {v : Value} {r : Reach} {base : Nat} {d : DataW H} {ps : List MemPlace} {L : RoL} (hf : fits P ty t = true) (hval : Value.okWide P w r base t v) (hd : DataW.Trod enc P w 0 (fun _ => true) held t v d ps) (hL : RoInv w L) :
    ∃ M x av, RoInv w (L ++ M) ∧ AVRel (roPhi (L ++ M)) av v ∧ AvAt (roF (L ++ M)) ty x av ∧ (ty.good = true → M.length ≤ ty.cnt) := by
  obtain ⟨n, hd⟩ := hd
  obtain ⟨M, x, l, h1, h2, h3, _, hgood⟩ := opens_ty ty n t v.cells.toList L hf ⟨_, hd⟩ hL
  refine ⟨M, x, ?_⟩
  have agg : ∀ cs : Array Value, v = .agg cs → AVRel (roPhi (L ++ M)) (.agg l) v := fun cs hv => by
    subst hv
    exact ⟨cs.toList, h2, by simp⟩
  have one : ∀ s, l = [s] → (v.cells = #[v]) → AVRel (roPhi (L ++ M)) (.s s) v := fun s hs hv => by
    subst hs
    rw [hv] at h2
    exact h2.1
  cases ty with
  | int k =>
    rw [fits_int] at hf
    split at hf
    · rename_i k' ht
      obtain ⟨m, rfl⟩ := okWide_int ht hval
      obtain ⟨rfl, hw⟩ := h3
      exact ⟨_, h1, one _ rfl rfl, ⟨rfl, hw⟩, hgood⟩
    · cases hf
  | bool =>
    rw [fits_bool] at hf
    split at hf
    · rename_i ht
      obtain ⟨m, rfl⟩ := okWide_bool ht hval
      have := h3
      exact ⟨_, h1, one _ h3 rfl, rfl, hgood⟩
    · cases hf
  | str =>
    rw [fits_str] at hf
    split at hf
    · rename_i ht
      obtain ⟨m, rfl⟩ := okWide_string ht hval
      obtain ⟨rfl, hw⟩ := h3
      exact ⟨_, h1, one _ rfl rfl, ⟨rfl, hw⟩, hgood⟩
    · cases hf
  | unit => cases hf
  | pair a b =>
    rw [fits_pair] at hf
    split at hf
    · rename_i fs ht
      obtain ⟨cs, hv, _⟩ := okWide_struct ht hval
      exact ⟨_, h1, agg cs hv, ⟨l, rfl, h3⟩, hgood⟩
    · cases hf
  | arr k a =>
    rw [fits_arr] at hf
    split at hf
    · rename_i k' e ht
      have : ∃ cs, v = .agg cs ∧ cs.size = P.cellsOf t ∧ Row.okWide P w r base t cs := by
        unfold Value.okWide at hval
        rw [ht] at hval
        exact hval
      obtain ⟨cs, hv, _⟩ := this
      exact ⟨_, h1, agg cs hv, ⟨l, rfl, h3⟩, hgood⟩
    · cases hf
  | slice a =>
    rw [fits_slice] at hf
    split at hf
    · rename_i e ht
      obtain ⟨ad, len, cap, rfl⟩ := okWide_slice ht hval
      obtain ⟨s, rfl, h4⟩ := h3
      exact ⟨_, h1, one _ rfl rfl, ⟨s, rfl, s, rfl, h4⟩, hgood⟩
    · cases hf

/-- All arguments. -/
inductive ArgsAt (f : HF) : List Ty → List AV → Prop
  | nil : ArgsAt f [] []
  | cons {t : Ty} {ts : List Ty} {x : t.den} {v : AV} {vs : List AV} : AvAt f t x v → ArgsAt f ts vs → ArgsAt f (t :: ts) (v :: vs)

theorem ArgsAt.loc {f g : HF} (h : ∀ b x, f b = some (.cells true x) → g b = some (.cells true x)) {ts : List Ty} {vs : List AV} (hx : ArgsAt f ts vs) : ArgsAt g ts vs := by
  induction hx with
  | nil => exact .nil
  | cons h1 _ ih => exact .cons (h1.loc h) ih

theorem opens_args {r : Reach} {base : Nat} : ∀ {tys : List Ty} {ts : List TypeId} {vs : List Value} {ds : List (DataW H)} {ps : List MemPlace} {L : RoL}, R2 (fun ty t => fits P ty t = true) tys ts → (∀ (j : Nat) t v, ts[j]? = some t → vs[j]? = some v → Value.okWide P w r base t v) → DataW.TrodAll enc P w 0 (fun _ => true) held ts vs ds ps → RoInv w L →
    ∃ M avs, RoInv w (L ++ M) ∧ R2 (AVRel (roPhi (L ++ M))) avs vs ∧ ArgsAt (roF (L ++ M)) tys avs ∧ (tys.all Ty.good = true → M.length ≤ (tys.map Ty.cnt).sum)
  | [], [], vs, ds, ps, L, _, _, hA, hL => by
    obtain ⟨rfl, _, _⟩ := trodAll_nil hA
    exact ⟨[], [], by simpa using hL, trivial, .nil, fun _ => Nat.zero_le _⟩
  | ty :: tys, t :: ts, vs, ds, ps, L, hf, hval, hA, hL => by
    obtain ⟨v, vs, d, ds, p, q, rfl, rfl, rfl, h0, hr⟩ := trodAll_cons hA
    obtain ⟨M, x, av, h1, h2, h3, h4⟩ := opens_arg hf.1 (hval 0 t v rfl rfl) h0 hL
    obtain ⟨M', avs, k1, k2, k3, k4⟩ := opens_args hf.2 (fun j t v ht hv => hval (j + 1) t v (by simpa using ht) (by simpa using hv)) hr h1
    refine ⟨M ++ M', av :: avs, by rw [← List.append_assoc]; exact k1, ?_, ?_, fun hg => by
      simp only [List.all_cons, Bool.and_eq_true] at hg
      have := h4 hg.1; have := k4 hg.2
      rw [List.length_append, List.map_cons, List.sum_cons]; omega⟩
    · rw [← List.append_assoc]
      exact ⟨h2.mono (roPhi_ext _ _), k2⟩
    · rw [← List.append_assoc]
      exact .cons (h3.loc (roF_ext _ _)) k3
  | [], _ :: _, _, _, _, _, hf, _, _, _ => hf.elim
  | _ :: _, [], _, _, _, _, hf, _, _, _ => hf.elim
end

end Go.AM

/-
  Elements of slices that are arguments.
-/
namespace Go.AM

theorem R2_flat_get {α : Type} {R : α → List SV → Prop} {k : Nat} (hk : ∀ x l, R x l → l.length = k) : ∀ {xs : List α} {ls : List (List SV)} (j : List SV), R2 R xs ls → ∀ {i : Nat}, i < xs.length → ∃ x li, xs[i]? = some x ∧ R x li ∧ ((ls.flatten ++ j).drop (i * k)).take k = li ∧ i * k + k ≤ (ls.flatten ++ j).length
  | [], _, _, _, i, hi => by simp at hi
  | x :: xs, l :: ls, j, h, 0, _ => by
    have hl := hk _ _ h.1
    refine ⟨x, l, rfl, h.1, ?_, ?_⟩
    · rw [Nat.zero_mul, List.drop_zero, List.flatten_cons, List.append_assoc, ← hl, List.take_left]
    · simp [List.flatten_cons, hl]
  | x :: xs, l :: ls, j, h, i + 1, hi => by
    have hl := hk _ _ h.1
    obtain ⟨y, li, h1, h2, h3, h4⟩ := R2_flat_get hk j h.2 (i := i) (by simpa using hi)
    refine ⟨y, li, by simpa using h1, h2, ?_, ?_⟩
    · rw [← h3, Nat.add_mul, Nat.one_mul, Nat.add_comm (i * k) k, ← List.drop_drop, List.flatten_cons, List.append_assoc]
      congr 1
      conv => lhs; rw [← hl, List.drop_left]
      rw [hl]
    · simp only [List.flatten_cons, List.length_append, hl] at h4 ⊢
      rw [Nat.add_mul]; omega
  | _ :: _, [], _, h, _, _ => h.elim

section
variable {ρ : HF} {a : Ty} {xs : List a.den} {s : SV}

theorem At.slLen (h : At ρ (.slice a) xs [s]) : lenA (.s s) = some (i64 xs.length) := by
  obtain ⟨s', h1, h2⟩ := h
  cases h1
  rcases h2 with ⟨o, rfl, rfl⟩ | ⟨b, c, j, ls, rfl, _⟩ <;> rfl

theorem At.slGet (h : At ρ (.slice a) xs [s]) {i : Nat} (hi : i < xs.length) : ∃ b c l x li, s = .slice (some (b, 0)) xs.length c a.size ∧ ρ b = some (.cells true l) ∧ xs[i]? = some x ∧ At ρ a x li ∧ (l.drop (i * a.size)).take a.size = li ∧ i * a.size + a.size ≤ l.length := by
  obtain ⟨s', h1, h2⟩ := h
  cases h1
  rcases h2 with ⟨o, rfl, rfl⟩ | ⟨b, c, j, ls, rfl, hb, h3, h4, h5⟩
  · simp at hi
  · obtain ⟨x, li, k1, k2, k3, k4⟩ := R2_flat_get (fun _ _ h => At.len h) j h5 hi
    exact ⟨b, c, _, x, li, rfl, hb, k1, k2, k3, k4⟩
end

theorem ArgsAt.slice {f : HF} {a : Ty} {ts : List Ty} {l : List AV} (h : ArgsAt f (.slice a :: ts) l) : ∃ (xs : List a.den) (s : SV) (vs : List AV), l = .s s :: vs ∧ At f (.slice a) xs [s] ∧ ArgsAt f ts vs := by
  cases h with | cons h1 h2 => obtain ⟨s, rfl, h⟩ := h1; exact ⟨_, s, _, rfl, h, h2⟩

theorem ArgsAt.nil' {f : HF} {l : List AV} (h : ArgsAt f [] l) : l = [] := by cases h; rfl

theorem ArgsAt.int' {f : HF} {k : IntKind} {ts : List Ty} {l : List AV} (h : ArgsAt f (.int k :: ts) l) : ∃ (x : Int) (vs : List AV), l = .s (.int k x) :: vs ∧ (Lit.int k x).wf = true ∧ ArgsAt f ts vs := by
  cases h with | cons h1 h2 => obtain ⟨rfl, h⟩ := h1; exact ⟨_, _, rfl, h, h2⟩

end Go.AM

/-
  WALKS: rows of rows; rows that are copied, clipped, cut.
-/
namespace Go.AM

/-- A slice that is an argument. -/
def ArgS (a : Ty) (xs : List a.den) (s : SV) : Asr := ⟨fun ρ _ S => S = [] ∧ At ρ (.slice a) xs [s], fun _ h => h⟩
theorem Sat.arg {ρ : HF} {H : AH} {R : List Asr} {a : Ty} {xs : List a.den} {s : SV} (h : Sat ρ H (ArgS a xs s :: R)) : At ρ (.slice a) xs [s] := by
  obtain ⟨_, S, h1, _⟩ := h
  obtain ⟨S1, S2, rfl, ⟨_, k⟩, _⟩ := SatL.cons_inv h1
  exact k
theorem Sat.mkArg {ρ : HF} {H : AH} {R : List Asr} {a : Ty} {xs : List a.den} {s : SV} (h : At ρ (.slice a) xs [s]) (hs : Sat ρ H R) : Sat ρ H (ArgS a xs s :: R) := by
  obtain ⟨hw, S, h1, h2⟩ := hs
  exact ⟨hw, [] ++ S, .cons (A := ArgS a xs s) ⟨rfl, h⟩ h1 (by simp), h2⟩
theorem RdIn.a {a : Ty} {xs : List a.den} {s : SV} {L : List Asr} : RdIn (ArgS a xs s :: L) a.size s xs := ⟨fun ρ H R hs => by
  have h := Sat.arg hs
  refine ⟨At.slLen h, fun h0 => ?_⟩
  obtain ⟨b, c, l, x, li, rfl, _⟩ := At.slGet h h0
  exact ⟨c, rfl⟩⟩
theorem Ld.g {kd : IntKind} {xs : List (Ty.int kd).den} {s : SV} {L : List Asr} {i : Nat} {x : Int} (hx : xs[i]? = some x) : Ld (ArgS (.int kd) xs s :: L) (sb s) (ix 0 i 1 0) (.int kd x) := ⟨fun ρ H R hs => by
  have h := Sat.arg hs
  have hlt := (List.getElem?_eq_some_iff.1 hx).1
  obtain ⟨b, c, l, y, li, rfl, hb, h1, h2, h3, h4⟩ := At.slGet h hlt
  have hy : y = x := by rw [hx] at h1; cases h1; rfl
  subst hy
  have hb' := hs.roOf b l hb
  obtain ⟨rfl, _⟩ := h2
  show H.ld b _ = _
  rw [ld_of H hb', ix]
  have := congrArg (fun l => l[0]?) h3
  simpa [Ty.size] using this⟩

theorem notd {p : Prop} [Decidable p] (h : (!decide p) = true) : ¬ p := by simpa using h
theorem yesd {p : Prop} [Decidable p] (h : (!decide p) = false) : p := by simpa using h

def encI (x : Int) : List SV := [.int .i64 x]
theorem encI_len (x : Int) : (encI x).length = 1 := rfl

def rowsL (rs : List SV) (rows : List (List Int)) : List Asr := List.zipWith (Row encI 1) rs rows
/-- Rows, each behind its slice. -/
def RowsA (rs : List SV) (rows : List (List Int)) : Asr := Asr.all (rowsL rs rows)
/-- .. all but one. -/
def RowsBut (i : Nat) (rs : List SV) (rows : List (List Int)) : Asr := Asr.all ((rowsL rs rows).eraseIdx i)

theorem rowsL_set (rs : List SV) (rows : List (List Int)) (i : Nat) (s : SV) (r : List Int) : (rowsL rs rows).set i (Row encI 1 s r) = rowsL (rs.set i s) (rows.set i r) := by
  unfold rowsL
  apply List.ext_getElem?
  intro j
  simp only [List.getElem?_set, List.getElem?_zipWith, List.length_zipWith]
  by_cases e : i = j
  · subst e
    by_cases h1 : i < rs.length
    · by_cases h2 : i < rows.length
      · simp [h1, h2, Nat.lt_min]
      · have : ¬ i < min rs.length rows.length := by omega
        simp [h1, h2, this]
    · have : ¬ i < min rs.length rows.length := by omega
      simp [h1, this]
  · simp [e]

theorem cons_erase_perm {l : List Asr} {i : Nat} (hi : i < l.length) : (l[i] :: l.eraseIdx i).Perm l := by
  have h1 : l = l.take i ++ l[i] :: l.drop (i + 1) := by simp
  have h2 : l.eraseIdx i = l.take i ++ l.drop (i + 1) := List.eraseIdx_eq_take_drop_succ l i
  rw [h2]
  conv => rhs; rw [h1]
  exact List.perm_middle.symm

theorem rows_out {rs : List SV} {rows : List (List Int)} {i : Nat} {s : SV} {r : List Int} (hi : rs[i]? = some s) (hj : rows[i]? = some r) : LEnt [RowsA rs rows] [Row encI 1 s r, RowsBut i rs rows] := by
  intro ρ H R hs
  obtain ⟨h1, rfl⟩ := List.getElem?_eq_some_iff.1 hi
  obtain ⟨h2, rfl⟩ := List.getElem?_eq_some_iff.1 hj
  have h3 : i < (rowsL rs rows).length := by unfold rowsL; rw [List.length_zipWith]; omega
  have e : (rowsL rs rows)[i] = Row encI 1 rs[i] rows[i] := List.getElem_zipWith ..
  have h4 : Sat ρ H (rowsL rs rows ++ R) := Sat.all hs
  have h5 := h4.perm ((cons_erase_perm h3).symm.append_right R)
  rw [e] at h5
  exact (Sat.mkAll (h5.perm List.perm_middle.symm)).perm (List.Perm.swap _ _ _)

theorem rows_in {rs : List SV} {rows : List (List Int)} {i : Nat} {s : SV} {r : List Int} (h1 : i < rs.length) (h2 : i < rows.length) : LEnt [Row encI 1 s r, RowsBut i rs rows] [RowsA (rs.set i s) (rows.set i r)] := by
  intro ρ H R hs
  have h3 : i < ((rowsL rs rows).set i (Row encI 1 s r)).length := by unfold rowsL; rw [List.length_set, List.length_zipWith]; omega
  have e := cons_erase_perm h3
  rw [List.getElem_set_self, List.eraseIdx_set_eq] at e
  have h4 : Sat ρ H ((rowsL rs rows).eraseIdx i ++ (Row encI 1 s r :: R)) := Sat.all (hs.perm (List.Perm.swap _ _ _))
  have h5 := (h4.perm List.perm_middle).perm (e.append_right R)
  rw [rowsL_set] at h5
  exact Sat.mkAll h5

theorem set_same {α : Type} {l : List α} {i : Nat} {x : α} (h : l[i]? = some x) : l.set i x = l := by
  obtain ⟨hi, rfl⟩ := List.getElem?_eq_some_iff.1 h
  simp

theorem rows_back {rs : List SV} {rows : List (List Int)} {i : Nat} {s : SV} {r : List Int} (hi : rs[i]? = some s) (hj : rows[i]? = some r) : LEnt [Row encI 1 s r, RowsBut i rs rows] [RowsA rs rows] := by
  have h := rows_in (rs := rs) (rows := rows) (i := i) (s := s) (r := r) (List.getElem?_eq_some_iff.1 hi).1 (List.getElem?_eq_some_iff.1 hj).1
  rwa [set_same hi, set_same hj] at h

section
variable {tab : Nat → Option RFunc} {ext : Nat → List AV → AH → Option (AV × AH)} {α : Type} {enc : α → List SV} {k : Nat}

/-- A row is put behind a row. -/
theorem ap_row (hk : ∀ e, (enc e).length = k) {bytes : Nat} {s s2 : SV} {r r2 : List α} {L R : List Asr} (hin : Ins [Row enc k s r, Row enc k s2 r2] L R) (hb : (r.length + r2.length) * bytes ≤ 70368744177664) :
    ∀ (ρ : HF) (H : AH) (id : Nat) (X : List Asr), Sat ρ H (Fre id :: (L ++ X)) → ∃ (s' : SV) (H' : AH), appendA k bytes id (.s s) (.s s2) H = some (.s s', H') ∧ Sat ρ H' ((Row enc k s' (r ++ r2) :: Row enc k s2 r2 :: R) ++ X) := by
  intro ρ H id X hs
  have h1 : Sat ρ H (Row enc k s r :: Fre id :: Row enc k s2 r2 :: (R ++ X)) := (hs.perm (List.Perm.cons _ (hin.perm.append_right X))).perm (List.Perm.swap _ _ _)
  have h2 := h1.front 2 (by simp)
  obtain ⟨s', H', e1, h3, _⟩ := Sat.append hk (_n := 0) h1 (h2.rowSrc hk) h2.rowSl hb
  exact ⟨s', H', e1, h3⟩

/-- One is put behind a row. -/
theorem ap_one (hk : ∀ e, (enc e).length = k) {bytes b c : Nat} {s : SV} {r : List α} {e : α} {L R : List Asr} (hin : Ins [Row enc k s r, Cel b (enc e)] L R) (hb : (r.length + 1) * bytes ≤ 70368744177664) :
    ∀ (ρ : HF) (H : AH) (id : Nat) (X : List Asr), Sat ρ H (Fre id :: (L ++ X)) → ∃ (s' : SV) (H' : AH), appendA k bytes id (.s s) (.s (.slice (some (b, 0)) 1 c k)) H = some (.s s', H') ∧ Sat ρ H' ((Row enc k s' (r ++ [e]) :: R) ++ X) := by
  intro ρ H id X hs
  have h1 : Sat ρ H (Row enc k s r :: Fre id :: Cel b (enc e) :: (R ++ X)) := (hs.perm (List.Perm.cons _ (hin.perm.append_right X))).perm (List.Perm.swap _ _ _)
  obtain ⟨s', H', e1, h3, _⟩ := Sat.append1 hk (o := 0) h1 (by rw [List.drop_zero, ← hk e, List.take_length]) (by rw [hk]; omega) hb
  exact ⟨s', H', e1, (h3.perm (List.Perm.swap _ _ _)).drop⟩

theorem row_nil (e : Nat) (L : List Asr) : LEnt L (Row enc k (.slice none 0 0 e) [] :: L) := fun _ _ _ h => Sat.mkNil h e
theorem row_empty {b : Nat} {L : List Asr} : LEnt (Cel b [] :: L) (Row enc k (.slice (some (b, 0)) 0 0 k) [] :: L) := fun _ _ _ h => Sat.mkRow (r := []) (j := []) (c := 0) h (by simp) (by simp)
theorem row_made {b c : Nat} {l : List SV} {r : List α} {L : List Asr} (h1 : flat enc r = l.take (r.length * k)) (h2 : c * k ≤ l.length) (h3 : r.length ≤ c) : LEnt (Cel b l :: L) (Row enc k (.slice (some (b, 0)) r.length c k) r :: L) := fun _ _ _ h => by
  have e : l = flat enc r ++ l.drop (r.length * k) := by rw [h1, List.take_append_drop]
  rw [e] at h
  exact Sat.mkRow h (by rw [← e]; exact h2) h3

/-- What a row's slice is. -/
theorem row_cases {s : SV} {r : List α} {L R : List Asr} (hin : In1 (Row enc k s r) L R) : ∀ (ρ : HF) (H : AH) (X : List Asr), Sat ρ H (L ++ X) → (∃ e, s = .slice none 0 0 e ∧ r = [] ∧ Sat ρ H (R ++ X)) ∨ ∃ b c j, s = .slice (some (b, 0)) r.length c k ∧ Sat ρ H ((Cel b (flat enc r ++ j) :: R) ++ X) ∧ c * k ≤ (flat enc r ++ j).length ∧ r.length ≤ c := by
  intro ρ H X hs
  exact Sat.rowInv (R := R ++ X) (hs.perm (hin.perm.append_right X))
theorem TC.rw {n : Nat} {E : Env} {K : Pst} {c : RC} {s : SV} {r : List α} {L R : List Asr} (hin : In1 (Row enc k s r) L R) (h0 : ∀ e, s = .slice none 0 0 e → r = [] → TC tab ext n E R c K)
    (h1 : ∀ (b cp : Nat) (j : List SV), s = .slice (some (b, 0)) r.length cp k → cp * k ≤ (flat enc r ++ j).length → r.length ≤ cp → TC tab ext n E (Cel b (flat enc r ++ j) :: R) c K) : TC tab ext n E L c K := by
  intro ρ Rs T H hT hl hs
  rcases row_cases hin ρ H Rs hs with ⟨e, h2, h3, h4⟩ | ⟨b, cp, j, h2, h3, h4, h5⟩
  · exact h0 e h2 h3 ρ Rs T H hT hl h4
  · exact h1 b cp j h2 h4 h5 ρ Rs T H hT hl h3
theorem RP.rw {n : Nat} {E : Env} {os : List ROper} {K : Env → List Asr → Prop} {s : SV} {r : List α} {L R : List Asr} (hin : In1 (Row enc k s r) L R) (h0 : ∀ e, s = .slice none 0 0 e → r = [] → RP tab ext n E R os K)
    (h1 : ∀ (b cp : Nat) (j : List SV), s = .slice (some (b, 0)) r.length cp k → cp * k ≤ (flat enc r ++ j).length → r.length ≤ cp → RP tab ext n E (Cel b (flat enc r ++ j) :: R) os K) : RP tab ext n E L os K := by
  intro ρ Rs base T H hT hl hs
  rcases row_cases hin ρ H (fres base os ++ Rs) hs.mid with ⟨e, h2, h3, h4⟩ | ⟨b, cp, j, h2, h3, h4, h5⟩
  · exact h0 e h2 h3 ρ Rs base T H hT hl h4.mid
  · exact h1 b cp j h2 h4 h5 ρ Rs base T H hT hl h3.mid
theorem mkA_ok {esz bytes l c : Nat} {z : List SV} (h1 : l ≤ c) (h2 : bytes * c ≤ 281474976710656) (h3 : c ≤ 281474976710656) (h4 : z.length = esz) : makeA esz bytes z (i64 l) (i64 c) = some (repCells z c, l, c) := by
  have h5 : (bytes : Int) * (c : Int) ≤ 281474976710656 := by
    have : ((bytes * c : Nat) : Int) ≤ 281474976710656 := by omega
    rwa [Int.natCast_mul] at this
  unfold makeA
  dsimp only
  rw [if_pos ⟨by omega, by omega, h5, by omega, h4⟩, Int.toNat_natCast, Int.toNat_natCast]
theorem bA {d y n : Nat} {kd : IntKind} (h : n ≤ y) : boundA d y (some (.s (.int kd n))) = some n := by simp [boundA, h]
theorem bA0 {d y : Nat} {kd : IntKind} : boundA d y (some (.s (.int kd 0))) = some 0 := by simp [boundA]
theorem bds {len cap l h m : Nat} {lo hi mx : Option AV} (h1 : boundA cap cap mx = some m) (h2 : boundA len m hi = some h) (h3 : boundA 0 h lo = some l) : boundsA len cap lo hi mx = some (l, h, m) := by simp [boundsA, h1, h2, h3]
/-- A part of a slice. -/
theorem RP.sc {n d i : Nat} {E : Env} {L : List Asr} {os : List ROper} {K : Env → List Asr → Prop} {x : Opd} {lo hi mx : Option Opd} {lo' hi' mx' : Option AV} {b o len cap l h m : Nat} (hx : evo E x = some (.s (.slice (some (b, o)) len cap k))) (h1 : evm E lo = some lo') (h2 : evm E hi = some hi') (h3 : evm E mx = some mx') (hb : boundsA len cap lo' hi' mx' = some (l, h, m)) (hd : Nat.blt d n = true)
    (kk : RP tab ext n ((d, .s (.slice (some (b, o + l * k)) (h - l) (m - l) k)) :: E) L os K) : RP tab ext n E L (⟨some d, .slSl k x lo hi mx, none, i, []⟩ :: os) K :=
  RP.p (by simp [pureE, hx, h1, h2, h3, slSlA, hb]) hd kk
/-- A copy of a row behind nothing. -/
theorem row_again {b : Nat} {j : List SV} {cp : Nat} {r : List α} {L : List Asr} (h1 : cp * k ≤ (flat enc r ++ j).length) (h2 : r.length ≤ cp) : LEnt (Cel b (flat enc r ++ j) :: L) (Row enc k (.slice (some (b, 0)) r.length cp k) r :: L) := fun _ _ _ h => Sat.mkRow h h1 h2
end
/-- What is left to show, shut. -/
structure Hid (P : Prop) : Prop where
  h : P
/-- All plain steps, as far as they go. -/
theorem RUN {P Q : Prop} (h : P) (hf : Hid P → Q := by intro hp; (repeat (first | (refine is_rp ?_; first | refine RP.fx rfl rfl ?_ | refine RP.p rfl rfl ?_ | refine RP.done ?_ | (refine is_l ?_; first | refine RP.l rfl (by ((repeat (first | exact Ld.c rfl | exact Ld.r rfl | exact Ld.g (by assumption) | exact Ld.w (fun _ => by rfl) (by assumption) (by rfl) | exact Ld.a (by rfl) (fun _ => by rfl) (by assumption) (by rfl) | apply Ld.n)); fail_if_success refine ?_)) rfl ?_ | refine RP.ln rfl (by ((repeat (first | exact Ldn.cb (by rfl) rfl | exact Ldn.rb (by rfl) rfl | exact Ldn.w (fun _ => by rfl) (by assumption) | apply Ldn.n)); fail_if_success refine ?_)) rfl ?_) | refine RP.gt rfl ?_ | refine RP.gf rfl ?_ | refine RP.gu rfl ?_ | (refine is_b ?_; first | refine RP.inc rfl rfl (by omega) rfl ?_ | refine RP.ad rfl rfl (by omega) rfl ?_ | refine RP.dec rfl rfl (by omega) rfl ?_ | refine RP.su rfl rfl (by omega) rfl ?_) | (refine is_x ?_; first | refine RP.ixn rfl rfl (by ((repeat (first | exact RdIn.h | exact RdIn.a | apply RdIn.n)); fail_if_success refine ?_)) (by omega) rfl ?_ | refine RP.ix rfl rfl (by ((repeat (first | exact RdIn.h | exact RdIn.a | apply RdIn.n)); fail_if_success refine ?_)) (by omega) rfl ?_ | refine RP.ixp rfl rfl (by omega) rfl ?_ | refine RP.ixs rfl rfl (by omega) rfl ?_) | refine RP.ian rfl rfl (by omega) rfl ?_ | refine RP.ia rfl rfl (by omega) rfl ?_ | refine RP.ln1 rfl (by ((repeat (first | exact RdIn.h | exact RdIn.a | apply RdIn.n)); fail_if_success refine ?_)) rfl ?_ | (refine is_s ?_; refine RP.s rfl rfl rfl rfl (by ((repeat (first | exact Stw.c1 (by rfl) rfl | exact Stw.cb (by rfl) rfl | apply Stw.n)); fail_if_success refine ?_)) ?_) | refine RP.pn rfl ?_) | refine sq_n ?_ | (refine is_tc ?_; first | refine TC.seq ?_ | refine TC.reg (by kernel_rfl) ?_ | refine TC.cT rfl ?_ | refine TC.cF rfl ?_ | refine TC.blk ?_ | refine TC.skip ?_ | refine TC.ret ?_ | refine TC.exit ?_) | refine WK.z ?_ | refine sq_r ?_ | refine sq_o ?_ | refine bk_n ?_ | refine bk_r ?_ | refine bk_e ?_ | refine bk_o rfl ?_ | refine lp_r ?_ | refine lp_o ?_ | refine md_r ?_ | refine md_o ?_)); exact hp.h) : Q := hf ⟨h⟩
end Go.AM

/-
  The numbers of the functions in this translation.
-/
namespace Go.AM.F
abbrev detentlaw15_MutexChain : Nat := 3
abbrev detentlaw15_MutexPasses : Nat := 4
abbrev detentlaw15_MutexRing : Nat := 5
abbrev detentlaw15_MutexOwns : Nat := 6
abbrev detentlaw15_MutexCeilings : Nat := 7
abbrev detentlaw15_MutexFrees : Nat := 8
abbrev detentlaw15_MutexPlays : Nat := 9
abbrev detentlaw15_Kinds : Nat := 22
abbrev detentlaw3_Same : Nat := 29
abbrev detentlaw15_known : Nat := 10
abbrev mtx_New : Nat := 11
abbrev mtx_All_SetBase : Nat := 12
abbrev mtx_All_Lock : Nat := 13
abbrev mtx_All_Pri : Nat := 14
abbrev mtx_All_Unlock : Nat := 15
abbrev mtx_All_Owner : Nat := 16
abbrev mtx_All_TryLock : Nat := 17
abbrev mtx_All_Waiting : Nat := 18
abbrev mtx_All_Free : Nat := 19
abbrev mtx_All_Held : Nat := 20
abbrev detentref15_New : Nat := 21
abbrev detentref15_All_Lock : Nat := 23
abbrev detentref15_All_TryLock : Nat := 24
abbrev detentref15_All_Unlock : Nat := 25
abbrev detentref15_All_SetBase : Nat := 26
abbrev mtx_All_Drop : Nat := 27
abbrev detentref15_All_Drop : Nat := 28
abbrev detentref15_All_Free : Nat := 30
abbrev mtx_All_Twin : Nat := 31
abbrev detentlaw15_same : Nat := 32
abbrev mtx_All_Base : Nat := 33
abbrev mtx_Kind_right : Nat := 34
abbrev mtx_is : Nat := 35
abbrev mtx_may : Nat := 36
abbrev mtx_All_settle : Nat := 37
abbrev mtx_All_over : Nat := 38
abbrev mtx_All_stand : Nat := 39
abbrev mtx_All_in : Nat := 40
abbrev slices_Delete__int_int : Nat := 41
abbrev slices_Clip__int_int : Nat := 42
abbrev slices_Clone__int_int : Nat := 43
abbrev detentref15_All_try : Nat := 44
abbrev detentref15_All_round : Nat := 45
abbrev detentref4_Queue_Add : Nat := 46
abbrev detentref15_All_Pri : Nat := 47
abbrev detentref15_All_settle : Nat := 48
abbrev detentref15_All_mutex : Nat := 49
abbrev detentref15_is : Nat := 50
abbrev detentref15_All_pass : Nat := 51
abbrev detentref4_Queue_At : Nat := 52
abbrev slices_DeleteFunc__int_int : Nat := 53
abbrev mtx_All_Drop_1 : Nat := 54
abbrev detentref15_All_waits : Nat := 55
abbrev detentref4_Queue_Remove : Nat := 56
abbrev slices_Clone__mtx_mutex_mtx_mutex : Nat := 57
abbrev detentref4_Queue_IDs : Nat := 58
abbrev detentref15_All_Held : Nat := 59
abbrev mtx_All_reckon : Nat := 60
abbrev mtx_All_leave : Nat := 61
abbrev mtx_All_rejoin : Nat := 62
abbrev slices_Insert__int_int : Nat := 63
abbrev detentref4_Good : Nat := 64
abbrev detentref4_Queue_put : Nat := 65
abbrev detentref15_All_pri : Nat := 66
abbrev detentref4_Queue_Change : Nat := 67
abbrev detentref4_Queue_Take : Nat := 68
abbrev slices_IndexFunc__int_int : Nat := 69
abbrev mtx_All_leave_1 : Nat := 70
abbrev slices_overlaps_int : Nat := 71
abbrev slices_rotateRight_int : Nat := 72
abbrev slices_rotateLeft_int : Nat := 73
abbrev slices_Reverse__int_int : Nat := 74
end Go.AM.F

/-
  The code of the functions, as the abstract machine has it; it is the program's.
-/
set_option maxRecDepth 100000
namespace Go.AM.R
open Go.AM
def detentlaw15_MutexChain_l0 : RC :=
  RC.seq (RC.seq (RC.region 3 [
    ⟨(some 31), .move (.t 5), none, 0, []⟩,
    ⟨(some 32), .move (.t 3), none, 1, []⟩,
    ⟨(some 33), .bin .lss (.t 31) (.t 32), none, 2, []⟩]) (RC.cond (.t 33) (RC.skip) (RC.exit 0))) (RC.seq (RC.block 1 (RC.region 5 [
    ⟨(some 36), .move (.t 4), none, 0, []⟩,
    ⟨(some 37), .build [.int .i64 0, .int .i64 0] [(0, 1, (.c (.s (.int .i64 2))))], none, 1, []⟩,
    ⟨(some 38), .buildSlice 2 1 [.int .i64 0, .int .i64 0] [(0, 2, (.t 37))], none, 2, []⟩,
    ⟨(some 39), .append 2 16 (.t 36) (.t 38), none, 3, []⟩,
    ⟨(some 4), .move (.t 39), none, 4, []⟩])) (RC.region 3 [
    ⟨(some 34), .move (.t 5), none, 0, []⟩,
    ⟨(some 35), .bin .add (.t 34) (.c (.s (.int .i64 1))), none, 1, []⟩,
    ⟨(some 5), .move (.t 35), none, 2, []⟩]))
def detentlaw15_MutexChain_l1 : RC :=
  RC.seq (RC.seq (RC.region 3 [
    ⟨(some 47), .move (.t 8), none, 0, []⟩,
    ⟨(some 48), .move (.t 3), none, 1, []⟩,
    ⟨(some 49), .bin .leq (.t 47) (.t 48), none, 2, []⟩]) (RC.cond (.t 49) (RC.skip) (RC.exit 2))) (RC.seq (RC.block 3 (RC.region 11 [
    ⟨(some 52), .move (.t 6), none, 0, []⟩,
    ⟨(some 53), .move (.t 8), none, 1, []⟩,
    ⟨(some 54), .move (.t 0), none, 2, []⟩,
    ⟨(some 55), .move (.t 8), none, 3, []⟩,
    ⟨(some 56), .bin .sub (.t 55) (.c (.s (.int .i64 1))), none, 4, []⟩,
    ⟨(some 57), .indexSl 1 (.t 54) (.t 56), none, 5, []⟩,
    ⟨(some 58), .load none (.t 57), none, 6, []⟩,
    ⟨(some 59), .bin .rem (.t 58) (.c (.s (.int .u8 16))), none, 7, []⟩,
    ⟨(some 60), .conv .i64 (.t 59), none, 8, []⟩,
    ⟨(some 61), .bin .add (.c (.s (.int .i64 1))) (.t 60), none, 9, []⟩,
    ⟨(some 62), .call F.mtx_All_SetBase [(.t 52), (.t 53), (.t 61)], none, 10, []⟩])) (RC.region 3 [
    ⟨(some 50), .move (.t 8), none, 0, []⟩,
    ⟨(some 51), .bin .add (.t 50) (.c (.s (.int .i64 1))), none, 1, []⟩,
    ⟨(some 8), .move (.t 51), none, 2, []⟩]))
def detentlaw15_MutexChain_l2 : RC :=
  RC.seq (RC.seq (RC.region 3 [
    ⟨(some 63), .move (.t 9), none, 0, []⟩,
    ⟨(some 64), .move (.t 3), none, 1, []⟩,
    ⟨(some 65), .bin .lss (.t 63) (.t 64), none, 2, []⟩]) (RC.cond (.t 65) (RC.skip) (RC.exit 4))) (RC.seq (RC.block 5 (RC.seq (RC.region 10 [
    ⟨(some 69), .move (.t 6), none, 0, []⟩,
    ⟨(some 70), .move (.t 9), none, 1, []⟩,
    ⟨(some 71), .move (.t 9), none, 2, []⟩,
    ⟨(some 72), .bin .add (.t 71) (.c (.s (.int .i64 1))), none, 3, []⟩,
    ⟨(some 73), .call F.mtx_All_Lock [(.t 69), (.t 70), (.t 72)], none, 4, []⟩,
    ⟨(some 68), .move (.t 73), none, 5, []⟩,
    ⟨(some 74), .extract 0 (.t 68), none, 6, []⟩,
    ⟨(some 75), .extract 1 (.t 68), none, 7, []⟩,
    ⟨(some 10), .move (.t 74), none, 8, []⟩,
    ⟨(some 11), .move (.t 75), none, 9, []⟩]) (RC.seq (RC.region 6 [
    ⟨(some 76), .move (.t 10), none, 0, []⟩,
    ⟨(some 77), .un .not (.t 76), none, 1, []⟩,
    ⟨(some 78), .move (.t 77), none, 2, []⟩,
    ⟨(some 79), .move (.t 11), (some (78, false)), 3, []⟩,
    ⟨(some 80), .bin .neq (.t 79) (.c (.s (.int .i64 0))), (some (78, false)), 4, []⟩,
    ⟨(some 81), .pick (.t 78) (.c (.s (.bool true))) (.t 80), none, 5, []⟩]) (RC.cond (.t 81) (RC.seq (RC.region 1 [
    ⟨(some 2), .move (.c (.s (.bool false))), none, 0, []⟩]) (RC.ret)) (RC.skip))))) (RC.region 3 [
    ⟨(some 66), .move (.t 9), none, 0, []⟩,
    ⟨(some 67), .bin .add (.t 66) (.c (.s (.int .i64 1))), none, 1, []⟩,
    ⟨(some 9), .move (.t 67), none, 2, []⟩]))
def detentlaw15_MutexChain_l3 : RC :=
  RC.seq (RC.seq (RC.region 3 [
    ⟨(some 82), .move (.t 12), none, 0, []⟩,
    ⟨(some 83), .move (.t 3), none, 1, []⟩,
    ⟨(some 84), .bin .lss (.t 82) (.t 83), none, 2, []⟩]) (RC.cond (.t 84) (RC.skip) (RC.exit 6))) (RC.seq (RC.block 7 (RC.seq (RC.region 9 [
    ⟨(some 88), .move (.t 6), none, 0, []⟩,
    ⟨(some 89), .move (.t 12), none, 1, []⟩,
    ⟨(some 90), .move (.t 12), none, 2, []⟩,
    ⟨(some 91), .call F.mtx_All_Lock [(.t 88), (.t 89), (.t 90)], none, 3, []⟩,
    ⟨(some 87), .move (.t 91), none, 4, []⟩,
    ⟨(some 92), .extract 0 (.t 87), none, 5, []⟩,
    ⟨(some 93), .extract 1 (.t 87), none, 6, []⟩,
    ⟨(some 13), .move (.t 92), none, 7, []⟩,
    ⟨(some 14), .move (.t 93), none, 8, []⟩]) (RC.seq (RC.region 5 [
    ⟨(some 94), .move (.t 13), none, 0, []⟩,
    ⟨(some 95), .move (.t 94), none, 1, []⟩,
    ⟨(some 96), .move (.t 14), (some (95, false)), 2, []⟩,
    ⟨(some 97), .bin .neq (.t 96) (.c (.s (.int .i64 0))), (some (95, false)), 3, []⟩,
    ⟨(some 98), .pick (.t 95) (.c (.s (.bool true))) (.t 97), none, 4, []⟩]) (RC.cond (.t 98) (RC.seq (RC.region 1 [
    ⟨(some 2), .move (.c (.s (.bool false))), none, 0, []⟩]) (RC.ret)) (RC.skip))))) (RC.region 3 [
    ⟨(some 85), .move (.t 12), none, 0, []⟩,
    ⟨(some 86), .bin .add (.t 85) (.c (.s (.int .i64 1))), none, 1, []⟩,
    ⟨(some 12), .move (.t 86), none, 2, []⟩]))
def detentlaw15_MutexChain_s4 : RC :=
  RC.seq (RC.region 5 [
    ⟨(some 116), .move (.t 6), none, 0, []⟩,
    ⟨(some 117), .move (.t 16), none, 1, []⟩,
    ⟨(some 118), .call F.mtx_All_Pri [(.t 116), (.t 117)], none, 2, []⟩,
    ⟨(some 119), .move (.t 15), none, 3, []⟩,
    ⟨(some 120), .bin .neq (.t 118) (.t 119), none, 4, []⟩]) (RC.cond (.t 120) (RC.seq (RC.region 1 [
    ⟨(some 2), .move (.c (.s (.bool false))), none, 0, []⟩]) (RC.ret)) (RC.skip))
def detentlaw15_MutexChain_s5 : RC :=
  RC.region 3 [
    ⟨(some 102), .move (.t 16), none, 0, []⟩,
    ⟨(some 103), .bin .add (.t 102) (.c (.s (.int .i64 1))), none, 1, []⟩,
    ⟨(some 16), .move (.t 103), none, 2, []⟩]
def detentlaw15_MutexChain_l6 : RC :=
  RC.seq (RC.seq (RC.region 3 [
    ⟨(some 99), .move (.t 16), none, 0, []⟩,
    ⟨(some 100), .move (.t 3), none, 1, []⟩,
    ⟨(some 101), .bin .leq (.t 99) (.t 100), none, 2, []⟩]) (RC.cond (.t 101) (RC.skip) (RC.exit 8))) (RC.seq (RC.block 9 (RC.seq (RC.region 9 [
    ⟨(some 104), .move (.t 0), none, 0, []⟩,
    ⟨(some 105), .move (.t 16), none, 1, []⟩,
    ⟨(some 106), .bin .sub (.t 105) (.c (.s (.int .i64 1))), none, 2, []⟩,
    ⟨(some 107), .indexSl 1 (.t 104) (.t 106), none, 3, []⟩,
    ⟨(some 108), .load none (.t 107), none, 4, []⟩,
    ⟨(some 109), .bin .rem (.t 108) (.c (.s (.int .u8 16))), none, 5, []⟩,
    ⟨(some 110), .conv .i64 (.t 109), none, 6, []⟩,
    ⟨(some 111), .bin .add (.c (.s (.int .i64 1))) (.t 110), none, 7, []⟩,
    ⟨(some 17), .move (.t 111), none, 8, []⟩]) (RC.seq (RC.seq (RC.region 3 [
    ⟨(some 112), .move (.t 17), none, 0, []⟩,
    ⟨(some 113), .move (.t 15), none, 1, []⟩,
    ⟨(some 114), .bin .lss (.t 112) (.t 113), none, 2, []⟩]) (RC.cond (.t 114) (RC.region 2 [
    ⟨(some 115), .move (.t 17), none, 0, []⟩,
    ⟨(some 15), .move (.t 115), none, 1, []⟩]) (RC.skip))) R.detentlaw15_MutexChain_s4))) R.detentlaw15_MutexChain_s5)
def detentlaw15_MutexChain_l7 : RC :=
  RC.seq (RC.seq (RC.region 2 [
    ⟨(some 122), .move (.t 18), none, 0, []⟩,
    ⟨(some 123), .bin .gtr (.t 122) (.c (.s (.int .i64 1))), none, 1, []⟩]) (RC.cond (.t 123) (RC.skip) (RC.exit 10))) (RC.seq (RC.block 11 (RC.seq (RC.region 10 [
    ⟨(some 127), .move (.t 6), none, 0, []⟩,
    ⟨(some 128), .move (.t 18), none, 1, []⟩,
    ⟨(some 129), .bin .sub (.t 128) (.c (.s (.int .i64 1))), none, 2, []⟩,
    ⟨(some 130), .move (.t 18), none, 3, []⟩,
    ⟨(some 131), .call F.mtx_All_Unlock [(.t 127), (.t 129), (.t 130)], none, 4, []⟩,
    ⟨(some 126), .move (.t 131), none, 5, []⟩,
    ⟨(some 132), .extract 0 (.t 126), none, 6, []⟩,
    ⟨(some 133), .extract 1 (.t 126), none, 7, []⟩,
    ⟨(some 19), .move (.t 132), none, 8, []⟩,
    ⟨(some 20), .move (.t 133), none, 9, []⟩]) (RC.seq (RC.region 31 [
    ⟨(some 134), .move (.t 20), none, 0, []⟩,
    ⟨(some 135), .bin .neq (.t 134) (.c (.s (.int .i64 0))), none, 1, []⟩,
    ⟨(some 136), .move (.t 135), none, 2, []⟩,
    ⟨(some 137), .move (.t 19), (some (136, false)), 3, []⟩,
    ⟨(some 138), .move (.t 18), (some (136, false)), 4, []⟩,
    ⟨(some 139), .bin .sub (.t 138) (.c (.s (.int .i64 1))), (some (136, false)), 5, []⟩,
    ⟨(some 140), .bin .neq (.t 137) (.t 139), (some (136, false)), 6, []⟩,
    ⟨(some 141), .pick (.t 136) (.c (.s (.bool true))) (.t 140), none, 7, []⟩,
    ⟨(some 142), .move (.t 141), none, 8, []⟩,
    ⟨(some 143), .move (.t 6), (some (142, false)), 9, []⟩,
    ⟨(some 144), .move (.t 18), (some (142, false)), 10, []⟩,
    ⟨(some 145), .bin .sub (.t 144) (.c (.s (.int .i64 1))), (some (142, false)), 11, []⟩,
    ⟨(some 147), .move (.t 18), (some (142, false)), 13, []⟩,
    ⟨(some 148), .bin .sub (.t 147) (.c (.s (.int .i64 1))), (some (142, false)), 14, []⟩,
    ⟨(some 146), .call F.mtx_All_Owner [(.t 143), (.t 145)], (some (142, false)), 12, []⟩,
    ⟨(some 149), .bin .neq (.t 146) (.t 148), (some (142, false)), 15, []⟩,
    ⟨(some 150), .pick (.t 142) (.c (.s (.bool true))) (.t 149), none, 16, []⟩,
    ⟨(some 151), .move (.t 150), none, 17, []⟩,
    ⟨(some 152), .move (.t 6), (some (151, false)), 18, []⟩,
    ⟨(some 153), .move (.t 18), (some (151, false)), 19, []⟩,
    ⟨(some 155), .move (.t 0), (some (151, false)), 21, []⟩,
    ⟨(some 156), .move (.t 18), (some (151, false)), 22, []⟩,
    ⟨(some 157), .bin .sub (.t 156) (.c (.s (.int .i64 1))), (some (151, false)), 23, []⟩,
    ⟨(some 158), .indexSl 1 (.t 155) (.t 157), (some (151, false)), 24, []⟩,
    ⟨(some 159), .load none (.t 158), (some (151, false)), 25, []⟩,
    ⟨(some 160), .bin .rem (.t 159) (.c (.s (.int .u8 16))), (some (151, false)), 26, []⟩,
    ⟨(some 161), .conv .i64 (.t 160), (some (151, false)), 27, []⟩,
    ⟨(some 162), .bin .add (.c (.s (.int .i64 1))) (.t 161), (some (151, false)), 28, []⟩,
    ⟨(some 154), .call F.mtx_All_Pri [(.t 152), (.t 153)], (some (151, false)), 20, [⟨159, none, (.t 158), (some (151, false))⟩]⟩,
    ⟨(some 163), .bin .neq (.t 154) (.t 162), (some (151, false)), 29, []⟩,
    ⟨(some 164), .pick (.t 151) (.c (.s (.bool true))) (.t 163), none, 30, []⟩]) (RC.cond (.t 164) (RC.seq (RC.region 1 [
    ⟨(some 2), .move (.c (.s (.bool false))), none, 0, []⟩]) (RC.ret)) (RC.skip))))) (RC.region 3 [
    ⟨(some 124), .move (.t 18), none, 0, []⟩,
    ⟨(some 125), .bin .sub (.t 124) (.c (.s (.int .i64 1))), none, 1, []⟩,
    ⟨(some 18), .move (.t 125), none, 2, []⟩]))
def detentlaw15_MutexChain_s8 : RC :=
  RC.seq (RC.region 1 [
    ⟨(some 2), .move (.c (.s (.bool true))), none, 0, []⟩]) (RC.ret)
def detentlaw15_MutexChain_s9 : RC :=
  RC.seq (RC.seq (RC.region 2 [
    ⟨(some 121), .move (.t 3), none, 0, []⟩,
    ⟨(some 18), .move (.t 121), none, 1, []⟩]) (RC.block 10 (RC.loop R.detentlaw15_MutexChain_l7))) R.detentlaw15_MutexChain_s8
def detentlaw15_MutexChain_s10 : RC :=
  RC.seq (RC.region 1 [
    ⟨(some 15), .move (.c (.s (.int .i64 17))), none, 0, []⟩]) (RC.seq (RC.seq (RC.region 1 [
    ⟨(some 16), .move (.c (.s (.int .i64 1))), none, 0, []⟩]) (RC.block 8 (RC.loop R.detentlaw15_MutexChain_l6))) R.detentlaw15_MutexChain_s9)
def detentlaw15_MutexChain_s11 : RC :=
  RC.seq (RC.seq (RC.region 1 [
    ⟨(some 12), .move (.c (.s (.int .i64 1))), none, 0, []⟩]) (RC.block 6 (RC.loop R.detentlaw15_MutexChain_l3))) R.detentlaw15_MutexChain_s10
def detentlaw15_MutexChain_s12 : RC :=
  RC.seq (RC.seq (RC.region 1 [
    ⟨(some 9), .move (.c (.s (.int .i64 1))), none, 0, []⟩]) (RC.block 4 (RC.loop R.detentlaw15_MutexChain_l2))) R.detentlaw15_MutexChain_s11
def detentlaw15_MutexChain_s13 : RC :=
  RC.seq (RC.region 7 [
    ⟨(some 41), .move (.t 4), none, 0, []⟩,
    ⟨(some 42), .call F.mtx_New [(.t 41)], none, 1, []⟩,
    ⟨(some 40), .move (.t 42), none, 2, []⟩,
    ⟨(some 43), .extract 0 (.t 40), none, 3, []⟩,
    ⟨(some 44), .extract 1 (.t 40), none, 4, []⟩,
    ⟨(some 6), .move (.t 43), none, 5, []⟩,
    ⟨(some 7), .move (.t 44), none, 6, []⟩]) (RC.seq (RC.seq (RC.region 2 [
    ⟨(some 45), .move (.t 7), none, 0, []⟩,
    ⟨(some 46), .bin .neq (.t 45) (.c (.s (.int .i64 0))), none, 1, []⟩]) (RC.cond (.t 46) (RC.seq (RC.region 1 [
    ⟨(some 2), .move (.c (.s (.bool false))), none, 0, []⟩]) (RC.ret)) (RC.skip))) (RC.seq (RC.seq (RC.region 1 [
    ⟨(some 8), .move (.c (.s (.int .i64 1))), none, 0, []⟩]) (RC.block 2 (RC.loop R.detentlaw15_MutexChain_l1))) R.detentlaw15_MutexChain_s12))
def detentlaw15_MutexChain : RFunc := RFunc.mk 165 [.tmp 2] (
  RC.seq (RC.region 1 [
    ⟨(some 2), .move (.c (.s (.bool false))), none, 0, []⟩]) (RC.seq (RC.seq (RC.region 2 [
    ⟨(some 21), .call F.detentlaw15_known [], none, 0, []⟩,
    ⟨(some 22), .un .not (.t 21), none, 1, []⟩]) (RC.cond (.t 22) (RC.seq (RC.region 1 [
    ⟨(some 2), .move (.c (.s (.bool false))), none, 0, []⟩]) (RC.ret)) (RC.skip))) (RC.seq (RC.region 3 [
    ⟨(some 23), .move (.t 0), none, 0, []⟩,
    ⟨(some 24), .len (.t 23), none, 1, []⟩,
    ⟨(some 3), .move (.t 24), none, 2, []⟩]) (RC.seq (RC.seq (RC.region 6 [
    ⟨(some 25), .move (.t 3), none, 0, []⟩,
    ⟨(some 26), .bin .lss (.t 25) (.c (.s (.int .i64 2))), none, 1, []⟩,
    ⟨(some 27), .move (.t 26), none, 2, []⟩,
    ⟨(some 28), .move (.t 3), (some (27, false)), 3, []⟩,
    ⟨(some 29), .bin .gtr (.t 28) (.c (.s (.int .i64 9))), (some (27, false)), 4, []⟩,
    ⟨(some 30), .pick (.t 27) (.c (.s (.bool true))) (.t 29), none, 5, []⟩]) (RC.cond (.t 30) (RC.seq (RC.region 1 [
    ⟨(some 2), .move (.c (.s (.bool true))), none, 0, []⟩]) (RC.ret)) (RC.skip))) (RC.seq (RC.region 1 [
    ⟨(some 4), .move (.c (.s (.slice none 0 0 1))), none, 0, []⟩]) (RC.seq (RC.seq (RC.region 1 [
    ⟨(some 5), .move (.c (.s (.int .i64 1))), none, 0, []⟩]) (RC.block 0 (RC.loop R.detentlaw15_MutexChain_l0))) R.detentlaw15_MutexChain_s13))))))
theorem detentlaw15_MutexChain_ok : chkFunc Go.Proofs.Try.prog [] Go.Proofs.Try.f3 detentlaw15_MutexChain = true := by kernel_rfl
def detentlaw15_MutexPasses_l0 : RC :=
  RC.seq (RC.seq (RC.region 4 [
    ⟨(some 40), .move (.t 7), none, 0, []⟩,
    ⟨(some 41), .move (.t 1), none, 1, []⟩,
    ⟨(some 42), .len (.t 41), none, 2, []⟩,
    ⟨(some 43), .bin .lss (.t 40) (.t 42), none, 3, []⟩]) (RC.cond (.t 43) (RC.skip) (RC.exit 0))) (RC.seq (RC.block 1 (RC.seq (RC.region 11 [
    ⟨(some 46), .move (.t 5), none, 0, []⟩,
    ⟨(some 47), .move (.t 7), none, 1, []⟩,
    ⟨(some 48), .bin .add (.t 47) (.c (.s (.int .i64 1))), none, 2, []⟩,
    ⟨(some 49), .move (.t 1), none, 3, []⟩,
    ⟨(some 50), .move (.t 7), none, 4, []⟩,
    ⟨(some 51), .indexSl 1 (.t 49) (.t 50), none, 5, []⟩,
    ⟨(some 52), .load none (.t 51), none, 6, []⟩,
    ⟨(some 53), .bin .rem (.t 52) (.c (.s (.int .u8 4))), none, 7, []⟩,
    ⟨(some 54), .conv .i64 (.t 53), none, 8, []⟩,
    ⟨(some 55), .bin .add (.c (.s (.int .i64 1))) (.t 54), none, 9, []⟩,
    ⟨(some 56), .call F.mtx_All_SetBase [(.t 46), (.t 48), (.t 55)], none, 10, []⟩]) (RC.seq (RC.region 9 [
    ⟨(some 58), .move (.t 5), none, 0, []⟩,
    ⟨(some 59), .move (.t 7), none, 1, []⟩,
    ⟨(some 60), .bin .add (.t 59) (.c (.s (.int .i64 1))), none, 2, []⟩,
    ⟨(some 61), .call F.mtx_All_Lock [(.t 58), (.c (.s (.int .i64 1))), (.t 60)], none, 3, []⟩,
    ⟨(some 57), .move (.t 61), none, 4, []⟩,
    ⟨(some 62), .extract 0 (.t 57), none, 5, []⟩,
    ⟨(some 63), .extract 1 (.t 57), none, 6, []⟩,
    ⟨(some 8), .move (.t 62), none, 7, []⟩,
    ⟨(some 9), .move (.t 63), none, 8, []⟩]) (RC.seq (RC.region 5 [
    ⟨(some 64), .move (.t 8), none, 0, []⟩,
    ⟨(some 65), .move (.t 64), none, 1, []⟩,
    ⟨(some 66), .move (.t 9), (some (65, false)), 2, []⟩,
    ⟨(some 67), .bin .neq (.t 66) (.c (.s (.int .i64 0))), (some (65, false)), 3, []⟩,
    ⟨(some 68), .pick (.t 65) (.c (.s (.bool true))) (.t 67), none, 4, []⟩]) (RC.cond (.t 68) (RC.seq (RC.region 1 [
    ⟨(some 4), .move (.c (.s (.bool false))), none, 0, []⟩]) (RC.ret)) (RC.skip)))))) (RC.region 3 [
    ⟨(some 44), .move (.t 7), none, 0, []⟩,
    ⟨(some 45), .bin .add (.t 44) (.c (.s (.int .i64 1))), none, 1, []⟩,
    ⟨(some 7), .move (.t 45), none, 2, []⟩]))
def detentlaw15_MutexPasses_l1 : RC :=
  RC.seq (RC.seq (RC.region 4 [
    ⟨(some 69), .move (.t 11), none, 0, []⟩,
    ⟨(some 70), .move (.t 1), none, 1, []⟩,
    ⟨(some 71), .len (.t 70), none, 2, []⟩,
    ⟨(some 72), .bin .lss (.t 69) (.t 71), none, 3, []⟩]) (RC.cond (.t 72) (RC.skip) (RC.exit 2))) (RC.seq (RC.block 3 (RC.seq (RC.region 8 [
    ⟨(some 76), .move (.t 5), none, 0, []⟩,
    ⟨(some 77), .move (.t 10), none, 1, []⟩,
    ⟨(some 78), .call F.mtx_All_Unlock [(.t 76), (.c (.s (.int .i64 1))), (.t 77)], none, 2, []⟩,
    ⟨(some 75), .move (.t 78), none, 3, []⟩,
    ⟨(some 79), .extract 0 (.t 75), none, 4, []⟩,
    ⟨(some 80), .extract 1 (.t 75), none, 5, []⟩,
    ⟨(some 12), .move (.t 79), none, 6, []⟩,
    ⟨(some 13), .move (.t 80), none, 7, []⟩]) (RC.seq (RC.seq (RC.region 18 [
    ⟨(some 81), .move (.t 12), none, 0, []⟩,
    ⟨(some 82), .bin .lss (.t 81) (.c (.s (.int .i64 1))), none, 1, []⟩,
    ⟨(some 83), .move (.t 82), none, 2, []⟩,
    ⟨(some 84), .move (.t 12), (some (83, false)), 3, []⟩,
    ⟨(some 85), .move (.t 1), (some (83, false)), 4, []⟩,
    ⟨(some 86), .len (.t 85), (some (83, false)), 5, []⟩,
    ⟨(some 87), .bin .gtr (.t 84) (.t 86), (some (83, false)), 6, []⟩,
    ⟨(some 88), .pick (.t 83) (.c (.s (.bool true))) (.t 87), none, 7, []⟩,
    ⟨(some 89), .move (.t 88), none, 8, []⟩,
    ⟨(some 90), .move (.t 13), (some (89, false)), 9, []⟩,
    ⟨(some 91), .bin .neq (.t 90) (.c (.s (.int .i64 0))), (some (89, false)), 10, []⟩,
    ⟨(some 92), .pick (.t 89) (.c (.s (.bool true))) (.t 91), none, 11, []⟩,
    ⟨(some 93), .move (.t 92), none, 12, []⟩,
    ⟨(some 94), .move (.t 5), (some (93, false)), 13, []⟩,
    ⟨(some 95), .call F.mtx_All_Owner [(.t 94), (.c (.s (.int .i64 1)))], (some (93, false)), 14, []⟩,
    ⟨(some 96), .move (.t 12), (some (93, false)), 15, []⟩,
    ⟨(some 97), .bin .neq (.t 95) (.t 96), (some (93, false)), 16, []⟩,
    ⟨(some 98), .pick (.t 93) (.c (.s (.bool true))) (.t 97), none, 17, []⟩]) (RC.cond (.t 98) (RC.seq (RC.region 1 [
    ⟨(some 4), .move (.c (.s (.bool false))), none, 0, []⟩]) (RC.ret)) (RC.skip))) (RC.seq (RC.seq (RC.region 2 [
    ⟨(some 99), .move (.t 11), none, 0, []⟩,
    ⟨(some 100), .bin .gtr (.t 99) (.c (.s (.int .i64 0))), none, 1, []⟩]) (RC.cond (.t 100) (RC.seq (RC.region 7 [
    ⟨(some 101), .move (.t 1), none, 0, []⟩,
    ⟨(some 102), .move (.t 10), none, 1, []⟩,
    ⟨(some 103), .bin .sub (.t 102) (.c (.s (.int .i64 1))), none, 2, []⟩,
    ⟨(some 104), .indexSl 1 (.t 101) (.t 103), none, 3, []⟩,
    ⟨(some 105), .load none (.t 104), none, 4, []⟩,
    ⟨(some 106), .bin .rem (.t 105) (.c (.s (.int .u8 4))), none, 5, []⟩,
    ⟨(some 14), .move (.t 106), none, 6, []⟩]) (RC.seq (RC.region 7 [
    ⟨(some 107), .move (.t 1), none, 0, []⟩,
    ⟨(some 108), .move (.t 12), none, 1, []⟩,
    ⟨(some 109), .bin .sub (.t 108) (.c (.s (.int .i64 1))), none, 2, []⟩,
    ⟨(some 110), .indexSl 1 (.t 107) (.t 109), none, 3, []⟩,
    ⟨(some 111), .load none (.t 110), none, 4, []⟩,
    ⟨(some 112), .bin .rem (.t 111) (.c (.s (.int .u8 4))), none, 5, []⟩,
    ⟨(some 15), .move (.t 112), none, 6, []⟩]) (RC.seq (RC.region 26 [
    ⟨(some 113), .move (.t 0), none, 0, []⟩,
    ⟨(some 114), .bin .eql (.t 113) (.c (.s (.int .i64 0))), none, 1, []⟩,
    ⟨(some 115), .move (.t 114), none, 2, []⟩,
    ⟨(some 116), .move (.t 10), (some (115, true)), 3, []⟩,
    ⟨(some 117), .move (.t 12), (some (115, true)), 4, []⟩,
    ⟨(some 118), .bin .gtr (.t 116) (.t 117), (some (115, true)), 5, []⟩,
    ⟨(some 119), .pick (.t 115) (.t 118) (.c (.s (.bool false))), none, 6, []⟩,
    ⟨(some 120), .move (.t 119), none, 7, []⟩,
    ⟨(some 121), .move (.t 0), (some (120, false)), 8, []⟩,
    ⟨(some 122), .bin .gtr (.t 121) (.c (.s (.int .i64 0))), (some (120, false)), 9, []⟩,
    ⟨(some 123), .move (.t 122), (some (120, false)), 10, []⟩,
    ⟨(some 124), .move (.t 14), (some (123, true)), 11, []⟩,
    ⟨(some 125), .move (.t 15), (some (123, true)), 12, []⟩,
    ⟨(some 126), .bin .gtr (.t 124) (.t 125), (some (123, true)), 13, []⟩,
    ⟨(some 127), .move (.t 126), (some (123, true)), 14, []⟩,
    ⟨(some 128), .move (.t 14), (some (127, false)), 15, []⟩,
    ⟨(some 129), .move (.t 15), (some (127, false)), 16, []⟩,
    ⟨(some 130), .bin .eql (.t 128) (.t 129), (some (127, false)), 17, []⟩,
    ⟨(some 131), .move (.t 130), (some (127, false)), 18, []⟩,
    ⟨(some 132), .move (.t 10), (some (131, true)), 19, []⟩,
    ⟨(some 133), .move (.t 12), (some (131, true)), 20, []⟩,
    ⟨(some 134), .bin .gtr (.t 132) (.t 133), (some (131, true)), 21, []⟩,
    ⟨(some 135), .pick (.t 131) (.t 134) (.c (.s (.bool false))), (some (127, false)), 22, []⟩,
    ⟨(some 136), .pick (.t 127) (.c (.s (.bool true))) (.t 135), (some (123, true)), 23, []⟩,
    ⟨(some 137), .pick (.t 123) (.t 136) (.c (.s (.bool false))), (some (120, false)), 24, []⟩,
    ⟨(some 138), .pick (.t 120) (.c (.s (.bool true))) (.t 137), none, 25, []⟩]) (RC.cond (.t 138) (RC.seq (RC.region 1 [
    ⟨(some 4), .move (.c (.s (.bool false))), none, 0, []⟩]) (RC.ret)) (RC.skip))))) (RC.skip))) (RC.region 2 [
    ⟨(some 139), .move (.t 12), none, 0, []⟩,
    ⟨(some 10), .move (.t 139), none, 1, []⟩]))))) (RC.region 3 [
    ⟨(some 73), .move (.t 11), none, 0, []⟩,
    ⟨(some 74), .bin .add (.t 73) (.c (.s (.int .i64 1))), none, 1, []⟩,
    ⟨(some 11), .move (.t 74), none, 2, []⟩]))
def detentlaw15_MutexPasses_s2 : RC :=
  RC.seq (RC.region 8 [
    ⟨(some 141), .move (.t 5), none, 0, []⟩,
    ⟨(some 142), .move (.t 10), none, 1, []⟩,
    ⟨(some 143), .call F.mtx_All_Unlock [(.t 141), (.c (.s (.int .i64 1))), (.t 142)], none, 2, []⟩,
    ⟨(some 140), .move (.t 143), none, 3, []⟩,
    ⟨(some 144), .extract 0 (.t 140), none, 4, []⟩,
    ⟨(some 145), .extract 1 (.t 140), none, 5, []⟩,
    ⟨(some 16), .move (.t 144), none, 6, []⟩,
    ⟨(some 17), .move (.t 145), none, 7, []⟩]) (RC.seq (RC.region 12 [
    ⟨(some 146), .move (.t 16), none, 0, []⟩,
    ⟨(some 147), .bin .eql (.t 146) (.c (.s (.int .i64 0))), none, 1, []⟩,
    ⟨(some 148), .move (.t 147), none, 2, []⟩,
    ⟨(some 149), .move (.t 17), (some (148, true)), 3, []⟩,
    ⟨(some 150), .bin .eql (.t 149) (.c (.s (.int .i64 0))), (some (148, true)), 4, []⟩,
    ⟨(some 151), .pick (.t 148) (.t 150) (.c (.s (.bool false))), none, 5, []⟩,
    ⟨(some 152), .move (.t 151), none, 6, []⟩,
    ⟨(some 153), .move (.t 5), (some (152, true)), 7, []⟩,
    ⟨(some 154), .call F.mtx_All_Owner [(.t 153), (.c (.s (.int .i64 1)))], (some (152, true)), 8, []⟩,
    ⟨(some 155), .bin .eql (.t 154) (.c (.s (.int .i64 0))), (some (152, true)), 9, []⟩,
    ⟨(some 156), .pick (.t 152) (.t 155) (.c (.s (.bool false))), none, 10, []⟩,
    ⟨(some 4), .move (.t 156), none, 11, []⟩]) (RC.ret))
def detentlaw15_MutexPasses_s3 : RC :=
  RC.seq (RC.region 1 [
    ⟨(some 10), .move (.c (.s (.int .i64 16))), none, 0, []⟩]) (RC.seq (RC.seq (RC.region 1 [
    ⟨(some 11), .move (.c (.s (.int .i64 0))), none, 0, []⟩]) (RC.block 2 (RC.loop R.detentlaw15_MutexPasses_l1))) R.detentlaw15_MutexPasses_s2)
def detentlaw15_MutexPasses : RFunc := RFunc.mk 157 [.tmp 4] (
  RC.seq (RC.region 1 [
    ⟨(some 4), .move (.c (.s (.bool false))), none, 0, []⟩]) (RC.seq (RC.seq (RC.region 2 [
    ⟨(some 18), .call F.detentlaw15_known [], none, 0, []⟩,
    ⟨(some 19), .un .not (.t 18), none, 1, []⟩]) (RC.cond (.t 19) (RC.seq (RC.region 1 [
    ⟨(some 4), .move (.c (.s (.bool false))), none, 0, []⟩]) (RC.ret)) (RC.skip))) (RC.seq (RC.seq (RC.region 11 [
    ⟨(some 20), .move (.t 0), none, 0, []⟩,
    ⟨(some 21), .bin .lss (.t 20) (.c (.s (.int .i64 0))), none, 1, []⟩,
    ⟨(some 22), .move (.t 21), none, 2, []⟩,
    ⟨(some 23), .move (.t 0), (some (22, false)), 3, []⟩,
    ⟨(some 24), .bin .gtr (.t 23) (.c (.s (.int .i64 2))), (some (22, false)), 4, []⟩,
    ⟨(some 25), .pick (.t 22) (.c (.s (.bool true))) (.t 24), none, 5, []⟩,
    ⟨(some 26), .move (.t 25), none, 6, []⟩,
    ⟨(some 27), .move (.t 1), (some (26, false)), 7, []⟩,
    ⟨(some 28), .len (.t 27), (some (26, false)), 8, []⟩,
    ⟨(some 29), .bin .gtr (.t 28) (.c (.s (.int .i64 15))), (some (26, false)), 9, []⟩,
    ⟨(some 30), .pick (.t 26) (.c (.s (.bool true))) (.t 29), none, 10, []⟩]) (RC.cond (.t 30) (RC.seq (RC.region 1 [
    ⟨(some 4), .move (.c (.s (.bool true))), none, 0, []⟩]) (RC.ret)) (RC.skip))) (RC.seq (RC.region 9 [
    ⟨(some 32), .move (.t 0), none, 0, []⟩,
    ⟨(some 33), .build [.int .i64 0, .int .i64 0] [(0, 1, (.t 32))], none, 1, []⟩,
    ⟨(some 34), .buildSlice 2 1 [.int .i64 0, .int .i64 0] [(0, 2, (.t 33))], none, 2, []⟩,
    ⟨(some 35), .call F.mtx_New [(.t 34)], none, 3, []⟩,
    ⟨(some 31), .move (.t 35), none, 4, []⟩,
    ⟨(some 36), .extract 0 (.t 31), none, 5, []⟩,
    ⟨(some 37), .extract 1 (.t 31), none, 6, []⟩,
    ⟨(some 5), .move (.t 36), none, 7, []⟩,
    ⟨(some 6), .move (.t 37), none, 8, []⟩]) (RC.seq (RC.region 2 [
    ⟨(some 38), .move (.t 5), none, 0, []⟩,
    ⟨(some 39), .call F.mtx_All_Lock [(.t 38), (.c (.s (.int .i64 1))), (.c (.s (.int .i64 16)))], none, 1, []⟩]) (RC.seq (RC.seq (RC.region 1 [
    ⟨(some 7), .move (.c (.s (.int .i64 0))), none, 0, []⟩]) (RC.block 0 (RC.loop R.detentlaw15_MutexPasses_l0))) R.detentlaw15_MutexPasses_s3))))))
theorem detentlaw15_MutexPasses_ok : chkFunc Go.Proofs.Try.prog [] Go.Proofs.Try.f4 detentlaw15_MutexPasses = true := by kernel_rfl
def detentlaw15_MutexRing_l0 : RC :=
  RC.seq (RC.seq (RC.region 3 [
    ⟨(some 33), .move (.t 6), none, 0, []⟩,
    ⟨(some 34), .move (.t 1), none, 1, []⟩,
    ⟨(some 35), .bin .lss (.t 33) (.t 34), none, 2, []⟩]) (RC.cond (.t 35) (RC.skip) (RC.exit 0))) (RC.seq (RC.block 1 (RC.region 6 [
    ⟨(some 38), .move (.t 5), none, 0, []⟩,
    ⟨(some 39), .move (.t 0), none, 1, []⟩,
    ⟨(some 40), .build [.int .i64 0, .int .i64 0] [(0, 1, (.t 39))], none, 2, []⟩,
    ⟨(some 41), .buildSlice 2 1 [.int .i64 0, .int .i64 0] [(0, 2, (.t 40))], none, 3, []⟩,
    ⟨(some 42), .append 2 16 (.t 38) (.t 41), none, 4, []⟩,
    ⟨(some 5), .move (.t 42), none, 5, []⟩])) (RC.region 3 [
    ⟨(some 36), .move (.t 6), none, 0, []⟩,
    ⟨(some 37), .bin .add (.t 36) (.c (.s (.int .i64 1))), none, 1, []⟩,
    ⟨(some 6), .move (.t 37), none, 2, []⟩]))
def detentlaw15_MutexRing_l1 : RC :=
  RC.seq (RC.seq (RC.region 3 [
    ⟨(some 48), .move (.t 9), none, 0, []⟩,
    ⟨(some 49), .move (.t 1), none, 1, []⟩,
    ⟨(some 50), .bin .leq (.t 48) (.t 49), none, 2, []⟩]) (RC.cond (.t 50) (RC.skip) (RC.exit 2))) (RC.seq (RC.block 3 (RC.region 4 [
    ⟨(some 53), .move (.t 7), none, 0, []⟩,
    ⟨(some 54), .move (.t 9), none, 1, []⟩,
    ⟨(some 55), .move (.t 9), none, 2, []⟩,
    ⟨(some 56), .call F.mtx_All_Lock [(.t 53), (.t 54), (.t 55)], none, 3, []⟩])) (RC.region 3 [
    ⟨(some 51), .move (.t 9), none, 0, []⟩,
    ⟨(some 52), .bin .add (.t 51) (.c (.s (.int .i64 1))), none, 1, []⟩,
    ⟨(some 9), .move (.t 52), none, 2, []⟩]))
def detentlaw15_MutexRing_l2 : RC :=
  RC.seq (RC.seq (RC.region 3 [
    ⟨(some 57), .move (.t 10), none, 0, []⟩,
    ⟨(some 58), .move (.t 1), none, 1, []⟩,
    ⟨(some 59), .bin .lss (.t 57) (.t 58), none, 2, []⟩]) (RC.cond (.t 59) (RC.skip) (RC.exit 4))) (RC.seq (RC.block 5 (RC.seq (RC.region 10 [
    ⟨(some 63), .move (.t 7), none, 0, []⟩,
    ⟨(some 64), .move (.t 10), none, 1, []⟩,
    ⟨(some 65), .bin .add (.t 64) (.c (.s (.int .i64 1))), none, 2, []⟩,
    ⟨(some 66), .move (.t 10), none, 3, []⟩,
    ⟨(some 67), .call F.mtx_All_Lock [(.t 63), (.t 65), (.t 66)], none, 4, []⟩,
    ⟨(some 62), .move (.t 67), none, 5, []⟩,
    ⟨(some 68), .extract 0 (.t 62), none, 6, []⟩,
    ⟨(some 69), .extract 1 (.t 62), none, 7, []⟩,
    ⟨(some 11), .move (.t 68), none, 8, []⟩,
    ⟨(some 12), .move (.t 69), none, 9, []⟩]) (RC.seq (RC.region 5 [
    ⟨(some 70), .move (.t 11), none, 0, []⟩,
    ⟨(some 71), .move (.t 70), none, 1, []⟩,
    ⟨(some 72), .move (.t 12), (some (71, false)), 2, []⟩,
    ⟨(some 73), .bin .neq (.t 72) (.c (.s (.int .i64 0))), (some (71, false)), 3, []⟩,
    ⟨(some 74), .pick (.t 71) (.c (.s (.bool true))) (.t 73), none, 4, []⟩]) (RC.cond (.t 74) (RC.seq (RC.region 1 [
    ⟨(some 4), .move (.c (.s (.bool false))), none, 0, []⟩]) (RC.ret)) (RC.skip))))) (RC.region 3 [
    ⟨(some 60), .move (.t 10), none, 0, []⟩,
    ⟨(some 61), .bin .add (.t 60) (.c (.s (.int .i64 1))), none, 1, []⟩,
    ⟨(some 10), .move (.t 61), none, 2, []⟩]))
def detentlaw15_MutexRing_s3 : RC :=
  RC.seq (RC.region 8 [
    ⟨(some 76), .move (.t 7), none, 0, []⟩,
    ⟨(some 77), .move (.t 1), none, 1, []⟩,
    ⟨(some 78), .call F.mtx_All_Lock [(.t 76), (.c (.s (.int .i64 1))), (.t 77)], none, 2, []⟩,
    ⟨(some 75), .move (.t 78), none, 3, []⟩,
    ⟨(some 79), .extract 0 (.t 75), none, 4, []⟩,
    ⟨(some 80), .extract 1 (.t 75), none, 5, []⟩,
    ⟨(some 13), .move (.t 79), none, 6, []⟩,
    ⟨(some 14), .move (.t 80), none, 7, []⟩]) (RC.seq (RC.region 8 [
    ⟨(some 82), .move (.t 7), none, 0, []⟩,
    ⟨(some 83), .move (.t 1), none, 1, []⟩,
    ⟨(some 84), .call F.mtx_All_TryLock [(.t 82), (.c (.s (.int .i64 1))), (.t 83)], none, 2, []⟩,
    ⟨(some 81), .move (.t 84), none, 3, []⟩,
    ⟨(some 85), .extract 0 (.t 81), none, 4, []⟩,
    ⟨(some 86), .extract 1 (.t 81), none, 5, []⟩,
    ⟨(some 15), .move (.t 85), none, 6, []⟩,
    ⟨(some 16), .move (.t 86), none, 7, []⟩]) (RC.seq (RC.region 26 [
    ⟨(some 87), .move (.t 13), none, 0, []⟩,
    ⟨(some 88), .un .not (.t 87), none, 1, []⟩,
    ⟨(some 89), .move (.t 88), none, 2, []⟩,
    ⟨(some 90), .move (.t 14), (some (89, true)), 3, []⟩,
    ⟨(some 91), .bin .eql (.t 90) (.c (.s (.int .i64 (-28)))), (some (89, true)), 4, []⟩,
    ⟨(some 92), .pick (.t 89) (.t 91) (.c (.s (.bool false))), none, 5, []⟩,
    ⟨(some 93), .move (.t 92), none, 6, []⟩,
    ⟨(some 94), .move (.t 15), (some (93, true)), 7, []⟩,
    ⟨(some 95), .un .not (.t 94), (some (93, true)), 8, []⟩,
    ⟨(some 96), .pick (.t 93) (.t 95) (.c (.s (.bool false))), none, 9, []⟩,
    ⟨(some 97), .move (.t 96), none, 10, []⟩,
    ⟨(some 98), .move (.t 16), (some (97, true)), 11, []⟩,
    ⟨(some 99), .bin .eql (.t 98) (.c (.s (.int .i64 0))), (some (97, true)), 12, []⟩,
    ⟨(some 100), .pick (.t 97) (.t 99) (.c (.s (.bool false))), none, 13, []⟩,
    ⟨(some 101), .move (.t 100), none, 14, []⟩,
    ⟨(some 102), .move (.t 7), (some (101, true)), 15, []⟩,
    ⟨(some 103), .call F.mtx_All_Waiting [(.t 102), (.c (.s (.int .i64 1)))], (some (101, true)), 16, []⟩,
    ⟨(some 104), .len (.t 103), (some (101, true)), 17, []⟩,
    ⟨(some 105), .bin .eql (.t 104) (.c (.s (.int .i64 0))), (some (101, true)), 18, []⟩,
    ⟨(some 106), .pick (.t 101) (.t 105) (.c (.s (.bool false))), none, 19, []⟩,
    ⟨(some 107), .move (.t 106), none, 20, []⟩,
    ⟨(some 108), .move (.t 7), (some (107, true)), 21, []⟩,
    ⟨(some 109), .call F.mtx_All_Owner [(.t 108), (.c (.s (.int .i64 1)))], (some (107, true)), 22, []⟩,
    ⟨(some 110), .bin .eql (.t 109) (.c (.s (.int .i64 1))), (some (107, true)), 23, []⟩,
    ⟨(some 111), .pick (.t 107) (.t 110) (.c (.s (.bool false))), none, 24, []⟩,
    ⟨(some 4), .move (.t 111), none, 25, []⟩]) (RC.ret)))
def detentlaw15_MutexRing_s4 : RC :=
  RC.seq (RC.seq (RC.region 1 [
    ⟨(some 10), .move (.c (.s (.int .i64 1))), none, 0, []⟩]) (RC.block 4 (RC.loop R.detentlaw15_MutexRing_l2))) R.detentlaw15_MutexRing_s3
def detentlaw15_MutexRing_s5 : RC :=
  RC.seq (RC.region 7 [
    ⟨(some 44), .move (.t 5), none, 0, []⟩,
    ⟨(some 45), .call F.mtx_New [(.t 44)], none, 1, []⟩,
    ⟨(some 43), .move (.t 45), none, 2, []⟩,
    ⟨(some 46), .extract 0 (.t 43), none, 3, []⟩,
    ⟨(some 47), .extract 1 (.t 43), none, 4, []⟩,
    ⟨(some 7), .move (.t 46), none, 5, []⟩,
    ⟨(some 8), .move (.t 47), none, 6, []⟩]) (RC.seq (RC.seq (RC.region 1 [
    ⟨(some 9), .move (.c (.s (.int .i64 1))), none, 0, []⟩]) (RC.block 2 (RC.loop R.detentlaw15_MutexRing_l1))) R.detentlaw15_MutexRing_s4)
def detentlaw15_MutexRing : RFunc := RFunc.mk 112 [.tmp 4] (
  RC.seq (RC.region 1 [
    ⟨(some 4), .move (.c (.s (.bool false))), none, 0, []⟩]) (RC.seq (RC.seq (RC.region 2 [
    ⟨(some 17), .call F.detentlaw15_known [], none, 0, []⟩,
    ⟨(some 18), .un .not (.t 17), none, 1, []⟩]) (RC.cond (.t 18) (RC.seq (RC.region 1 [
    ⟨(some 4), .move (.c (.s (.bool false))), none, 0, []⟩]) (RC.ret)) (RC.skip))) (RC.seq (RC.seq (RC.region 14 [
    ⟨(some 19), .move (.t 0), none, 0, []⟩,
    ⟨(some 20), .bin .lss (.t 19) (.c (.s (.int .i64 0))), none, 1, []⟩,
    ⟨(some 21), .move (.t 20), none, 2, []⟩,
    ⟨(some 22), .move (.t 0), (some (21, false)), 3, []⟩,
    ⟨(some 23), .bin .gtr (.t 22) (.c (.s (.int .i64 2))), (some (21, false)), 4, []⟩,
    ⟨(some 24), .pick (.t 21) (.c (.s (.bool true))) (.t 23), none, 5, []⟩,
    ⟨(some 25), .move (.t 24), none, 6, []⟩,
    ⟨(some 26), .move (.t 1), (some (25, false)), 7, []⟩,
    ⟨(some 27), .bin .lss (.t 26) (.c (.s (.int .i64 2))), (some (25, false)), 8, []⟩,
    ⟨(some 28), .pick (.t 25) (.c (.s (.bool true))) (.t 27), none, 9, []⟩,
    ⟨(some 29), .move (.t 28), none, 10, []⟩,
    ⟨(some 30), .move (.t 1), (some (29, false)), 11, []⟩,
    ⟨(some 31), .bin .gtr (.t 30) (.c (.s (.int .i64 8))), (some (29, false)), 12, []⟩,
    ⟨(some 32), .pick (.t 29) (.c (.s (.bool true))) (.t 31), none, 13, []⟩]) (RC.cond (.t 32) (RC.seq (RC.region 1 [
    ⟨(some 4), .move (.c (.s (.bool true))), none, 0, []⟩]) (RC.ret)) (RC.skip))) (RC.seq (RC.region 1 [
    ⟨(some 5), .move (.c (.s (.slice none 0 0 1))), none, 0, []⟩]) (RC.seq (RC.seq (RC.region 1 [
    ⟨(some 6), .move (.c (.s (.int .i64 0))), none, 0, []⟩]) (RC.block 0 (RC.loop R.detentlaw15_MutexRing_l0))) R.detentlaw15_MutexRing_s5)))))
theorem detentlaw15_MutexRing_ok : chkFunc Go.Proofs.Try.prog [] Go.Proofs.Try.f5 detentlaw15_MutexRing = true := by kernel_rfl
def detentlaw15_MutexOwns : RFunc := RFunc.mk 137 [.tmp 6] (
  RC.seq (RC.region 1 [
    ⟨(some 6), .move (.c (.s (.bool false))), none, 0, []⟩]) (RC.seq (RC.seq (RC.region 2 [
    ⟨(some 21), .call F.detentlaw15_known [], none, 0, []⟩,
    ⟨(some 22), .un .not (.t 21), none, 1, []⟩]) (RC.cond (.t 22) (RC.seq (RC.region 1 [
    ⟨(some 6), .move (.c (.s (.bool false))), none, 0, []⟩]) (RC.ret)) (RC.skip))) (RC.seq (RC.seq (RC.region 27 [
    ⟨(some 23), .move (.t 0), none, 0, []⟩,
    ⟨(some 24), .bin .lss (.t 23) (.c (.s (.int .i64 0))), none, 1, []⟩,
    ⟨(some 25), .move (.t 24), none, 2, []⟩,
    ⟨(some 26), .move (.t 0), (some (25, false)), 3, []⟩,
    ⟨(some 27), .bin .gtr (.t 26) (.c (.s (.int .i64 2))), (some (25, false)), 4, []⟩,
    ⟨(some 28), .pick (.t 25) (.c (.s (.bool true))) (.t 27), none, 5, []⟩,
    ⟨(some 29), .move (.t 28), none, 6, []⟩,
    ⟨(some 30), .move (.t 1), (some (29, false)), 7, []⟩,
    ⟨(some 31), .bin .lss (.t 30) (.c (.s (.int .i64 1))), (some (29, false)), 8, []⟩,
    ⟨(some 32), .pick (.t 29) (.c (.s (.bool true))) (.t 31), none, 9, []⟩,
    ⟨(some 33), .move (.t 32), none, 10, []⟩,
    ⟨(some 34), .move (.t 1), (some (33, false)), 11, []⟩,
    ⟨(some 35), .bin .gtr (.t 34) (.c (.s (.int .i64 16))), (some (33, false)), 12, []⟩,
    ⟨(some 36), .pick (.t 33) (.c (.s (.bool true))) (.t 35), none, 13, []⟩,
    ⟨(some 37), .move (.t 36), none, 14, []⟩,
    ⟨(some 38), .move (.t 2), (some (37, false)), 15, []⟩,
    ⟨(some 39), .bin .lss (.t 38) (.c (.s (.int .i64 1))), (some (37, false)), 16, []⟩,
    ⟨(some 40), .pick (.t 37) (.c (.s (.bool true))) (.t 39), none, 17, []⟩,
    ⟨(some 41), .move (.t 40), none, 18, []⟩,
    ⟨(some 42), .move (.t 2), (some (41, false)), 19, []⟩,
    ⟨(some 43), .bin .gtr (.t 42) (.c (.s (.int .i64 16))), (some (41, false)), 20, []⟩,
    ⟨(some 44), .pick (.t 41) (.c (.s (.bool true))) (.t 43), none, 21, []⟩,
    ⟨(some 45), .move (.t 44), none, 22, []⟩,
    ⟨(some 46), .move (.t 1), (some (45, false)), 23, []⟩,
    ⟨(some 47), .move (.t 2), (some (45, false)), 24, []⟩,
    ⟨(some 48), .bin .eql (.t 46) (.t 47), (some (45, false)), 25, []⟩,
    ⟨(some 49), .pick (.t 45) (.c (.s (.bool true))) (.t 48), none, 26, []⟩]) (RC.cond (.t 49) (RC.seq (RC.region 1 [
    ⟨(some 6), .move (.c (.s (.bool true))), none, 0, []⟩]) (RC.ret)) (RC.skip))) (RC.seq (RC.region 9 [
    ⟨(some 51), .move (.t 0), none, 0, []⟩,
    ⟨(some 52), .build [.int .i64 0, .int .i64 0] [(0, 1, (.t 51))], none, 1, []⟩,
    ⟨(some 53), .buildSlice 2 1 [.int .i64 0, .int .i64 0] [(0, 2, (.t 52))], none, 2, []⟩,
    ⟨(some 54), .call F.mtx_New [(.t 53)], none, 3, []⟩,
    ⟨(some 50), .move (.t 54), none, 4, []⟩,
    ⟨(some 55), .extract 0 (.t 50), none, 5, []⟩,
    ⟨(some 56), .extract 1 (.t 50), none, 6, []⟩,
    ⟨(some 7), .move (.t 55), none, 7, []⟩,
    ⟨(some 8), .move (.t 56), none, 8, []⟩]) (RC.seq (RC.region 8 [
    ⟨(some 58), .move (.t 7), none, 0, []⟩,
    ⟨(some 59), .move (.t 1), none, 1, []⟩,
    ⟨(some 60), .call F.mtx_All_Lock [(.t 58), (.c (.s (.int .i64 1))), (.t 59)], none, 2, []⟩,
    ⟨(some 57), .move (.t 60), none, 3, []⟩,
    ⟨(some 61), .extract 0 (.t 57), none, 4, []⟩,
    ⟨(some 62), .extract 1 (.t 57), none, 5, []⟩,
    ⟨(some 9), .move (.t 61), none, 6, []⟩,
    ⟨(some 10), .move (.t 62), none, 7, []⟩]) (RC.seq (RC.region 8 [
    ⟨(some 64), .move (.t 7), none, 0, []⟩,
    ⟨(some 65), .move (.t 1), none, 1, []⟩,
    ⟨(some 66), .call F.mtx_All_Lock [(.t 64), (.c (.s (.int .i64 1))), (.t 65)], none, 2, []⟩,
    ⟨(some 63), .move (.t 66), none, 3, []⟩,
    ⟨(some 67), .extract 0 (.t 63), none, 4, []⟩,
    ⟨(some 68), .extract 1 (.t 63), none, 5, []⟩,
    ⟨(some 11), .move (.t 67), none, 6, []⟩,
    ⟨(some 12), .move (.t 68), none, 7, []⟩]) (RC.seq (RC.region 8 [
    ⟨(some 70), .move (.t 7), none, 0, []⟩,
    ⟨(some 71), .move (.t 1), none, 1, []⟩,
    ⟨(some 72), .call F.mtx_All_TryLock [(.t 70), (.c (.s (.int .i64 1))), (.t 71)], none, 2, []⟩,
    ⟨(some 69), .move (.t 72), none, 3, []⟩,
    ⟨(some 73), .extract 0 (.t 69), none, 4, []⟩,
    ⟨(some 74), .extract 1 (.t 69), none, 5, []⟩,
    ⟨(some 13), .move (.t 73), none, 6, []⟩,
    ⟨(some 14), .move (.t 74), none, 7, []⟩]) (RC.seq (RC.region 8 [
    ⟨(some 76), .move (.t 7), none, 0, []⟩,
    ⟨(some 77), .move (.t 2), none, 1, []⟩,
    ⟨(some 78), .call F.mtx_All_Unlock [(.t 76), (.c (.s (.int .i64 1))), (.t 77)], none, 2, []⟩,
    ⟨(some 75), .move (.t 78), none, 3, []⟩,
    ⟨(some 79), .extract 0 (.t 75), none, 4, []⟩,
    ⟨(some 80), .extract 1 (.t 75), none, 5, []⟩,
    ⟨(some 15), .move (.t 79), none, 6, []⟩,
    ⟨(some 16), .move (.t 80), none, 7, []⟩]) (RC.seq (RC.region 8 [
    ⟨(some 82), .move (.t 7), none, 0, []⟩,
    ⟨(some 83), .move (.t 1), none, 1, []⟩,
    ⟨(some 84), .call F.mtx_All_Unlock [(.t 82), (.c (.s (.int .i64 2))), (.t 83)], none, 2, []⟩,
    ⟨(some 81), .move (.t 84), none, 3, []⟩,
    ⟨(some 85), .extract 0 (.t 81), none, 4, []⟩,
    ⟨(some 86), .extract 1 (.t 81), none, 5, []⟩,
    ⟨(some 17), .move (.t 85), none, 6, []⟩,
    ⟨(some 18), .move (.t 86), none, 7, []⟩]) (RC.seq (RC.region 7 [
    ⟨(some 88), .move (.t 7), none, 0, []⟩,
    ⟨(some 89), .call F.mtx_All_Lock [(.t 88), (.c (.s (.int .i64 1))), (.c (.s (.int .i64 17)))], none, 1, []⟩,
    ⟨(some 87), .move (.t 89), none, 2, []⟩,
    ⟨(some 90), .extract 0 (.t 87), none, 3, []⟩,
    ⟨(some 91), .extract 1 (.t 87), none, 4, []⟩,
    ⟨(some 19), .move (.t 90), none, 5, []⟩,
    ⟨(some 20), .move (.t 91), none, 6, []⟩]) (RC.seq (RC.region 46 [
    ⟨(some 92), .move (.t 9), none, 0, []⟩,
    ⟨(some 93), .move (.t 92), none, 1, []⟩,
    ⟨(some 94), .move (.t 10), (some (93, true)), 2, []⟩,
    ⟨(some 95), .bin .eql (.t 94) (.c (.s (.int .i64 0))), (some (93, true)), 3, []⟩,
    ⟨(some 96), .pick (.t 93) (.t 95) (.c (.s (.bool false))), none, 4, []⟩,
    ⟨(some 97), .move (.t 96), none, 5, []⟩,
    ⟨(some 98), .move (.t 11), (some (97, true)), 6, []⟩,
    ⟨(some 99), .un .not (.t 98), (some (97, true)), 7, []⟩,
    ⟨(some 100), .pick (.t 97) (.t 99) (.c (.s (.bool false))), none, 8, []⟩,
    ⟨(some 101), .move (.t 100), none, 9, []⟩,
    ⟨(some 102), .move (.t 12), (some (101, true)), 10, []⟩,
    ⟨(some 103), .bin .eql (.t 102) (.c (.s (.int .i64 (-28)))), (some (101, true)), 11, []⟩,
    ⟨(some 104), .pick (.t 101) (.t 103) (.c (.s (.bool false))), none, 12, []⟩,
    ⟨(some 105), .move (.t 104), none, 13, []⟩,
    ⟨(some 106), .move (.t 13), (some (105, true)), 14, []⟩,
    ⟨(some 107), .un .not (.t 106), (some (105, true)), 15, []⟩,
    ⟨(some 108), .pick (.t 105) (.t 107) (.c (.s (.bool false))), none, 16, []⟩,
    ⟨(some 109), .move (.t 108), none, 17, []⟩,
    ⟨(some 110), .move (.t 14), (some (109, true)), 18, []⟩,
    ⟨(some 111), .bin .eql (.t 110) (.c (.s (.int .i64 (-28)))), (some (109, true)), 19, []⟩,
    ⟨(some 112), .pick (.t 109) (.t 111) (.c (.s (.bool false))), none, 20, []⟩,
    ⟨(some 113), .move (.t 112), none, 21, []⟩,
    ⟨(some 114), .move (.t 16), (some (113, true)), 22, []⟩,
    ⟨(some 115), .bin .eql (.t 114) (.c (.s (.int .i64 (-28)))), (some (113, true)), 23, []⟩,
    ⟨(some 116), .pick (.t 113) (.t 115) (.c (.s (.bool false))), none, 24, []⟩,
    ⟨(some 117), .move (.t 116), none, 25, []⟩,
    ⟨(some 118), .move (.t 18), (some (117, true)), 26, []⟩,
    ⟨(some 119), .bin .eql (.t 118) (.c (.s (.int .i64 (-18)))), (some (117, true)), 27, []⟩,
    ⟨(some 120), .pick (.t 117) (.t 119) (.c (.s (.bool false))), none, 28, []⟩,
    ⟨(some 121), .move (.t 120), none, 29, []⟩,
    ⟨(some 122), .move (.t 20), (some (121, true)), 30, []⟩,
    ⟨(some 123), .bin .eql (.t 122) (.c (.s (.int .i64 (-18)))), (some (121, true)), 31, []⟩,
    ⟨(some 124), .pick (.t 121) (.t 123) (.c (.s (.bool false))), none, 32, []⟩,
    ⟨(some 125), .move (.t 124), none, 33, []⟩,
    ⟨(some 126), .move (.t 7), (some (125, true)), 34, []⟩,
    ⟨(some 127), .call F.mtx_All_Owner [(.t 126), (.c (.s (.int .i64 1)))], (some (125, true)), 35, []⟩,
    ⟨(some 128), .move (.t 1), (some (125, true)), 36, []⟩,
    ⟨(some 129), .bin .eql (.t 127) (.t 128), (some (125, true)), 37, []⟩,
    ⟨(some 130), .pick (.t 125) (.t 129) (.c (.s (.bool false))), none, 38, []⟩,
    ⟨(some 131), .move (.t 130), none, 39, []⟩,
    ⟨(some 132), .move (.t 7), (some (131, true)), 40, []⟩,
    ⟨(some 133), .call F.mtx_All_Waiting [(.t 132), (.c (.s (.int .i64 1)))], (some (131, true)), 41, []⟩,
    ⟨(some 134), .len (.t 133), (some (131, true)), 42, []⟩,
    ⟨(some 135), .bin .eql (.t 134) (.c (.s (.int .i64 0))), (some (131, true)), 43, []⟩,
    ⟨(some 136), .pick (.t 131) (.t 135) (.c (.s (.bool false))), none, 44, []⟩,
    ⟨(some 6), .move (.t 136), none, 45, []⟩]) (RC.ret))))))))))))
theorem detentlaw15_MutexOwns_ok : chkFunc Go.Proofs.Try.prog [] Go.Proofs.Try.f6 detentlaw15_MutexOwns = true := by kernel_rfl
def detentlaw15_MutexCeilings_l0 : RC :=
  RC.seq (RC.seq (RC.region 4 [
    ⟨(some 27), .move (.t 6), none, 0, []⟩,
    ⟨(some 28), .move (.t 1), none, 1, []⟩,
    ⟨(some 29), .len (.t 28), none, 2, []⟩,
    ⟨(some 30), .bin .lss (.t 27) (.t 29), none, 3, []⟩]) (RC.cond (.t 30) (RC.skip) (RC.exit 0))) (RC.seq (RC.block 1 (RC.region 12 [
    ⟨(some 33), .move (.t 5), none, 0, []⟩,
    ⟨(some 34), .move (.t 1), none, 1, []⟩,
    ⟨(some 35), .move (.t 6), none, 2, []⟩,
    ⟨(some 36), .indexSl 1 (.t 34) (.t 35), none, 3, []⟩,
    ⟨(some 37), .load none (.t 36), none, 4, []⟩,
    ⟨(some 38), .bin .rem (.t 37) (.c (.s (.int .u8 16))), none, 5, []⟩,
    ⟨(some 39), .conv .i64 (.t 38), none, 6, []⟩,
    ⟨(some 40), .bin .add (.c (.s (.int .i64 1))) (.t 39), none, 7, []⟩,
    ⟨(some 41), .build [.int .i64 0, .int .i64 0] [(0, 1, (.c (.s (.int .i64 3)))), (1, 1, (.t 40))], none, 8, []⟩,
    ⟨(some 42), .buildSlice 2 1 [.int .i64 0, .int .i64 0] [(0, 2, (.t 41))], none, 9, []⟩,
    ⟨(some 43), .append 2 16 (.t 33) (.t 42), none, 10, []⟩,
    ⟨(some 5), .move (.t 43), none, 11, []⟩])) (RC.region 3 [
    ⟨(some 31), .move (.t 6), none, 0, []⟩,
    ⟨(some 32), .bin .add (.t 31) (.c (.s (.int .i64 1))), none, 1, []⟩,
    ⟨(some 6), .move (.t 32), none, 2, []⟩]))
def detentlaw15_MutexCeilings_s1 : RC :=
  RC.seq (RC.region 4 [
    ⟨(some 110), .move (.t 7), none, 0, []⟩,
    ⟨(some 111), .call F.mtx_All_Pri [(.t 110), (.c (.s (.int .i64 1)))], none, 1, []⟩,
    ⟨(some 112), .move (.t 9), none, 2, []⟩,
    ⟨(some 113), .bin .neq (.t 111) (.t 112), none, 3, []⟩]) (RC.cond (.t 113) (RC.seq (RC.region 1 [
    ⟨(some 4), .move (.c (.s (.bool false))), none, 0, []⟩]) (RC.ret)) (RC.skip))
def detentlaw15_MutexCeilings_s2 : RC :=
  RC.region 3 [
    ⟨(some 62), .move (.t 10), none, 0, []⟩,
    ⟨(some 63), .bin .add (.t 62) (.c (.s (.int .i64 1))), none, 1, []⟩,
    ⟨(some 10), .move (.t 63), none, 2, []⟩]
def detentlaw15_MutexCeilings_l3 : RC :=
  RC.seq (RC.seq (RC.region 4 [
    ⟨(some 58), .move (.t 10), none, 0, []⟩,
    ⟨(some 59), .move (.t 5), none, 1, []⟩,
    ⟨(some 60), .len (.t 59), none, 2, []⟩,
    ⟨(some 61), .bin .lss (.t 58) (.t 60), none, 3, []⟩]) (RC.cond (.t 61) (RC.skip) (RC.exit 2))) (RC.seq (RC.block 3 (RC.seq (RC.region 9 [
    ⟨(some 65), .move (.t 7), none, 0, []⟩,
    ⟨(some 66), .move (.t 10), none, 1, []⟩,
    ⟨(some 67), .bin .add (.t 66) (.c (.s (.int .i64 1))), none, 2, []⟩,
    ⟨(some 68), .call F.mtx_All_Lock [(.t 65), (.t 67), (.c (.s (.int .i64 1)))], none, 3, []⟩,
    ⟨(some 64), .move (.t 68), none, 4, []⟩,
    ⟨(some 69), .extract 0 (.t 64), none, 5, []⟩,
    ⟨(some 70), .extract 1 (.t 64), none, 6, []⟩,
    ⟨(some 11), .move (.t 69), none, 7, []⟩,
    ⟨(some 12), .move (.t 70), none, 8, []⟩]) (RC.seq (RC.region 8 [
    ⟨(some 71), .move (.t 0), none, 0, []⟩,
    ⟨(some 72), .move (.t 5), none, 1, []⟩,
    ⟨(some 73), .move (.t 10), none, 2, []⟩,
    ⟨(some 74), .indexSl 2 (.t 72) (.t 73), none, 3, []⟩,
    ⟨(some 75), .fieldAddr 1 (.t 74), none, 4, []⟩,
    ⟨(some 76), .load none (.t 75), none, 5, []⟩,
    ⟨(some 77), .bin .geq (.t 71) (.t 76), none, 6, []⟩,
    ⟨(some 13), .move (.t 77), none, 7, []⟩]) (RC.seq (RC.seq (RC.region 17 [
    ⟨(some 78), .move (.t 11), none, 0, []⟩,
    ⟨(some 79), .move (.t 13), none, 1, []⟩,
    ⟨(some 80), .eqs .bool true (.t 78) (.t 79), none, 2, []⟩,
    ⟨(some 81), .move (.t 80), none, 3, []⟩,
    ⟨(some 82), .move (.t 12), (some (81, false)), 4, []⟩,
    ⟨(some 83), .bin .eql (.t 82) (.c (.s (.int .i64 0))), (some (81, false)), 5, []⟩,
    ⟨(some 84), .move (.t 13), (some (81, false)), 6, []⟩,
    ⟨(some 85), .eqs .bool true (.t 83) (.t 84), (some (81, false)), 7, []⟩,
    ⟨(some 86), .pick (.t 81) (.c (.s (.bool true))) (.t 85), none, 8, []⟩,
    ⟨(some 87), .move (.t 86), none, 9, []⟩,
    ⟨(some 88), .move (.t 13), (some (87, false)), 10, []⟩,
    ⟨(some 89), .un .not (.t 88), (some (87, false)), 11, []⟩,
    ⟨(some 90), .move (.t 89), (some (87, false)), 12, []⟩,
    ⟨(some 91), .move (.t 12), (some (90, true)), 13, []⟩,
    ⟨(some 92), .bin .neq (.t 91) (.c (.s (.int .i64 (-28)))), (some (90, true)), 14, []⟩,
    ⟨(some 93), .pick (.t 90) (.t 92) (.c (.s (.bool false))), (some (87, false)), 15, []⟩,
    ⟨(some 94), .pick (.t 87) (.c (.s (.bool true))) (.t 93), none, 16, []⟩]) (RC.cond (.t 94) (RC.seq (RC.region 1 [
    ⟨(some 4), .move (.c (.s (.bool false))), none, 0, []⟩]) (RC.ret)) (RC.skip))) (RC.seq (RC.seq (RC.region 10 [
    ⟨(some 95), .move (.t 13), none, 0, []⟩,
    ⟨(some 96), .move (.t 95), none, 1, []⟩,
    ⟨(some 97), .move (.t 5), (some (96, true)), 2, []⟩,
    ⟨(some 98), .move (.t 10), (some (96, true)), 3, []⟩,
    ⟨(some 99), .indexSl 2 (.t 97) (.t 98), (some (96, true)), 4, []⟩,
    ⟨(some 100), .fieldAddr 1 (.t 99), (some (96, true)), 5, []⟩,
    ⟨(some 101), .load none (.t 100), (some (96, true)), 6, []⟩,
    ⟨(some 102), .move (.t 9), (some (96, true)), 7, []⟩,
    ⟨(some 103), .bin .lss (.t 101) (.t 102), (some (96, true)), 8, []⟩,
    ⟨(some 104), .pick (.t 96) (.t 103) (.c (.s (.bool false))), none, 9, []⟩]) (RC.cond (.t 104) (RC.region 6 [
    ⟨(some 105), .move (.t 5), none, 0, []⟩,
    ⟨(some 106), .move (.t 10), none, 1, []⟩,
    ⟨(some 107), .indexSl 2 (.t 105) (.t 106), none, 2, []⟩,
    ⟨(some 108), .fieldAddr 1 (.t 107), none, 3, []⟩,
    ⟨(some 109), .load none (.t 108), none, 4, []⟩,
    ⟨(some 9), .move (.t 109), none, 5, []⟩]) (RC.skip))) R.detentlaw15_MutexCeilings_s1))))) R.detentlaw15_MutexCeilings_s2)
def detentlaw15_MutexCeilings_s4 : RC :=
  RC.seq (RC.region 2 [
    ⟨(some 114), .move (.t 7), none, 0, []⟩,
    ⟨(some 115), .call F.mtx_All_Free [(.t 114), (.c (.s (.int .i64 1)))], none, 1, []⟩]) (RC.seq (RC.region 11 [
    ⟨(some 116), .move (.t 7), none, 0, []⟩,
    ⟨(some 117), .call F.mtx_All_Pri [(.t 116), (.c (.s (.int .i64 1)))], none, 1, []⟩,
    ⟨(some 118), .move (.t 0), none, 2, []⟩,
    ⟨(some 119), .bin .eql (.t 117) (.t 118), none, 3, []⟩,
    ⟨(some 120), .move (.t 119), none, 4, []⟩,
    ⟨(some 121), .move (.t 7), (some (120, true)), 5, []⟩,
    ⟨(some 122), .call F.mtx_All_Held [(.t 121), (.c (.s (.int .i64 1)))], (some (120, true)), 6, []⟩,
    ⟨(some 123), .len (.t 122), (some (120, true)), 7, []⟩,
    ⟨(some 124), .bin .eql (.t 123) (.c (.s (.int .i64 0))), (some (120, true)), 8, []⟩,
    ⟨(some 125), .pick (.t 120) (.t 124) (.c (.s (.bool false))), none, 9, []⟩,
    ⟨(some 4), .move (.t 125), none, 10, []⟩]) (RC.ret))
def detentlaw15_MutexCeilings_s5 : RC :=
  RC.seq (RC.region 7 [
    ⟨(some 45), .move (.t 5), none, 0, []⟩,
    ⟨(some 46), .call F.mtx_New [(.t 45)], none, 1, []⟩,
    ⟨(some 44), .move (.t 46), none, 2, []⟩,
    ⟨(some 47), .extract 0 (.t 44), none, 3, []⟩,
    ⟨(some 48), .extract 1 (.t 44), none, 4, []⟩,
    ⟨(some 7), .move (.t 47), none, 5, []⟩,
    ⟨(some 8), .move (.t 48), none, 6, []⟩]) (RC.seq (RC.seq (RC.region 8 [
    ⟨(some 49), .move (.t 8), none, 0, []⟩,
    ⟨(some 50), .bin .neq (.t 49) (.c (.s (.int .i64 0))), none, 1, []⟩,
    ⟨(some 51), .move (.t 50), none, 2, []⟩,
    ⟨(some 52), .move (.t 7), (some (51, false)), 3, []⟩,
    ⟨(some 53), .move (.t 0), (some (51, false)), 4, []⟩,
    ⟨(some 54), .call F.mtx_All_SetBase [(.t 52), (.c (.s (.int .i64 1))), (.t 53)], (some (51, false)), 5, []⟩,
    ⟨(some 55), .bin .neq (.t 54) (.c (.s (.int .i64 0))), (some (51, false)), 6, []⟩,
    ⟨(some 56), .pick (.t 51) (.c (.s (.bool true))) (.t 55), none, 7, []⟩]) (RC.cond (.t 56) (RC.seq (RC.region 1 [
    ⟨(some 4), .move (.c (.s (.bool false))), none, 0, []⟩]) (RC.ret)) (RC.skip))) (RC.seq (RC.region 2 [
    ⟨(some 57), .move (.t 0), none, 0, []⟩,
    ⟨(some 9), .move (.t 57), none, 1, []⟩]) (RC.seq (RC.seq (RC.region 1 [
    ⟨(some 10), .move (.c (.s (.int .i64 0))), none, 0, []⟩]) (RC.block 2 (RC.loop R.detentlaw15_MutexCeilings_l3))) R.detentlaw15_MutexCeilings_s4)))
def detentlaw15_MutexCeilings : RFunc := RFunc.mk 126 [.tmp 4] (
  RC.seq (RC.region 1 [
    ⟨(some 4), .move (.c (.s (.bool false))), none, 0, []⟩]) (RC.seq (RC.seq (RC.region 2 [
    ⟨(some 14), .call F.detentlaw15_known [], none, 0, []⟩,
    ⟨(some 15), .un .not (.t 14), none, 1, []⟩]) (RC.cond (.t 15) (RC.seq (RC.region 1 [
    ⟨(some 4), .move (.c (.s (.bool false))), none, 0, []⟩]) (RC.ret)) (RC.skip))) (RC.seq (RC.seq (RC.region 11 [
    ⟨(some 16), .move (.t 0), none, 0, []⟩,
    ⟨(some 17), .bin .lss (.t 16) (.c (.s (.int .i64 1))), none, 1, []⟩,
    ⟨(some 18), .move (.t 17), none, 2, []⟩,
    ⟨(some 19), .move (.t 0), (some (18, false)), 3, []⟩,
    ⟨(some 20), .bin .gtr (.t 19) (.c (.s (.int .i64 16))), (some (18, false)), 4, []⟩,
    ⟨(some 21), .pick (.t 18) (.c (.s (.bool true))) (.t 20), none, 5, []⟩,
    ⟨(some 22), .move (.t 21), none, 6, []⟩,
    ⟨(some 23), .move (.t 1), (some (22, false)), 7, []⟩,
    ⟨(some 24), .len (.t 23), (some (22, false)), 8, []⟩,
    ⟨(some 25), .bin .gtr (.t 24) (.c (.s (.int .i64 8))), (some (22, false)), 9, []⟩,
    ⟨(some 26), .pick (.t 22) (.c (.s (.bool true))) (.t 25), none, 10, []⟩]) (RC.cond (.t 26) (RC.seq (RC.region 1 [
    ⟨(some 4), .move (.c (.s (.bool true))), none, 0, []⟩]) (RC.ret)) (RC.skip))) (RC.seq (RC.region 1 [
    ⟨(some 5), .move (.c (.s (.slice none 0 0 1))), none, 0, []⟩]) (RC.seq (RC.seq (RC.region 1 [
    ⟨(some 6), .move (.c (.s (.int .i64 0))), none, 0, []⟩]) (RC.block 0 (RC.loop R.detentlaw15_MutexCeilings_l0))) R.detentlaw15_MutexCeilings_s5)))))
theorem detentlaw15_MutexCeilings_ok : chkFunc Go.Proofs.Try.prog [] Go.Proofs.Try.f7 detentlaw15_MutexCeilings = true := by kernel_rfl
def detentlaw15_MutexFrees_l0 : RC :=
  RC.seq (RC.seq (RC.region 4 [
    ⟨(some 17), .move (.t 4), none, 0, []⟩,
    ⟨(some 18), .move (.t 0), none, 1, []⟩,
    ⟨(some 19), .len (.t 18), none, 2, []⟩,
    ⟨(some 20), .bin .lss (.t 17) (.t 19), none, 3, []⟩]) (RC.cond (.t 20) (RC.skip) (RC.exit 0))) (RC.seq (RC.block 1 (RC.region 5 [
    ⟨(some 23), .move (.t 3), none, 0, []⟩,
    ⟨(some 24), .build [.int .i64 0, .int .i64 0] [(0, 1, (.c (.s (.int .i64 2))))], none, 1, []⟩,
    ⟨(some 25), .buildSlice 2 1 [.int .i64 0, .int .i64 0] [(0, 2, (.t 24))], none, 2, []⟩,
    ⟨(some 26), .append 2 16 (.t 23) (.t 25), none, 3, []⟩,
    ⟨(some 3), .move (.t 26), none, 4, []⟩])) (RC.region 3 [
    ⟨(some 21), .move (.t 4), none, 0, []⟩,
    ⟨(some 22), .bin .add (.t 21) (.c (.s (.int .i64 1))), none, 1, []⟩,
    ⟨(some 4), .move (.t 22), none, 2, []⟩]))
def detentlaw15_MutexFrees_l1 : RC :=
  RC.seq (RC.seq (RC.region 4 [
    ⟨(some 32), .move (.t 8), none, 0, []⟩,
    ⟨(some 33), .move (.t 0), none, 1, []⟩,
    ⟨(some 34), .len (.t 33), none, 2, []⟩,
    ⟨(some 35), .bin .lss (.t 32) (.t 34), none, 3, []⟩]) (RC.cond (.t 35) (RC.skip) (RC.exit 2))) (RC.seq (RC.block 3 (RC.seq (RC.region 4 [
    ⟨(some 38), .move (.t 5), none, 0, []⟩,
    ⟨(some 39), .move (.t 8), none, 1, []⟩,
    ⟨(some 40), .bin .add (.t 39) (.c (.s (.int .i64 1))), none, 2, []⟩,
    ⟨(some 41), .call F.mtx_All_Lock [(.t 38), (.t 40), (.c (.s (.int .i64 16)))], none, 3, []⟩]) (RC.seq (RC.region 4 [
    ⟨(some 42), .move (.t 0), none, 0, []⟩,
    ⟨(some 43), .move (.t 8), none, 1, []⟩,
    ⟨(some 44), .indexSl 1 (.t 42) (.t 43), none, 2, []⟩,
    ⟨(some 45), .load none (.t 44), none, 3, []⟩]) (RC.cond (.t 45) (RC.seq (RC.region 6 [
    ⟨(some 46), .move (.t 5), none, 0, []⟩,
    ⟨(some 47), .move (.t 8), none, 1, []⟩,
    ⟨(some 48), .bin .add (.t 47) (.c (.s (.int .i64 1))), none, 2, []⟩,
    ⟨(some 49), .move (.t 8), none, 3, []⟩,
    ⟨(some 50), .bin .add (.t 49) (.c (.s (.int .i64 1))), none, 4, []⟩,
    ⟨(some 51), .call F.mtx_All_SetBase [(.t 46), (.t 48), (.t 50)], none, 5, []⟩]) (RC.seq (RC.region 6 [
    ⟨(some 52), .move (.t 5), none, 0, []⟩,
    ⟨(some 53), .move (.t 8), none, 1, []⟩,
    ⟨(some 54), .bin .add (.t 53) (.c (.s (.int .i64 1))), none, 2, []⟩,
    ⟨(some 55), .move (.t 8), none, 3, []⟩,
    ⟨(some 56), .bin .add (.t 55) (.c (.s (.int .i64 1))), none, 4, []⟩,
    ⟨(some 57), .call F.mtx_All_Lock [(.t 52), (.t 54), (.t 56)], none, 5, []⟩]) (RC.region 3 [
    ⟨(some 58), .move (.t 7), none, 0, []⟩,
    ⟨(some 59), .bin .add (.t 58) (.c (.s (.int .i64 1))), none, 1, []⟩,
    ⟨(some 7), .move (.t 59), none, 2, []⟩]))) (RC.skip))))) (RC.region 3 [
    ⟨(some 36), .move (.t 8), none, 0, []⟩,
    ⟨(some 37), .bin .add (.t 36) (.c (.s (.int .i64 1))), none, 1, []⟩,
    ⟨(some 8), .move (.t 37), none, 2, []⟩]))
def detentlaw15_MutexFrees_l2 : RC :=
  RC.seq (RC.seq (RC.region 4 [
    ⟨(some 77), .move (.t 11), none, 0, []⟩,
    ⟨(some 78), .move (.t 0), none, 1, []⟩,
    ⟨(some 79), .len (.t 78), none, 2, []⟩,
    ⟨(some 80), .bin .lss (.t 77) (.t 79), none, 3, []⟩]) (RC.cond (.t 80) (RC.skip) (RC.exit 4))) (RC.seq (RC.block 5 (RC.seq (RC.region 4 [
    ⟨(some 83), .move (.t 0), none, 0, []⟩,
    ⟨(some 84), .move (.t 11), none, 1, []⟩,
    ⟨(some 85), .indexSl 1 (.t 83) (.t 84), none, 2, []⟩,
    ⟨(some 86), .load none (.t 85), none, 3, []⟩]) (RC.cond (.t 86) (RC.seq (RC.seq (RC.region 16 [
    ⟨(some 87), .move (.t 9), none, 0, []⟩,
    ⟨(some 88), .move (.t 10), none, 1, []⟩,
    ⟨(some 89), .indexSl 1 (.t 87) (.t 88), none, 2, []⟩,
    ⟨(some 90), .load none (.t 89), none, 3, []⟩,
    ⟨(some 91), .move (.t 11), none, 4, []⟩,
    ⟨(some 92), .bin .add (.t 91) (.c (.s (.int .i64 1))), none, 5, []⟩,
    ⟨(some 93), .bin .neq (.t 90) (.t 92), none, 6, []⟩,
    ⟨(some 94), .move (.t 93), none, 7, []⟩,
    ⟨(some 95), .move (.t 5), (some (94, false)), 8, []⟩,
    ⟨(some 96), .move (.t 11), (some (94, false)), 9, []⟩,
    ⟨(some 97), .bin .add (.t 96) (.c (.s (.int .i64 1))), (some (94, false)), 10, []⟩,
    ⟨(some 98), .call F.mtx_All_Owner [(.t 95), (.t 97)], (some (94, false)), 11, []⟩,
    ⟨(some 99), .move (.t 11), (some (94, false)), 12, []⟩,
    ⟨(some 100), .bin .add (.t 99) (.c (.s (.int .i64 1))), (some (94, false)), 13, []⟩,
    ⟨(some 101), .bin .neq (.t 98) (.t 100), (some (94, false)), 14, []⟩,
    ⟨(some 102), .pick (.t 94) (.c (.s (.bool true))) (.t 101), none, 15, []⟩]) (RC.cond (.t 102) (RC.seq (RC.region 1 [
    ⟨(some 2), .move (.c (.s (.bool false))), none, 0, []⟩]) (RC.ret)) (RC.skip))) (RC.region 3 [
    ⟨(some 103), .move (.t 10), none, 0, []⟩,
    ⟨(some 104), .bin .add (.t 103) (.c (.s (.int .i64 1))), none, 1, []⟩,
    ⟨(some 10), .move (.t 104), none, 2, []⟩])) (RC.seq (RC.region 5 [
    ⟨(some 105), .move (.t 5), none, 0, []⟩,
    ⟨(some 106), .move (.t 11), none, 1, []⟩,
    ⟨(some 107), .bin .add (.t 106) (.c (.s (.int .i64 1))), none, 2, []⟩,
    ⟨(some 108), .call F.mtx_All_Owner [(.t 105), (.t 107)], none, 3, []⟩,
    ⟨(some 109), .bin .neq (.t 108) (.c (.s (.int .i64 0))), none, 4, []⟩]) (RC.cond (.t 109) (RC.seq (RC.region 1 [
    ⟨(some 2), .move (.c (.s (.bool false))), none, 0, []⟩]) (RC.ret)) (RC.skip)))))) (RC.region 3 [
    ⟨(some 81), .move (.t 11), none, 0, []⟩,
    ⟨(some 82), .bin .add (.t 81) (.c (.s (.int .i64 1))), none, 1, []⟩,
    ⟨(some 11), .move (.t 82), none, 2, []⟩]))
def detentlaw15_MutexFrees_s3 : RC :=
  RC.seq (RC.region 1 [
    ⟨(some 2), .move (.c (.s (.bool true))), none, 0, []⟩]) (RC.ret)
def detentlaw15_MutexFrees_s4 : RC :=
  RC.seq (RC.region 3 [
    ⟨(some 60), .move (.t 5), none, 0, []⟩,
    ⟨(some 61), .call F.mtx_All_Free [(.t 60), (.c (.s (.int .i64 16)))], none, 1, []⟩,
    ⟨(some 9), .move (.t 61), none, 2, []⟩]) (RC.seq (RC.seq (RC.region 15 [
    ⟨(some 62), .move (.t 9), none, 0, []⟩,
    ⟨(some 63), .len (.t 62), none, 1, []⟩,
    ⟨(some 64), .move (.t 7), none, 2, []⟩,
    ⟨(some 65), .bin .neq (.t 63) (.t 64), none, 3, []⟩,
    ⟨(some 66), .move (.t 65), none, 4, []⟩,
    ⟨(some 67), .move (.t 5), (some (66, false)), 5, []⟩,
    ⟨(some 68), .call F.mtx_All_Pri [(.t 67), (.c (.s (.int .i64 16)))], (some (66, false)), 6, []⟩,
    ⟨(some 69), .bin .neq (.t 68) (.c (.s (.int .i64 16))), (some (66, false)), 7, []⟩,
    ⟨(some 70), .pick (.t 66) (.c (.s (.bool true))) (.t 69), none, 8, []⟩,
    ⟨(some 71), .move (.t 70), none, 9, []⟩,
    ⟨(some 72), .move (.t 5), (some (71, false)), 10, []⟩,
    ⟨(some 73), .call F.mtx_All_Held [(.t 72), (.c (.s (.int .i64 16)))], (some (71, false)), 11, []⟩,
    ⟨(some 74), .len (.t 73), (some (71, false)), 12, []⟩,
    ⟨(some 75), .bin .neq (.t 74) (.c (.s (.int .i64 0))), (some (71, false)), 13, []⟩,
    ⟨(some 76), .pick (.t 71) (.c (.s (.bool true))) (.t 75), none, 14, []⟩]) (RC.cond (.t 76) (RC.seq (RC.region 1 [
    ⟨(some 2), .move (.c (.s (.bool false))), none, 0, []⟩]) (RC.ret)) (RC.skip))) (RC.seq (RC.region 1 [
    ⟨(some 10), .move (.c (.s (.int .i64 0))), none, 0, []⟩]) (RC.seq (RC.seq (RC.region 1 [
    ⟨(some 11), .move (.c (.s (.int .i64 0))), none, 0, []⟩]) (RC.block 4 (RC.loop R.detentlaw15_MutexFrees_l2))) R.detentlaw15_MutexFrees_s3)))
def detentlaw15_MutexFrees_s5 : RC :=
  RC.seq (RC.region 7 [
    ⟨(some 28), .move (.t 3), none, 0, []⟩,
    ⟨(some 29), .call F.mtx_New [(.t 28)], none, 1, []⟩,
    ⟨(some 27), .move (.t 29), none, 2, []⟩,
    ⟨(some 30), .extract 0 (.t 27), none, 3, []⟩,
    ⟨(some 31), .extract 1 (.t 27), none, 4, []⟩,
    ⟨(some 5), .move (.t 30), none, 5, []⟩,
    ⟨(some 6), .move (.t 31), none, 6, []⟩]) (RC.seq (RC.region 1 [
    ⟨(some 7), .move (.c (.s (.int .i64 0))), none, 0, []⟩]) (RC.seq (RC.seq (RC.region 1 [
    ⟨(some 8), .move (.c (.s (.int .i64 0))), none, 0, []⟩]) (RC.block 2 (RC.loop R.detentlaw15_MutexFrees_l1))) R.detentlaw15_MutexFrees_s4))
def detentlaw15_MutexFrees : RFunc := RFunc.mk 110 [.tmp 2] (
  RC.seq (RC.region 1 [
    ⟨(some 2), .move (.c (.s (.bool false))), none, 0, []⟩]) (RC.seq (RC.seq (RC.region 2 [
    ⟨(some 12), .call F.detentlaw15_known [], none, 0, []⟩,
    ⟨(some 13), .un .not (.t 12), none, 1, []⟩]) (RC.cond (.t 13) (RC.seq (RC.region 1 [
    ⟨(some 2), .move (.c (.s (.bool false))), none, 0, []⟩]) (RC.ret)) (RC.skip))) (RC.seq (RC.seq (RC.region 3 [
    ⟨(some 14), .move (.t 0), none, 0, []⟩,
    ⟨(some 15), .len (.t 14), none, 1, []⟩,
    ⟨(some 16), .bin .gtr (.t 15) (.c (.s (.int .i64 8))), none, 2, []⟩]) (RC.cond (.t 16) (RC.seq (RC.region 1 [
    ⟨(some 2), .move (.c (.s (.bool true))), none, 0, []⟩]) (RC.ret)) (RC.skip))) (RC.seq (RC.region 1 [
    ⟨(some 3), .move (.c (.s (.slice none 0 0 1))), none, 0, []⟩]) (RC.seq (RC.seq (RC.region 1 [
    ⟨(some 4), .move (.c (.s (.int .i64 0))), none, 0, []⟩]) (RC.block 0 (RC.loop R.detentlaw15_MutexFrees_l0))) R.detentlaw15_MutexFrees_s5)))))
theorem detentlaw15_MutexFrees_ok : chkFunc Go.Proofs.Try.prog [] Go.Proofs.Try.f8 detentlaw15_MutexFrees = true := by kernel_rfl
def detentlaw15_MutexPlays_l0 : RC :=
  RC.seq (RC.seq (RC.region 2 [
    ⟨(some 198), .move (.t 24), none, 0, []⟩,
    ⟨(some 199), .bin .leq (.t 198) (.c (.s (.int .i64 16))), none, 1, []⟩]) (RC.cond (.t 199) (RC.skip) (RC.exit 3))) (RC.seq (RC.block 4 (RC.region 3 [
    ⟨(some 202), .move (.t 5), none, 0, []⟩,
    ⟨(some 203), .move (.t 24), none, 1, []⟩,
    ⟨(some 204), .call F.mtx_All_Free [(.t 202), (.t 203)], none, 2, []⟩])) (RC.region 3 [
    ⟨(some 200), .move (.t 24), none, 0, []⟩,
    ⟨(some 201), .bin .add (.t 200) (.c (.s (.int .i64 1))), none, 1, []⟩,
    ⟨(some 24), .move (.t 201), none, 2, []⟩]))
def detentlaw15_MutexPlays_s1 : RC :=
  RC.region 2 [
    ⟨(some 205), .move (.t 23), none, 0, []⟩,
    ⟨(some 5), .move (.t 205), none, 1, []⟩]
def detentlaw15_MutexPlays_s2 : RC :=
  RC.seq (RC.region 4 [
    ⟨(some 206), .move (.t 5), none, 0, []⟩,
    ⟨(some 207), .move (.t 7), none, 1, []⟩,
    ⟨(some 208), .call F.detentlaw15_same [(.t 206), (.t 207)], none, 2, []⟩,
    ⟨(some 209), .un .not (.t 208), none, 3, []⟩]) (RC.cond (.t 209) (RC.seq (RC.region 1 [
    ⟨(some 4), .move (.c (.s (.bool false))), none, 0, []⟩]) (RC.ret)) (RC.skip))
def detentlaw15_MutexPlays_s3 : RC :=
  RC.region 3 [
    ⟨(some 62), .move (.t 9), none, 0, []⟩,
    ⟨(some 63), .bin .add (.t 62) (.c (.s (.int .i64 1))), none, 1, []⟩,
    ⟨(some 9), .move (.t 63), none, 2, []⟩]
def detentlaw15_MutexPlays_l4 : RC :=
  RC.seq (RC.seq (RC.region 4 [
    ⟨(some 58), .move (.t 9), none, 0, []⟩,
    ⟨(some 59), .move (.t 1), none, 1, []⟩,
    ⟨(some 60), .len (.t 59), none, 2, []⟩,
    ⟨(some 61), .bin .lss (.t 58) (.t 60), none, 3, []⟩]) (RC.cond (.t 61) (RC.skip) (RC.exit 0))) (RC.seq (RC.block 1 (RC.seq (RC.region 6 [
    ⟨(some 64), .move (.t 1), none, 0, []⟩,
    ⟨(some 65), .move (.t 9), none, 1, []⟩,
    ⟨(some 66), .indexSl 4 (.t 64) (.t 65), none, 2, []⟩,
    ⟨(some 67), .load (some 4) (.t 66), none, 3, []⟩,
    ⟨(some 10), .newc [.int .i64 0, .int .i64 0, .int .i64 0, .int .i64 0], none, 4, []⟩,
    ⟨none, .store 4 (.t 10) (.t 67), none, 5, []⟩]) (RC.seq (RC.seq (RC.region 2 [
    ⟨(some 68), .fieldAddr 0 (.t 10), none, 0, []⟩,
    ⟨(some 69), .load none (.t 68), none, 1, []⟩]) (RC.block 2 (RC.seq (RC.region 2 [
    ⟨(some 71), .bin .eql (.t 69) (.c (.s (.int .i64 1))), none, 0, []⟩,
    ⟨(some 70), .move (.t 71), none, 1, []⟩]) (RC.cond (.t 70) (RC.seq (RC.region 11 [
    ⟨(some 73), .move (.t 5), none, 0, []⟩,
    ⟨(some 74), .fieldAddr 1 (.t 10), none, 1, []⟩,
    ⟨(some 75), .load none (.t 74), none, 2, []⟩,
    ⟨(some 76), .fieldAddr 2 (.t 10), none, 3, []⟩,
    ⟨(some 77), .load none (.t 76), none, 4, []⟩,
    ⟨(some 78), .call F.mtx_All_Lock [(.t 73), (.t 75), (.t 77)], none, 5, []⟩,
    ⟨(some 72), .move (.t 78), none, 6, []⟩,
    ⟨(some 79), .extract 0 (.t 72), none, 7, []⟩,
    ⟨(some 80), .extract 1 (.t 72), none, 8, []⟩,
    ⟨(some 11), .move (.t 79), none, 9, []⟩,
    ⟨(some 12), .move (.t 80), none, 10, []⟩]) (RC.seq (RC.region 11 [
    ⟨(some 82), .move (.t 7), none, 0, []⟩,
    ⟨(some 83), .fieldAddr 1 (.t 10), none, 1, []⟩,
    ⟨(some 84), .load none (.t 83), none, 2, []⟩,
    ⟨(some 85), .fieldAddr 2 (.t 10), none, 3, []⟩,
    ⟨(some 86), .load none (.t 85), none, 4, []⟩,
    ⟨(some 87), .call F.detentref15_All_Lock [(.t 82), (.t 84), (.t 86)], none, 5, []⟩,
    ⟨(some 81), .move (.t 87), none, 6, []⟩,
    ⟨(some 88), .extract 0 (.t 81), none, 7, []⟩,
    ⟨(some 89), .extract 1 (.t 81), none, 8, []⟩,
    ⟨(some 13), .move (.t 88), none, 9, []⟩,
    ⟨(some 14), .move (.t 89), none, 10, []⟩]) (RC.seq (RC.region 8 [
    ⟨(some 90), .move (.t 11), none, 0, []⟩,
    ⟨(some 91), .move (.t 13), none, 1, []⟩,
    ⟨(some 92), .eqs .bool true (.t 90) (.t 91), none, 2, []⟩,
    ⟨(some 93), .move (.t 92), none, 3, []⟩,
    ⟨(some 94), .move (.t 12), (some (93, false)), 4, []⟩,
    ⟨(some 95), .move (.t 14), (some (93, false)), 5, []⟩,
    ⟨(some 96), .bin .neq (.t 94) (.t 95), (some (93, false)), 6, []⟩,
    ⟨(some 97), .pick (.t 93) (.c (.s (.bool true))) (.t 96), none, 7, []⟩]) (RC.cond (.t 97) (RC.seq (RC.region 1 [
    ⟨(some 4), .move (.c (.s (.bool false))), none, 0, []⟩]) (RC.ret)) (RC.skip))))) (RC.seq (RC.region 2 [
    ⟨(some 99), .bin .eql (.t 69) (.c (.s (.int .i64 2))), none, 0, []⟩,
    ⟨(some 98), .move (.t 99), none, 1, []⟩]) (RC.cond (.t 98) (RC.seq (RC.region 11 [
    ⟨(some 101), .move (.t 5), none, 0, []⟩,
    ⟨(some 102), .fieldAddr 1 (.t 10), none, 1, []⟩,
    ⟨(some 103), .load none (.t 102), none, 2, []⟩,
    ⟨(some 104), .fieldAddr 2 (.t 10), none, 3, []⟩,
    ⟨(some 105), .load none (.t 104), none, 4, []⟩,
    ⟨(some 106), .call F.mtx_All_TryLock [(.t 101), (.t 103), (.t 105)], none, 5, []⟩,
    ⟨(some 100), .move (.t 106), none, 6, []⟩,
    ⟨(some 107), .extract 0 (.t 100), none, 7, []⟩,
    ⟨(some 108), .extract 1 (.t 100), none, 8, []⟩,
    ⟨(some 15), .move (.t 107), none, 9, []⟩,
    ⟨(some 16), .move (.t 108), none, 10, []⟩]) (RC.seq (RC.region 11 [
    ⟨(some 110), .move (.t 7), none, 0, []⟩,
    ⟨(some 111), .fieldAddr 1 (.t 10), none, 1, []⟩,
    ⟨(some 112), .load none (.t 111), none, 2, []⟩,
    ⟨(some 113), .fieldAddr 2 (.t 10), none, 3, []⟩,
    ⟨(some 114), .load none (.t 113), none, 4, []⟩,
    ⟨(some 115), .call F.detentref15_All_TryLock [(.t 110), (.t 112), (.t 114)], none, 5, []⟩,
    ⟨(some 109), .move (.t 115), none, 6, []⟩,
    ⟨(some 116), .extract 0 (.t 109), none, 7, []⟩,
    ⟨(some 117), .extract 1 (.t 109), none, 8, []⟩,
    ⟨(some 17), .move (.t 116), none, 9, []⟩,
    ⟨(some 18), .move (.t 117), none, 10, []⟩]) (RC.seq (RC.region 8 [
    ⟨(some 118), .move (.t 15), none, 0, []⟩,
    ⟨(some 119), .move (.t 17), none, 1, []⟩,
    ⟨(some 120), .eqs .bool true (.t 118) (.t 119), none, 2, []⟩,
    ⟨(some 121), .move (.t 120), none, 3, []⟩,
    ⟨(some 122), .move (.t 16), (some (121, false)), 4, []⟩,
    ⟨(some 123), .move (.t 18), (some (121, false)), 5, []⟩,
    ⟨(some 124), .bin .neq (.t 122) (.t 123), (some (121, false)), 6, []⟩,
    ⟨(some 125), .pick (.t 121) (.c (.s (.bool true))) (.t 124), none, 7, []⟩]) (RC.cond (.t 125) (RC.seq (RC.region 1 [
    ⟨(some 4), .move (.c (.s (.bool false))), none, 0, []⟩]) (RC.ret)) (RC.skip))))) (RC.seq (RC.region 2 [
    ⟨(some 127), .bin .eql (.t 69) (.c (.s (.int .i64 3))), none, 0, []⟩,
    ⟨(some 126), .move (.t 127), none, 1, []⟩]) (RC.cond (.t 126) (RC.seq (RC.region 11 [
    ⟨(some 129), .move (.t 5), none, 0, []⟩,
    ⟨(some 130), .fieldAddr 1 (.t 10), none, 1, []⟩,
    ⟨(some 131), .load none (.t 130), none, 2, []⟩,
    ⟨(some 132), .fieldAddr 2 (.t 10), none, 3, []⟩,
    ⟨(some 133), .load none (.t 132), none, 4, []⟩,
    ⟨(some 134), .call F.mtx_All_Unlock [(.t 129), (.t 131), (.t 133)], none, 5, []⟩,
    ⟨(some 128), .move (.t 134), none, 6, []⟩,
    ⟨(some 135), .extract 0 (.t 128), none, 7, []⟩,
    ⟨(some 136), .extract 1 (.t 128), none, 8, []⟩,
    ⟨(some 19), .move (.t 135), none, 9, []⟩,
    ⟨(some 20), .move (.t 136), none, 10, []⟩]) (RC.seq (RC.region 11 [
    ⟨(some 138), .move (.t 7), none, 0, []⟩,
    ⟨(some 139), .fieldAddr 1 (.t 10), none, 1, []⟩,
    ⟨(some 140), .load none (.t 139), none, 2, []⟩,
    ⟨(some 141), .fieldAddr 2 (.t 10), none, 3, []⟩,
    ⟨(some 142), .load none (.t 141), none, 4, []⟩,
    ⟨(some 143), .call F.detentref15_All_Unlock [(.t 138), (.t 140), (.t 142)], none, 5, []⟩,
    ⟨(some 137), .move (.t 143), none, 6, []⟩,
    ⟨(some 144), .extract 0 (.t 137), none, 7, []⟩,
    ⟨(some 145), .extract 1 (.t 137), none, 8, []⟩,
    ⟨(some 21), .move (.t 144), none, 9, []⟩,
    ⟨(some 22), .move (.t 145), none, 10, []⟩]) (RC.seq (RC.region 8 [
    ⟨(some 146), .move (.t 19), none, 0, []⟩,
    ⟨(some 147), .move (.t 21), none, 1, []⟩,
    ⟨(some 148), .bin .neq (.t 146) (.t 147), none, 2, []⟩,
    ⟨(some 149), .move (.t 148), none, 3, []⟩,
    ⟨(some 150), .move (.t 20), (some (149, false)), 4, []⟩,
    ⟨(some 151), .move (.t 22), (some (149, false)), 5, []⟩,
    ⟨(some 152), .bin .neq (.t 150) (.t 151), (some (149, false)), 6, []⟩,
    ⟨(some 153), .pick (.t 149) (.c (.s (.bool true))) (.t 152), none, 7, []⟩]) (RC.cond (.t 153) (RC.seq (RC.region 1 [
    ⟨(some 4), .move (.c (.s (.bool false))), none, 0, []⟩]) (RC.ret)) (RC.skip))))) (RC.seq (RC.region 2 [
    ⟨(some 155), .bin .eql (.t 69) (.c (.s (.int .i64 4))), none, 0, []⟩,
    ⟨(some 154), .move (.t 155), none, 1, []⟩]) (RC.cond (.t 154) (RC.seq (RC.region 13 [
    ⟨(some 156), .move (.t 5), none, 0, []⟩,
    ⟨(some 157), .fieldAddr 2 (.t 10), none, 1, []⟩,
    ⟨(some 158), .load none (.t 157), none, 2, []⟩,
    ⟨(some 159), .fieldAddr 3 (.t 10), none, 3, []⟩,
    ⟨(some 160), .load none (.t 159), none, 4, []⟩,
    ⟨(some 162), .move (.t 7), none, 6, []⟩,
    ⟨(some 163), .fieldAddr 2 (.t 10), none, 7, []⟩,
    ⟨(some 164), .load none (.t 163), none, 8, []⟩,
    ⟨(some 165), .fieldAddr 3 (.t 10), none, 9, []⟩,
    ⟨(some 166), .load none (.t 165), none, 10, []⟩,
    ⟨(some 161), .call F.mtx_All_SetBase [(.t 156), (.t 158), (.t 160)], none, 5, [⟨164, none, (.t 163), none⟩, ⟨166, none, (.t 165), none⟩]⟩,
    ⟨(some 167), .call F.detentref15_All_SetBase [(.t 162), (.t 164), (.t 166)], none, 11, []⟩,
    ⟨(some 168), .bin .neq (.t 161) (.t 167), none, 12, []⟩]) (RC.cond (.t 168) (RC.seq (RC.region 1 [
    ⟨(some 4), .move (.c (.s (.bool false))), none, 0, []⟩]) (RC.ret)) (RC.skip))) (RC.seq (RC.region 2 [
    ⟨(some 170), .bin .eql (.t 69) (.c (.s (.int .i64 5))), none, 0, []⟩,
    ⟨(some 169), .move (.t 170), none, 1, []⟩]) (RC.cond (.t 169) (RC.seq (RC.region 9 [
    ⟨(some 171), .move (.t 5), none, 0, []⟩,
    ⟨(some 172), .fieldAddr 2 (.t 10), none, 1, []⟩,
    ⟨(some 173), .load none (.t 172), none, 2, []⟩,
    ⟨(some 175), .move (.t 7), none, 4, []⟩,
    ⟨(some 176), .fieldAddr 2 (.t 10), none, 5, []⟩,
    ⟨(some 177), .load none (.t 176), none, 6, []⟩,
    ⟨(some 174), .call F.mtx_All_Drop [(.t 171), (.t 173)], none, 3, [⟨177, none, (.t 176), none⟩]⟩,
    ⟨(some 178), .call F.detentref15_All_Drop [(.t 175), (.t 177)], none, 7, []⟩,
    ⟨(some 179), .eqs .bool true (.t 174) (.t 178), none, 8, []⟩]) (RC.cond (.t 179) (RC.seq (RC.region 1 [
    ⟨(some 4), .move (.c (.s (.bool false))), none, 0, []⟩]) (RC.ret)) (RC.skip))) (RC.seq (RC.region 2 [
    ⟨(some 181), .bin .eql (.t 69) (.c (.s (.int .i64 6))), none, 0, []⟩,
    ⟨(some 180), .move (.t 181), none, 1, []⟩]) (RC.cond (.t 180) (RC.seq (RC.region 10 [
    ⟨(some 182), .move (.t 5), none, 0, []⟩,
    ⟨(some 183), .fieldAddr 2 (.t 10), none, 1, []⟩,
    ⟨(some 184), .load none (.t 183), none, 2, []⟩,
    ⟨(some 186), .move (.t 7), none, 4, []⟩,
    ⟨(some 187), .fieldAddr 2 (.t 10), none, 5, []⟩,
    ⟨(some 188), .load none (.t 187), none, 6, []⟩,
    ⟨(some 185), .call F.mtx_All_Free [(.t 182), (.t 184)], none, 3, [⟨188, none, (.t 187), none⟩]⟩,
    ⟨(some 189), .call F.detentref15_All_Free [(.t 186), (.t 188)], none, 7, []⟩,
    ⟨(some 190), .call F.detentlaw3_Same [(.t 185), (.t 189)], none, 8, []⟩,
    ⟨(some 191), .un .not (.t 190), none, 9, []⟩]) (RC.cond (.t 191) (RC.seq (RC.region 1 [
    ⟨(some 4), .move (.c (.s (.bool false))), none, 0, []⟩]) (RC.ret)) (RC.skip))) (RC.seq (RC.region 2 [
    ⟨(some 193), .bin .eql (.t 69) (.c (.s (.int .i64 7))), none, 0, []⟩,
    ⟨(some 192), .move (.t 193), none, 1, []⟩]) (RC.cond (.t 192) (RC.seq (RC.region 3 [
    ⟨(some 194), .move (.t 5), none, 0, []⟩,
    ⟨(some 195), .call F.mtx_All_Twin [(.t 194)], none, 1, []⟩,
    ⟨(some 23), .move (.t 195), none, 2, []⟩]) (RC.seq (RC.seq (RC.region 2 [
    ⟨(some 196), .move (.t 23), none, 0, []⟩,
    ⟨(some 197), .eqs .ptr false (.t 196) (.c (.s (.ptr none))), none, 1, []⟩]) (RC.cond (.t 197) (RC.seq (RC.region 1 [
    ⟨(some 4), .move (.c (.s (.bool false))), none, 0, []⟩]) (RC.ret)) (RC.skip))) (RC.seq (RC.seq (RC.region 1 [
    ⟨(some 24), .move (.c (.s (.int .i64 1))), none, 0, []⟩]) (RC.block 3 (RC.loop R.detentlaw15_MutexPlays_l0))) R.detentlaw15_MutexPlays_s1))) (RC.skip))))))))))))))))) R.detentlaw15_MutexPlays_s2))) R.detentlaw15_MutexPlays_s3)
def detentlaw15_MutexPlays_s5 : RC :=
  RC.seq (RC.region 1 [
    ⟨(some 4), .move (.c (.s (.bool true))), none, 0, []⟩]) (RC.ret)
def detentlaw15_MutexPlays : RFunc := RFunc.mk 210 [.tmp 4] (
  RC.seq (RC.region 1 [
    ⟨(some 4), .move (.c (.s (.bool false))), none, 0, []⟩]) (RC.seq (RC.seq (RC.region 2 [
    ⟨(some 25), .call F.detentlaw15_known [], none, 0, []⟩,
    ⟨(some 26), .un .not (.t 25), none, 1, []⟩]) (RC.cond (.t 26) (RC.seq (RC.region 1 [
    ⟨(some 4), .move (.c (.s (.bool false))), none, 0, []⟩]) (RC.ret)) (RC.skip))) (RC.seq (RC.seq (RC.region 8 [
    ⟨(some 27), .move (.t 1), none, 0, []⟩,
    ⟨(some 28), .len (.t 27), none, 1, []⟩,
    ⟨(some 29), .bin .gtr (.t 28) (.c (.s (.int .i64 80))), none, 2, []⟩,
    ⟨(some 30), .move (.t 29), none, 3, []⟩,
    ⟨(some 31), .move (.t 0), (some (30, false)), 4, []⟩,
    ⟨(some 32), .len (.t 31), (some (30, false)), 5, []⟩,
    ⟨(some 33), .bin .gtr (.t 32) (.c (.s (.int .i64 20))), (some (30, false)), 6, []⟩,
    ⟨(some 34), .pick (.t 30) (.c (.s (.bool true))) (.t 33), none, 7, []⟩]) (RC.cond (.t 34) (RC.seq (RC.region 1 [
    ⟨(some 4), .move (.c (.s (.bool true))), none, 0, []⟩]) (RC.ret)) (RC.skip))) (RC.seq (RC.region 7 [
    ⟨(some 36), .move (.t 0), none, 0, []⟩,
    ⟨(some 37), .call F.mtx_New [(.t 36)], none, 1, []⟩,
    ⟨(some 35), .move (.t 37), none, 2, []⟩,
    ⟨(some 38), .extract 0 (.t 35), none, 3, []⟩,
    ⟨(some 39), .extract 1 (.t 35), none, 4, []⟩,
    ⟨(some 5), .move (.t 38), none, 5, []⟩,
    ⟨(some 6), .move (.t 39), none, 6, []⟩]) (RC.seq (RC.region 8 [
    ⟨(some 41), .move (.t 0), none, 0, []⟩,
    ⟨(some 42), .call F.detentlaw15_Kinds [(.t 41)], none, 1, []⟩,
    ⟨(some 43), .call F.detentref15_New [(.t 42)], none, 2, []⟩,
    ⟨(some 40), .move (.t 43), none, 3, []⟩,
    ⟨(some 44), .extract 0 (.t 40), none, 4, []⟩,
    ⟨(some 45), .extract 1 (.t 40), none, 5, []⟩,
    ⟨(some 7), .move (.t 44), none, 6, []⟩,
    ⟨(some 8), .move (.t 45), none, 7, []⟩]) (RC.seq (RC.seq (RC.region 10 [
    ⟨(some 46), .move (.t 6), none, 0, []⟩,
    ⟨(some 47), .move (.t 8), none, 1, []⟩,
    ⟨(some 48), .bin .neq (.t 46) (.t 47), none, 2, []⟩,
    ⟨(some 49), .move (.t 48), none, 3, []⟩,
    ⟨(some 50), .move (.t 5), (some (49, false)), 4, []⟩,
    ⟨(some 51), .eqs .ptr false (.t 50) (.c (.s (.ptr none))), (some (49, false)), 5, []⟩,
    ⟨(some 52), .move (.t 8), (some (49, false)), 6, []⟩,
    ⟨(some 53), .bin .neq (.t 52) (.c (.s (.int .i64 0))), (some (49, false)), 7, []⟩,
    ⟨(some 54), .eqs .bool true (.t 51) (.t 53), (some (49, false)), 8, []⟩,
    ⟨(some 55), .pick (.t 49) (.c (.s (.bool true))) (.t 54), none, 9, []⟩]) (RC.cond (.t 55) (RC.seq (RC.region 1 [
    ⟨(some 4), .move (.c (.s (.bool false))), none, 0, []⟩]) (RC.ret)) (RC.skip))) (RC.seq (RC.seq (RC.region 2 [
    ⟨(some 56), .move (.t 7), none, 0, []⟩,
    ⟨(some 57), .eqs .ptr false (.t 56) (.c (.s (.ptr none))), none, 1, []⟩]) (RC.cond (.t 57) (RC.seq (RC.region 1 [
    ⟨(some 4), .move (.c (.s (.bool true))), none, 0, []⟩]) (RC.ret)) (RC.skip))) (RC.seq (RC.seq (RC.region 1 [
    ⟨(some 9), .move (.c (.s (.int .i64 0))), none, 0, []⟩]) (RC.block 0 (RC.loop R.detentlaw15_MutexPlays_l4))) R.detentlaw15_MutexPlays_s5))))))))
theorem detentlaw15_MutexPlays_ok : chkFunc Go.Proofs.Try.prog [] Go.Proofs.Try.f9 detentlaw15_MutexPlays = true := by kernel_rfl
def detentlaw15_Kinds_l0 : RC :=
  RC.seq (RC.seq (RC.region 4 [
    ⟨(some 5), .move (.t 4), none, 0, []⟩,
    ⟨(some 6), .move (.t 0), none, 1, []⟩,
    ⟨(some 7), .len (.t 6), none, 2, []⟩,
    ⟨(some 8), .bin .lss (.t 5) (.t 7), none, 3, []⟩]) (RC.cond (.t 8) (RC.skip) (RC.exit 0))) (RC.seq (RC.block 1 (RC.region 15 [
    ⟨(some 11), .move (.t 3), none, 0, []⟩,
    ⟨(some 12), .move (.t 0), none, 1, []⟩,
    ⟨(some 13), .move (.t 4), none, 2, []⟩,
    ⟨(some 14), .indexSl 2 (.t 12) (.t 13), none, 3, []⟩,
    ⟨(some 15), .fieldAddr 0 (.t 14), none, 4, []⟩,
    ⟨(some 16), .load none (.t 15), none, 5, []⟩,
    ⟨(some 17), .move (.t 0), none, 6, []⟩,
    ⟨(some 18), .move (.t 4), none, 7, []⟩,
    ⟨(some 19), .indexSl 2 (.t 17) (.t 18), none, 8, []⟩,
    ⟨(some 20), .fieldAddr 1 (.t 19), none, 9, []⟩,
    ⟨(some 21), .load none (.t 20), none, 10, []⟩,
    ⟨(some 22), .build [.int .i64 0, .int .i64 0] [(0, 1, (.t 16)), (1, 1, (.t 21))], none, 11, []⟩,
    ⟨(some 23), .buildSlice 2 1 [.int .i64 0, .int .i64 0] [(0, 2, (.t 22))], none, 12, []⟩,
    ⟨(some 24), .append 2 16 (.t 11) (.t 23), none, 13, []⟩,
    ⟨(some 3), .move (.t 24), none, 14, []⟩])) (RC.region 3 [
    ⟨(some 9), .move (.t 4), none, 0, []⟩,
    ⟨(some 10), .bin .add (.t 9) (.c (.s (.int .i64 1))), none, 1, []⟩,
    ⟨(some 4), .move (.t 10), none, 2, []⟩]))
def detentlaw15_Kinds_s1 : RC :=
  RC.seq (RC.region 2 [
    ⟨(some 25), .move (.t 3), none, 0, []⟩,
    ⟨(some 2), .move (.t 25), none, 1, []⟩]) (RC.ret)
def detentlaw15_Kinds : RFunc := RFunc.mk 26 [.tmp 2] (
  RC.seq (RC.region 1 [
    ⟨(some 2), .move (.c (.s (.slice none 0 0 1))), none, 0, []⟩]) (RC.seq (RC.region 1 [
    ⟨(some 3), .move (.c (.s (.slice none 0 0 1))), none, 0, []⟩]) (RC.seq (RC.seq (RC.region 1 [
    ⟨(some 4), .move (.c (.s (.int .i64 0))), none, 0, []⟩]) (RC.block 0 (RC.loop R.detentlaw15_Kinds_l0))) R.detentlaw15_Kinds_s1)))
theorem detentlaw15_Kinds_ok : chkFunc Go.Proofs.Try.prog [] Go.Proofs.Try.f22 detentlaw15_Kinds = true := by kernel_rfl
def detentlaw3_Same_l0 : RC :=
  RC.seq (RC.seq (RC.region 4 [
    ⟨(some 11), .move (.t 5), none, 0, []⟩,
    ⟨(some 12), .move (.t 0), none, 1, []⟩,
    ⟨(some 13), .len (.t 12), none, 2, []⟩,
    ⟨(some 14), .bin .lss (.t 11) (.t 13), none, 3, []⟩]) (RC.cond (.t 14) (RC.skip) (RC.exit 0))) (RC.seq (RC.block 1 (RC.seq (RC.region 9 [
    ⟨(some 17), .move (.t 0), none, 0, []⟩,
    ⟨(some 18), .move (.t 5), none, 1, []⟩,
    ⟨(some 19), .indexSl 1 (.t 17) (.t 18), none, 2, []⟩,
    ⟨(some 20), .load none (.t 19), none, 3, []⟩,
    ⟨(some 21), .move (.t 1), none, 4, []⟩,
    ⟨(some 22), .move (.t 5), none, 5, []⟩,
    ⟨(some 23), .indexSl 1 (.t 21) (.t 22), none, 6, []⟩,
    ⟨(some 24), .load none (.t 23), none, 7, []⟩,
    ⟨(some 25), .bin .neq (.t 20) (.t 24), none, 8, []⟩]) (RC.cond (.t 25) (RC.seq (RC.region 1 [
    ⟨(some 4), .move (.c (.s (.bool false))), none, 0, []⟩]) (RC.ret)) (RC.skip)))) (RC.region 3 [
    ⟨(some 15), .move (.t 5), none, 0, []⟩,
    ⟨(some 16), .bin .add (.t 15) (.c (.s (.int .i64 1))), none, 1, []⟩,
    ⟨(some 5), .move (.t 16), none, 2, []⟩]))
def detentlaw3_Same_s1 : RC :=
  RC.seq (RC.region 1 [
    ⟨(some 4), .move (.c (.s (.bool true))), none, 0, []⟩]) (RC.ret)
def detentlaw3_Same : RFunc := RFunc.mk 26 [.tmp 4] (
  RC.seq (RC.region 1 [
    ⟨(some 4), .move (.c (.s (.bool false))), none, 0, []⟩]) (RC.seq (RC.seq (RC.region 5 [
    ⟨(some 6), .move (.t 0), none, 0, []⟩,
    ⟨(some 7), .len (.t 6), none, 1, []⟩,
    ⟨(some 8), .move (.t 1), none, 2, []⟩,
    ⟨(some 9), .len (.t 8), none, 3, []⟩,
    ⟨(some 10), .bin .neq (.t 7) (.t 9), none, 4, []⟩]) (RC.cond (.t 10) (RC.seq (RC.region 1 [
    ⟨(some 4), .move (.c (.s (.bool false))), none, 0, []⟩]) (RC.ret)) (RC.skip))) (RC.seq (RC.seq (RC.region 1 [
    ⟨(some 5), .move (.c (.s (.int .i64 0))), none, 0, []⟩]) (RC.block 0 (RC.loop R.detentlaw3_Same_l0))) R.detentlaw3_Same_s1)))
theorem detentlaw3_Same_ok : chkFunc Go.Proofs.Try.prog [] Go.Proofs.Try.f29 detentlaw3_Same = true := by kernel_rfl
def detentlaw15_known : RFunc := RFunc.mk 115 [.tmp 0] (
  RC.seq (RC.region 1 [
    ⟨(some 0), .move (.c (.s (.bool false))), none, 0, []⟩]) (RC.seq (RC.region 9 [
    ⟨(some 17), .build [.int .i64 0, .int .i64 0] [(0, 1, (.c (.s (.int .i64 2))))], none, 0, []⟩,
    ⟨(some 18), .build [.int .i64 0, .int .i64 0] [(0, 1, (.c (.s (.int .i64 3)))), (1, 1, (.c (.s (.int .i64 2))))], none, 1, []⟩,
    ⟨(some 19), .buildSlice 2 2 [.int .i64 0, .int .i64 0, .int .i64 0, .int .i64 0] [(0, 2, (.t 17)), (2, 2, (.t 18))], none, 2, []⟩,
    ⟨(some 20), .call F.mtx_New [(.t 19)], none, 3, []⟩,
    ⟨(some 16), .move (.t 20), none, 4, []⟩,
    ⟨(some 21), .extract 0 (.t 16), none, 5, []⟩,
    ⟨(some 22), .extract 1 (.t 16), none, 6, []⟩,
    ⟨(some 1), .move (.t 21), none, 7, []⟩,
    ⟨(some 2), .move (.t 22), none, 8, []⟩]) (RC.seq (RC.seq (RC.region 6 [
    ⟨(some 23), .move (.t 2), none, 0, []⟩,
    ⟨(some 24), .bin .neq (.t 23) (.c (.s (.int .i64 0))), none, 1, []⟩,
    ⟨(some 25), .move (.t 24), none, 2, []⟩,
    ⟨(some 26), .move (.t 1), (some (25, false)), 3, []⟩,
    ⟨(some 27), .eqs .ptr false (.t 26) (.c (.s (.ptr none))), (some (25, false)), 4, []⟩,
    ⟨(some 28), .pick (.t 25) (.c (.s (.bool true))) (.t 27), none, 5, []⟩]) (RC.cond (.t 28) (RC.seq (RC.region 1 [
    ⟨(some 0), .move (.c (.s (.bool false))), none, 0, []⟩]) (RC.ret)) (RC.skip))) (RC.seq (RC.region 3 [
    ⟨(some 29), .move (.t 1), none, 0, []⟩,
    ⟨(some 30), .call F.mtx_All_SetBase [(.t 29), (.c (.s (.int .i64 1))), (.c (.s (.int .i64 9)))], none, 1, []⟩,
    ⟨(some 3), .move (.t 30), none, 2, []⟩]) (RC.seq (RC.region 3 [
    ⟨(some 31), .move (.t 1), none, 0, []⟩,
    ⟨(some 32), .call F.mtx_All_SetBase [(.t 31), (.c (.s (.int .i64 2))), (.c (.s (.int .i64 4)))], none, 1, []⟩,
    ⟨(some 4), .move (.t 32), none, 2, []⟩]) (RC.seq (RC.region 7 [
    ⟨(some 34), .move (.t 1), none, 0, []⟩,
    ⟨(some 35), .call F.mtx_All_Lock [(.t 34), (.c (.s (.int .i64 1))), (.c (.s (.int .i64 1)))], none, 1, []⟩,
    ⟨(some 33), .move (.t 35), none, 2, []⟩,
    ⟨(some 36), .extract 0 (.t 33), none, 3, []⟩,
    ⟨(some 37), .extract 1 (.t 33), none, 4, []⟩,
    ⟨(some 5), .move (.t 36), none, 5, []⟩,
    ⟨(some 6), .move (.t 37), none, 6, []⟩]) (RC.seq (RC.region 7 [
    ⟨(some 39), .move (.t 1), none, 0, []⟩,
    ⟨(some 40), .call F.mtx_All_Lock [(.t 39), (.c (.s (.int .i64 1))), (.c (.s (.int .i64 2)))], none, 1, []⟩,
    ⟨(some 38), .move (.t 40), none, 2, []⟩,
    ⟨(some 41), .extract 0 (.t 38), none, 3, []⟩,
    ⟨(some 42), .extract 1 (.t 38), none, 4, []⟩,
    ⟨(some 7), .move (.t 41), none, 5, []⟩,
    ⟨(some 8), .move (.t 42), none, 6, []⟩]) (RC.seq (RC.region 3 [
    ⟨(some 43), .move (.t 1), none, 0, []⟩,
    ⟨(some 44), .call F.mtx_All_Pri [(.t 43), (.c (.s (.int .i64 1)))], none, 1, []⟩,
    ⟨(some 9), .move (.t 44), none, 2, []⟩]) (RC.seq (RC.region 7 [
    ⟨(some 46), .move (.t 1), none, 0, []⟩,
    ⟨(some 47), .call F.mtx_All_Unlock [(.t 46), (.c (.s (.int .i64 1))), (.c (.s (.int .i64 1)))], none, 1, []⟩,
    ⟨(some 45), .move (.t 47), none, 2, []⟩,
    ⟨(some 48), .extract 0 (.t 45), none, 3, []⟩,
    ⟨(some 49), .extract 1 (.t 45), none, 4, []⟩,
    ⟨(some 10), .move (.t 48), none, 5, []⟩,
    ⟨(some 11), .move (.t 49), none, 6, []⟩]) (RC.seq (RC.region 7 [
    ⟨(some 51), .move (.t 1), none, 0, []⟩,
    ⟨(some 52), .call F.mtx_All_Unlock [(.t 51), (.c (.s (.int .i64 1))), (.c (.s (.int .i64 1)))], none, 1, []⟩,
    ⟨(some 50), .move (.t 52), none, 2, []⟩,
    ⟨(some 53), .extract 0 (.t 50), none, 3, []⟩,
    ⟨(some 54), .extract 1 (.t 50), none, 4, []⟩,
    ⟨(some 12), .move (.t 53), none, 5, []⟩,
    ⟨(some 13), .move (.t 54), none, 6, []⟩]) (RC.seq (RC.region 7 [
    ⟨(some 56), .move (.t 1), none, 0, []⟩,
    ⟨(some 57), .call F.mtx_All_TryLock [(.t 56), (.c (.s (.int .i64 2))), (.c (.s (.int .i64 1)))], none, 1, []⟩,
    ⟨(some 55), .move (.t 57), none, 2, []⟩,
    ⟨(some 58), .extract 0 (.t 55), none, 3, []⟩,
    ⟨(some 59), .extract 1 (.t 55), none, 4, []⟩,
    ⟨(some 14), .move (.t 58), none, 5, []⟩,
    ⟨(some 15), .move (.t 59), none, 6, []⟩]) (RC.seq (RC.region 56 [
    ⟨(some 60), .move (.t 3), none, 0, []⟩,
    ⟨(some 61), .move (.t 4), none, 1, []⟩,
    ⟨(some 62), .bin .add (.t 60) (.t 61), none, 2, []⟩,
    ⟨(some 63), .move (.t 6), none, 3, []⟩,
    ⟨(some 64), .bin .add (.t 62) (.t 63), none, 4, []⟩,
    ⟨(some 65), .move (.t 8), none, 5, []⟩,
    ⟨(some 66), .bin .add (.t 64) (.t 65), none, 6, []⟩,
    ⟨(some 67), .move (.t 11), none, 7, []⟩,
    ⟨(some 68), .bin .add (.t 66) (.t 67), none, 8, []⟩,
    ⟨(some 69), .move (.t 15), none, 9, []⟩,
    ⟨(some 70), .bin .add (.t 68) (.t 69), none, 10, []⟩,
    ⟨(some 71), .bin .eql (.t 70) (.c (.s (.int .i64 0))), none, 11, []⟩,
    ⟨(some 72), .move (.t 71), none, 12, []⟩,
    ⟨(some 73), .move (.t 5), (some (72, true)), 13, []⟩,
    ⟨(some 74), .pick (.t 72) (.t 73) (.c (.s (.bool false))), none, 14, []⟩,
    ⟨(some 75), .move (.t 74), none, 15, []⟩,
    ⟨(some 76), .move (.t 7), (some (75, true)), 16, []⟩,
    ⟨(some 77), .un .not (.t 76), (some (75, true)), 17, []⟩,
    ⟨(some 78), .pick (.t 75) (.t 77) (.c (.s (.bool false))), none, 18, []⟩,
    ⟨(some 79), .move (.t 78), none, 19, []⟩,
    ⟨(some 80), .move (.t 9), (some (79, true)), 20, []⟩,
    ⟨(some 81), .bin .eql (.t 80) (.c (.s (.int .i64 4))), (some (79, true)), 21, []⟩,
    ⟨(some 82), .pick (.t 79) (.t 81) (.c (.s (.bool false))), none, 22, []⟩,
    ⟨(some 83), .move (.t 82), none, 23, []⟩,
    ⟨(some 84), .move (.t 10), (some (83, true)), 24, []⟩,
    ⟨(some 85), .bin .eql (.t 84) (.c (.s (.int .i64 2))), (some (83, true)), 25, []⟩,
    ⟨(some 86), .pick (.t 83) (.t 85) (.c (.s (.bool false))), none, 26, []⟩,
    ⟨(some 87), .move (.t 86), none, 27, []⟩,
    ⟨(some 88), .move (.t 13), (some (87, true)), 28, []⟩,
    ⟨(some 89), .bin .eql (.t 88) (.c (.s (.int .i64 (-28)))), (some (87, true)), 29, []⟩,
    ⟨(some 90), .pick (.t 87) (.t 89) (.c (.s (.bool false))), none, 30, []⟩,
    ⟨(some 91), .move (.t 90), none, 31, []⟩,
    ⟨(some 92), .move (.t 14), (some (91, true)), 32, []⟩,
    ⟨(some 93), .pick (.t 91) (.t 92) (.c (.s (.bool false))), none, 33, []⟩,
    ⟨(some 94), .move (.t 93), none, 34, []⟩,
    ⟨(some 95), .move (.t 1), (some (94, true)), 35, []⟩,
    ⟨(some 96), .call F.mtx_All_Pri [(.t 95), (.c (.s (.int .i64 1)))], (some (94, true)), 36, []⟩,
    ⟨(some 97), .bin .eql (.t 96) (.c (.s (.int .i64 2))), (some (94, true)), 37, []⟩,
    ⟨(some 98), .pick (.t 94) (.t 97) (.c (.s (.bool false))), none, 38, []⟩,
    ⟨(some 99), .move (.t 98), none, 39, []⟩,
    ⟨(some 100), .move (.t 1), (some (99, true)), 40, []⟩,
    ⟨(some 101), .call F.mtx_All_Base [(.t 100), (.c (.s (.int .i64 1)))], (some (99, true)), 41, []⟩,
    ⟨(some 102), .bin .eql (.t 101) (.c (.s (.int .i64 9))), (some (99, true)), 42, []⟩,
    ⟨(some 103), .pick (.t 99) (.t 102) (.c (.s (.bool false))), none, 43, []⟩,
    ⟨(some 104), .move (.t 103), none, 44, []⟩,
    ⟨(some 105), .move (.t 1), (some (104, true)), 45, []⟩,
    ⟨(some 106), .call F.mtx_All_Owner [(.t 105), (.c (.s (.int .i64 1)))], (some (104, true)), 46, []⟩,
    ⟨(some 107), .bin .eql (.t 106) (.c (.s (.int .i64 2))), (some (104, true)), 47, []⟩,
    ⟨(some 108), .pick (.t 104) (.t 107) (.c (.s (.bool false))), none, 48, []⟩,
    ⟨(some 109), .move (.t 108), none, 49, []⟩,
    ⟨(some 110), .move (.t 1), (some (109, true)), 50, []⟩,
    ⟨(some 111), .call F.mtx_All_Held [(.t 110), (.c (.s (.int .i64 1)))], (some (109, true)), 51, []⟩,
    ⟨(some 112), .len (.t 111), (some (109, true)), 52, []⟩,
    ⟨(some 113), .bin .eql (.t 112) (.c (.s (.int .i64 1))), (some (109, true)), 53, []⟩,
    ⟨(some 114), .pick (.t 109) (.t 113) (.c (.s (.bool false))), none, 54, []⟩,
    ⟨(some 0), .move (.t 114), none, 55, []⟩]) (RC.ret)))))))))))))
theorem detentlaw15_known_ok : chkFunc Go.Proofs.Try.prog [] Go.Proofs.Try.f10 detentlaw15_known = true := by kernel_rfl
def mtx_New_l0 : RC :=
  RC.seq (RC.region 1 [
    ⟨(some 20), .bin .lss (.t 19) (.t 18), none, 0, []⟩]) (RC.seq (RC.cond (.t 20) (RC.skip) (RC.exit 0)) (RC.seq (RC.block 1 (RC.seq (RC.region 4 [
    ⟨(some 21), .indexSl 2 (.t 17) (.t 19), none, 0, []⟩,
    ⟨(some 22), .load (some 2) (.t 21), none, 1, []⟩,
    ⟨(some 6), .newc [.int .i64 0, .int .i64 0], none, 2, []⟩,
    ⟨none, .store 2 (.t 6) (.t 22), none, 3, []⟩]) (RC.seq (RC.seq (RC.region 3 [
    ⟨(some 23), .load (some 2) (.t 6), none, 0, []⟩,
    ⟨(some 24), .call F.mtx_Kind_right [(.t 23)], none, 1, []⟩,
    ⟨(some 25), .un .not (.t 24), none, 2, []⟩]) (RC.cond (.t 25) (RC.seq (RC.region 2 [
    ⟨(some 2), .move (.c (.s (.ptr none))), none, 0, []⟩,
    ⟨(some 3), .move (.c (.s (.int .i64 (-17)))), none, 1, []⟩]) (RC.ret)) (RC.skip))) (RC.region 12 [
    ⟨(some 26), .move (.t 4), none, 0, []⟩,
    ⟨(some 27), .move (.t 4), none, 1, []⟩,
    ⟨(some 28), .nilCheck (.t 27), none, 2, []⟩,
    ⟨(some 29), .fieldAddr 0 (.t 28), none, 3, []⟩,
    ⟨(some 30), .load none (.t 29), none, 4, []⟩,
    ⟨(some 31), .load (some 2) (.t 6), none, 5, []⟩,
    ⟨(some 32), .build [.int .i64 0, .int .i64 0, .int .i64 0, .slice none 0 0 1] [(0, 2, (.t 31))], none, 6, []⟩,
    ⟨(some 33), .buildSlice 4 1 [.int .i64 0, .int .i64 0, .int .i64 0, .slice none 0 0 1] [(0, 4, (.t 32))], none, 7, []⟩,
    ⟨(some 34), .append 4 48 (.t 30) (.t 33), none, 8, []⟩,
    ⟨(some 35), .nilCheck (.t 26), none, 9, []⟩,
    ⟨(some 36), .fieldAddr 0 (.t 35), none, 10, []⟩,
    ⟨none, .store 1 (.t 36) (.t 34), none, 11, []⟩])))) (RC.region 2 [
    ⟨(some 37), .bin .add (.t 19) (.c (.s (.int .i64 1))), none, 0, []⟩,
    ⟨(some 19), .move (.t 37), none, 1, []⟩])))
def mtx_New_l1 : RC :=
  RC.seq (RC.region 1 [
    ⟨(some 39), .bin .lss (.t 38) (.c (.s (.int .i64 17))), none, 0, []⟩]) (RC.seq (RC.cond (.t 39) (RC.skip) (RC.exit 2)) (RC.seq (RC.block 3 (RC.seq (RC.region 2 [
    ⟨(some 40), .move (.t 38), none, 0, []⟩,
    ⟨(some 7), .move (.t 40), none, 1, []⟩]) (RC.region 7 [
    ⟨(some 41), .move (.t 4), none, 0, []⟩,
    ⟨(some 42), .move (.t 7), none, 1, []⟩,
    ⟨(some 43), .build [.int .i64 0, .int .i64 0, .int .i64 0] [(0, 1, (.c (.s (.int .i64 16)))), (1, 1, (.c (.s (.int .i64 16)))), (2, 1, (.c (.s (.int .i64 0))))], none, 2, []⟩,
    ⟨(some 44), .nilCheck (.t 41), none, 3, []⟩,
    ⟨(some 45), .fieldAddr 1 (.t 44), none, 4, []⟩,
    ⟨(some 46), .indexArr 17 3 (.t 45) (.t 42), none, 5, []⟩,
    ⟨none, .store 3 (.t 46) (.t 43), none, 6, []⟩]))) (RC.region 2 [
    ⟨(some 47), .bin .add (.t 38) (.c (.s (.int .i64 1))), none, 0, []⟩,
    ⟨(some 38), .move (.t 47), none, 1, []⟩])))
def mtx_New_s2 : RC :=
  RC.seq (RC.region 3 [
    ⟨(some 48), .move (.t 4), none, 0, []⟩,
    ⟨(some 2), .move (.t 48), none, 1, []⟩,
    ⟨(some 3), .move (.c (.s (.int .i64 0))), none, 2, []⟩]) (RC.ret)
def mtx_New_s3 : RC :=
  RC.seq (RC.seq (RC.region 1 [
    ⟨(some 38), .move (.c (.s (.int .i64 0))), none, 0, []⟩]) (RC.block 2 (RC.loop R.mtx_New_l1))) R.mtx_New_s2
def mtx_New : RFunc := RFunc.mk 49 [.tmp 2, .tmp 3] (
  RC.seq (RC.region 2 [
    ⟨(some 2), .move (.c (.s (.ptr none))), none, 0, []⟩,
    ⟨(some 3), .move (.c (.s (.int .i64 0))), none, 1, []⟩]) (RC.seq (RC.seq (RC.region 3 [
    ⟨(some 8), .move (.t 0), none, 0, []⟩,
    ⟨(some 9), .len (.t 8), none, 1, []⟩,
    ⟨(some 10), .bin .gtr (.t 9) (.c (.s (.int .i64 8))), none, 2, []⟩]) (RC.cond (.t 10) (RC.seq (RC.region 2 [
    ⟨(some 2), .move (.c (.s (.ptr none))), none, 0, []⟩,
    ⟨(some 3), .move (.c (.s (.int .i64 (-17)))), none, 1, []⟩]) (RC.ret)) (RC.skip))) (RC.seq (RC.region 7 [
    ⟨(some 11), .move (.t 0), none, 0, []⟩,
    ⟨(some 12), .len (.t 11), none, 1, []⟩,
    ⟨(some 13), .bin .add (.t 12) (.c (.s (.int .i64 1))), none, 2, []⟩,
    ⟨(some 14), .makeSlice 4 48 [.int .i64 0, .int .i64 0, .int .i64 0, .slice none 0 0 1] (.c (.s (.int .i64 1))) (.t 13), none, 3, []⟩,
    ⟨(some 15), .build [.slice none 0 0 1, .int .i64 0, .int .i64 0, .int .i64 0, .int .i64 0, .int .i64 0, .int .i64 0, .int .i64 0, .int .i64 0, .int .i64 0, .int .i64 0, .int .i64 0, .int .i64 0, .int .i64 0, .int .i64 0, .int .i64 0, .int .i64 0, .int .i64 0, .int .i64 0, .int .i64 0, .int .i64 0, .int .i64 0, .int .i64 0, .int .i64 0, .int .i64 0, .int .i64 0, .int .i64 0, .int .i64 0, .int .i64 0, .int .i64 0, .int .i64 0, .int .i64 0, .int .i64 0, .int .i64 0, .int .i64 0, .int .i64 0, .int .i64 0, .int .i64 0, .int .i64 0, .int .i64 0, .int .i64 0, .int .i64 0, .int .i64 0, .int .i64 0, .int .i64 0, .int .i64 0, .int .i64 0, .int .i64 0, .int .i64 0, .int .i64 0, .int .i64 0, .int .i64 0] [(0, 1, (.t 14))], none, 4, []⟩,
    ⟨(some 16), .box (.t 15), none, 5, []⟩,
    ⟨(some 4), .move (.t 16), none, 6, []⟩]) (RC.seq (RC.seq (RC.region 3 [
    ⟨(some 17), .move (.t 0), none, 0, []⟩,
    ⟨(some 18), .len (.t 17), none, 1, []⟩,
    ⟨(some 19), .move (.c (.s (.int .i64 0))), none, 2, []⟩]) (RC.block 0 (RC.loop R.mtx_New_l0))) R.mtx_New_s3))))
theorem mtx_New_ok : chkFunc Go.Proofs.Try.prog [] Go.Proofs.Try.f11 mtx_New = true := by kernel_rfl
def mtx_All_SetBase_l0 : RC :=
  RC.seq (RC.seq (RC.region 7 [
    ⟨(some 17), .move (.t 7), none, 0, []⟩,
    ⟨(some 18), .move (.t 0), none, 1, []⟩,
    ⟨(some 19), .nilCheck (.t 18), none, 2, []⟩,
    ⟨(some 20), .fieldAddr 0 (.t 19), none, 3, []⟩,
    ⟨(some 21), .load none (.t 20), none, 4, []⟩,
    ⟨(some 22), .len (.t 21), none, 5, []⟩,
    ⟨(some 23), .bin .lss (.t 17) (.t 22), none, 6, []⟩]) (RC.cond (.t 23) (RC.skip) (RC.exit 1))) (RC.seq (RC.block 2 (RC.seq (RC.region 9 [
    ⟨(some 26), .move (.t 0), none, 0, []⟩,
    ⟨(some 27), .nilCheck (.t 26), none, 1, []⟩,
    ⟨(some 28), .fieldAddr 0 (.t 27), none, 2, []⟩,
    ⟨(some 29), .load none (.t 28), none, 3, []⟩,
    ⟨(some 30), .move (.t 7), none, 4, []⟩,
    ⟨(some 31), .indexSl 4 (.t 29) (.t 30), none, 5, []⟩,
    ⟨(some 32), .load (some 4) (.t 31), none, 6, []⟩,
    ⟨(some 8), .newc [.int .i64 0, .int .i64 0, .int .i64 0, .slice none 0 0 1], none, 7, []⟩,
    ⟨none, .store 4 (.t 8) (.t 32), none, 8, []⟩]) (RC.seq (RC.region 28 [
    ⟨(some 33), .fieldAddr 0 (.t 8), none, 0, []⟩,
    ⟨(some 34), .fieldAddr 0 (.t 33), none, 1, []⟩,
    ⟨(some 35), .load none (.t 34), none, 2, []⟩,
    ⟨(some 36), .bin .eql (.t 35) (.c (.s (.int .i64 3))), none, 3, []⟩,
    ⟨(some 37), .move (.t 36), none, 4, []⟩,
    ⟨(some 38), .fieldAddr 0 (.t 8), (some (37, true)), 5, []⟩,
    ⟨(some 39), .fieldAddr 1 (.t 38), (some (37, true)), 6, []⟩,
    ⟨(some 40), .load none (.t 39), (some (37, true)), 7, []⟩,
    ⟨(some 41), .move (.t 2), (some (37, true)), 8, []⟩,
    ⟨(some 42), .bin .gtr (.t 40) (.t 41), (some (37, true)), 9, []⟩,
    ⟨(some 43), .pick (.t 37) (.t 42) (.c (.s (.bool false))), none, 10, []⟩,
    ⟨(some 44), .move (.t 43), none, 11, []⟩,
    ⟨(some 45), .fieldAddr 2 (.t 8), (some (44, true)), 12, []⟩,
    ⟨(some 46), .load none (.t 45), (some (44, true)), 13, []⟩,
    ⟨(some 47), .move (.t 1), (some (44, true)), 14, []⟩,
    ⟨(some 48), .bin .eql (.t 46) (.t 47), (some (44, true)), 15, []⟩,
    ⟨(some 49), .move (.t 48), (some (44, true)), 16, []⟩,
    ⟨(some 50), .move (.t 0), (some (49, false)), 17, []⟩,
    ⟨(some 51), .move (.t 1), (some (49, false)), 18, []⟩,
    ⟨(some 52), .nilCheck (.t 50), (some (49, false)), 19, []⟩,
    ⟨(some 53), .fieldAddr 1 (.t 52), (some (49, false)), 20, []⟩,
    ⟨(some 54), .indexArr 17 3 (.t 53) (.t 51), (some (49, false)), 21, []⟩,
    ⟨(some 55), .fieldAddr 2 (.t 54), (some (49, false)), 22, []⟩,
    ⟨(some 56), .load none (.t 55), (some (49, false)), 23, []⟩,
    ⟨(some 57), .move (.t 7), (some (49, false)), 24, []⟩,
    ⟨(some 58), .bin .eql (.t 56) (.t 57), (some (49, false)), 25, []⟩,
    ⟨(some 59), .pick (.t 49) (.c (.s (.bool true))) (.t 58), (some (44, true)), 26, []⟩,
    ⟨(some 60), .pick (.t 44) (.t 59) (.c (.s (.bool false))), none, 27, []⟩]) (RC.cond (.t 60) (RC.seq (RC.region 1 [
    ⟨(some 6), .move (.c (.s (.int .i64 (-28)))), none, 0, []⟩]) (RC.ret)) (RC.skip))))) (RC.region 3 [
    ⟨(some 24), .move (.t 7), none, 0, []⟩,
    ⟨(some 25), .bin .add (.t 24) (.c (.s (.int .i64 1))), none, 1, []⟩,
    ⟨(some 7), .move (.t 25), none, 2, []⟩]))
def mtx_All_SetBase_s1 : RC :=
  RC.seq (RC.region 8 [
    ⟨(some 61), .move (.t 0), none, 0, []⟩,
    ⟨(some 62), .move (.t 1), none, 1, []⟩,
    ⟨(some 63), .move (.t 2), none, 2, []⟩,
    ⟨(some 64), .nilCheck (.t 61), none, 3, []⟩,
    ⟨(some 65), .fieldAddr 1 (.t 64), none, 4, []⟩,
    ⟨(some 66), .indexArr 17 3 (.t 65) (.t 62), none, 5, []⟩,
    ⟨(some 67), .fieldAddr 0 (.t 66), none, 6, []⟩,
    ⟨none, .store 1 (.t 67) (.t 63), none, 7, []⟩]) (RC.seq (RC.region 2 [
    ⟨(some 68), .move (.t 0), none, 0, []⟩,
    ⟨(some 69), .call F.mtx_All_settle [(.t 68)], none, 1, []⟩]) (RC.seq (RC.region 1 [
    ⟨(some 6), .move (.c (.s (.int .i64 0))), none, 0, []⟩]) (RC.ret)))
def mtx_All_SetBase : RFunc := RFunc.mk 70 [.tmp 6] (
  RC.seq (RC.region 1 [
    ⟨(some 6), .move (.c (.s (.int .i64 0))), none, 0, []⟩]) (RC.seq (RC.block 0 (RC.seq (RC.region 4 [
    ⟨(some 10), .move (.t 1), none, 0, []⟩,
    ⟨(some 11), .call F.mtx_is [(.t 10)], none, 1, []⟩,
    ⟨(some 12), .un .not (.t 11), none, 2, []⟩,
    ⟨(some 9), .move (.t 12), none, 3, []⟩]) (RC.cond (.t 9) (RC.seq (RC.region 1 [
    ⟨(some 6), .move (.c (.s (.int .i64 (-18)))), none, 0, []⟩]) (RC.ret)) (RC.seq (RC.region 4 [
    ⟨(some 14), .move (.t 2), none, 0, []⟩,
    ⟨(some 15), .call F.mtx_may [(.t 14)], none, 1, []⟩,
    ⟨(some 16), .un .not (.t 15), none, 2, []⟩,
    ⟨(some 13), .move (.t 16), none, 3, []⟩]) (RC.cond (.t 13) (RC.seq (RC.region 1 [
    ⟨(some 6), .move (.c (.s (.int .i64 (-17)))), none, 0, []⟩]) (RC.ret)) (RC.skip)))))) (RC.seq (RC.seq (RC.region 1 [
    ⟨(some 7), .move (.c (.s (.int .i64 1))), none, 0, []⟩]) (RC.block 1 (RC.loop R.mtx_All_SetBase_l0))) R.mtx_All_SetBase_s1)))
theorem mtx_All_SetBase_ok : chkFunc Go.Proofs.Try.prog [] Go.Proofs.Try.f12 mtx_All_SetBase = true := by kernel_rfl
def mtx_All_Lock : RFunc := RFunc.mk 48 [.tmp 6, .tmp 7] (
  RC.seq (RC.region 2 [
    ⟨(some 6), .move (.c (.s (.bool false))), none, 0, []⟩,
    ⟨(some 7), .move (.c (.s (.int .i64 0))), none, 1, []⟩]) (RC.seq (RC.region 9 [
    ⟨(some 11), .move (.t 0), none, 0, []⟩,
    ⟨(some 12), .move (.t 1), none, 1, []⟩,
    ⟨(some 13), .move (.t 2), none, 2, []⟩,
    ⟨(some 14), .call F.mtx_All_TryLock [(.t 11), (.t 12), (.t 13)], none, 3, []⟩,
    ⟨(some 10), .move (.t 14), none, 4, []⟩,
    ⟨(some 15), .extract 0 (.t 10), none, 5, []⟩,
    ⟨(some 16), .extract 1 (.t 10), none, 6, []⟩,
    ⟨(some 8), .move (.t 15), none, 7, []⟩,
    ⟨(some 9), .move (.t 16), none, 8, []⟩]) (RC.seq (RC.seq (RC.region 5 [
    ⟨(some 17), .move (.t 8), none, 0, []⟩,
    ⟨(some 18), .move (.t 17), none, 1, []⟩,
    ⟨(some 19), .move (.t 9), (some (18, false)), 2, []⟩,
    ⟨(some 20), .bin .neq (.t 19) (.c (.s (.int .i64 0))), (some (18, false)), 3, []⟩,
    ⟨(some 21), .pick (.t 18) (.c (.s (.bool true))) (.t 20), none, 4, []⟩]) (RC.cond (.t 21) (RC.seq (RC.region 4 [
    ⟨(some 22), .move (.t 8), none, 0, []⟩,
    ⟨(some 23), .move (.t 9), none, 1, []⟩,
    ⟨(some 6), .move (.t 22), none, 2, []⟩,
    ⟨(some 7), .move (.t 23), none, 3, []⟩]) (RC.ret)) (RC.skip))) (RC.seq (RC.seq (RC.region 11 [
    ⟨(some 24), .move (.t 0), none, 0, []⟩,
    ⟨(some 25), .move (.t 0), none, 1, []⟩,
    ⟨(some 26), .nilCheck (.t 25), none, 2, []⟩,
    ⟨(some 27), .fieldAddr 0 (.t 26), none, 3, []⟩,
    ⟨(some 28), .load none (.t 27), none, 4, []⟩,
    ⟨(some 29), .move (.t 1), none, 5, []⟩,
    ⟨(some 30), .indexSl 4 (.t 28) (.t 29), none, 6, []⟩,
    ⟨(some 31), .fieldAddr 2 (.t 30), none, 7, []⟩,
    ⟨(some 32), .load none (.t 31), none, 8, []⟩,
    ⟨(some 33), .move (.t 2), none, 9, []⟩,
    ⟨(some 34), .call F.mtx_All_over [(.t 24), (.t 32), (.t 33)], none, 10, []⟩]) (RC.cond (.t 34) (RC.seq (RC.region 2 [
    ⟨(some 6), .move (.c (.s (.bool false))), none, 0, []⟩,
    ⟨(some 7), .move (.c (.s (.int .i64 (-28)))), none, 1, []⟩]) (RC.ret)) (RC.skip))) (RC.seq (RC.region 4 [
    ⟨(some 35), .move (.t 0), none, 0, []⟩,
    ⟨(some 36), .move (.t 1), none, 1, []⟩,
    ⟨(some 37), .move (.t 2), none, 2, []⟩,
    ⟨(some 38), .call F.mtx_All_stand [(.t 35), (.t 36), (.t 37)], none, 3, []⟩]) (RC.seq (RC.region 8 [
    ⟨(some 39), .move (.t 0), none, 0, []⟩,
    ⟨(some 40), .move (.t 2), none, 1, []⟩,
    ⟨(some 41), .move (.t 1), none, 2, []⟩,
    ⟨(some 42), .nilCheck (.t 39), none, 3, []⟩,
    ⟨(some 43), .fieldAddr 1 (.t 42), none, 4, []⟩,
    ⟨(some 44), .indexArr 17 3 (.t 43) (.t 40), none, 5, []⟩,
    ⟨(some 45), .fieldAddr 2 (.t 44), none, 6, []⟩,
    ⟨none, .store 1 (.t 45) (.t 41), none, 7, []⟩]) (RC.seq (RC.region 2 [
    ⟨(some 46), .move (.t 0), none, 0, []⟩,
    ⟨(some 47), .call F.mtx_All_settle [(.t 46)], none, 1, []⟩]) (RC.seq (RC.region 2 [
    ⟨(some 6), .move (.c (.s (.bool false))), none, 0, []⟩,
    ⟨(some 7), .move (.c (.s (.int .i64 0))), none, 1, []⟩]) (RC.ret)))))))))
theorem mtx_All_Lock_ok : chkFunc Go.Proofs.Try.prog [] Go.Proofs.Try.f13 mtx_All_Lock = true := by kernel_rfl
def mtx_All_Pri : RFunc := RFunc.mk 15 [.tmp 4] (
  RC.seq (RC.region 1 [
    ⟨(some 4), .move (.c (.s (.int .i64 0))), none, 0, []⟩]) (RC.seq (RC.seq (RC.region 3 [
    ⟨(some 5), .move (.t 1), none, 0, []⟩,
    ⟨(some 6), .call F.mtx_is [(.t 5)], none, 1, []⟩,
    ⟨(some 7), .un .not (.t 6), none, 2, []⟩]) (RC.cond (.t 7) (RC.seq (RC.region 1 [
    ⟨(some 4), .move (.c (.s (.int .i64 0))), none, 0, []⟩]) (RC.ret)) (RC.skip))) (RC.seq (RC.region 8 [
    ⟨(some 8), .move (.t 0), none, 0, []⟩,
    ⟨(some 9), .move (.t 1), none, 1, []⟩,
    ⟨(some 10), .nilCheck (.t 8), none, 2, []⟩,
    ⟨(some 11), .fieldAddr 1 (.t 10), none, 3, []⟩,
    ⟨(some 12), .indexArr 17 3 (.t 11) (.t 9), none, 4, []⟩,
    ⟨(some 13), .fieldAddr 1 (.t 12), none, 5, []⟩,
    ⟨(some 14), .load none (.t 13), none, 6, []⟩,
    ⟨(some 4), .move (.t 14), none, 7, []⟩]) (RC.ret))))
theorem mtx_All_Pri_ok : chkFunc Go.Proofs.Try.prog [] Go.Proofs.Try.f14 mtx_All_Pri = true := by kernel_rfl
def mtx_All_Unlock_s0 : RC :=
  RC.seq (RC.region 2 [
    ⟨(some 65), .move (.t 0), none, 0, []⟩,
    ⟨(some 66), .call F.mtx_All_settle [(.t 65)], none, 1, []⟩]) (RC.seq (RC.region 10 [
    ⟨(some 67), .move (.t 0), none, 0, []⟩,
    ⟨(some 68), .nilCheck (.t 67), none, 1, []⟩,
    ⟨(some 69), .fieldAddr 0 (.t 68), none, 2, []⟩,
    ⟨(some 70), .load none (.t 69), none, 3, []⟩,
    ⟨(some 71), .move (.t 1), none, 4, []⟩,
    ⟨(some 72), .indexSl 4 (.t 70) (.t 71), none, 5, []⟩,
    ⟨(some 73), .fieldAddr 2 (.t 72), none, 6, []⟩,
    ⟨(some 74), .load none (.t 73), none, 7, []⟩,
    ⟨(some 6), .move (.t 74), none, 8, []⟩,
    ⟨(some 7), .move (.c (.s (.int .i64 0))), none, 9, []⟩]) (RC.ret))
def mtx_All_Unlock : RFunc := RFunc.mk 75 [.tmp 6, .tmp 7] (
  RC.seq (RC.region 2 [
    ⟨(some 6), .move (.c (.s (.int .i64 0))), none, 0, []⟩,
    ⟨(some 7), .move (.c (.s (.int .i64 0))), none, 1, []⟩]) (RC.seq (RC.seq (RC.region 9 [
    ⟨(some 9), .move (.t 0), none, 0, []⟩,
    ⟨(some 10), .move (.t 1), none, 1, []⟩,
    ⟨(some 11), .call F.mtx_All_in [(.t 9), (.t 10)], none, 2, []⟩,
    ⟨(some 12), .un .not (.t 11), none, 3, []⟩,
    ⟨(some 13), .move (.t 12), none, 4, []⟩,
    ⟨(some 14), .move (.t 2), (some (13, false)), 5, []⟩,
    ⟨(some 15), .call F.mtx_is [(.t 14)], (some (13, false)), 6, []⟩,
    ⟨(some 16), .un .not (.t 15), (some (13, false)), 7, []⟩,
    ⟨(some 17), .pick (.t 13) (.c (.s (.bool true))) (.t 16), none, 8, []⟩]) (RC.cond (.t 17) (RC.seq (RC.region 2 [
    ⟨(some 6), .move (.c (.s (.int .i64 0))), none, 0, []⟩,
    ⟨(some 7), .move (.c (.s (.int .i64 (-18)))), none, 1, []⟩]) (RC.ret)) (RC.skip))) (RC.seq (RC.region 7 [
    ⟨(some 18), .move (.t 0), none, 0, []⟩,
    ⟨(some 19), .nilCheck (.t 18), none, 1, []⟩,
    ⟨(some 20), .fieldAddr 0 (.t 19), none, 2, []⟩,
    ⟨(some 21), .load none (.t 20), none, 3, []⟩,
    ⟨(some 22), .move (.t 1), none, 4, []⟩,
    ⟨(some 23), .indexSl 4 (.t 21) (.t 22), none, 5, []⟩,
    ⟨(some 8), .move (.t 23), none, 6, []⟩]) (RC.seq (RC.seq (RC.region 6 [
    ⟨(some 24), .move (.t 8), none, 0, []⟩,
    ⟨(some 25), .nilCheck (.t 24), none, 1, []⟩,
    ⟨(some 26), .fieldAddr 2 (.t 25), none, 2, []⟩,
    ⟨(some 27), .load none (.t 26), none, 3, []⟩,
    ⟨(some 28), .move (.t 2), none, 4, []⟩,
    ⟨(some 29), .bin .neq (.t 27) (.t 28), none, 5, []⟩]) (RC.cond (.t 29) (RC.seq (RC.region 2 [
    ⟨(some 6), .move (.c (.s (.int .i64 0))), none, 0, []⟩,
    ⟨(some 7), .move (.c (.s (.int .i64 (-28)))), none, 1, []⟩]) (RC.ret)) (RC.skip))) (RC.seq (RC.region 4 [
    ⟨(some 30), .move (.t 8), none, 0, []⟩,
    ⟨(some 31), .nilCheck (.t 30), none, 1, []⟩,
    ⟨(some 32), .fieldAddr 2 (.t 31), none, 2, []⟩,
    ⟨none, .store 1 (.t 32) (.c (.s (.int .i64 0))), none, 3, []⟩]) (RC.seq (RC.seq (RC.region 6 [
    ⟨(some 33), .move (.t 8), none, 0, []⟩,
    ⟨(some 34), .nilCheck (.t 33), none, 1, []⟩,
    ⟨(some 35), .fieldAddr 3 (.t 34), none, 2, []⟩,
    ⟨(some 36), .load none (.t 35), none, 3, []⟩,
    ⟨(some 37), .len (.t 36), none, 4, []⟩,
    ⟨(some 38), .bin .gtr (.t 37) (.c (.s (.int .i64 0))), none, 5, []⟩]) (RC.cond (.t 38) (RC.seq (RC.region 10 [
    ⟨(some 39), .move (.t 8), none, 0, []⟩,
    ⟨(some 40), .move (.t 8), none, 1, []⟩,
    ⟨(some 41), .nilCheck (.t 40), none, 2, []⟩,
    ⟨(some 42), .fieldAddr 3 (.t 41), none, 3, []⟩,
    ⟨(some 43), .load none (.t 42), none, 4, []⟩,
    ⟨(some 44), .indexSl 1 (.t 43) (.c (.s (.int .i64 0))), none, 5, []⟩,
    ⟨(some 45), .load none (.t 44), none, 6, []⟩,
    ⟨(some 46), .nilCheck (.t 39), none, 7, []⟩,
    ⟨(some 47), .fieldAddr 2 (.t 46), none, 8, []⟩,
    ⟨none, .store 1 (.t 47) (.t 45), none, 9, []⟩]) (RC.seq (RC.region 9 [
    ⟨(some 48), .move (.t 8), none, 0, []⟩,
    ⟨(some 49), .move (.t 8), none, 1, []⟩,
    ⟨(some 50), .nilCheck (.t 49), none, 2, []⟩,
    ⟨(some 51), .fieldAddr 3 (.t 50), none, 3, []⟩,
    ⟨(some 52), .load none (.t 51), none, 4, []⟩,
    ⟨(some 53), .call F.slices_Delete__int_int [(.t 52), (.c (.s (.int .i64 0))), (.c (.s (.int .i64 1)))], none, 5, []⟩,
    ⟨(some 54), .nilCheck (.t 48), none, 6, []⟩,
    ⟨(some 55), .fieldAddr 3 (.t 54), none, 7, []⟩,
    ⟨none, .store 1 (.t 55) (.t 53), none, 8, []⟩]) (RC.region 10 [
    ⟨(some 56), .move (.t 0), none, 0, []⟩,
    ⟨(some 57), .move (.t 8), none, 1, []⟩,
    ⟨(some 58), .nilCheck (.t 57), none, 2, []⟩,
    ⟨(some 59), .fieldAddr 2 (.t 58), none, 3, []⟩,
    ⟨(some 60), .load none (.t 59), none, 4, []⟩,
    ⟨(some 61), .nilCheck (.t 56), none, 5, []⟩,
    ⟨(some 62), .fieldAddr 1 (.t 61), none, 6, []⟩,
    ⟨(some 63), .indexArr 17 3 (.t 62) (.t 60), none, 7, []⟩,
    ⟨(some 64), .fieldAddr 2 (.t 63), none, 8, []⟩,
    ⟨none, .store 1 (.t 64) (.c (.s (.int .i64 0))), none, 9, []⟩]))) (RC.skip))) R.mtx_All_Unlock_s0))))))
theorem mtx_All_Unlock_ok : chkFunc Go.Proofs.Try.prog [] Go.Proofs.Try.f15 mtx_All_Unlock = true := by kernel_rfl
def mtx_All_Owner : RFunc := RFunc.mk 17 [.tmp 4] (
  RC.seq (RC.region 1 [
    ⟨(some 4), .move (.c (.s (.int .i64 0))), none, 0, []⟩]) (RC.seq (RC.seq (RC.region 4 [
    ⟨(some 5), .move (.t 0), none, 0, []⟩,
    ⟨(some 6), .move (.t 1), none, 1, []⟩,
    ⟨(some 7), .call F.mtx_All_in [(.t 5), (.t 6)], none, 2, []⟩,
    ⟨(some 8), .un .not (.t 7), none, 3, []⟩]) (RC.cond (.t 8) (RC.seq (RC.region 1 [
    ⟨(some 4), .move (.c (.s (.int .i64 0))), none, 0, []⟩]) (RC.ret)) (RC.skip))) (RC.seq (RC.region 9 [
    ⟨(some 9), .move (.t 0), none, 0, []⟩,
    ⟨(some 10), .nilCheck (.t 9), none, 1, []⟩,
    ⟨(some 11), .fieldAddr 0 (.t 10), none, 2, []⟩,
    ⟨(some 12), .load none (.t 11), none, 3, []⟩,
    ⟨(some 13), .move (.t 1), none, 4, []⟩,
    ⟨(some 14), .indexSl 4 (.t 12) (.t 13), none, 5, []⟩,
    ⟨(some 15), .fieldAddr 2 (.t 14), none, 6, []⟩,
    ⟨(some 16), .load none (.t 15), none, 7, []⟩,
    ⟨(some 4), .move (.t 16), none, 8, []⟩]) (RC.ret))))
theorem mtx_All_Owner_ok : chkFunc Go.Proofs.Try.prog [] Go.Proofs.Try.f16 mtx_All_Owner = true := by kernel_rfl
def mtx_All_TryLock_s0 : RC :=
  RC.cond (.t 24) (RC.seq (RC.region 2 [
    ⟨(some 6), .move (.c (.s (.bool false))), none, 0, []⟩,
    ⟨(some 7), .move (.c (.s (.int .i64 (-28)))), none, 1, []⟩]) (RC.ret)) (RC.seq (RC.region 9 [
    ⟨(some 53), .move (.t 0), none, 0, []⟩,
    ⟨(some 54), .move (.t 2), none, 1, []⟩,
    ⟨(some 55), .nilCheck (.t 53), none, 2, []⟩,
    ⟨(some 56), .fieldAddr 1 (.t 55), none, 3, []⟩,
    ⟨(some 57), .indexArr 17 3 (.t 56) (.t 54), none, 4, []⟩,
    ⟨(some 58), .fieldAddr 2 (.t 57), none, 5, []⟩,
    ⟨(some 59), .load none (.t 58), none, 6, []⟩,
    ⟨(some 60), .bin .gtr (.t 59) (.c (.s (.int .i64 0))), none, 7, []⟩,
    ⟨(some 52), .move (.t 60), none, 8, []⟩]) (RC.cond (.t 52) (RC.seq (RC.region 2 [
    ⟨(some 6), .move (.c (.s (.bool false))), none, 0, []⟩,
    ⟨(some 7), .move (.c (.s (.int .i64 (-41)))), none, 1, []⟩]) (RC.ret)) (RC.seq (RC.region 6 [
    ⟨(some 62), .move (.t 8), none, 0, []⟩,
    ⟨(some 63), .nilCheck (.t 62), none, 1, []⟩,
    ⟨(some 64), .fieldAddr 2 (.t 63), none, 2, []⟩,
    ⟨(some 65), .load none (.t 64), none, 3, []⟩,
    ⟨(some 66), .bin .eql (.t 65) (.c (.s (.int .i64 0))), none, 4, []⟩,
    ⟨(some 61), .move (.t 66), none, 5, []⟩]) (RC.cond (.t 61) (RC.seq (RC.region 5 [
    ⟨(some 67), .move (.t 8), none, 0, []⟩,
    ⟨(some 68), .move (.t 2), none, 1, []⟩,
    ⟨(some 69), .nilCheck (.t 67), none, 2, []⟩,
    ⟨(some 70), .fieldAddr 2 (.t 69), none, 3, []⟩,
    ⟨none, .store 1 (.t 70) (.t 68), none, 4, []⟩]) (RC.seq (RC.region 2 [
    ⟨(some 71), .move (.t 0), none, 0, []⟩,
    ⟨(some 72), .call F.mtx_All_settle [(.t 71)], none, 1, []⟩]) (RC.seq (RC.region 2 [
    ⟨(some 6), .move (.c (.s (.bool true))), none, 0, []⟩,
    ⟨(some 7), .move (.c (.s (.int .i64 0))), none, 1, []⟩]) (RC.ret)))) (RC.skip)))))
def mtx_All_TryLock_s1 : RC :=
  RC.seq (RC.region 2 [
    ⟨(some 6), .move (.c (.s (.bool false))), none, 0, []⟩,
    ⟨(some 7), .move (.c (.s (.int .i64 0))), none, 1, []⟩]) (RC.ret)
def mtx_All_TryLock : RFunc := RFunc.mk 73 [.tmp 6, .tmp 7] (
  RC.seq (RC.region 2 [
    ⟨(some 6), .move (.c (.s (.bool false))), none, 0, []⟩,
    ⟨(some 7), .move (.c (.s (.int .i64 0))), none, 1, []⟩]) (RC.seq (RC.seq (RC.region 9 [
    ⟨(some 9), .move (.t 0), none, 0, []⟩,
    ⟨(some 10), .move (.t 1), none, 1, []⟩,
    ⟨(some 11), .call F.mtx_All_in [(.t 9), (.t 10)], none, 2, []⟩,
    ⟨(some 12), .un .not (.t 11), none, 3, []⟩,
    ⟨(some 13), .move (.t 12), none, 4, []⟩,
    ⟨(some 14), .move (.t 2), (some (13, false)), 5, []⟩,
    ⟨(some 15), .call F.mtx_is [(.t 14)], (some (13, false)), 6, []⟩,
    ⟨(some 16), .un .not (.t 15), (some (13, false)), 7, []⟩,
    ⟨(some 17), .pick (.t 13) (.c (.s (.bool true))) (.t 16), none, 8, []⟩]) (RC.cond (.t 17) (RC.seq (RC.region 2 [
    ⟨(some 6), .move (.c (.s (.bool false))), none, 0, []⟩,
    ⟨(some 7), .move (.c (.s (.int .i64 (-18)))), none, 1, []⟩]) (RC.ret)) (RC.skip))) (RC.seq (RC.region 7 [
    ⟨(some 18), .move (.t 0), none, 0, []⟩,
    ⟨(some 19), .nilCheck (.t 18), none, 1, []⟩,
    ⟨(some 20), .fieldAddr 0 (.t 19), none, 2, []⟩,
    ⟨(some 21), .load none (.t 20), none, 3, []⟩,
    ⟨(some 22), .move (.t 1), none, 4, []⟩,
    ⟨(some 23), .indexSl 4 (.t 21) (.t 22), none, 5, []⟩,
    ⟨(some 8), .move (.t 23), none, 6, []⟩]) (RC.seq (RC.block 0 (RC.seq (RC.seq (RC.region 7 [
    ⟨(some 25), .move (.t 8), none, 0, []⟩,
    ⟨(some 26), .nilCheck (.t 25), none, 1, []⟩,
    ⟨(some 27), .fieldAddr 2 (.t 26), none, 2, []⟩,
    ⟨(some 28), .load none (.t 27), none, 3, []⟩,
    ⟨(some 29), .move (.t 2), none, 4, []⟩,
    ⟨(some 30), .bin .eql (.t 28) (.t 29), none, 5, []⟩,
    ⟨(some 24), .move (.t 30), none, 6, []⟩]) (RC.cond (.t 24) (RC.skip) (RC.region 22 [
    ⟨(some 31), .move (.t 8), none, 0, []⟩,
    ⟨(some 32), .nilCheck (.t 31), none, 1, []⟩,
    ⟨(some 33), .fieldAddr 0 (.t 32), none, 2, []⟩,
    ⟨(some 34), .fieldAddr 0 (.t 33), none, 3, []⟩,
    ⟨(some 35), .load none (.t 34), none, 4, []⟩,
    ⟨(some 36), .bin .eql (.t 35) (.c (.s (.int .i64 3))), none, 5, []⟩,
    ⟨(some 37), .move (.t 36), none, 6, []⟩,
    ⟨(some 38), .move (.t 0), (some (37, true)), 7, []⟩,
    ⟨(some 39), .move (.t 2), (some (37, true)), 8, []⟩,
    ⟨(some 40), .nilCheck (.t 38), (some (37, true)), 9, []⟩,
    ⟨(some 41), .fieldAddr 1 (.t 40), (some (37, true)), 10, []⟩,
    ⟨(some 42), .indexArr 17 3 (.t 41) (.t 39), (some (37, true)), 11, []⟩,
    ⟨(some 43), .fieldAddr 0 (.t 42), (some (37, true)), 12, []⟩,
    ⟨(some 44), .load none (.t 43), (some (37, true)), 13, []⟩,
    ⟨(some 45), .move (.t 8), (some (37, true)), 14, []⟩,
    ⟨(some 46), .nilCheck (.t 45), (some (37, true)), 15, []⟩,
    ⟨(some 47), .fieldAddr 0 (.t 46), (some (37, true)), 16, []⟩,
    ⟨(some 48), .fieldAddr 1 (.t 47), (some (37, true)), 17, []⟩,
    ⟨(some 49), .load none (.t 48), (some (37, true)), 18, []⟩,
    ⟨(some 50), .bin .lss (.t 44) (.t 49), (some (37, true)), 19, []⟩,
    ⟨(some 51), .pick (.t 37) (.t 50) (.c (.s (.bool false))), none, 20, []⟩,
    ⟨(some 24), .move (.t 51), none, 21, []⟩]))) R.mtx_All_TryLock_s0)) R.mtx_All_TryLock_s1))))
theorem mtx_All_TryLock_ok : chkFunc Go.Proofs.Try.prog [] Go.Proofs.Try.f17 mtx_All_TryLock = true := by kernel_rfl
def mtx_All_Waiting : RFunc := RFunc.mk 19 [.tmp 4] (
  RC.seq (RC.region 1 [
    ⟨(some 4), .move (.c (.s (.slice none 0 0 1))), none, 0, []⟩]) (RC.seq (RC.seq (RC.region 4 [
    ⟨(some 5), .move (.t 0), none, 0, []⟩,
    ⟨(some 6), .move (.t 1), none, 1, []⟩,
    ⟨(some 7), .call F.mtx_All_in [(.t 5), (.t 6)], none, 2, []⟩,
    ⟨(some 8), .un .not (.t 7), none, 3, []⟩]) (RC.cond (.t 8) (RC.seq (RC.region 1 [
    ⟨(some 4), .move (.c (.s (.slice none 0 0 1))), none, 0, []⟩]) (RC.ret)) (RC.skip))) (RC.seq (RC.region 11 [
    ⟨(some 9), .move (.t 0), none, 0, []⟩,
    ⟨(some 10), .nilCheck (.t 9), none, 1, []⟩,
    ⟨(some 11), .fieldAddr 0 (.t 10), none, 2, []⟩,
    ⟨(some 12), .load none (.t 11), none, 3, []⟩,
    ⟨(some 13), .move (.t 1), none, 4, []⟩,
    ⟨(some 14), .indexSl 4 (.t 12) (.t 13), none, 5, []⟩,
    ⟨(some 15), .fieldAddr 3 (.t 14), none, 6, []⟩,
    ⟨(some 16), .load none (.t 15), none, 7, []⟩,
    ⟨(some 17), .call F.slices_Clone__int_int [(.t 16)], none, 8, []⟩,
    ⟨(some 18), .call F.slices_Clip__int_int [(.t 17)], none, 9, []⟩,
    ⟨(some 4), .move (.t 18), none, 10, []⟩]) (RC.ret))))
theorem mtx_All_Waiting_ok : chkFunc Go.Proofs.Try.prog [] Go.Proofs.Try.f18 mtx_All_Waiting = true := by kernel_rfl
def mtx_All_Free_l0 : RC :=
  RC.seq (RC.region 1 [
    ⟨(some 15), .bin .lss (.t 14) (.t 13), none, 0, []⟩]) (RC.seq (RC.cond (.t 15) (RC.skip) (RC.exit 0)) (RC.seq (RC.block 1 (RC.seq (RC.region 3 [
    ⟨(some 16), .indexSl 1 (.t 12) (.t 14), none, 0, []⟩,
    ⟨(some 17), .load none (.t 16), none, 1, []⟩,
    ⟨(some 7), .move (.t 17), none, 2, []⟩]) (RC.seq (RC.region 9 [
    ⟨(some 19), .move (.t 0), none, 0, []⟩,
    ⟨(some 20), .move (.t 7), none, 1, []⟩,
    ⟨(some 21), .move (.t 1), none, 2, []⟩,
    ⟨(some 22), .call F.mtx_All_Unlock [(.t 19), (.t 20), (.t 21)], none, 3, []⟩,
    ⟨(some 18), .move (.t 22), none, 4, []⟩,
    ⟨(some 23), .extract 0 (.t 18), none, 5, []⟩,
    ⟨(some 24), .extract 1 (.t 18), none, 6, []⟩,
    ⟨(some 8), .move (.t 23), none, 7, []⟩,
    ⟨(some 9), .move (.t 24), none, 8, []⟩]) (RC.seq (RC.region 6 [
    ⟨(some 25), .move (.t 9), none, 0, []⟩,
    ⟨(some 26), .bin .eql (.t 25) (.c (.s (.int .i64 0))), none, 1, []⟩,
    ⟨(some 27), .move (.t 26), none, 2, []⟩,
    ⟨(some 28), .move (.t 8), (some (27, true)), 3, []⟩,
    ⟨(some 29), .bin .gtr (.t 28) (.c (.s (.int .i64 0))), (some (27, true)), 4, []⟩,
    ⟨(some 30), .pick (.t 27) (.t 29) (.c (.s (.bool false))), none, 5, []⟩]) (RC.cond (.t 30) (RC.region 5 [
    ⟨(some 31), .move (.t 5), none, 0, []⟩,
    ⟨(some 32), .move (.t 8), none, 1, []⟩,
    ⟨(some 33), .buildSlice 1 1 [.int .i64 0] [(0, 1, (.t 32))], none, 2, []⟩,
    ⟨(some 34), .append 1 8 (.t 31) (.t 33), none, 3, []⟩,
    ⟨(some 5), .move (.t 34), none, 4, []⟩]) (RC.skip)))))) (RC.region 2 [
    ⟨(some 35), .bin .add (.t 14) (.c (.s (.int .i64 1))), none, 0, []⟩,
    ⟨(some 14), .move (.t 35), none, 1, []⟩])))
def mtx_All_Free_s1 : RC :=
  RC.seq (RC.region 3 [
    ⟨(some 36), .move (.t 5), none, 0, []⟩,
    ⟨(some 37), .call F.slices_Clip__int_int [(.t 36)], none, 1, []⟩,
    ⟨(some 4), .move (.t 37), none, 2, []⟩]) (RC.ret)
def mtx_All_Free : RFunc := RFunc.mk 38 [.tmp 4] (
  RC.seq (RC.region 1 [
    ⟨(some 4), .move (.c (.s (.slice none 0 0 1))), none, 0, []⟩]) (RC.seq (RC.region 1 [
    ⟨(some 5), .move (.c (.s (.slice none 0 0 1))), none, 0, []⟩]) (RC.seq (RC.seq (RC.region 5 [
    ⟨(some 10), .move (.t 0), none, 0, []⟩,
    ⟨(some 11), .move (.t 1), none, 1, []⟩,
    ⟨(some 12), .call F.mtx_All_Held [(.t 10), (.t 11)], none, 2, []⟩,
    ⟨(some 13), .len (.t 12), none, 3, []⟩,
    ⟨(some 14), .move (.c (.s (.int .i64 0))), none, 4, []⟩]) (RC.block 0 (RC.loop R.mtx_All_Free_l0))) R.mtx_All_Free_s1)))
theorem mtx_All_Free_ok : chkFunc Go.Proofs.Try.prog [] Go.Proofs.Try.f19 mtx_All_Free = true := by kernel_rfl
def mtx_All_Held_l0 : RC :=
  RC.seq (RC.seq (RC.region 11 [
    ⟨(some 7), .move (.t 1), none, 0, []⟩,
    ⟨(some 8), .call F.mtx_is [(.t 7)], none, 1, []⟩,
    ⟨(some 9), .move (.t 8), none, 2, []⟩,
    ⟨(some 10), .move (.t 6), (some (9, true)), 3, []⟩,
    ⟨(some 11), .move (.t 0), (some (9, true)), 4, []⟩,
    ⟨(some 12), .nilCheck (.t 11), (some (9, true)), 5, []⟩,
    ⟨(some 13), .fieldAddr 0 (.t 12), (some (9, true)), 6, []⟩,
    ⟨(some 14), .load none (.t 13), (some (9, true)), 7, []⟩,
    ⟨(some 15), .len (.t 14), (some (9, true)), 8, []⟩,
    ⟨(some 16), .bin .lss (.t 10) (.t 15), (some (9, true)), 9, []⟩,
    ⟨(some 17), .pick (.t 9) (.t 16) (.c (.s (.bool false))), none, 10, []⟩]) (RC.cond (.t 17) (RC.skip) (RC.exit 0))) (RC.seq (RC.block 1 (RC.seq (RC.region 10 [
    ⟨(some 20), .move (.t 0), none, 0, []⟩,
    ⟨(some 21), .nilCheck (.t 20), none, 1, []⟩,
    ⟨(some 22), .fieldAddr 0 (.t 21), none, 2, []⟩,
    ⟨(some 23), .load none (.t 22), none, 3, []⟩,
    ⟨(some 24), .move (.t 6), none, 4, []⟩,
    ⟨(some 25), .indexSl 4 (.t 23) (.t 24), none, 5, []⟩,
    ⟨(some 26), .fieldAddr 2 (.t 25), none, 6, []⟩,
    ⟨(some 27), .load none (.t 26), none, 7, []⟩,
    ⟨(some 28), .move (.t 1), none, 8, []⟩,
    ⟨(some 29), .bin .eql (.t 27) (.t 28), none, 9, []⟩]) (RC.cond (.t 29) (RC.region 5 [
    ⟨(some 30), .move (.t 5), none, 0, []⟩,
    ⟨(some 31), .move (.t 6), none, 1, []⟩,
    ⟨(some 32), .buildSlice 1 1 [.int .i64 0] [(0, 1, (.t 31))], none, 2, []⟩,
    ⟨(some 33), .append 1 8 (.t 30) (.t 32), none, 3, []⟩,
    ⟨(some 5), .move (.t 33), none, 4, []⟩]) (RC.skip)))) (RC.region 3 [
    ⟨(some 18), .move (.t 6), none, 0, []⟩,
    ⟨(some 19), .bin .add (.t 18) (.c (.s (.int .i64 1))), none, 1, []⟩,
    ⟨(some 6), .move (.t 19), none, 2, []⟩]))
def mtx_All_Held_s1 : RC :=
  RC.seq (RC.region 3 [
    ⟨(some 34), .move (.t 5), none, 0, []⟩,
    ⟨(some 35), .call F.slices_Clip__int_int [(.t 34)], none, 1, []⟩,
    ⟨(some 4), .move (.t 35), none, 2, []⟩]) (RC.ret)
def mtx_All_Held : RFunc := RFunc.mk 36 [.tmp 4] (
  RC.seq (RC.region 1 [
    ⟨(some 4), .move (.c (.s (.slice none 0 0 1))), none, 0, []⟩]) (RC.seq (RC.region 1 [
    ⟨(some 5), .move (.c (.s (.slice none 0 0 1))), none, 0, []⟩]) (RC.seq (RC.seq (RC.region 1 [
    ⟨(some 6), .move (.c (.s (.int .i64 1))), none, 0, []⟩]) (RC.block 0 (RC.loop R.mtx_All_Held_l0))) R.mtx_All_Held_s1)))
theorem mtx_All_Held_ok : chkFunc Go.Proofs.Try.prog [] Go.Proofs.Try.f20 mtx_All_Held = true := by kernel_rfl
def detentref15_New_l0 : RC :=
  RC.seq (RC.seq (RC.region 4 [
    ⟨(some 16), .move (.t 5), none, 0, []⟩,
    ⟨(some 17), .move (.t 0), none, 1, []⟩,
    ⟨(some 18), .len (.t 17), none, 2, []⟩,
    ⟨(some 19), .bin .lss (.t 16) (.t 18), none, 3, []⟩]) (RC.cond (.t 19) (RC.skip) (RC.exit 0))) (RC.seq (RC.block 1 (RC.seq (RC.region 7 [
    ⟨(some 22), .move (.t 0), none, 0, []⟩,
    ⟨(some 23), .move (.t 5), none, 1, []⟩,
    ⟨(some 24), .indexSl 2 (.t 22) (.t 23), none, 2, []⟩,
    ⟨(some 25), .fieldAddr 0 (.t 24), none, 3, []⟩,
    ⟨(some 26), .load none (.t 25), none, 4, []⟩,
    ⟨(some 27), .bin .eql (.t 26) (.c (.s (.int .i64 3))), none, 5, []⟩,
    ⟨(some 6), .move (.t 27), none, 6, []⟩]) (RC.seq (RC.seq (RC.region 45 [
    ⟨(some 28), .move (.t 0), none, 0, []⟩,
    ⟨(some 29), .move (.t 5), none, 1, []⟩,
    ⟨(some 30), .indexSl 2 (.t 28) (.t 29), none, 2, []⟩,
    ⟨(some 31), .fieldAddr 0 (.t 30), none, 3, []⟩,
    ⟨(some 32), .load none (.t 31), none, 4, []⟩,
    ⟨(some 33), .bin .lss (.t 32) (.c (.s (.int .i64 0))), none, 5, []⟩,
    ⟨(some 34), .move (.t 33), none, 6, []⟩,
    ⟨(some 35), .move (.t 0), (some (34, false)), 7, []⟩,
    ⟨(some 36), .move (.t 5), (some (34, false)), 8, []⟩,
    ⟨(some 37), .indexSl 2 (.t 35) (.t 36), (some (34, false)), 9, []⟩,
    ⟨(some 38), .fieldAddr 0 (.t 37), (some (34, false)), 10, []⟩,
    ⟨(some 39), .load none (.t 38), (some (34, false)), 11, []⟩,
    ⟨(some 40), .bin .gtr (.t 39) (.c (.s (.int .i64 3))), (some (34, false)), 12, []⟩,
    ⟨(some 41), .pick (.t 34) (.c (.s (.bool true))) (.t 40), none, 13, []⟩,
    ⟨(some 42), .move (.t 41), none, 14, []⟩,
    ⟨(some 43), .move (.t 6), (some (42, false)), 15, []⟩,
    ⟨(some 44), .move (.t 43), (some (42, false)), 16, []⟩,
    ⟨(some 45), .move (.t 0), (some (44, true)), 17, []⟩,
    ⟨(some 46), .move (.t 5), (some (44, true)), 18, []⟩,
    ⟨(some 47), .indexSl 2 (.t 45) (.t 46), (some (44, true)), 19, []⟩,
    ⟨(some 48), .fieldAddr 1 (.t 47), (some (44, true)), 20, []⟩,
    ⟨(some 49), .load none (.t 48), (some (44, true)), 21, []⟩,
    ⟨(some 50), .bin .lss (.t 49) (.c (.s (.int .i64 1))), (some (44, true)), 22, []⟩,
    ⟨(some 51), .move (.t 50), (some (44, true)), 23, []⟩,
    ⟨(some 52), .move (.t 0), (some (51, false)), 24, []⟩,
    ⟨(some 53), .move (.t 5), (some (51, false)), 25, []⟩,
    ⟨(some 54), .indexSl 2 (.t 52) (.t 53), (some (51, false)), 26, []⟩,
    ⟨(some 55), .fieldAddr 1 (.t 54), (some (51, false)), 27, []⟩,
    ⟨(some 56), .load none (.t 55), (some (51, false)), 28, []⟩,
    ⟨(some 57), .bin .gtr (.t 56) (.c (.s (.int .i64 16))), (some (51, false)), 29, []⟩,
    ⟨(some 58), .pick (.t 51) (.c (.s (.bool true))) (.t 57), (some (44, true)), 30, []⟩,
    ⟨(some 59), .pick (.t 44) (.t 58) (.c (.s (.bool false))), (some (42, false)), 31, []⟩,
    ⟨(some 60), .pick (.t 42) (.c (.s (.bool true))) (.t 59), none, 32, []⟩,
    ⟨(some 61), .move (.t 60), none, 33, []⟩,
    ⟨(some 62), .move (.t 6), (some (61, false)), 34, []⟩,
    ⟨(some 63), .un .not (.t 62), (some (61, false)), 35, []⟩,
    ⟨(some 64), .move (.t 63), (some (61, false)), 36, []⟩,
    ⟨(some 65), .move (.t 0), (some (64, true)), 37, []⟩,
    ⟨(some 66), .move (.t 5), (some (64, true)), 38, []⟩,
    ⟨(some 67), .indexSl 2 (.t 65) (.t 66), (some (64, true)), 39, []⟩,
    ⟨(some 68), .fieldAddr 1 (.t 67), (some (64, true)), 40, []⟩,
    ⟨(some 69), .load none (.t 68), (some (64, true)), 41, []⟩,
    ⟨(some 70), .bin .neq (.t 69) (.c (.s (.int .i64 0))), (some (64, true)), 42, []⟩,
    ⟨(some 71), .pick (.t 64) (.t 70) (.c (.s (.bool false))), (some (61, false)), 43, []⟩,
    ⟨(some 72), .pick (.t 61) (.c (.s (.bool true))) (.t 71), none, 44, []⟩]) (RC.cond (.t 72) (RC.seq (RC.region 2 [
    ⟨(some 2), .move (.c (.s (.ptr none))), none, 0, []⟩,
    ⟨(some 3), .move (.c (.s (.int .i64 (-17)))), none, 1, []⟩]) (RC.ret)) (RC.skip))) (RC.seq (RC.region 10 [
    ⟨(some 73), .move (.t 4), none, 0, []⟩,
    ⟨(some 74), .move (.t 4), none, 1, []⟩,
    ⟨(some 75), .nilCheck (.t 74), none, 2, []⟩,
    ⟨(some 76), .fieldAddr 1 (.t 75), none, 3, []⟩,
    ⟨(some 77), .load none (.t 76), none, 4, []⟩,
    ⟨(some 78), .buildSlice 1 1 [.int .i64 0] [(0, 1, (.c (.s (.int .i64 0))))], none, 5, []⟩,
    ⟨(some 79), .append 1 8 (.t 77) (.t 78), none, 6, []⟩,
    ⟨(some 80), .nilCheck (.t 73), none, 7, []⟩,
    ⟨(some 81), .fieldAddr 1 (.t 80), none, 8, []⟩,
    ⟨none, .store 1 (.t 81) (.t 79), none, 9, []⟩]) (RC.region 18 [
    ⟨(some 82), .move (.t 4), none, 0, []⟩,
    ⟨(some 83), .move (.t 4), none, 1, []⟩,
    ⟨(some 84), .nilCheck (.t 83), none, 2, []⟩,
    ⟨(some 85), .fieldAddr 2 (.t 84), none, 3, []⟩,
    ⟨(some 86), .load none (.t 85), none, 4, []⟩,
    ⟨(some 87), .move (.t 0), none, 5, []⟩,
    ⟨(some 88), .move (.t 5), none, 6, []⟩,
    ⟨(some 89), .indexSl 2 (.t 87) (.t 88), none, 7, []⟩,
    ⟨(some 90), .fieldAddr 0 (.t 89), none, 8, []⟩,
    ⟨(some 91), .load none (.t 90), none, 9, []⟩,
    ⟨(some 92), .bin .neq (.t 91) (.c (.s (.int .i64 0))), none, 10, []⟩,
    ⟨(some 93), .build [.bool false, .slice none 0 0 1] [(0, 1, (.t 92))], none, 11, []⟩,
    ⟨(some 94), .box (.t 93), none, 12, []⟩,
    ⟨(some 95), .buildSlice 1 1 [.ptr none] [(0, 1, (.t 94))], none, 13, []⟩,
    ⟨(some 96), .append 1 8 (.t 86) (.t 95), none, 14, []⟩,
    ⟨(some 97), .nilCheck (.t 82), none, 15, []⟩,
    ⟨(some 98), .fieldAddr 2 (.t 97), none, 16, []⟩,
    ⟨none, .store 1 (.t 98) (.t 96), none, 17, []⟩]))))) (RC.region 3 [
    ⟨(some 20), .move (.t 5), none, 0, []⟩,
    ⟨(some 21), .bin .add (.t 20) (.c (.s (.int .i64 1))), none, 1, []⟩,
    ⟨(some 5), .move (.t 21), none, 2, []⟩]))
def detentref15_New_l1 : RC :=
  RC.seq (RC.seq (RC.region 2 [
    ⟨(some 99), .move (.t 7), none, 0, []⟩,
    ⟨(some 100), .bin .leq (.t 99) (.c (.s (.int .i64 16))), none, 1, []⟩]) (RC.cond (.t 100) (RC.skip) (RC.exit 2))) (RC.seq (RC.block 3 (RC.seq (RC.region 6 [
    ⟨(some 103), .move (.t 4), none, 0, []⟩,
    ⟨(some 104), .move (.t 7), none, 1, []⟩,
    ⟨(some 105), .nilCheck (.t 103), none, 2, []⟩,
    ⟨(some 106), .fieldAddr 3 (.t 105), none, 3, []⟩,
    ⟨(some 107), .indexArr 17 1 (.t 106) (.t 104), none, 4, []⟩,
    ⟨none, .store 1 (.t 107) (.c (.s (.int .i64 16))), none, 5, []⟩]) (RC.region 6 [
    ⟨(some 108), .move (.t 4), none, 0, []⟩,
    ⟨(some 109), .move (.t 7), none, 1, []⟩,
    ⟨(some 110), .nilCheck (.t 108), none, 2, []⟩,
    ⟨(some 111), .fieldAddr 20 (.t 110), none, 3, []⟩,
    ⟨(some 112), .indexArr 17 1 (.t 111) (.t 109), none, 4, []⟩,
    ⟨none, .store 1 (.t 112) (.c (.s (.int .i64 16))), none, 5, []⟩]))) (RC.region 3 [
    ⟨(some 101), .move (.t 7), none, 0, []⟩,
    ⟨(some 102), .bin .add (.t 101) (.c (.s (.int .i64 1))), none, 1, []⟩,
    ⟨(some 7), .move (.t 102), none, 2, []⟩]))
def detentref15_New_s2 : RC :=
  RC.seq (RC.region 3 [
    ⟨(some 113), .move (.t 4), none, 0, []⟩,
    ⟨(some 2), .move (.t 113), none, 1, []⟩,
    ⟨(some 3), .move (.c (.s (.int .i64 0))), none, 2, []⟩]) (RC.ret)
def detentref15_New_s3 : RC :=
  RC.seq (RC.seq (RC.region 1 [
    ⟨(some 7), .move (.c (.s (.int .i64 1))), none, 0, []⟩]) (RC.block 2 (RC.loop R.detentref15_New_l1))) R.detentref15_New_s2
def detentref15_New : RFunc := RFunc.mk 114 [.tmp 2, .tmp 3] (
  RC.seq (RC.region 2 [
    ⟨(some 2), .move (.c (.s (.ptr none))), none, 0, []⟩,
    ⟨(some 3), .move (.c (.s (.int .i64 0))), none, 1, []⟩]) (RC.seq (RC.seq (RC.region 3 [
    ⟨(some 8), .move (.t 0), none, 0, []⟩,
    ⟨(some 9), .len (.t 8), none, 1, []⟩,
    ⟨(some 10), .bin .gtr (.t 9) (.c (.s (.int .i64 8))), none, 2, []⟩]) (RC.cond (.t 10) (RC.seq (RC.region 2 [
    ⟨(some 2), .move (.c (.s (.ptr none))), none, 0, []⟩,
    ⟨(some 3), .move (.c (.s (.int .i64 (-17)))), none, 1, []⟩]) (RC.ret)) (RC.skip))) (RC.seq (RC.region 6 [
    ⟨(some 11), .buildSlice 2 0 [] [], none, 0, []⟩,
    ⟨(some 12), .move (.t 0), none, 1, []⟩,
    ⟨(some 13), .append 2 16 (.t 11) (.t 12), none, 2, []⟩,
    ⟨(some 14), .build [.slice none 0 0 1, .slice none 0 0 1, .slice none 0 0 1, .int .i64 0, .int .i64 0, .int .i64 0, .int .i64 0, .int .i64 0, .int .i64 0, .int .i64 0, .int .i64 0, .int .i64 0, .int .i64 0, .int .i64 0, .int .i64 0, .int .i64 0, .int .i64 0, .int .i64 0, .int .i64 0, .int .i64 0, .int .i64 0, .int .i64 0, .int .i64 0, .int .i64 0, .int .i64 0, .int .i64 0, .int .i64 0, .int .i64 0, .int .i64 0, .int .i64 0, .int .i64 0, .int .i64 0, .int .i64 0, .int .i64 0, .int .i64 0, .int .i64 0, .int .i64 0] [(0, 1, (.t 13))], none, 3, []⟩,
    ⟨(some 15), .box (.t 14), none, 4, []⟩,
    ⟨(some 4), .move (.t 15), none, 5, []⟩]) (RC.seq (RC.seq (RC.region 1 [
    ⟨(some 5), .move (.c (.s (.int .i64 0))), none, 0, []⟩]) (RC.block 0 (RC.loop R.detentref15_New_l0))) R.detentref15_New_s3))))
theorem detentref15_New_ok : chkFunc Go.Proofs.Try.prog [] Go.Proofs.Try.f21 detentref15_New = true := by kernel_rfl
def detentref15_All_Lock : RFunc := RFunc.mk 44 [.tmp 6, .tmp 7] (
  RC.seq (RC.region 2 [
    ⟨(some 6), .move (.c (.s (.bool false))), none, 0, []⟩,
    ⟨(some 7), .move (.c (.s (.int .i64 0))), none, 1, []⟩]) (RC.seq (RC.region 9 [
    ⟨(some 11), .move (.t 0), none, 0, []⟩,
    ⟨(some 12), .move (.t 1), none, 1, []⟩,
    ⟨(some 13), .move (.t 2), none, 2, []⟩,
    ⟨(some 14), .call F.detentref15_All_try [(.t 11), (.t 12), (.t 13)], none, 3, []⟩,
    ⟨(some 10), .move (.t 14), none, 4, []⟩,
    ⟨(some 15), .extract 0 (.t 10), none, 5, []⟩,
    ⟨(some 16), .extract 1 (.t 10), none, 6, []⟩,
    ⟨(some 8), .move (.t 15), none, 7, []⟩,
    ⟨(some 9), .move (.t 16), none, 8, []⟩]) (RC.seq (RC.seq (RC.region 5 [
    ⟨(some 17), .move (.t 8), none, 0, []⟩,
    ⟨(some 18), .move (.t 17), none, 1, []⟩,
    ⟨(some 19), .move (.t 9), (some (18, false)), 2, []⟩,
    ⟨(some 20), .bin .neq (.t 19) (.c (.s (.int .i64 0))), (some (18, false)), 3, []⟩,
    ⟨(some 21), .pick (.t 18) (.c (.s (.bool true))) (.t 20), none, 4, []⟩]) (RC.cond (.t 21) (RC.seq (RC.region 4 [
    ⟨(some 22), .move (.t 8), none, 0, []⟩,
    ⟨(some 23), .move (.t 9), none, 1, []⟩,
    ⟨(some 6), .move (.t 22), none, 2, []⟩,
    ⟨(some 7), .move (.t 23), none, 3, []⟩]) (RC.ret)) (RC.skip))) (RC.seq (RC.seq (RC.region 5 [
    ⟨(some 24), .move (.t 0), none, 0, []⟩,
    ⟨(some 25), .move (.t 1), none, 1, []⟩,
    ⟨(some 26), .bin .sub (.t 25) (.c (.s (.int .i64 1))), none, 2, []⟩,
    ⟨(some 27), .move (.t 2), none, 3, []⟩,
    ⟨(some 28), .call F.detentref15_All_round [(.t 24), (.t 26), (.t 27)], none, 4, []⟩]) (RC.cond (.t 28) (RC.seq (RC.region 2 [
    ⟨(some 6), .move (.c (.s (.bool false))), none, 0, []⟩,
    ⟨(some 7), .move (.c (.s (.int .i64 (-28)))), none, 1, []⟩]) (RC.ret)) (RC.skip))) (RC.seq (RC.region 13 [
    ⟨(some 29), .move (.t 0), none, 0, []⟩,
    ⟨(some 30), .nilCheck (.t 29), none, 1, []⟩,
    ⟨(some 31), .fieldAddr 2 (.t 30), none, 2, []⟩,
    ⟨(some 32), .load none (.t 31), none, 3, []⟩,
    ⟨(some 33), .move (.t 1), none, 4, []⟩,
    ⟨(some 34), .bin .sub (.t 33) (.c (.s (.int .i64 1))), none, 5, []⟩,
    ⟨(some 35), .indexSl 1 (.t 32) (.t 34), none, 6, []⟩,
    ⟨(some 36), .load none (.t 35), none, 7, []⟩,
    ⟨(some 37), .move (.t 2), none, 8, []⟩,
    ⟨(some 38), .move (.t 0), none, 9, []⟩,
    ⟨(some 39), .move (.t 2), none, 10, []⟩,
    ⟨(some 40), .call F.detentref15_All_Pri [(.t 38), (.t 39)], none, 11, [⟨32, none, (.t 31), none⟩, ⟨36, none, (.t 35), none⟩]⟩,
    ⟨(some 41), .call F.detentref4_Queue_Add [(.t 36), (.t 37), (.t 40)], none, 12, []⟩]) (RC.seq (RC.region 2 [
    ⟨(some 42), .move (.t 0), none, 0, []⟩,
    ⟨(some 43), .call F.detentref15_All_settle [(.t 42)], none, 1, []⟩]) (RC.seq (RC.region 2 [
    ⟨(some 6), .move (.c (.s (.bool false))), none, 0, []⟩,
    ⟨(some 7), .move (.c (.s (.int .i64 0))), none, 1, []⟩]) (RC.ret))))))))
theorem detentref15_All_Lock_ok : chkFunc Go.Proofs.Try.prog [] Go.Proofs.Try.f23 detentref15_All_Lock = true := by kernel_rfl
def detentref15_All_TryLock : RFunc := RFunc.mk 14 [.tmp 6, .tmp 7] (
  RC.seq (RC.region 2 [
    ⟨(some 6), .move (.c (.s (.bool false))), none, 0, []⟩,
    ⟨(some 7), .move (.c (.s (.int .i64 0))), none, 1, []⟩]) (RC.seq (RC.region 8 [
    ⟨(some 8), .move (.t 0), none, 0, []⟩,
    ⟨(some 9), .move (.t 1), none, 1, []⟩,
    ⟨(some 10), .move (.t 2), none, 2, []⟩,
    ⟨(some 11), .call F.detentref15_All_try [(.t 8), (.t 9), (.t 10)], none, 3, []⟩,
    ⟨(some 12), .extract 0 (.t 11), none, 4, []⟩,
    ⟨(some 13), .extract 1 (.t 11), none, 5, []⟩,
    ⟨(some 6), .move (.t 12), none, 6, []⟩,
    ⟨(some 7), .move (.t 13), none, 7, []⟩]) (RC.ret)))
theorem detentref15_All_TryLock_ok : chkFunc Go.Proofs.Try.prog [] Go.Proofs.Try.f24 detentref15_All_TryLock = true := by kernel_rfl
def detentref15_All_Unlock : RFunc := RFunc.mk 37 [.tmp 6, .tmp 7] (
  RC.seq (RC.region 2 [
    ⟨(some 6), .move (.c (.s (.int .i64 0))), none, 0, []⟩,
    ⟨(some 7), .move (.c (.s (.int .i64 0))), none, 1, []⟩]) (RC.seq (RC.block 0 (RC.seq (RC.region 10 [
    ⟨(some 10), .move (.t 0), none, 0, []⟩,
    ⟨(some 11), .move (.t 1), none, 1, []⟩,
    ⟨(some 12), .call F.detentref15_All_mutex [(.t 10), (.t 11)], none, 2, []⟩,
    ⟨(some 13), .un .not (.t 12), none, 3, []⟩,
    ⟨(some 14), .move (.t 13), none, 4, []⟩,
    ⟨(some 15), .move (.t 2), (some (14, false)), 5, []⟩,
    ⟨(some 16), .call F.detentref15_is [(.t 15)], (some (14, false)), 6, []⟩,
    ⟨(some 17), .un .not (.t 16), (some (14, false)), 7, []⟩,
    ⟨(some 18), .pick (.t 14) (.c (.s (.bool true))) (.t 17), none, 8, []⟩,
    ⟨(some 9), .move (.t 18), none, 9, []⟩]) (RC.cond (.t 9) (RC.seq (RC.region 2 [
    ⟨(some 6), .move (.c (.s (.int .i64 0))), none, 0, []⟩,
    ⟨(some 7), .move (.c (.s (.int .i64 (-18)))), none, 1, []⟩]) (RC.ret)) (RC.seq (RC.region 11 [
    ⟨(some 20), .move (.t 0), none, 0, []⟩,
    ⟨(some 21), .nilCheck (.t 20), none, 1, []⟩,
    ⟨(some 22), .fieldAddr 1 (.t 21), none, 2, []⟩,
    ⟨(some 23), .load none (.t 22), none, 3, []⟩,
    ⟨(some 24), .move (.t 1), none, 4, []⟩,
    ⟨(some 25), .bin .sub (.t 24) (.c (.s (.int .i64 1))), none, 5, []⟩,
    ⟨(some 26), .indexSl 1 (.t 23) (.t 25), none, 6, []⟩,
    ⟨(some 27), .load none (.t 26), none, 7, []⟩,
    ⟨(some 28), .move (.t 2), none, 8, []⟩,
    ⟨(some 29), .bin .neq (.t 27) (.t 28), none, 9, []⟩,
    ⟨(some 19), .move (.t 29), none, 10, []⟩]) (RC.cond (.t 19) (RC.seq (RC.region 2 [
    ⟨(some 6), .move (.c (.s (.int .i64 0))), none, 0, []⟩,
    ⟨(some 7), .move (.c (.s (.int .i64 (-28)))), none, 1, []⟩]) (RC.ret)) (RC.skip)))))) (RC.seq (RC.region 5 [
    ⟨(some 30), .move (.t 0), none, 0, []⟩,
    ⟨(some 31), .move (.t 1), none, 1, []⟩,
    ⟨(some 32), .bin .sub (.t 31) (.c (.s (.int .i64 1))), none, 2, []⟩,
    ⟨(some 33), .call F.detentref15_All_pass [(.t 30), (.t 32)], none, 3, []⟩,
    ⟨(some 8), .move (.t 33), none, 4, []⟩]) (RC.seq (RC.region 2 [
    ⟨(some 34), .move (.t 0), none, 0, []⟩,
    ⟨(some 35), .call F.detentref15_All_settle [(.t 34)], none, 1, []⟩]) (RC.seq (RC.region 3 [
    ⟨(some 36), .move (.t 8), none, 0, []⟩,
    ⟨(some 6), .move (.t 36), none, 1, []⟩,
    ⟨(some 7), .move (.c (.s (.int .i64 0))), none, 2, []⟩]) (RC.ret))))))
theorem detentref15_All_Unlock_ok : chkFunc Go.Proofs.Try.prog [] Go.Proofs.Try.f25 detentref15_All_Unlock = true := by kernel_rfl
def detentref15_All_SetBase_l0 : RC :=
  RC.seq (RC.seq (RC.region 7 [
    ⟨(some 17), .move (.t 7), none, 0, []⟩,
    ⟨(some 18), .move (.t 0), none, 1, []⟩,
    ⟨(some 19), .nilCheck (.t 18), none, 2, []⟩,
    ⟨(some 20), .fieldAddr 0 (.t 19), none, 3, []⟩,
    ⟨(some 21), .load none (.t 20), none, 4, []⟩,
    ⟨(some 22), .len (.t 21), none, 5, []⟩,
    ⟨(some 23), .bin .lss (.t 17) (.t 22), none, 6, []⟩]) (RC.cond (.t 23) (RC.skip) (RC.exit 0))) (RC.seq (RC.block 1 (RC.seq (RC.region 44 [
    ⟨(some 26), .move (.t 0), none, 0, []⟩,
    ⟨(some 27), .nilCheck (.t 26), none, 1, []⟩,
    ⟨(some 28), .fieldAddr 0 (.t 27), none, 2, []⟩,
    ⟨(some 29), .load none (.t 28), none, 3, []⟩,
    ⟨(some 30), .move (.t 7), none, 4, []⟩,
    ⟨(some 31), .indexSl 2 (.t 29) (.t 30), none, 5, []⟩,
    ⟨(some 32), .fieldAddr 0 (.t 31), none, 6, []⟩,
    ⟨(some 33), .load none (.t 32), none, 7, []⟩,
    ⟨(some 34), .bin .eql (.t 33) (.c (.s (.int .i64 3))), none, 8, []⟩,
    ⟨(some 35), .move (.t 34), none, 9, []⟩,
    ⟨(some 36), .move (.t 0), (some (35, true)), 10, []⟩,
    ⟨(some 37), .nilCheck (.t 36), (some (35, true)), 11, []⟩,
    ⟨(some 38), .fieldAddr 0 (.t 37), (some (35, true)), 12, []⟩,
    ⟨(some 39), .load none (.t 38), (some (35, true)), 13, []⟩,
    ⟨(some 40), .move (.t 7), (some (35, true)), 14, []⟩,
    ⟨(some 41), .indexSl 2 (.t 39) (.t 40), (some (35, true)), 15, []⟩,
    ⟨(some 42), .fieldAddr 1 (.t 41), (some (35, true)), 16, []⟩,
    ⟨(some 43), .load none (.t 42), (some (35, true)), 17, []⟩,
    ⟨(some 44), .move (.t 2), (some (35, true)), 18, []⟩,
    ⟨(some 45), .bin .gtr (.t 43) (.t 44), (some (35, true)), 19, []⟩,
    ⟨(some 46), .pick (.t 35) (.t 45) (.c (.s (.bool false))), none, 20, []⟩,
    ⟨(some 47), .move (.t 46), none, 21, []⟩,
    ⟨(some 48), .move (.t 0), (some (47, true)), 22, []⟩,
    ⟨(some 49), .nilCheck (.t 48), (some (47, true)), 23, []⟩,
    ⟨(some 50), .fieldAddr 1 (.t 49), (some (47, true)), 24, []⟩,
    ⟨(some 51), .load none (.t 50), (some (47, true)), 25, []⟩,
    ⟨(some 52), .move (.t 7), (some (47, true)), 26, []⟩,
    ⟨(some 53), .indexSl 1 (.t 51) (.t 52), (some (47, true)), 27, []⟩,
    ⟨(some 54), .load none (.t 53), (some (47, true)), 28, []⟩,
    ⟨(some 55), .move (.t 1), (some (47, true)), 29, []⟩,
    ⟨(some 56), .bin .eql (.t 54) (.t 55), (some (47, true)), 30, []⟩,
    ⟨(some 57), .move (.t 56), (some (47, true)), 31, []⟩,
    ⟨(some 58), .move (.t 0), (some (57, false)), 32, []⟩,
    ⟨(some 59), .nilCheck (.t 58), (some (57, false)), 33, []⟩,
    ⟨(some 60), .fieldAddr 2 (.t 59), (some (57, false)), 34, []⟩,
    ⟨(some 61), .load none (.t 60), (some (57, false)), 35, []⟩,
    ⟨(some 62), .move (.t 7), (some (57, false)), 36, []⟩,
    ⟨(some 63), .indexSl 1 (.t 61) (.t 62), (some (57, false)), 37, []⟩,
    ⟨(some 64), .load none (.t 63), (some (57, false)), 38, []⟩,
    ⟨(some 65), .move (.t 1), (some (57, false)), 39, []⟩,
    ⟨(some 66), .call F.detentref4_Queue_At [(.t 64), (.t 65)], (some (57, false)), 40, []⟩,
    ⟨(some 67), .bin .geq (.t 66) (.c (.s (.int .i64 0))), (some (57, false)), 41, []⟩,
    ⟨(some 68), .pick (.t 57) (.c (.s (.bool true))) (.t 67), (some (47, true)), 42, []⟩,
    ⟨(some 69), .pick (.t 47) (.t 68) (.c (.s (.bool false))), none, 43, []⟩]) (RC.cond (.t 69) (RC.seq (RC.region 1 [
    ⟨(some 6), .move (.c (.s (.int .i64 (-28)))), none, 0, []⟩]) (RC.ret)) (RC.skip)))) (RC.region 3 [
    ⟨(some 24), .move (.t 7), none, 0, []⟩,
    ⟨(some 25), .bin .add (.t 24) (.c (.s (.int .i64 1))), none, 1, []⟩,
    ⟨(some 7), .move (.t 25), none, 2, []⟩]))
def detentref15_All_SetBase_s1 : RC :=
  RC.seq (RC.region 7 [
    ⟨(some 70), .move (.t 0), none, 0, []⟩,
    ⟨(some 71), .move (.t 1), none, 1, []⟩,
    ⟨(some 72), .move (.t 2), none, 2, []⟩,
    ⟨(some 73), .nilCheck (.t 70), none, 3, []⟩,
    ⟨(some 74), .fieldAddr 3 (.t 73), none, 4, []⟩,
    ⟨(some 75), .indexArr 17 1 (.t 74) (.t 71), none, 5, []⟩,
    ⟨none, .store 1 (.t 75) (.t 72), none, 6, []⟩]) (RC.seq (RC.region 2 [
    ⟨(some 76), .move (.t 0), none, 0, []⟩,
    ⟨(some 77), .call F.detentref15_All_settle [(.t 76)], none, 1, []⟩]) (RC.seq (RC.region 1 [
    ⟨(some 6), .move (.c (.s (.int .i64 0))), none, 0, []⟩]) (RC.ret)))
def detentref15_All_SetBase : RFunc := RFunc.mk 78 [.tmp 6] (
  RC.seq (RC.region 1 [
    ⟨(some 6), .move (.c (.s (.int .i64 0))), none, 0, []⟩]) (RC.seq (RC.seq (RC.region 3 [
    ⟨(some 8), .move (.t 1), none, 0, []⟩,
    ⟨(some 9), .call F.detentref15_is [(.t 8)], none, 1, []⟩,
    ⟨(some 10), .un .not (.t 9), none, 2, []⟩]) (RC.cond (.t 10) (RC.seq (RC.region 1 [
    ⟨(some 6), .move (.c (.s (.int .i64 (-18)))), none, 0, []⟩]) (RC.ret)) (RC.skip))) (RC.seq (RC.seq (RC.region 6 [
    ⟨(some 11), .move (.t 2), none, 0, []⟩,
    ⟨(some 12), .bin .lss (.t 11) (.c (.s (.int .i64 1))), none, 1, []⟩,
    ⟨(some 13), .move (.t 12), none, 2, []⟩,
    ⟨(some 14), .move (.t 2), (some (13, false)), 3, []⟩,
    ⟨(some 15), .bin .gtr (.t 14) (.c (.s (.int .i64 16))), (some (13, false)), 4, []⟩,
    ⟨(some 16), .pick (.t 13) (.c (.s (.bool true))) (.t 15), none, 5, []⟩]) (RC.cond (.t 16) (RC.seq (RC.region 1 [
    ⟨(some 6), .move (.c (.s (.int .i64 (-17)))), none, 0, []⟩]) (RC.ret)) (RC.skip))) (RC.seq (RC.seq (RC.region 1 [
    ⟨(some 7), .move (.c (.s (.int .i64 0))), none, 0, []⟩]) (RC.block 0 (RC.loop R.detentref15_All_SetBase_l0))) R.detentref15_All_SetBase_s1))))
theorem detentref15_All_SetBase_ok : chkFunc Go.Proofs.Try.prog [] Go.Proofs.Try.f26 detentref15_All_SetBase = true := by kernel_rfl
def mtx_All_Drop : RFunc := RFunc.mk 48 [.tmp 4] (
  RC.seq (RC.region 2 [
    ⟨(some 3), .box (.t 1), none, 0, []⟩,
    ⟨(some 4), .move (.c (.s (.bool false))), none, 1, []⟩]) (RC.seq (RC.seq (RC.region 13 [
    ⟨(some 6), .load none (.t 3), none, 0, []⟩,
    ⟨(some 7), .call F.mtx_is [(.t 6)], none, 1, []⟩,
    ⟨(some 8), .un .not (.t 7), none, 2, []⟩,
    ⟨(some 9), .move (.t 8), none, 3, []⟩,
    ⟨(some 10), .move (.t 0), (some (9, false)), 4, []⟩,
    ⟨(some 11), .load none (.t 3), (some (9, false)), 5, []⟩,
    ⟨(some 12), .nilCheck (.t 10), (some (9, false)), 6, []⟩,
    ⟨(some 13), .fieldAddr 1 (.t 12), (some (9, false)), 7, []⟩,
    ⟨(some 14), .indexArr 17 3 (.t 13) (.t 11), (some (9, false)), 8, []⟩,
    ⟨(some 15), .fieldAddr 2 (.t 14), (some (9, false)), 9, []⟩,
    ⟨(some 16), .load none (.t 15), (some (9, false)), 10, []⟩,
    ⟨(some 17), .bin .eql (.t 16) (.c (.s (.int .i64 0))), (some (9, false)), 11, []⟩,
    ⟨(some 18), .pick (.t 9) (.c (.s (.bool true))) (.t 17), none, 12, []⟩]) (RC.cond (.t 18) (RC.seq (RC.region 1 [
    ⟨(some 4), .move (.c (.s (.bool false))), none, 0, []⟩]) (RC.ret)) (RC.skip))) (RC.seq (RC.region 13 [
    ⟨(some 19), .move (.t 0), none, 0, []⟩,
    ⟨(some 20), .nilCheck (.t 19), none, 1, []⟩,
    ⟨(some 21), .fieldAddr 0 (.t 20), none, 2, []⟩,
    ⟨(some 22), .load none (.t 21), none, 3, []⟩,
    ⟨(some 23), .move (.t 0), none, 4, []⟩,
    ⟨(some 24), .load none (.t 3), none, 5, []⟩,
    ⟨(some 25), .nilCheck (.t 23), none, 6, []⟩,
    ⟨(some 26), .fieldAddr 1 (.t 25), none, 7, []⟩,
    ⟨(some 27), .indexArr 17 3 (.t 26) (.t 24), none, 8, []⟩,
    ⟨(some 28), .fieldAddr 2 (.t 27), none, 9, []⟩,
    ⟨(some 29), .load none (.t 28), none, 10, []⟩,
    ⟨(some 30), .indexSl 4 (.t 22) (.t 29), none, 11, []⟩,
    ⟨(some 5), .move (.t 30), none, 12, []⟩]) (RC.seq (RC.region 10 [
    ⟨(some 31), .move (.t 5), none, 0, []⟩,
    ⟨(some 32), .move (.t 5), none, 1, []⟩,
    ⟨(some 33), .nilCheck (.t 32), none, 2, []⟩,
    ⟨(some 34), .fieldAddr 3 (.t 33), none, 3, []⟩,
    ⟨(some 35), .load none (.t 34), none, 4, []⟩,
    ⟨(some 36), .makeFunc F.mtx_All_Drop_1 [(.t 3)], none, 5, []⟩,
    ⟨(some 37), .call F.slices_DeleteFunc__int_int [(.t 35), (.t 36)], none, 6, []⟩,
    ⟨(some 38), .nilCheck (.t 31), none, 7, []⟩,
    ⟨(some 39), .fieldAddr 3 (.t 38), none, 8, []⟩,
    ⟨none, .store 1 (.t 39) (.t 37), none, 9, []⟩]) (RC.seq (RC.region 7 [
    ⟨(some 40), .move (.t 0), none, 0, []⟩,
    ⟨(some 41), .load none (.t 3), none, 1, []⟩,
    ⟨(some 42), .nilCheck (.t 40), none, 2, []⟩,
    ⟨(some 43), .fieldAddr 1 (.t 42), none, 3, []⟩,
    ⟨(some 44), .indexArr 17 3 (.t 43) (.t 41), none, 4, []⟩,
    ⟨(some 45), .fieldAddr 2 (.t 44), none, 5, []⟩,
    ⟨none, .store 1 (.t 45) (.c (.s (.int .i64 0))), none, 6, []⟩]) (RC.seq (RC.region 2 [
    ⟨(some 46), .move (.t 0), none, 0, []⟩,
    ⟨(some 47), .call F.mtx_All_settle [(.t 46)], none, 1, []⟩]) (RC.seq (RC.region 1 [
    ⟨(some 4), .move (.c (.s (.bool true))), none, 0, []⟩]) (RC.ret))))))))
theorem mtx_All_Drop_ok : chkFunc Go.Proofs.Try.prog [] Go.Proofs.Try.f27 mtx_All_Drop = true := by kernel_rfl
def detentref15_All_Drop : RFunc := RFunc.mk 22 [.tmp 4] (
  RC.seq (RC.region 1 [
    ⟨(some 4), .move (.c (.s (.bool false))), none, 0, []⟩]) (RC.seq (RC.region 4 [
    ⟨(some 6), .move (.t 0), none, 0, []⟩,
    ⟨(some 7), .move (.t 1), none, 1, []⟩,
    ⟨(some 8), .call F.detentref15_All_waits [(.t 6), (.t 7)], none, 2, []⟩,
    ⟨(some 5), .move (.t 8), none, 3, []⟩]) (RC.seq (RC.seq (RC.region 2 [
    ⟨(some 9), .move (.t 5), none, 0, []⟩,
    ⟨(some 10), .bin .lss (.t 9) (.c (.s (.int .i64 0))), none, 1, []⟩]) (RC.cond (.t 10) (RC.seq (RC.region 1 [
    ⟨(some 4), .move (.c (.s (.bool false))), none, 0, []⟩]) (RC.ret)) (RC.skip))) (RC.seq (RC.region 9 [
    ⟨(some 11), .move (.t 0), none, 0, []⟩,
    ⟨(some 12), .nilCheck (.t 11), none, 1, []⟩,
    ⟨(some 13), .fieldAddr 2 (.t 12), none, 2, []⟩,
    ⟨(some 14), .load none (.t 13), none, 3, []⟩,
    ⟨(some 15), .move (.t 5), none, 4, []⟩,
    ⟨(some 16), .indexSl 1 (.t 14) (.t 15), none, 5, []⟩,
    ⟨(some 17), .load none (.t 16), none, 6, []⟩,
    ⟨(some 18), .move (.t 1), none, 7, []⟩,
    ⟨(some 19), .call F.detentref4_Queue_Remove [(.t 17), (.t 18)], none, 8, []⟩]) (RC.seq (RC.region 2 [
    ⟨(some 20), .move (.t 0), none, 0, []⟩,
    ⟨(some 21), .call F.detentref15_All_settle [(.t 20)], none, 1, []⟩]) (RC.seq (RC.region 1 [
    ⟨(some 4), .move (.c (.s (.bool true))), none, 0, []⟩]) (RC.ret)))))))
theorem detentref15_All_Drop_ok : chkFunc Go.Proofs.Try.prog [] Go.Proofs.Try.f28 detentref15_All_Drop = true := by kernel_rfl
end Go.AM.R
