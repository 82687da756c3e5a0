/-
  ANY ARGUMENT of plain data: numbers, truths, texts, structs, arrays, slices of these, ya the abstract machine holds it.
-/
import Derived.Test.YtbihokcagceoaaaMg1
import Derived.WideShapes
import Derived.OpenShut
import Derived.ProofKit
import Derived.RowKit3
import Derived.WideKeyArgs
import Derived.ChangeSame
import Derived.Handed
import Derived.Test.YtbihokcagceoaaaMg6
import Derived.Test.YtbihokcagceoaaaMg5
namespace Go.AM
open Go.WideShapes Go.ChangeShapes

inductive Ty where
  | int (k : IntKind)
  | bool
  | str
  | unit
  | pair (a b : Ty)
  | arr (n : Nat) (a : Ty)
  | slice (a : Ty)

@[reducible] def Ty.den : Ty → Type
  | .int _ => Int
  | .bool => Bool
  | .str => ByteArray
  | .unit => Unit
  | .pair a b => a.den × b.den
  | .arr _ a => List a.den
  | .slice a => List a.den

def Ty.size : Ty → Nat
  | .int _ | .bool | .str | .slice _ => 1
  | .unit => 0
  | .pair a b => a.size + b.size
  | .arr n a => n * a.size

/-- No slice in it. -/
def Ty.plain : Ty → Bool
  | .int _ | .bool | .str | .unit => true
  | .slice _ => false
  | .pair a b => a.plain && b.plain
  | .arr _ a => a.plain
/-- No slice of slices in it. -/
def Ty.good : Ty → Bool
  | .int _ | .bool | .str | .unit => true
  | .slice a => a.plain
  | .pair a b => a.good && b.good
  | .arr _ a => a.good
/-- How many blocks at most, if it is good. -/
def Ty.cnt : Ty → Nat
  | .int _ | .bool | .str | .unit => 0
  | .slice _ => 1
  | .pair a b => a.cnt + b.cnt
  | .arr n a => n * a.cnt

/-- A datum of a type, by its cells. -/
def At (f : HF) : (t : Ty) → t.den → List SV → Prop
  | .int k, n, l => l = [.int k n] ∧ (Lit.int k n).wf = true
  | .bool, b, l => l = [.bool b]
  | .str, s, l => l = [.str s] ∧ s.size ≤ maxLen
  | .unit, _, l => l = []
  | .pair a b, x, l => ∃ l1 l2, l = l1 ++ l2 ∧ At f a x.1 l1 ∧ At f b x.2 l2
  | .arr n a, xs, l => xs.length = n ∧ ∃ ls : List (List SV), l = ls.flatten ∧ R2 (At f a) xs ls
  | .slice a, xs, l => ∃ s, l = [s] ∧ ((∃ o, s = .slice o 0 0 a.size ∧ xs = []) ∨ ∃ b c j ls, s = .slice (some (b, 0)) xs.length c a.size ∧ f b = some (.cells true (List.flatten ls ++ j)) ∧ xs.length ≤ c ∧ c * a.size ≤ (List.flatten ls ++ j).length ∧ R2 (At f a) xs ls)

theorem At.loc {f g : HF} (h : ∀ b x, f b = some (.cells true x) → g b = some (.cells true x)) : ∀ {t : Ty} {x : t.den} {l : List SV}, At f t x l → At g t x l
  | .int _, _, _, hx => hx
  | .bool, _, _, hx => hx
  | .str, _, _, hx => hx
  | .unit, _, _, hx => hx
  | .pair a b, _, _, ⟨l1, l2, h1, h2, h3⟩ => ⟨l1, l2, h1, h2.loc h, h3.loc h⟩
  | .arr _ a, _, _, ⟨h1, ls, h2, h3⟩ => ⟨h1, ls, h2, R2.mono (fun _ _ hx => At.loc h hx) h3⟩
  | .slice a, _, _, ⟨s, h1, h2⟩ => ⟨s, h1, h2.elim .inl fun ⟨b, c, j, ls, k1, k2, k3, k4, k5⟩ => .inr ⟨b, c, j, ls, k1, h b _ k2, k3, k4, R2.mono (fun _ _ hx => At.loc h hx) k5⟩⟩

theorem flatten_len {α β : Type} {R : α → List β → Prop} {n : Nat} (h : ∀ x l, R x l → l.length = n) : ∀ {xs : List α} {ls : List (List β)}, R2 R xs ls → ls.flatten.length = xs.length * n
  | [], [], _ => by simp
  | _ :: _, _ :: _, hx => by
    have := flatten_len h hx.2
    simp only [List.flatten_cons, List.length_append, List.length_cons, h _ _ hx.1, this, Nat.add_mul]
    omega

theorem At.len {f : HF} : ∀ {t : Ty} {x : t.den} {l : List SV}, At f t x l → l.length = t.size
  | .int _, _, _, hx => by rw [hx.1]; rfl
  | .bool, _, _, hx => by rw [show _ = _ from hx]; rfl
  | .str, _, _, hx => by rw [hx.1]; rfl
  | .unit, _, _, hx => by rw [show _ = _ from hx]; rfl
  | .pair a b, _, _, ⟨l1, l2, h1, h2, h3⟩ => by rw [h1, List.length_append, h2.len, h3.len]; rfl
  | .arr n a, _, _, ⟨h1, ls, h2, h3⟩ => by rw [h2, flatten_len (fun _ _ h => At.len h) h3, h1]; rfl
  | .slice a, _, _, ⟨s, h1, _⟩ => by rw [h1]; rfl

/- ---- the types of a program ---- -/
def fitsG (P : Program) : Ty → (TypeId → Bool) × (List Field → Nat → Bool)
  | .int k => (fun t => match P.underlying t with | some (.int k') => decide (k' = k) | _ => false, fun _ _ => false)
  | .bool => (fun t => match P.underlying t with | some .bool => true | _ => false, fun _ _ => false)
  | .str => (fun t => match P.underlying t with | some .string => true | _ => false, fun _ _ => false)
  | .unit => (fun _ => false, fun fs _ => match fs with | [] => true | _ => false)
  | .pair a b =>
    let F := fun fs off => match fs with
      | (f : Field) :: fs => decide (f.offset = off) && (fitsG P a).1 f.type && decide (P.cellsOf f.type = a.size) && (fitsG P b).2 fs (off + a.size)
      | [] => false
    (fun t => match P.underlying t with | some (.struct fs) => F fs.toList 0 && decide (P.cellsOf t = a.size + b.size) | _ => false, F)
  | .arr n a => (fun t => match P.underlying t with | some (.array n' e) => decide (n' = n) && (fitsG P a).1 e && decide (P.cellsOf e = a.size) && decide (P.cellsOf t = n * a.size) | _ => false, fun _ _ => false)
  | .slice a => (fun t => match P.underlying t with | some (.slice e) => (fitsG P a).1 e && decide (P.cellsOf e = a.size) && decide (0 < a.size) | _ => false, fun _ _ => false)

def fits (P : Program) (ty : Ty) (t : TypeId) : Bool := (fitsG P ty).1 t
def fitsF (P : Program) (ty : Ty) (fs : List Field) (off : Nat) : Bool := (fitsG P ty).2 fs off

section
variable {P : Program}
theorem fits_int (k : IntKind) (t : TypeId) : fits P (.int k) t = match P.underlying t with | some (.int k') => decide (k' = k) | _ => false := rfl
theorem fits_bool (t : TypeId) : fits P .bool t = match P.underlying t with | some .bool => true | _ => false := rfl
theorem fits_str (t : TypeId) : fits P .str t = match P.underlying t with | some .string => true | _ => false := rfl
theorem fits_unit (t : TypeId) : fits P .unit t = false := rfl
theorem fits_pair (a b : Ty) (t : TypeId) : fits P (.pair a b) t = match P.underlying t with | some (.struct fs) => fitsF P (.pair a b) fs.toList 0 && decide (P.cellsOf t = a.size + b.size) | _ => false := rfl
theorem fits_arr (n : Nat) (a : Ty) (t : TypeId) : fits P (.arr n a) t = match P.underlying t with | some (.array n' e) => decide (n' = n) && fits P a e && decide (P.cellsOf e = a.size) && decide (P.cellsOf t = n * a.size) | _ => false := rfl
theorem fits_slice (a : Ty) (t : TypeId) : fits P (.slice a) t = match P.underlying t with | some (.slice e) => fits P a e && decide (P.cellsOf e = a.size) && decide (0 < a.size) | _ => false := rfl
theorem fitsF_pair (a b : Ty) (f : Field) (fs : List Field) (off : Nat) : fitsF P (.pair a b) (f :: fs) off = (decide (f.offset = off) && fits P a f.type && decide (P.cellsOf f.type = a.size) && fitsF P b fs (off + a.size)) := rfl
end

/- ---- the heap that is opened ---- -/

/-- Where a block lies, how many cells; what it holds, if it has any. -/
abbrev RoL := List ((Nat × Nat × Nat) × Option (List SV))

def roPhi (L : RoL) : Phi := fun b => (L[b]?).map (·.1)
def roF (L : RoL) : HF := fun b => (L[b]?).map fun e => match e.2 with | none => .dead | some l => .cells true l
def roH (L : RoL) : AH := ⟨roF L, L.length⟩

def RoOk (w : World) (φ : Phi) (e : (Nat × Nat × Nat) × Option (List SV)) : Prop :=
  match e with
  | (_, none) => True
  | ((cb, sh, cs), some l) => ∃ c t fr, w.heap[cb]? = some (.cells c t fr) ∧ c.size = cs ∧ sh + l.length ≤ cs ∧ ∀ i x, l[i]? = some x → ∃ v, c[sh + i]? = some v ∧ SVRel φ x v

def RoInv (w : World) (L : RoL) : Prop := ∀ e ∈ L, RoOk w (roPhi L) e

theorem roPhi_ext (L M : RoL) : Ext (roPhi L) (roPhi (L ++ M)) := by
  intro b x h
  simp only [roPhi, Option.map_eq_some_iff] at h ⊢
  obtain ⟨e, h1, h2⟩ := h
  exact ⟨e, by rw [List.getElem?_append_left (List.getElem?_eq_some_iff.1 h1).1]; exact h1, h2⟩

theorem roF_ext (L M : RoL) : ∀ b x, roF L b = some (.cells true x) → roF (L ++ M) b = some (.cells true x) := by
  intro b x h
  simp only [roF, Option.map_eq_some_iff] at h ⊢
  obtain ⟨e, h1, h2⟩ := h
  exact ⟨e, by rw [List.getElem?_append_left (List.getElem?_eq_some_iff.1 h1).1]; exact h1, h2⟩

theorem RoOk.mono {w : World} {φ φ' : Phi} (h : Ext φ φ') {e : (Nat × Nat × Nat) × Option (List SV)} (hx : RoOk w φ e) : RoOk w φ' e := by
  obtain ⟨⟨cb, sh, cs⟩, o⟩ := e
  cases o with
  | none => trivial
  | some l =>
    obtain ⟨c, t, fr, h1, h2, h3, h4⟩ := hx
    exact ⟨c, t, fr, h1, h2, h3, fun i x hi => let ⟨v, k1, k2⟩ := h4 i x hi; ⟨v, k1, k2.mono h⟩⟩

theorem RoInv.snoc {w : World} {L : RoL} (h : RoInv w L) {e : (Nat × Nat × Nat) × Option (List SV)} (he : RoOk w (roPhi L) e) : RoInv w (L ++ [e]) := by
  intro x hx
  rcases List.mem_append.1 hx with hx | hx
  · exact (h x hx).mono (roPhi_ext _ _)
  · simp at hx; subst hx; exact he.mono (roPhi_ext _ _)

theorem roH_rel {w : World} {L : RoL} (h : RoInv w L) : HRel w.heap.size w (roPhi L) (roH L) w := by
  refine { dom := ?_, lt := ?_, cells := ?_, maps := ?_, inj := ?_, old := fun _ _ => rfl, bound := Nat.le_refl _, os := rfl, out := rfl, nf := ?_ }
  · intro b hb
    simp only [roH, roF, Option.map_eq_none_iff] at hb
    simp [roPhi, hb]
  · intro b hb
    simp only [roH] at hb ⊢
    simp [roF, List.getElem?_eq_none hb]
  · intro b ro l hb
    simp only [roH, roF, Option.map_eq_some_iff] at hb
    obtain ⟨⟨⟨cb, sh, cs⟩, o⟩, h1, h2⟩ := hb
    cases o with
    | none => cases h2
    | some l' =>
      cases h2
      obtain ⟨c, t, fr, k1, k2, k3, k4⟩ := h _ (List.mem_of_getElem? h1)
      exact ⟨cb, sh, cs, c, t, fr, by simp [roPhi, h1], k1, k2, k3, k4, by simp⟩
  · intro b es hb
    simp only [roH, roF, Option.map_eq_some_iff] at hb
    obtain ⟨⟨_, o⟩, h1, h2⟩ := hb
    cases o <;> cases h2
  · intro b b' x x' hx hx' hd hd' _
    right
    have key : ∀ {b : Nat} {x : Nat × Nat × Nat}, roPhi L b = some x → (roH L).blk b ≠ some .dead → ∃ ls, (roH L).blk b = some (.cells true ls) := by
      intro b x hx hd
      simp only [roPhi, Option.map_eq_some_iff] at hx
      obtain ⟨⟨p, o⟩, h1, _⟩ := hx
      simp only [roH, roF, h1, Option.map_some] at hd ⊢
      cases o with
      | none => simp at hd
      | some l => exact ⟨l, rfl⟩
    obtain ⟨l, h1⟩ := key hx hd
    obtain ⟨l', h2⟩ := key hx' hd'
    exact ⟨l, l', h1, h2⟩
  · intro k c e fr hk hh
    rw [Array.getElem?_eq_none hk] at hh; cases hh

/- ---- opening ---- -/
section
variable {H : Type} {enc : TypeId × Value → H} {P : Program} {w : World} {held : Bool}

abbrev TrodOk (enc : TypeId × Value → H) (P : Program) (w : World) (held : Bool) (n : Nat) (t : TypeId) (cs : List Value) : Prop := ∃ x, DataW.trod enc P w 0 (fun _ => true) held n t cs = some x

/-- What opening a datum gives. -/
def Opens (w : World) (ty : Ty) (L : RoL) (cs : List Value) : Prop :=
  ∃ M x l, RoInv w (L ++ M) ∧ R2 (SVRel (roPhi (L ++ M))) l cs ∧ At (roF (L ++ M)) ty x l ∧ (ty.plain = true → M = []) ∧ (ty.good = true → M.length ≤ ty.cnt)

/-- Items, one by one. -/
theorem opens_list {ty : Ty} {m : Nat} {e : TypeId} (ih : ∀ (n : Nat) (t : TypeId) (cs : List Value) (L : RoL), fits P ty t = true → TrodOk enc P w held n t cs → RoInv w L → Opens w ty L cs) (hf : fits P ty e = true) (g : Nat → List Value) :
    ∀ (n : Nat) (L : RoL), (∀ i, i < n → TrodOk enc P w held m e (g i)) → RoInv w L →
      ∃ (M : RoL) (xs : List ty.den) (ls : List (List SV)), RoInv w (L ++ M) ∧ xs.length = n ∧ R2 (At (roF (L ++ M)) ty) xs ls ∧ R2 (R2 (SVRel (roPhi (L ++ M)))) ls ((List.range n).map g) ∧ (ty.plain = true → M = []) ∧ (ty.good = true → M.length ≤ n * ty.cnt)
  | 0, L, _, hL => ⟨[], [], [], by simpa using hL, rfl, trivial, trivial, fun _ => rfl, fun _ => Nat.zero_le _⟩
  | n + 1, L, hg, hL => by
    obtain ⟨M, xs, ls, h1, h2, h3, h4, h5, h6⟩ := opens_list ih hf g n L (fun i hi => hg i (by omega)) hL
    obtain ⟨M', x, l, k1, k2, k3, k5, k6⟩ := ih m e (g n) (L ++ M) hf (hg n (by omega)) h1
    refine ⟨M ++ M', xs ++ [x], ls ++ [l], by rw [← List.append_assoc]; exact k1, by simp [h2], ?_, ?_, fun hp => by rw [h5 hp, k5 hp]; rfl, fun hp => by have := h6 hp; have := k6 hp; rw [List.length_append, Nat.add_mul]; omega⟩
    · rw [← List.append_assoc]
      exact R2.append (R2.mono (fun _ _ hx => hx.loc (roF_ext _ _)) h3) ⟨k3, trivial⟩
    · rw [← List.append_assoc, List.range_succ, List.map_append]
      exact R2.append (R2.mono (fun _ _ hx => R2.ext (roPhi_ext _ _) hx) h4) ⟨k2, trivial⟩

theorem R2_flatten {α β : Type} {R : α → β → Prop} : ∀ {ya : List (List α)} {bs : List (List β)}, R2 (R2 R) ya bs → R2 R ya.flatten bs.flatten
  | [], [], _ => trivial
  | _ :: _, _ :: _, h => by simpa using R2.append h.1 (R2_flatten h.2)

theorem flatten_cuts {α : Type} (l : List α) (k : Nat) : ∀ n, l.length = n * k → ((List.range n).map fun i => (l.drop (i * k)).take k).flatten = l
  | 0, h => by
    have : l = [] := List.length_eq_zero_iff.1 (by simpa using h)
    subst this; rfl
  | n + 1, h => by
    rw [List.range_succ, List.map_append, List.flatten_append]
    have h0 : l.length = n * k + k := by rw [h, Nat.add_mul]; omega
    have ih := flatten_cuts (l.take (n * k)) k n (by rw [List.length_take]; omega)
    have e : ((List.range n).map fun i => (l.drop (i * k)).take k) = ((List.range n).map fun i => ((l.take (n * k)).drop (i * k)).take k) := by
      apply List.map_congr_left
      intro i hi
      simp only [List.mem_range] at hi
      have : i * k + k ≤ n * k := by
        have : (i + 1) * k ≤ n * k := Nat.mul_le_mul_right _ hi
        rw [Nat.add_mul] at this; omega
      rw [List.drop_take, List.take_take]
      congr 1; omega
    rw [e, ih]
    simp only [List.map_cons, List.map_nil, List.flatten_cons, List.flatten_nil, List.append_nil]
    have h2 : (l.drop (n * k)).take k = l.drop (n * k) := by rw [List.take_of_length_le]; rw [List.length_drop]; omega
    rw [h2, List.take_append_drop]

theorem row_flatten {w : World} {b off : Nat} {k : Nat} {g : Nat → List Value} : ∀ n, (∀ i, i < n → w.cells? 0 (Addr.add ⟨b, off, none⟩ (i * k)) k = some (g i)) → (((List.range n).map g).flatten).length = n * k ∧ ∀ i v, (((List.range n).map g).flatten)[i]? = some v → w.cell? ⟨b, off + i, none⟩ = some v
  | 0, _ => ⟨by simp, fun i v h => by simp at h⟩
  | n + 1, hg => by
    obtain ⟨hl, ih⟩ := row_flatten n fun i hi => hg i (by omega)
    obtain ⟨_, h2, h3⟩ := World.cells?_some (hg n (by omega))
    rw [List.range_succ, List.map_append, List.flatten_append]
    refine ⟨by simp [hl, h2, Nat.add_mul], fun i v h => ?_⟩
    by_cases hi : i < n * k
    · rw [List.getElem?_append_left (by rw [hl]; exact hi)] at h
      exact ih i v h
    · rw [List.getElem?_append_right (by rw [hl]; omega), hl] at h
      simp at h
      have hlt : i - n * k < (g n).length := (List.getElem?_eq_some_iff.1 h).1
      have := h3 (i - n * k) (by omega)
      rw [h, add_plain, add_plain] at this
      rw [← this]
      congr 2; omega

theorem opens_flat {ty : Ty} {L : RoL} {cs : List Value} (hL : RoInv w L) (x : ty.den) (l : List SV) (h1 : R2 (SVRel (roPhi L)) l cs) (h2 : At (roF L) ty x l) : Opens w ty L cs :=
  ⟨[], x, l, by simpa using hL, by simpa using h1, by simpa using h2, fun _ => rfl, fun _ => Nat.zero_le _⟩

mutual
theorem opens_ty : ∀ (ty : Ty) (n : Nat) (t : TypeId) (cs : List Value) (L : RoL), fits P ty t = true → TrodOk enc P w held n t cs → RoInv w L → Opens w ty L cs
  | .int k, n, t, cs, L, hf, ⟨x, hx⟩, hL => by
    rw [fits_int] at hf
    split at hf
    · rename_i k' ht
      simp only [decide_eq_true_eq] at hf
      subst hf
      obtain ⟨m, rfl, _, hw⟩ := DataW.trod_int ht hx
      exact opens_flat hL (ty := .int _) m [.int _ m] ⟨rfl, trivial⟩ ⟨rfl, hw⟩
    · cases hf
  | .bool, n, t, cs, L, hf, ⟨x, hx⟩, hL => by
    rw [fits_bool] at hf
    split at hf
    · rename_i ht
      obtain ⟨b, rfl, _⟩ := DataW.trod_bool ht hx
      exact opens_flat hL (ty := .bool) b [.bool b] ⟨rfl, trivial⟩ rfl
    · cases hf
  | .str, n, t, cs, L, hf, ⟨x, hx⟩, hL => by
    rw [fits_str] at hf
    split at hf
    · rename_i ht
      obtain ⟨s, rfl, _, hs⟩ := DataW.trod_string ht hx
      exact opens_flat hL (ty := .str) s [.str s] ⟨rfl, trivial⟩ ⟨rfl, hs⟩
    · cases hf
  | .unit, n, t, cs, L, hf, hx, hL => by cases hf
  | .pair a b, n, t, cs, L, hf, ⟨x, hx⟩, hL => by
    rw [fits_pair] at hf
    split at hf
    · rename_i fs ht
      simp only [Bool.and_eq_true, decide_eq_true_eq] at hf
      obtain ⟨xs, m, _, _, hl, hxl, hel⟩ := DataW.trod_struct ht hx
      have := opens_fields (.pair a b) m fs.toList 0 cs L hf.1 (fun i f hi => by
        have h1 := hel i f (by simpa using hi)
        have hlt : i < fs.size := by simpa using (List.getElem?_eq_some_iff.1 hi).1
        rw [List.getElem?_eq_getElem (by omega)] at h1
        exact ⟨_, h1⟩) hL
      rw [List.drop_zero, List.take_of_length_le (by rw [hl, hf.2]; exact Nat.le_refl _)] at this
      exact this
    · cases hf
  | .arr k a, n, t, cs, L, hf, ⟨x, hx⟩, hL => by
    rw [fits_arr] at hf
    split at hf
    · rename_i k' e ht
      simp only [Bool.and_eq_true, decide_eq_true_eq] at hf
      obtain ⟨⟨⟨rfl, hf2⟩, hf3⟩, hf4⟩ := hf
      obtain ⟨xs, m, _, _, hl, hxl, hel⟩ := DataW.trod_array ht hx
      obtain ⟨M, ds, ls, h1, h2, h3, h4, h5, h6⟩ := opens_list (m := m) (fun n t cs L => opens_ty a n t cs L) hf2 (fun i => (cs.drop (i * a.size)).take a.size) k' L (fun i hi => by
        have h1 := hel i hi
        rw [List.getElem?_eq_getElem (by omega), hf3] at h1
        exact ⟨_, h1⟩) hL
      refine ⟨M, ds, ls.flatten, h1, ?_, ⟨h2, ls, rfl, h3⟩, h5, h6⟩
      have := R2_flatten h4
      rwa [flatten_cuts cs a.size k' (by rw [hl, hf4])] at this
    · cases hf
  | .slice a, n, t, cs, L, hf, ⟨x, hx⟩, hL => by
    rw [fits_slice] at hf
    split at hf
    · rename_i e ht
      simp only [Bool.and_eq_true, decide_eq_true_eq] at hf
      obtain ⟨⟨hf1, hf2⟩, hf3⟩ := hf
      rcases DataW.trod_slice ht hx with ⟨rfl, _⟩ | ⟨ad, len, cap, elems, rest, m, _, rfl, _, _, hlc, hcm, hlen, hel, hsp, _⟩
      · exact opens_flat hL (ty := .slice a) [] [.slice none 0 0 a.size] ⟨⟨rfl, rfl, rfl⟩, trivial⟩ ⟨_, rfl, .inl ⟨none, rfl, rfl⟩⟩
      · obtain ⟨hrl, hre⟩ := hsp rfl
        rw [hf2] at hel hre
        by_cases hc0 : cap = 0
        · have hl0 : len = 0 := by omega
          subst hc0 hl0
          refine ⟨[((ad.block, ad.off, 0), none)], [], [.slice (some (L.length, 0)) 0 0 a.size], hL.snoc trivial, ⟨⟨hf3, Nat.le_refl _, ad.block, ad.off, 0, ad, 0, by simp [roPhi], Nat.le_refl _, rfl, fun h => absurd rfl h⟩, trivial⟩, ⟨_, rfl, .inl ⟨_, rfl, rfl⟩⟩, fun h => (by cases h), fun _ => Nat.le_refl _⟩
        · have each : ∀ i, i < cap → ∃ cs', w.cells? 0 (ad.add (i * a.size)) a.size = some cs' ∧ TrodOk enc P w held m e cs' := by
            intro i hi
            by_cases hil : i < len
            · have h1 := hel i hil
              rw [List.getElem?_eq_getElem (by omega), Option.bind_eq_some_iff] at h1
              obtain ⟨cs', h2, h3⟩ := h1
              exact ⟨cs', h2, _, h3⟩
            · have h1 := hre (i - len) (by omega)
              rw [List.getElem?_eq_getElem (by omega), Option.bind_eq_some_iff] at h1
              obtain ⟨cs', h2, h3⟩ := h1
              rw [show len + (i - len) = i by omega] at h2
              exact ⟨cs', h2, _, h3⟩
          have hspot : ad.spot = none := by
            obtain ⟨cs', h1, _⟩ := each 0 (by omega)
            obtain ⟨_, h2, h3⟩ := World.cells?_some h1
            have h4 := h3 0 hf3
            rw [List.getElem?_eq_getElem (by omega)] at h4
            simpa [Addr.add] using World.cell?_spot h4
          obtain ⟨blk, off, sp⟩ := ad
          simp only at hspot
          subst hspot
          have hg : ∀ i, i < cap → w.cells? 0 (Addr.add ⟨blk, off, none⟩ (i * a.size)) a.size = some ((w.cells? 0 (Addr.add ⟨blk, off, none⟩ (i * a.size)) a.size).getD []) := fun i hi => by
            obtain ⟨cs', h1, _⟩ := each i hi
            rw [h1]; rfl
          obtain ⟨M, ds, ls, h1, h2, h3, h4, hpl, _⟩ := opens_list (m := m) (fun n t cs L => opens_ty a n t cs L) hf1 (fun i => (w.cells? 0 (Addr.add ⟨blk, off, none⟩ (i * a.size)) a.size).getD []) cap L (fun i hi => by
            obtain ⟨cs', k1, k2⟩ := each i hi
            rw [k1]; exact k2) hL
          obtain ⟨r1, r2⟩ := row_flatten (w := w) (b := blk) (off := off) cap hg
          generalize hrow : (((List.range cap).map fun i => (w.cells? 0 (Addr.add ⟨blk, off, none⟩ (i * a.size)) a.size).getD []).flatten) = row at *
          have h5 := R2_flatten h4
          rw [hrow] at h5
          have hpos : 0 < row.length := by rw [r1]; exact Nat.mul_pos (by omega) hf3
          have hblk : ∃ c ty fr, w.heap[blk]? = some (.cells c ty fr) ∧ (∀ i v, row[i]? = some v → c[off + i]? = some v) := by
            have h6 : ∀ i v, row[i]? = some v → ∃ c ty fr, w.heap[blk]? = some (.cells c ty fr) ∧ c[off + i]? = some v := by
              intro i v hv
              have := r2 i v hv
              unfold World.cell? at this
              split at this
              · rename_i c ty fr hh
                simp at this
                exact ⟨c, ty, fr, hh, this⟩
              · cases this
            obtain ⟨c, ty, fr, hh, _⟩ := h6 0 row[0] (List.getElem?_eq_getElem hpos)
            refine ⟨c, ty, fr, hh, fun i v hv => ?_⟩
            obtain ⟨c', ty', fr', hh', hx'⟩ := h6 i v hv
            rw [hh] at hh'; cases hh'
            exact hx'
          obtain ⟨c, ty, fr, hh, hcell⟩ := hblk
          have hsz : off + row.length ≤ c.size := by
            have := hcell (row.length - 1) row[row.length - 1] (List.getElem?_eq_getElem (by omega))
            have := (Array.getElem?_eq_some_iff.1 this).1
            omega
          have hll : ls.flatten.length = row.length := h5.length
          have hlss : ls.length = cap := by rw [h4.length]; simp
          have hdl := flatten_len (R := At (roF (L ++ M)) a) (fun _ _ h => At.len h) h3
          refine ⟨M ++ [((blk, off, c.size), some ls.flatten)], ds.take len, [.slice (some ((L ++ M).length, 0)) len cap a.size], ?_, ?_, ?_, fun h => (by cases h), fun h => (by rw [hpl h]; exact Nat.le_refl _)⟩
          · rw [← List.append_assoc]
            refine h1.snoc ⟨c, ty, fr, hh, rfl, by rw [hll]; exact hsz, fun i x hi => ?_⟩
            obtain ⟨v, k1, k2⟩ := h5.get i x hi
            exact ⟨v, hcell i v k1, k2⟩
          · rw [← List.append_assoc]
            refine ⟨⟨hf3, hlc, blk, off, c.size, ⟨blk, off, none⟩, cap, by simp [roPhi], Nat.le_refl _, rfl, fun _ => ⟨by simp, by rw [← r1]; simpa using hsz⟩⟩, trivial⟩
          · rw [← List.append_assoc]
            have hmono : R2 (At (roF (L ++ M ++ [((blk, off, c.size), some ls.flatten)])) a) ds ls := R2.mono (fun _ _ hx => At.loc (roF_ext _ _) hx) h3
            refine ⟨_, rfl, .inr ⟨(L ++ M).length, cap, (ls.drop len).flatten, ls.take len, ?_, ?_, ?_, ?_, R2.take len hmono⟩⟩
            · rw [List.length_take, h2, Nat.min_eq_left hlc]
            · simp only [roF, List.getElem?_append_right (Nat.le_refl _), Nat.sub_self]
              rw [← List.flatten_append, List.take_append_drop]
              rfl
            · rw [List.length_take, h2]; omega
            · rw [← List.flatten_append, List.take_append_drop, hdl, h2]; exact Nat.le_refl _
    · cases hf
  termination_by ty => (SizeOf.sizeOf ty, 1)
theorem opens_fields : ∀ (ty : Ty) (n : Nat) (fs : List Field) (off : Nat) (cs : List Value) (L : RoL), fitsF P ty fs off = true → (∀ (i : Nat) (f : Field), fs[i]? = some f → TrodOk enc P w held n f.type ((cs.drop f.offset).take (P.cellsOf f.type))) → RoInv w L → Opens w ty L ((cs.drop off).take ty.size)
  | .unit, n, [], off, cs, L, hf, hx, hL => by
    rw [show Ty.unit.size = 0 from rfl, List.take_zero]
    exact opens_flat hL (ty := .unit) () [] trivial rfl
  | .unit, n, _ :: _, off, cs, L, hf, hx, hL => by cases hf
  | .pair a b, n, [], off, cs, L, hf, hx, hL => by cases hf
  | .pair a b, n, f :: fs, off, cs, L, hf, hx, hL => by
    rw [fitsF_pair] at hf
    simp only [Bool.and_eq_true, decide_eq_true_eq] at hf
    obtain ⟨⟨⟨h0, h1⟩, h2⟩, h3⟩ := hf
    have hx0 := hx 0 f rfl
    rw [h0, h2] at hx0
    obtain ⟨M, x, l, k1, k2, k3, k4, k5⟩ := opens_ty a n f.type _ L h1 hx0 hL
    obtain ⟨M', y, l', m1, m2, m3, m4, m5⟩ := opens_fields b n fs (off + a.size) cs (L ++ M) h3 (fun i f' hi => hx (i + 1) f' (by simpa using hi)) k1
    refine ⟨M ++ M', (x, y), l ++ l', by rw [← List.append_assoc]; exact m1, ?_, ⟨l, l', rfl, ?_, ?_⟩, fun hp => ?_, fun hp => ?_⟩
    · rw [← List.append_assoc]
      have e : (cs.drop off).take (Ty.pair a b).size = (cs.drop off).take a.size ++ (cs.drop (off + a.size)).take b.size := by
        show (cs.drop off).take (a.size + b.size) = _
        rw [← List.drop_drop, List.take_add]
      rw [e]
      exact R2.append (R2.ext (roPhi_ext _ _) k2) m2
    · rw [← List.append_assoc]; exact k3.loc (roF_ext _ _)
    · rw [← List.append_assoc]; exact m3
    · simp only [Ty.plain, Bool.and_eq_true] at hp
      rw [k4 hp.1, m4 hp.2]; rfl
    · simp only [Ty.good, Bool.and_eq_true] at hp
      have := k5 hp.1; have := m5 hp.2
      rw [List.length_append]; show _ ≤ a.cnt + b.cnt; omega
  | .int _, n, fs, off, cs, L, hf, hx, hL => by cases hf
  | .bool, n, fs, off, cs, L, hf, hx, hL => by cases hf
  | .str, n, fs, off, cs, L, hf, hx, hL => by cases hf
  | .arr _ _, n, fs, off, cs, L, hf, hx, hL => by cases hf
  | .slice _, n, fs, off, cs, L, hf, hx, hL => by cases hf
  termination_by ty => (SizeOf.sizeOf ty, 0)
end

/-- What an argument is, to the abstract machine. -/
def AvAt (f : HF) : (t : Ty) → t.den → AV → Prop
  | .int k, x, v => v = .s (.int k x) ∧ (Lit.int k x).wf = true
  | .bool, x, v => v = .s (.bool x)
  | .str, x, v => v = .s (.str x) ∧ x.size ≤ maxLen
  | .slice a, x, v => ∃ s, v = .s s ∧ At f (.slice a) x [s]
  | t, x, v => ∃ l, v = .agg l ∧ At f t x l

theorem AvAt.loc {f g : HF} (h : ∀ b x, f b = some (.cells true x) → g b = some (.cells true x)) {t : Ty} {x : t.den} {v : AV} (hx : AvAt f t x v) : AvAt g t x v := by
  cases t with
  | int k => exact hx
  | bool => exact hx
  | str => exact hx
  | slice a => obtain ⟨s, h1, h2⟩ := hx; exact ⟨s, h1, h2.loc h⟩
  | unit => obtain ⟨s, h1, h2⟩ := hx; exact ⟨s, h1, h2.loc h⟩
  | pair a b => obtain ⟨s, h1, h2⟩ := hx; exact ⟨s, h1, h2.loc h⟩
  | arr n a => obtain ⟨s, h1, h2⟩ := hx; exact ⟨s, h1, h2.loc h⟩

theorem opens_arg {ty : Ty} {t : TypeId} {v : Value} {r : Reach} {base : Nat} {d : DataW H} {ps : List MemPlace} {L : RoL} (hf : fits P ty t = true) (hval : Value.okWide P w r base t v) (hd : DataW.Trod enc P w 0 (fun _ => true) held t v d ps) (hL : RoInv w L) :
    ∃ M x av, RoInv w (L ++ M) ∧ AVRel (roPhi (L ++ M)) av v ∧ AvAt (roF (L ++ M)) ty x av ∧ (ty.good = true → M.length ≤ ty.cnt) := by
  obtain ⟨n, hd⟩ := hd
  obtain ⟨M, x, l, h1, h2, h3, _, hgood⟩ := opens_ty ty n t v.cells.toList L hf ⟨_, hd⟩ hL
  refine ⟨M, x, ?_⟩
  have agg : ∀ cs : Array Value, v = .agg cs → AVRel (roPhi (L ++ M)) (.agg l) v := fun cs hv => by
    subst hv
    exact ⟨cs.toList, h2, by simp⟩
  have one : ∀ s, l = [s] → (v.cells = #[v]) → AVRel (roPhi (L ++ M)) (.s s) v := fun s hs hv => by
    subst hs
    rw [hv] at h2
    exact h2.1
  cases ty with
  | int k =>
    rw [fits_int] at hf
    split at hf
    · rename_i k' ht
      obtain ⟨m, rfl⟩ := okWide_int ht hval
      obtain ⟨rfl, hw⟩ := h3
      exact ⟨_, h1, one _ rfl rfl, ⟨rfl, hw⟩, hgood⟩
    · cases hf
  | bool =>
    rw [fits_bool] at hf
    split at hf
    · rename_i ht
      obtain ⟨m, rfl⟩ := okWide_bool ht hval
      have := h3
      exact ⟨_, h1, one _ h3 rfl, rfl, hgood⟩
    · cases hf
  | str =>
    rw [fits_str] at hf
    split at hf
    · rename_i ht
      obtain ⟨m, rfl⟩ := okWide_string ht hval
      obtain ⟨rfl, hw⟩ := h3
      exact ⟨_, h1, one _ rfl rfl, ⟨rfl, hw⟩, hgood⟩
    · cases hf
  | unit => cases hf
  | pair a b =>
    rw [fits_pair] at hf
    split at hf
    · rename_i fs ht
      obtain ⟨cs, hv, _⟩ := okWide_struct ht hval
      exact ⟨_, h1, agg cs hv, ⟨l, rfl, h3⟩, hgood⟩
    · cases hf
  | arr k a =>
    rw [fits_arr] at hf
    split at hf
    · rename_i k' e ht
      have : ∃ cs, v = .agg cs ∧ cs.size = P.cellsOf t ∧ Row.okWide P w r base t cs := by
        unfold Value.okWide at hval
        rw [ht] at hval
        exact hval
      obtain ⟨cs, hv, _⟩ := this
      exact ⟨_, h1, agg cs hv, ⟨l, rfl, h3⟩, hgood⟩
    · cases hf
  | slice a =>
    rw [fits_slice] at hf
    split at hf
    · rename_i e ht
      obtain ⟨ad, len, cap, rfl⟩ := okWide_slice ht hval
      obtain ⟨s, rfl, h4⟩ := h3
      exact ⟨_, h1, one _ rfl rfl, ⟨s, rfl, s, rfl, h4⟩, hgood⟩
    · cases hf

/-- All arguments. -/
inductive ArgsAt (f : HF) : List Ty → List AV → Prop
  | nil : ArgsAt f [] []
  | cons {t : Ty} {ts : List Ty} {x : t.den} {v : AV} {vs : List AV} : AvAt f t x v → ArgsAt f ts vs → ArgsAt f (t :: ts) (v :: vs)

theorem ArgsAt.loc {f g : HF} (h : ∀ b x, f b = some (.cells true x) → g b = some (.cells true x)) {ts : List Ty} {vs : List AV} (hx : ArgsAt f ts vs) : ArgsAt g ts vs := by
  induction hx with
  | nil => exact .nil
  | cons h1 _ ih => exact .cons (h1.loc h) ih

theorem opens_args {r : Reach} {base : Nat} : ∀ {tys : List Ty} {ts : List TypeId} {vs : List Value} {ds : List (DataW H)} {ps : List MemPlace} {L : RoL}, R2 (fun ty t => fits P ty t = true) tys ts → (∀ (j : Nat) t v, ts[j]? = some t → vs[j]? = some v → Value.okWide P w r base t v) → DataW.TrodAll enc P w 0 (fun _ => true) held ts vs ds ps → RoInv w L →
    ∃ M avs, RoInv w (L ++ M) ∧ R2 (AVRel (roPhi (L ++ M))) avs vs ∧ ArgsAt (roF (L ++ M)) tys avs ∧ (tys.all Ty.good = true → M.length ≤ (tys.map Ty.cnt).sum)
  | [], [], vs, ds, ps, L, _, _, hA, hL => by
    obtain ⟨rfl, _, _⟩ := trodAll_nil hA
    exact ⟨[], [], by simpa using hL, trivial, .nil, fun _ => Nat.zero_le _⟩
  | ty :: tys, t :: ts, vs, ds, ps, L, hf, hval, hA, hL => by
    obtain ⟨v, vs, d, ds, p, q, rfl, rfl, rfl, h0, hr⟩ := trodAll_cons hA
    obtain ⟨M, x, av, h1, h2, h3, h4⟩ := opens_arg hf.1 (hval 0 t v rfl rfl) h0 hL
    obtain ⟨M', avs, k1, k2, k3, k4⟩ := opens_args hf.2 (fun j t v ht hv => hval (j + 1) t v (by simpa using ht) (by simpa using hv)) hr h1
    refine ⟨M ++ M', av :: avs, by rw [← List.append_assoc]; exact k1, ?_, ?_, fun hg => by
      simp only [List.all_cons, Bool.and_eq_true] at hg
      have := h4 hg.1; have := k4 hg.2
      rw [List.length_append, List.map_cons, List.sum_cons]; omega⟩
    · rw [← List.append_assoc]
      exact ⟨h2.mono (roPhi_ext _ _), k2⟩
    · rw [← List.append_assoc]
      exact .cons (h3.loc (roF_ext _ _)) k3
  | [], _ :: _, _, _, _, _, hf, _, _, _ => hf.elim
  | _ :: _, [], _, _, _, _, hf, _, _, _ => hf.elim
end

end Go.AM

/-
  FROM A LAW IN THE ABSTRACT MACHINE TO ITS STATEMENT's ROW, whatever its arguments are.
-/
namespace Go.AM
open Go.RowKit Go.ChangeShapes Go.WideShapes

theorem R2_of_all {α β : Type} {R : α → β → Prop} {f : α → β → Bool} (h : ∀ a b, f a b = true → R a b) : ∀ {ya : List α} {bs : List β}, ya.length = bs.length → ((ya.zip bs).all fun p => f p.1 p.2) = true → R2 R ya bs
  | [], [], _, _ => trivial
  | a :: ya, b :: bs, hl, hx => by
    simp only [List.zip_cons_cons, List.all_cons, Bool.and_eq_true] at hx
    exact ⟨h a b hx.1, R2_of_all h (by simpa using hl) hx.2⟩
  | [], _ :: _, hl, _ => by simp at hl
  | _ :: _, [], hl, _ => by simp at hl

theorem trodAll_stays {H : Type} {enc : TypeId × Value → H} {P : Program} (hl : laidOutB P = true) {W W' : World} {sp : Nat → Bool} : ∀ {ts : List TypeId} {vs : List Value} {ds : List (DataW H)} {ps : List MemPlace}, (ts.all fun t => P.readableRec t && decide (t < P.types.size)) = true → DataW.TrodAll enc P W 0 (fun _ => true) true ts vs ds ps → (∀ p ∈ ps, W.sameAt W' p) → (∀ p ∈ ps, sp p.block = true) → DataW.TrodAll enc P W' 0 sp true ts vs ds ps
  | [], vs, ds, ps, _, hA, _, _ => by
    obtain ⟨rfl, rfl, rfl⟩ := trodAll_nil hA
    exact trodAll_mk0
  | t :: ts, vs, ds, ps, hr, hA, hs, hsp => by
    simp only [List.all_cons, Bool.and_eq_true, decide_eq_true_eq] at hr
    obtain ⟨v, vs, d, ds, p, q, rfl, rfl, rfl, h0, h1⟩ := trodAll_cons hA
    exact trodAll_cons_mk (WideElems.Trod_stays hl hr.1.1 hr.1.2 h0 (fun x hx => hs x (by simp [hx])) fun x hx => hsp x (by simp [hx])) (trodAll_stays hl hr.2 h1 (fun x hx => hs x (by simp [hx])) fun x hx => hsp x (by simp [hx]))

/-- A law's run and its call; what was, is. -/
theorem law_walk2 {P : Program} {tab : Nat → Option RFunc} (htab : TabOk P [] tab) (hmix : P.follows .mixedOrders = true) {f : Nat} {args : List AV} {H0 : AH} {φ0 : Phi} {w : World} {cargs : Array Value}
    (hH : HRel w.heap.size w φ0 H0 w) (hargs : R2 (AVRel φ0) args cargs.toList) (h : CallP tab noExt f args H0 fun v _ => v = .s (.bool true)) :
    Calls P f cargs w fun e w' => e = .returned (.bool true) ∧ Grown w w' ∧ ∀ k, k < w.heap.size → w'.heap[k]? = w.heap[k]? := by
  obtain ⟨n, v, H', h1, rfl⟩ := h
  have hs := run_sound (G := []) (B := w.heap.size) (w0 := w) htab noExt_calls noExt_frame noExt_next hmix n
  refine (hs f args H0 _ H' h1 φ0 w cargs hH (fun _ hn => by cases hn) hargs).2.mono ?_
  rintro e w' ⟨φ', cv, rfl, _, h2, h3⟩
  have : cv = .bool true := h3
  subst this
  exact ⟨rfl, h2.grown, h2.old⟩

theorem lit_bounds {k : IntKind} {n : Int} (h : (Lit.int k n).wf = true) : k.min ≤ n ∧ n ≤ k.max := by
  simpa [Lit.wf] using h

section
variable {C : Checked} {tab : Nat → Option RFunc} {f : FuncId} {fn : Func} {s : ChangeSpec}

/-- The row's step. -/
theorem law_lifted (tys : List Ty) (N : Nat) (bt : TypeId)
    (own : ownKnob C.prog.godebug = none) (htab : TabOk C.prog [] tab) (hmix : C.prog.follows .mixedOrders = true) (hlaid : laidOutB C.prog = true)
    (noInit : C.prog.inits.idxOf? f = none) (hfn : C.prog.funcs[f]? = some fn)
    (hread : (fn.params.toList.all fun t => C.prog.readableRec t && decide (t < C.prog.types.size)) = true)
    (hlen : tys.length = fn.params.toList.length) (hfit : ((tys.zip fn.params.toList).all fun p => fits C.prog p.1 p.2) = true)
    (hN : (tys.all Ty.good && decide ((tys.map Ty.cnt).sum ≤ N)) = true)
    (hres : fn.resultTypes = #[bt]) (hbt : C.prog.underlying bt = some .bool)
    (hvars : s.vars = []) (hspec : ∀ (H : Type) (ds : List (DataW H)), ds.length = tys.length → s.fn H ds = { results := [.lit (.bool true)], args := ds })
    (walk : ∀ H avs, WF H → H.next = N → ArgsAt H.blk tys avs → CallP tab noExt f avs H fun v _ => v = .s (.bool true))
    (os : Os) (started : os.Started) (H : Type) (enc : TypeId × Value → H)
    (witness : ∃ (w : World) (tape : Tape) (i : Input), w.os = os ∧ (w.forCall tape i).Shaped C.prog ∧ i.vars = [] ∧ Input.okWide C.prog (w.forCall tape i) .any w.heap.size f i ∧
      s.pre6 enc C.prog fn [] false (w.forCall tape i).memory i.args ∧ ({} : Assume).holds C.prog (lone (Frame.enter C.prog f i.args .normal) [] (w.forCall tape i))) :
    ReturnsInHanded {} C os f .any (s.pre6 enc C.prog fn [] false) (s.post enc C.prog fn false true false false) := by
  refine returnsInHanded_of_change (C := C) own started noInit hfn witness ?_
  intro W base args ds gs before hval hW hcnd _
  have hW' := hW
  obtain ⟨p, q, hA, hV, rfl, hfz, hnd⟩ := hW
  rw [hvars] at hV
  obtain ⟨rfl, rfl⟩ := trodVars_none hV
  simp only [List.append_nil] at hW' hfz hnd
  have hfit' : R2 (fun ty t => fits C.prog ty t = true) tys fn.params.toList := R2_of_all (fun _ _ h => h) hlen hfit
  obtain ⟨M, avs, h1, h2, h3, h4⟩ := opens_args (L := []) hfit' (fun j t v ht hv => hval j t v (by simpa using ht) (by simpa using hv)) hA (fun e he => by cases he)
  simp only [List.nil_append] at h1 h2 h3
  simp only [Bool.and_eq_true, decide_eq_true_eq] at hN
  have hML : M.length ≤ N := Nat.le_trans (h4 hN.1) hN.2
  have hrel := roH_rel h1
  have hrel' : HRel W.heap.size W (roPhi M) ⟨roF M, N⟩ W := { hrel with lt := fun b hb => hrel.lt b (Nat.le_trans hML hb) }
  have hwf : WF ⟨roF M, N⟩ := fun b hb => hrel.lt b (Nat.le_trans hML hb)
  have hdl : ds.length = tys.length := by
    have key : ∀ {ts : List TypeId} {vs : List Value} {ds : List (DataW H)} {ps : List MemPlace}, DataW.TrodAll enc C.prog W 0 (fun _ => true) true ts vs ds ps → ds.length = ts.length := by
      intro ts
      induction ts with
      | nil => intro vs ds ps h; obtain ⟨_, rfl, _⟩ := trodAll_nil h; rfl
      | cons t ts ih => intro vs ds ps h; obtain ⟨v, vs, d, ds, p, q, rfl, rfl, rfl, _, hr⟩ := trodAll_cons h; simp [ih hr]
    rw [key hA, hlen]
  have hsp : s.fn H (ds ++ []) = { results := [.lit (.bool true)], args := ds } := by rw [List.append_nil]; exact hspec H ds hdl
  refine (law_walk2 htab hmix hrel' h2 (walk _ avs hwf rfl h3)).mono fun e W' ⟨he, hg, hold⟩ => ?_
  subst he
  have hlt : ∀ x ∈ p, x.block < W.heap.size := fun x hx => hW'.lt x hx
  have hsame : ∀ x ∈ p, W.sameAt W' x := fun x hx => by
    cases x with
    | cell b o => exact World.cell?_of_block (w := W) (hold b (hlt _ hx))
    | map b => exact hold b (hlt _ hx)
  refine ⟨_, rfl, post_of_same (pa := p) (pv := []) hW' (fun b sp hd => ?_) (fun sp hsp' => ?_) (fun _ _ => ?_) (by simp) (hg.frame _) hg.2.1 (ok_one hres rfl (okWide_bool_mk hbt _))⟩
  · rw [hsp, hres]
    exact trodAll_cons_mk (shut_bool hbt _) trodAll_mk0
  · rw [hsp]
    exact trodAll_stays hlaid hread hA hsame hsp'
  · rw [hvars, hsp]
    rfl
end

end Go.AM

/-
  The law ClockRounds, in the abstract machine.
-/
namespace Go.AM
attribute [local simp] AH.ld AH.ldn AH.stn AH.new Nat.add_assoc resA resA1 fillA buildA slSlA boundsA boundA callvP

theorem CallP_eval {f : Nat} {args : List AV} {H : AH} {v : AV} (n : Nat) (h : (run tab noExt n f args H).map (fun x => x.1) = some v) : CallP tab noExt f args H fun v' _ => v' = v := by
  cases hr : run tab noExt n f args H with
  | none => rw [hr] at h; cases h
  | some x => rw [hr] at h; exact ⟨n, x.1, x.2, hr, by simpa using h⟩

theorem lit_i64 {a : Int} (h : (Lit.int .i64 a).wf = true) : -9223372036854775808 ≤ a ∧ a < 9223372036854775808 := by
  simp [Lit.wf, IntKind.min, IntKind.max, IntKind.bits, IntKind.signed] at h
  omega

theorem lit_u16 {a : Int} (h : (Lit.int .u16 a).wf = true) : 0 ≤ a ∧ a < 65536 := by
  simp [Lit.wf, IntKind.min, IntKind.max, IntKind.bits, IntKind.signed] at h
  omega

theorem WF_H00 : WF H00 := fun _ _ => rfl

theorem toL_nil (x : Int) : toL [] x = [] := rfl

end Go.AM

/-
  The law TimerFull, in the abstract machine.
-/
namespace Go.AM
attribute [local simp] AH.ld AH.ldn AH.stn AH.new Nat.add_assoc resA resA1 fillA buildA slSlA boundsA boundA callvP

theorem takeWhile_all {α : Type} (p : α → Bool) : ∀ (l : List α), (∀ x ∈ l, p x = true) → l.takeWhile p = l
  | [], _ => rfl
  | x :: l, h => by rw [List.takeWhile_cons, if_pos (h x (by simp)), takeWhile_all p l fun y hy => h y (by simp [hy])]
theorem dropWhile_all {α : Type} (p : α → Bool) : ∀ (l : List α), (∀ x ∈ l, p x = true) → l.dropWhile p = []
  | [], _ => rfl
  | x :: l, h => by rw [List.dropWhile_cons, if_pos (h x (by simp)), dropWhile_all p l fun y hy => h y (by simp [hy])]

/-- So many entries of one time. -/
def sameL (a : Int) (n : Nat) : List Ent := (List.range n).map fun (i : Nat) => ⟨a, (i : Int) + 1, (i : Int)⟩

theorem sameL_len (a : Int) (n : Nat) : (sameL a n).length = n := by simp [sameL]

theorem sameL_ins (a : Int) (n : Nat) : insE ⟨a, (n : Int) + 1, n⟩ (sameL a n) = sameL a (n + 1) := by
  have h : ∀ x ∈ sameL a n, aheadB x ⟨a, (n : Int) + 1, n⟩ = true := by
    intro x hx
    simp only [sameL, List.mem_map, List.mem_range] at hx
    obtain ⟨i, hi, rfl⟩ := hx
    rw [ahead_iff]; simp; omega
  unfold insE
  rw [takeWhile_all _ _ h, dropWhile_all _ _ h]
  simp [sameL, List.range_succ]

theorem sameL_due (a : Int) (n : Nat) : dueL (sameL a n) a = sameL a n := by
  unfold dueL
  refine takeWhile_all _ _ ?_
  intro x hx
  simp only [sameL, List.mem_map, List.mem_range] at hx
  obtain ⟨i, hi, rfl⟩ := hx
  simp

theorem sameL_to (a : Int) (n : Nat) : toL (sameL a n) a = [] := by
  unfold toL
  refine dropWhile_all _ _ ?_
  intro x hx
  simp only [sameL, List.mem_map, List.mem_range] at hx
  obtain ⟨i, hi, rfl⟩ := hx
  simp

theorem sameL_due_no (a b : Int) (n : Nat) (h : b < a) : dueL (sameL a n) b = [] ∧ toL (sameL a n) b = sameL a n := by
  cases n with
  | zero => exact ⟨rfl, rfl⟩
  | succ n =>
    have : sameL a (n + 1) = ⟨a, 1, 0⟩ :: ((List.range n).map Nat.succ).map fun (i : Nat) => ⟨a, (i : Int) + 1, i⟩ := by simp [sameL, List.range_succ_eq_map]
    have hb : ¬ a ≤ b := by omega
    constructor
    · rw [this]; simp [dueL, hb]
    · rw [this]; simp [toL, hb]

theorem sameL_arg (a : Int) (n : Nat) : (sameL a n).map Ent.arg = (List.range n).map fun (i : Nat) => (i : Int) := by simp [sameL]

end Go.AM

/-
  What laws begin with: the arguments, the known case; what an argument tells.
-/
namespace Go.AM
attribute [local simp] AH.ld AH.ldn AH.stn AH.new Nat.add_assoc resA resA1 fillA buildA slSlA boundsA boundA callvP

/-- A call at the law's own heap. -/
theorem CallP.start {ρ : HF} {f : Nat} {args : List AV} {H : AH} (hw : WF H) (hr : RoOf ρ H) {K K' : AV → AH → Prop} (h : CallP tab noExt f args H K) (hk : ∀ v H', Sat ρ H' [] → K v H' → K' v H') : CallP tab noExt f args H K' :=
  (h.mono_wf tab_wf noExt_wf noExt_next hw (K' := fun v H' => WF H' ∧ K v H') fun _ _ a _ c => ⟨a, c⟩).mono_ro noExt_ro hr fun v H' hro ⟨a, c⟩ => hk v H' (.nil a hro) c

/-- A closed run, whatever lies below. -/
theorem CallP_evalAt {f : Nat} {args : List AV} {v : AV} (n m : Nat) (h : ∀ g : HF, (run tab noExt n f args ⟨fun b => if b < m then g b else none, m⟩).map (fun x => x.1) = some v) {H : AH} (hw : WF H) (hn : H.next = m) : CallP tab noExt f args H fun v' _ => v' = v := by
  have e : H = ⟨fun b => if b < m then H.blk b else none, m⟩ := by
    obtain ⟨g, k⟩ := H
    simp only at hn
    subst hn
    congr 1
    funext b
    split
    · rfl
    · rename_i hb; exact hw b (by simp at hb; exact hb)
  rw [e]
  exact CallP_eval n (h _)

theorem ArgsAt.cons_inv {f : HF} {t : Ty} {ts : List Ty} {l : List AV} (h : ArgsAt f (t :: ts) l) : ∃ x v vs, l = v :: vs ∧ AvAt f t x v ∧ ArgsAt f ts vs := by
  cases h with | cons h1 h2 => exact ⟨_, _, _, rfl, h1, h2⟩
theorem ArgsAt.nil_inv {f : HF} {l : List AV} (h : ArgsAt f [] l) : l = [] := by cases h; rfl

/-- A slice of numbers. -/
abbrev RoI (ρ : HF) (k : IntKind) (s : SV) (xs : List Int) : Prop := At ρ (.slice (.int k)) xs [s]

theorem ArgsAt.int {f : HF} {k : IntKind} {ts : List Ty} {l : List AV} (h : ArgsAt f (.int k :: ts) l) : ∃ (x : Int) (vs : List AV), l = .s (.int k x) :: vs ∧ (Lit.int k x).wf = true ∧ ArgsAt f ts vs := by
  cases h with | cons h1 h2 => exact ⟨_, _, by rw [h1.1], h1.2, h2⟩
theorem ArgsAt.bool {f : HF} {ts : List Ty} {l : List AV} (h : ArgsAt f (.bool :: ts) l) : ∃ (x : Bool) (vs : List AV), l = .s (.bool x) :: vs ∧ ArgsAt f ts vs := by
  cases h with | cons h1 h2 => exact ⟨_, _, by rw [show _ = _ from h1], h2⟩
theorem ArgsAt.ints {f : HF} {k : IntKind} {ts : List Ty} {l : List AV} (h : ArgsAt f (.slice (.int k) :: ts) l) : ∃ (xs : List Int) (s : SV) (vs : List AV), l = .s s :: vs ∧ RoI f k s xs ∧ ArgsAt f ts vs := by
  cases h with | cons h1 h2 => obtain ⟨s, rfl, h⟩ := h1; exact ⟨_, s, _, rfl, h, h2⟩

section
variable {ρ : HF} {k : IntKind} {s : SV} {xs : List Int}

theorem RoI.len (h : RoI ρ k s xs) : lenA (.s s) = some (i64 xs.length) := by
  obtain ⟨s', h1, h2⟩ := h
  cases h1
  rcases h2 with ⟨o, rfl, rfl⟩ | ⟨b, c, j, ls, rfl, _⟩ <;> rfl

theorem flat1 {f : HF} : ∀ {xs : List Int} {ls : List (List SV)}, R2 (At f (.int k)) xs ls → ls.flatten = xs.map fun n => SV.int k n
  | [], [], _ => rfl
  | _ :: _, _ :: _, h => by
    have h1 := h.1.1
    subst h1
    simp [flat1 h.2]

theorem RoI.get (h : RoI ρ k s xs) {H : AH} (hr : RoOf ρ H) {i : Nat} (hi : i < xs.length) : ∃ b c l, s = .slice (some (b, 0)) xs.length c 1 ∧ H.blk b = some (.cells true l) ∧ l[i]? = some (.int k (xs.getD i 0)) ∧ (Lit.int k (xs.getD i 0)).wf = true := by
  rw [List.getD_eq_getElem?_getD, List.getElem?_eq_getElem hi]
  simp only [Option.getD_some]
  obtain ⟨s', h1, h2⟩ := h
  cases h1
  rcases h2 with ⟨o, rfl, rfl⟩ | ⟨b, c, j, ls, rfl, hb, h3, h4, h5⟩
  · simp at hi
  · refine ⟨b, c, _, rfl, hr b _ hb, ?_, ?_⟩
    · rw [flat1 h5, List.getElem?_append_left (by simpa using hi)]
      simp [hi]
    · obtain ⟨l, _, hx⟩ := h5.get i xs[i] (List.getElem?_eq_getElem hi)
      exact hx.2
end

theorem RoI.gets {ρ : HF} {k : IntKind} {s : SV} {xs : List Int} (h : RoI ρ k s xs) {i : Nat} (hi : i < xs.length) : ∃ b c l, s = .slice (some (b, 0)) xs.length c 1 ∧ ρ b = some (.cells true l) ∧ l[i]? = some (.int k (xs.getD i 0)) ∧ (Lit.int k (xs.getD i 0)).wf = true :=
  h.get (H := ⟨ρ, 0⟩) (fun _ _ h => h) hi

theorem dueL_one_yes {e : Ent} {now : Int} (h : e.at_ ≤ now) : dueL [e] now = [e] ∧ toL [e] now = [] := by simp [dueL, toL, h]
theorem dueL_one_no {e : Ent} {now : Int} (h : ¬ e.at_ ≤ now) : dueL [e] now = [] ∧ toL [e] now = [e] := by simp [dueL, toL, h]

end Go.AM

/-
  Elements of slices that are arguments.
-/
namespace Go.AM

theorem R2_flat_get {α : Type} {R : α → List SV → Prop} {k : Nat} (hk : ∀ x l, R x l → l.length = k) : ∀ {xs : List α} {ls : List (List SV)} (j : List SV), R2 R xs ls → ∀ {i : Nat}, i < xs.length → ∃ x li, xs[i]? = some x ∧ R x li ∧ ((ls.flatten ++ j).drop (i * k)).take k = li ∧ i * k + k ≤ (ls.flatten ++ j).length
  | [], _, _, _, i, hi => by simp at hi
  | x :: xs, l :: ls, j, h, 0, _ => by
    have hl := hk _ _ h.1
    refine ⟨x, l, rfl, h.1, ?_, ?_⟩
    · rw [Nat.zero_mul, List.drop_zero, List.flatten_cons, List.append_assoc, ← hl, List.take_left]
    · simp [List.flatten_cons, hl]
  | x :: xs, l :: ls, j, h, i + 1, hi => by
    have hl := hk _ _ h.1
    obtain ⟨y, li, h1, h2, h3, h4⟩ := R2_flat_get hk j h.2 (i := i) (by simpa using hi)
    refine ⟨y, li, by simpa using h1, h2, ?_, ?_⟩
    · rw [← h3, Nat.add_mul, Nat.one_mul, Nat.add_comm (i * k) k, ← List.drop_drop, List.flatten_cons, List.append_assoc]
      congr 1
      conv => lhs; rw [← hl, List.drop_left]
      rw [hl]
    · simp only [List.flatten_cons, List.length_append, hl] at h4 ⊢
      rw [Nat.add_mul]; omega
  | _ :: _, [], _, h, _, _ => h.elim

section
variable {ρ : HF} {a : Ty} {xs : List a.den} {s : SV}

theorem At.slLen (h : At ρ (.slice a) xs [s]) : lenA (.s s) = some (i64 xs.length) := by
  obtain ⟨s', h1, h2⟩ := h
  cases h1
  rcases h2 with ⟨o, rfl, rfl⟩ | ⟨b, c, j, ls, rfl, _⟩ <;> rfl

theorem At.slGet (h : At ρ (.slice a) xs [s]) {i : Nat} (hi : i < xs.length) : ∃ b c l x li, s = .slice (some (b, 0)) xs.length c a.size ∧ ρ b = some (.cells true l) ∧ xs[i]? = some x ∧ At ρ a x li ∧ (l.drop (i * a.size)).take a.size = li ∧ i * a.size + a.size ≤ l.length := by
  obtain ⟨s', h1, h2⟩ := h
  cases h1
  rcases h2 with ⟨o, rfl, rfl⟩ | ⟨b, c, j, ls, rfl, hb, h3, h4, h5⟩
  · simp at hi
  · obtain ⟨x, li, k1, k2, k3, k4⟩ := R2_flat_get (fun _ _ h => At.len h) j h5 hi
    exact ⟨b, c, _, x, li, rfl, hb, k1, k2, k3, k4⟩
end

theorem ArgsAt.slice {f : HF} {a : Ty} {ts : List Ty} {l : List AV} (h : ArgsAt f (.slice a :: ts) l) : ∃ (xs : List a.den) (s : SV) (vs : List AV), l = .s s :: vs ∧ At f (.slice a) xs [s] ∧ ArgsAt f ts vs := by
  cases h with | cons h1 h2 => obtain ⟨s, rfl, h⟩ := h1; exact ⟨_, s, _, rfl, h, h2⟩

theorem ArgsAt.nil' {f : HF} {l : List AV} (h : ArgsAt f [] l) : l = [] := by cases h; rfl

theorem ArgsAt.int' {f : HF} {k : IntKind} {ts : List Ty} {l : List AV} (h : ArgsAt f (.int k :: ts) l) : ∃ (x : Int) (vs : List AV), l = .s (.int k x) :: vs ∧ (Lit.int k x).wf = true ∧ ArgsAt f ts vs := by
  cases h with | cons h1 h2 => obtain ⟨rfl, h⟩ := h1; exact ⟨_, _, rfl, h, h2⟩

end Go.AM

/-
  The law HandCycles, in the abstract machine.
-/
set_option maxRecDepth 10000
namespace Go.AM
attribute [local simp] Nat.add_assoc resA resA1 fillA buildA callvP

theorem known20_at {m : Nat} {H : AH} (hw : WF H) (hn : H.next = m) (h : ∀ g : HF, (run tab noExt 60 F.detentlaw20_known [] ⟨fun b => if b < m then g b else none, m⟩).map (fun x => x.1) = some (bl true)) : CallP tab noExt F.detentlaw20_known [] H fun v _ => v = bl true :=
  CallP_evalAt 60 m h hw hn

section
variable {ρ : HF}

/-- What is fired of one alone is looked at. -/
theorem hc_l0 (c : Cyc) (hc : (0 ≤ c.next ∧ c.next < 4398046511104) ∧ (1 ≤ c.period ∧ c.period < 4294967296)) (up : Int) (hu : 0 ≤ up ∧ up < 68719476736) (Rs : List Asr) (T : List AV) (H : AH) (hT : T.length = 121) (A0 A3 A9 A12 : AV) (t0 : sl T 0 = A0) (t1 : sl T 1 = i64 c.period) (t3 : sl T 3 = A3) (t9 : sl T 9 = A9) (t11 : sl T 11 = u64 c.next) (t12 : sl T 12 = A12) (so : SV) (t13 : sl T 13 = .s so) (t15 : sl T 15 = u64 up) (t16 : sl T 16 = i64 (0 : Nat))
    (hs : Sat ρ H (Row encF 3 so (firesC c 0 (firesN c up)) :: Rs)) (K : Ex → List AV → AH → Prop)
    (hk : ∀ (T' : List AV) (H' : AH), T'.length = 121 → sl T' 0 = A0 → sl T' 1 = i64 c.period → sl T' 3 = A3 → sl T' 9 = A9 → sl T' 11 = u64 (cycT up c).next → sl T' 12 = A12 → sl T' 15 = u64 up → Sat ρ H' Rs → K (.out 2) T' H') :
    loopP tab noExt R.detentlaw20_HandCycles_l0 T H K := by
  refine loopP_invK (I := fun k T H' => T.length = 121 ∧ sl T 0 = A0 ∧ sl T 1 = i64 c.period ∧ sl T 3 = A3 ∧ sl T 9 = A9 ∧ sl T 12 = A12 ∧ sl T 13 = .s so ∧ sl T 15 = u64 up ∧ ∃ j : Nat, sl T 11 = u64 (c.next + j * c.period) ∧ sl T 16 = i64 j ∧ j ≤ firesN c up ∧ k = firesN c up - j ∧ Sat ρ H' (Row encF 3 so (firesC c 0 (firesN c up)) :: Rs)) ?_ (firesN c up) _ _ ⟨hT, t0, t1, t3, t9, t12, t13, t15, 0, by rw [t11]; simp, t16, Nat.zero_le _, rfl, hs⟩
  rintro k T H' ⟨hT, t0, t1, t3, t9, t12, t13, t15, j, t11, t16, hj, hk', hs⟩ K' kn kr ko
  rw [detentlaw20_HandCycles_l0_at hT]
  have hl := Sat.rowLen hs
  rw [firesC_len] at hl
  by_cases hlt : j < firesN c up
  · have hx := firesC_get (c := c) (i := 0) hlt
    have h1 := (firesN_more (up := up) hc.2.1 j hj).2 hlt
    have h0 : 0 ≤ (j : Int) * c.period := Int.mul_nonneg (by omega) (by omega)
    obtain ⟨b, cp, jk, hsl, hb, h2, h3⟩ := Sat.rowBlk hs (by rw [firesC_len]; omega)
    rw [firesC_len] at hsl
    subst hsl
    have q0 := rdCell encF_len hb hx 0 (by omega)
    have q1 := rdCell encF_len hb hx 1 (by omega)
    have q2 := rdCell encF_len hb hx 2 (by omega)
    simp [encF] at q0 q1 q2
    have hix := ixEl (b := b) (c := cp) (k := 3) hlt
    have hle : c.next + j * c.period ≤ up := h1.2
    have hle' : ¬ c.next + j * c.period > up := by omega
    have hlt' : (j : Int) < (firesN c up : Int) := by omega
    have w1 : IntKind.u64.wrap c.period = c.period := wrap_u64 (by omega) (by omega)
    have w2 : IntKind.u64.wrap (c.next + j * c.period + c.period) = c.next + (j + 1 : Nat) * c.period := by
      rw [wrap_u64 (by omega) (by omega)]
      push_cast
      rw [Int.add_mul, Int.one_mul]; omega
    have w3 := wrapP1 j (by
      have := firesN_le (c := c) (up := up) hc.2.1 hc.1.1 hu.1
      omega)
    generalize hv : c.next + (j : Int) * c.period = vv at *
    simp only [t0, t1, t3, t9, t11, t12, t13, t15, t16, hl, andThen_some, binA_lss, condP_bool]
    rw [decide_eq_true hlt']
    simp only [if_true, hix, andThen_some]
    simp [q0, q1, q2, hle', w1, w2, w3, hix]
    refine kn (firesN c up - (j + 1)) _ _ (by omega) ⟨rfl, rfl, rfl, rfl, rfl, rfl, rfl, rfl, j + 1, ?_, rfl, hlt, rfl, by (repeat refine Sat.bump ?_ _); exact hs⟩
    show u64 _ = u64 _
    push_cast
    rfl
  · have hje : j = firesN c up := by omega
    subst hje
    simp only [t0, t1, t3, t9, t11, t12, t13, t15, t16, hl, andThen_some, binA_lss, condP_bool]
    rw [decide_eq_false (by omega)]
    simp only [Bool.false_eq_true, if_false]
    exact ko _ _ _ (hk _ _ rfl rfl rfl rfl rfl rfl rfl rfl (hs.drop.bump _))

theorem hc_s1 (up nxt : Int) (h : up < nxt) (T : List AV) (H : AH) (hT : T.length = 121) (t11 : sl T 11 = u64 nxt) (t15 : sl T 15 = u64 up) (K : Ex → List AV → AH → Prop) (hk : ∀ T' : List AV, T'.length = 121 → (∀ i, i ≤ 16 → sl T' i = sl T i) → K .norm T' (H.bump 3)) : wpC tab noExt R.detentlaw20_HandCycles_s1 T H K := by
  rw [detentlaw20_HandCycles_s1_at hT]
  have : ¬ nxt ≤ up := by omega
  simp [t11, t15, this]
  refine hk _ rfl fun i hi => ?_
  match i, hi with
  | 0, _ | 1, _ | 2, _ | 3, _ | 4, _ | 5, _ | 6, _ | 7, _ | 8, _ | 9, _ | 10, _ | 12, _ | 13, _ | 14, _ | 16, _ => rfl
  | 11, _ => exact t11.symm
  | 15, _ => exact t15.symm
  | n + 17, h => omega

theorem hc_s2 (i : Nat) (hi : i < 1000) (T : List AV) (H : AH) (hT : T.length = 121) (A0 A1 A3 A9 A11 : AV) (t0 : sl T 0 = A0) (t1 : sl T 1 = A1) (t3 : sl T 3 = A3) (t9 : sl T 9 = A9) (t11 : sl T 11 = A11) (t12 : sl T 12 = i64 i) (K : Ex → List AV → AH → Prop) (hk : ∀ T' : List AV, T'.length = 121 → sl T' 0 = A0 → sl T' 1 = A1 → sl T' 3 = A3 → sl T' 9 = A9 → sl T' 11 = A11 → sl T' 12 = i64 (i + 1 : Nat) → K .norm T' (H.bump 3)) : wpC tab noExt R.detentlaw20_HandCycles_s2 T H K := by
  rw [detentlaw20_HandCycles_s2_at hT]
  have w := wrapP1 i (by omega)
  simp only [t0, t1, t3, t9, t11, t12, andThen_some, binA_add, w]
  exact hk _ rfl rfl rfl rfl rfl rfl rfl

theorem one_gen (c : Cyc) (up : Int) : genF [c] [] up = firesC c 0 (firesN c up) := by simp [genF, genC, genA]

theorem hc_l3 (h : Nat) (tic period phase ticks : Int) (ht : 1 ≤ tic ∧ tic ≤ 100) (hp : 1 ≤ period ∧ period ≤ 1000) (hph : 0 ≤ phase ∧ phase ≤ 1000) (hti : 0 ≤ ticks ∧ ticks ≤ 100) (Rs : List Asr) (T : List AV) (H : AH) (hT : T.length = 121) (t0 : sl T 0 = i64 tic) (t1 : sl T 1 = i64 period) (t3 : sl T 3 = i64 ticks) (t9 : sl T 9 = ptr h) (t11 : sl T 11 = u64 phase) (t12 : sl T 12 = i64 (1 : Nat))
    (hs : Sat ρ H (HdA h [⟨phase, phase, period, true, true⟩] [] [] 0 tic 0 0 :: Rs)) (K : Ex → List AV → AH → Prop) (hk : ∀ (T' : List AV) (H' : AH), T'.length = 121 → K (.out 0) T' H') :
    loopP tab noExt R.detentlaw20_HandCycles_l3 T H K := by
  refine loopP_invK (I := fun k T H' => T.length = 121 ∧ sl T 0 = i64 tic ∧ sl T 1 = i64 period ∧ sl T 3 = i64 ticks ∧ sl T 9 = ptr h ∧ ∃ (n : Nat) (c : Cyc) (Rs : List Asr), (n : Int) ≤ ticks ∧ c.on = true ∧ c.period = period ∧ c.first = phase ∧ (0 ≤ c.next ∧ c.next ≤ n * tic + 2000) ∧ k = 101 - n ∧ sl T 11 = u64 c.next ∧ sl T 12 = i64 (n + 1 : Nat) ∧ Sat ρ H' (HdA h [c] [] [] 0 tic (n * tic) 0 :: Rs)) ?_ 101 _ _ ⟨hT, t0, t1, t3, t9, 0, ⟨phase, phase, period, true, true⟩, Rs, by omega, rfl, rfl, rfl, ⟨hph.1, by simp; omega⟩, rfl, t11, t12, by simpa using hs⟩
  rintro k T H' ⟨hT, t0, t1, t3, t9, n, c, Rs, hn, hon, hcp, hcf, hcn, hk', t11, t12, hs⟩ K' kn kr ko
  rw [detentlaw20_HandCycles_l3_at hT]
  have hb : (n : Int) * tic ≤ 100 * tic := Int.mul_le_mul_of_nonneg_right (by omega) (by omega)
  have hb0 : 0 ≤ (n : Int) * tic := Int.mul_nonneg (by omega) (by omega)
  simp only [t0, t1, t3, t9, t11, t12, andThen_some, binA_leq, condP_bool]
  by_cases hlt : ((n + 1 : Nat) : Int) ≤ ticks
  · rw [decide_eq_true hlt]
    simp only [if_true]
    have hok : HdOk [c] [] (n * tic) := ⟨hb0, by omega, by simp, by simp, by
      intro x hx
      simp at hx; subst hx
      exact ⟨by omega, by omega, by omega⟩, by simp⟩
    refine (Pass_tri h [c] [] [] 0 tic (n * tic) 0 hok ⟨by omega, by omega⟩ (by omega)).use ((hs.bump _).bump _) ?_
    rintro v H2 P' ⟨so, sa, z, rfl, hz, hzp, rfl⟩ hs2
    have hup : (n : Int) * tic + tic = ((n + 1 : Nat) : Int) * tic := by push_cast; rw [Int.add_mul, Int.one_mul]
    rw [hup] at hs2 hzp
    rw [one_gen] at hzp
    have hze : z = firesC c 0 (firesN c (((n + 1 : Nat) : Int) * tic)) := srtL_uniq ltF_tot hz (firesC_srt (by omega) _) hzp
    subst hze
    have hcy := cycT_next (c := c) (up := ((n + 1 : Nat) : Int) * tic) (by omega)
    have hb2 : ((n + 1 : Nat) : Int) * tic ≤ 100 * tic := Int.mul_le_mul_of_nonneg_right (by omega) (by omega)
    have hb1 : 0 ≤ ((n + 1 : Nat) : Int) * tic ∧ ((n + 1 : Nat) : Int) * tic ≤ 10000 := by omega
    simp only [extractA_tup, List.getElem?_cons_zero, List.getElem?_cons_succ, Option.map_some, Part.av, andThen_some, binA_mul]
    have hmx : max c.next (((n + 1 : Nat) : Int) * tic + c.period) ≤ ((n + 1 : Nat) : Int) * tic + 2000 := Int.max_le.2 ⟨by omega, by omega⟩
    generalize hupd : ((n + 1 : Nat) : Int) * tic = up at *
    have w1 : IntKind.i64.wrap up = up := wrap_i64 (by omega) (by omega)
    have w2 : IntKind.u64.wrap up = up := wrap_u64 (by omega) (by omega)
    simp only [andThen_some, w1, convA_int, w2]
    refine hc_l0 c ⟨⟨hcn.1, by omega⟩, by omega, by omega⟩ up ⟨hb1.1, by omega⟩ _ _ _ rfl (i64 tic) (i64 ticks) (ptr h) (i64 (n + 1 : Nat)) rfl (by rw [hcp]; rfl) rfl rfl rfl rfl so rfl rfl rfl ((Sat.bump hs2 5).bump 1) _ ?_
    intro T' H3 hT' u0 u1 u3 u9 u11 u12 u15 hs3
    simp
    refine hc_s1 up _ (hcy.2.2 hon) T' H3 hT' u11 u15 _ ?_
    intro T4 hT4 hT4s
    simp
    refine hc_s2 (n + 1) (by omega) T4 _ hT4 _ _ _ _ _ ((hT4s 0 (by omega)).trans u0) ((hT4s 1 (by omega)).trans u1) ((hT4s 3 (by omega)).trans u3) ((hT4s 9 (by omega)).trans u9) ((hT4s 11 (by omega)).trans u11) ((hT4s 12 (by omega)).trans u12) _ ?_
    intro T5 hT5 x0 x1 x3 x9 x11 x12
    refine kn (101 - (n + 1)) _ _ (by omega) ⟨hT5, x0, by rw [x1, hcp], x3, x9, n + 1, cycT up c, Rs, by omega, hon, hcp, hcf, ⟨by omega, by omega⟩, rfl, x11, x12, ?_⟩
    have hs4 : Sat ρ H3 (HdA h [cycT up c] [] [] 0 tic up 0 :: Rs) := hs3.drop
    rw [hupd]
    exact (hs4.bump _).bump _
  · rw [decide_eq_false hlt]
    simp only [Bool.false_eq_true, if_false]
    exact ko _ _ _ (hk _ _ rfl)
end

theorem HandCycles_abs (H : AH) (hw : WF H) (hn : H.next = 0) (avs : List AV) (ha : ArgsAt H.blk [.int .i64, .int .i64, .int .i64, .int .i64] avs) : CallP tab noExt F.detentlaw20_HandCycles avs H fun v _ => v = bl true := by
  obtain ⟨tic, _, rfl, _, ha1⟩ := ha.int'
  obtain ⟨period, _, rfl, wp, ha2⟩ := ha1.int'
  obtain ⟨phase, _, rfl, wq, ha3⟩ := ha2.int'
  obtain ⟨ticks, _, rfl, _, ha4⟩ := ha3.int'
  obtain rfl := ha4.nil'
  apply detentlaw20_HandCycles_call
  refine (known20_at ((hw.bump _).bump _) (m := 3) (by simp [hn]) (fun g => by kernel_rfl)).start (ρ := H.blk) ((hw.bump _).bump _) (fun _ _ h => h) ?_
  rintro v H1 hs rfl
  have up := lit_bounds wp
  have uq := lit_bounds wq
  simp only [IntKind.min, IntKind.max, IntKind.signed, IntKind.bits] at up uq
  by_cases g1 : tic < 1
  · simp [g1]
  by_cases g2 : 100 < tic
  · simp [g1, g2]
  by_cases g3 : period < 1
  · simp [g1, g2, g3]
  by_cases g4 : IntKind.i64.wrap (100 * period) < tic
  · simp [g1, g2, g3, g4]
  by_cases g5 : 1000 < period
  · simp [g1, g2, g3, g4, g5]
  by_cases g6 : phase < 0
  · simp [g1, g2, g3, g4, g5, g6]
  by_cases g7 : 1000 < phase
  · simp [g1, g2, g3, g4, g5, g6, g7]
  by_cases g8 : ticks < 0
  · simp [g1, g2, g3, g4, g5, g6, g7, g8]
  by_cases g9 : 100 < ticks
  · simp [g1, g2, g3, g4, g5, g6, g7, g8, g9]
  simp [g1, g2, g3, g4, g5, g6, g7, g8, g9]
  refine (NewHands_tri tic (by omega) (by omega)).use (R := []) ((hs.bump _).bump _) ?_
  rintro v H2 P' ⟨h, rfl, rfl⟩ hs2
  simp
  have hok : HdOk [] [] 0 := ⟨by omega, by omega, by simp, by simp, by simp, by simp⟩
  refine (Cyclic_tri h [] [] [] 0 tic 0 0 hok period phase true true (by omega) (by omega) (by omega) (by omega)).use (Sat.bump hs2 _) ?_
  rintro v H3 P' ⟨rfl, rfl⟩ hs3
  have hb : ¬ badP period phase := by unfold badP; omega
  have e : cycR [] 0 period phase true true = ((1, 0), [⟨phase, phase, period, true, true⟩]) := by unfold cycR; rw [if_neg hb]; simp
  rw [e] at hs3
  have w : IntKind.u64.wrap phase = phase := wrap_u64 (by omega) (by omega)
  simp [w]
  refine hc_l3 h tic period phase ticks (by omega) (by omega) (by omega) (by omega) [] _ _ rfl rfl rfl rfl rfl rfl rfl ((Sat.bump hs3 3).bump 1) _ ?_
  intro T' H4 hT'
  simp
  rw [detentlaw20_HandCycles_s4_at hT']
  simp

end Go.AM

/-
  THE ABSTRACT MACHINE: of a piece's slots only those are told that are looked at later.
-/
namespace Go.AM

def Lvs (T : List AV) : List (Nat × AV) → Prop
  | [] => True
  | p :: l => sl T p.1 = p.2 ∧ Lvs T l

/-- For all slots that hold these. -/
def Lv (n : Nat) (l : List (Nat × AV)) (P : List AV → Prop) : Prop := ∀ T : List AV, T.length = n → Lvs T l → P T

theorem Lv.get {n : Nat} {l : List (Nat × AV)} {P : List AV → Prop} {T : List AV} (h1 : T.length = n) (h2 : Lvs T l) (h : Lv n l P) : P T := h T h1 h2

section
variable {tab : Nat → Option RFunc} {ext : Nat → List AV → AH → Option (AV × AH)}
theorem andThen_imp {α : Type} {o : Option α} {K K' : α → Prop} (h : ∀ a, K a → K' a) (hk : andThen o K) : andThen o K' := hk.mono h
theorem condP_imp {v : AV} {A A' B B' : Prop} (h1 : A → A') (h2 : B → B') (h : condP v A B) : condP v A' B' := by
  unfold condP at *
  split <;> simp_all
theorem CallP_imp {f : Nat} {args : List AV} {H : AH} {K K' : AV → AH → Prop} (hk : ∀ v H, K v H → K' v H) (h : CallP tab ext f args H K) : CallP tab ext f args H K' := h.mono hk
theorem callvP_imp {x : AV} {args : List AV} {H : AH} {K K' : AV → AH → Prop} (hk : ∀ v H, K v H → K' v H) (h : callvP tab ext x args H K) : callvP tab ext x args H K' := by
  unfold callvP at *
  split at h
  · exact h.mono hk
  · exact h.mono hk
  · exact h
theorem gP_imp {c : Bool} {H : AH} {P : (AV → AH → Prop) → Prop} {K K' : AV → AH → Prop} (hp : ∀ k k' : AV → AH → Prop, (∀ v H, k v H → k' v H) → P k → P k') (hk : ∀ v H, K v H → K' v H) (h : gP c H P K) : gP c H P K' := by
  unfold gP at *
  cases c
  · exact hk _ _ h
  · exact hp K K' hk h
theorem and_imp2 {A B B' : Prop} (h : B → B') (hb : A ∧ B) : A ∧ B' := ⟨hb.1, h hb.2⟩
end

theorem gP_t {c : Bool} {H : AH} {P : (AV → AH → Prop) → Prop} {K : AV → AH → Prop} (hc : c = true) (h : P K) : gP c H P K := by subst hc; exact h
theorem gP_f {c : Bool} {H : AH} {P : (AV → AH → Prop) → Prop} {K : AV → AH → Prop} (hc : c = false) (h : K undef H) : gP c H P K := by subst hc; exact h
theorem condP_t {A B : Prop} (h : A) : condP (.s (.bool true)) A B := h
theorem condP_f {A B : Prop} (h : B) : condP (.s (.bool false)) A B := h

theorem Lvs.cons {T : List AV} {k : Nat} {v : AV} {l : List (Nat × AV)} (h : sl T k = v) (h' : Lvs T l) : Lvs T ((k, v) :: l) := ⟨h, h'⟩
theorem Lvs.nil {T : List AV} : Lvs T [] := trivial
end Go.AM

/-
  What must hold ahead of each function and each piece, of the slots only what is looked at later.
-/
set_option maxRecDepth 100000
set_option maxHeartbeats 8000000
set_option linter.unusedVariables false
namespace Go.AM
theorem detentlaw20_HandOrder_l2_w {T0 : List AV} (hT : T0.length = 156) (H : AH) (K : Ex → List AV → AH → Prop) (h : andThen (lenA (sl T0 10)) fun v1 => andThen (binA .lss (sl T0 12) v1) fun v2 => condP v2 (andThen (binA .sub (sl T0 12) (AV.s (SV.int .i64 1))) fun v3 => andThen (indexSlA 3 (sl T0 10) v3) fun v4 => andThen (loadA (some 3) v4 (AH.bump (AH.bump H 4) 7)) fun v5 => andThen (AH.new (AH.bump (AH.bump H 4) 7) (AH.next (AH.bump H 4) + 5) (Blk.cells false [.bool false, .int .i64 0, .int .u64 0])) fun H6 => andThen (storeA 3 (AV.s (SV.ptr (some (AH.next (AH.bump H 4) + 5, 0)))) v5 H6) fun H7 => andThen (indexSlA 3 (sl T0 10) (sl T0 12)) fun v8 => andThen (loadA (some 3) v8 (AH.bump H7 6)) fun v9 => andThen (AH.new (AH.bump H7 6) (AH.next H7 + 4) (Blk.cells false [.bool false, .int .i64 0, .int .u64 0])) fun H10 => andThen (storeA 3 (AV.s (SV.ptr (some (AH.next H7 + 4, 0)))) v9 H10) fun H11 => andThen (fieldAddrA 2 (AV.s (SV.ptr (some (AH.next (AH.bump H 4) + 5, 0))))) fun v12 => andThen (loadA none v12 (AH.bump H11 35)) fun v13 => andThen (fieldAddrA 2 (AV.s (SV.ptr (some (AH.next H7 + 4, 0))))) fun v14 => andThen (loadA none v14 (AH.bump H11 35)) fun v15 => andThen (binA .gtr v13 v15) fun v16 => gP (gd v16 false) (AH.bump H11 35) (fun k17 => andThen (fieldAddrA 2 (AV.s (SV.ptr (some (AH.next (AH.bump H 4) + 5, 0))))) fun v20 => k17 v20 (AH.bump H11 35)) fun v18 H19 => gP (gd v16 false) H19 (fun k21 => andThen (loadA none v18 H19) fun v24 => k21 v24 H19) fun v22 H23 => gP (gd v16 false) H23 (fun k25 => andThen (fieldAddrA 2 (AV.s (SV.ptr (some (AH.next H7 + 4, 0))))) fun v28 => k25 v28 H23) fun v26 H27 => gP (gd v16 false) H27 (fun k29 => andThen (loadA none v26 H27) fun v32 => k29 v32 H27) fun v30 H31 => gP (gd v16 false) H31 (fun k33 => andThen (binA .eql v22 v30) fun v36 => k33 v36 H31) fun v34 H35 => gP (gd v16 false) H35 (fun k37 => k37 v34 H35) fun v38 H39 => gP (gd v38 true) H39 (fun k40 => andThen (fieldAddrA 0 (AV.s (SV.ptr (some (AH.next (AH.bump H 4) + 5, 0))))) fun v43 => k40 v43 H39) fun v41 H42 => gP (gd v38 true) H42 (fun k44 => andThen (loadA none v41 H42) fun v47 => k44 v47 H42) fun v45 H46 => gP (gd v38 true) H46 (fun k48 => andThen (unA .not v45) fun v51 => k48 v51 H46) fun v49 H50 => gP (gd v38 true) H50 (fun k52 => k52 v49 H50) fun v53 H54 => gP (gd v53 true) H54 (fun k55 => andThen (fieldAddrA 0 (AV.s (SV.ptr (some (AH.next H7 + 4, 0))))) fun v58 => k55 v58 H54) fun v56 H57 => gP (gd v53 true) H57 (fun k59 => andThen (loadA none v56 H57) fun v62 => k59 v62 H57) fun v60 H61 => gP (gd v38 true) H61 (fun k63 => andThen (pickA v53 v60 (AV.s (SV.bool false))) fun v66 => k63 v66 H61) fun v64 H65 => gP (gd v38 true) H65 (fun k67 => k67 v64 H65) fun v68 H69 => gP (gd v68 false) H69 (fun k70 => andThen (fieldAddrA 0 (AV.s (SV.ptr (some (AH.next (AH.bump H 4) + 5, 0))))) fun v73 => k70 v73 H69) fun v71 H72 => gP (gd v68 false) H72 (fun k74 => andThen (loadA none v71 H72) fun v77 => k74 v77 H72) fun v75 H76 => gP (gd v68 false) H76 (fun k78 => andThen (fieldAddrA 0 (AV.s (SV.ptr (some (AH.next H7 + 4, 0))))) fun v81 => k78 v81 H76) fun v79 H80 => gP (gd v68 false) H80 (fun k82 => andThen (loadA none v79 H80) fun v85 => k82 v85 H80) fun v83 H84 => gP (gd v68 false) H84 (fun k86 => andThen (eqsA .bool false v75 v83) fun v89 => k86 v89 H84) fun v87 H88 => gP (gd v68 false) H88 (fun k90 => k90 v87 H88) fun v91 H92 => gP (gd v91 true) H92 (fun k93 => andThen (fieldAddrA 1 (AV.s (SV.ptr (some (AH.next (AH.bump H 4) + 5, 0))))) fun v96 => k93 v96 H92) fun v94 H95 => gP (gd v91 true) H95 (fun k97 => andThen (loadA none v94 H95) fun v100 => k97 v100 H95) fun v98 H99 => gP (gd v91 true) H99 (fun k101 => andThen (fieldAddrA 1 (AV.s (SV.ptr (some (AH.next H7 + 4, 0))))) fun v104 => k101 v104 H99) fun v102 H103 => gP (gd v91 true) H103 (fun k105 => andThen (loadA none v102 H103) fun v108 => k105 v108 H103) fun v106 H107 => gP (gd v91 true) H107 (fun k109 => andThen (binA .geq v98 v106) fun v112 => k109 v112 H107) fun v110 H111 => gP (gd v68 false) H111 (fun k113 => andThen (pickA v91 v110 (AV.s (SV.bool false))) fun v116 => k113 v116 H111) fun v114 H115 => gP (gd v38 true) H115 (fun k117 => andThen (pickA v68 (AV.s (SV.bool true)) v114) fun v120 => k117 v120 H115) fun v118 H119 => gP (gd v16 false) H119 (fun k121 => andThen (pickA v38 v118 (AV.s (SV.bool false))) fun v124 => k121 v124 H119) fun v122 H123 => andThen (pickA v16 (AV.s (SV.bool true)) v122) fun v125 => condP v125 (Lv 156 [(0, (sl T0 0)), (1, (sl T0 1)), (4, (AV.s (SV.bool false))), (5, (sl T0 5)), (7, (sl T0 7)), (8, (sl T0 8)), (9, (sl T0 9)), (10, (sl T0 10)), (12, (sl T0 12)), (15, (sl T0 15))] fun T => K Ex.ret T (AH.bump H123 1)) (andThen (binA .add (sl T0 12) (AV.s (SV.int .i64 1))) fun v126 => Lv 156 [(0, (sl T0 0)), (1, (sl T0 1)), (4, (sl T0 4)), (5, (sl T0 5)), (7, (sl T0 7)), (8, (sl T0 8)), (9, (sl T0 9)), (10, (sl T0 10)), (12, v126), (15, (sl T0 15))] fun T => K Ex.norm T (AH.bump H123 3))) (Lv 156 [(0, (sl T0 0)), (1, (sl T0 1)), (4, (sl T0 4)), (5, (sl T0 5)), (7, (sl T0 7)), (8, (sl T0 8)), (9, (sl T0 9)), (10, (sl T0 10)), (12, (sl T0 12)), (15, (sl T0 15))] fun T => K (Ex.out 6) T (AH.bump H 4))) :
  wpC tab noExt R.detentlaw20_HandOrder_l2 T0 H K := by
  rw [detentlaw20_HandOrder_l2_at hT]
  revert h
  repeat' (first
    | exact Lv.get rfl (by repeat (first | exact Lvs.nil | refine Lvs.cons rfl ?_))
    | refine andThen_imp fun _ => ?_
    | refine condP_imp ?_ ?_
    | refine CallP_imp fun _ _ => ?_
    | refine callvP_imp fun _ _ => ?_
    | refine gP_imp ?_ fun _ _ => ?_
    | refine and_imp2 ?_
    | intro k k' hk
    | exact hk _ _
    | exact fun h => h)
theorem detentlaw20_HandOrder_s4_w {T0 : List AV} (hT : T0.length = 156) (H : AH) (K : Ex → List AV → AH → Prop) (h : Lv 156 [(0, (sl T0 0)), (1, (sl T0 1)), (4, (sl T0 4)), (5, (sl T0 5)), (7, (sl T0 7)), (8, (sl T0 8)), (9, (sl T0 9)), (10, (sl T0 10)), (12, (sl T0 12)), (15, (AV.s (SV.int .i64 0)))] fun T => loopP tab noExt R.detentlaw20_HandOrder_l3 T (AH.bump H 1) (blockK 8 K)) :
  wpC tab noExt R.detentlaw20_HandOrder_s4 T0 H K := by
  rw [detentlaw20_HandOrder_s4_at hT]
  revert h
  repeat' (first
    | exact Lv.get rfl (by repeat (first | exact Lvs.nil | refine Lvs.cons rfl ?_))
    | refine andThen_imp fun _ => ?_
    | refine condP_imp ?_ ?_
    | refine CallP_imp fun _ _ => ?_
    | refine callvP_imp fun _ _ => ?_
    | refine gP_imp ?_ fun _ _ => ?_
    | refine and_imp2 ?_
    | intro k k' hk
    | exact hk _ _
    | exact fun h => h)
theorem detentlaw20_HandOrder_s5_w {T0 : List AV} (hT : T0.length = 156) (H : AH) (K : Ex → List AV → AH → Prop) (h : andThen (binA .add (sl T0 9) (AV.s (SV.int .i64 1))) fun v1 => Lv 156 [(0, (sl T0 0)), (1, (sl T0 1)), (4, (sl T0 4)), (5, (sl T0 5)), (7, (sl T0 7)), (8, (sl T0 8)), (9, v1), (10, (sl T0 10)), (12, (sl T0 12)), (15, (sl T0 15))] fun T => K Ex.norm T (AH.bump H 3)) :
  wpC tab noExt R.detentlaw20_HandOrder_s5 T0 H K := by
  rw [detentlaw20_HandOrder_s5_at hT]
  revert h
  repeat' (first
    | exact Lv.get rfl (by repeat (first | exact Lvs.nil | refine Lvs.cons rfl ?_))
    | refine andThen_imp fun _ => ?_
    | refine condP_imp ?_ ?_
    | refine CallP_imp fun _ _ => ?_
    | refine callvP_imp fun _ _ => ?_
    | refine gP_imp ?_ fun _ _ => ?_
    | refine and_imp2 ?_
    | intro k k' hk
    | exact hk _ _
    | exact fun h => h)
theorem detentlaw20_HandOrder_l6_w {T0 : List AV} (hT : T0.length = 156) (H : AH) (K : Ex → List AV → AH → Prop) (h : andThen (binA .lss (sl T0 9) (AV.s (SV.int .i64 4))) fun v1 => condP v1 (CallP tab noExt F.cyc_Hands_Pass [(sl T0 5)] (AH.bump (AH.bump H 2) 7) fun v2 H3 => andThen (extractA 0 v2) fun v4 => andThen (extractA 1 v2) fun v5 => Lv 156 [(0, (sl T0 0)), (1, (sl T0 1)), (4, (sl T0 4)), (5, (sl T0 5)), (7, (sl T0 7)), (8, (sl T0 8)), (9, (sl T0 9)), (10, v4), (12, (AV.s (SV.int .i64 1))), (15, (sl T0 15))] fun T => loopP tab noExt R.detentlaw20_HandOrder_l2 T (AH.bump H3 1) (blockK 6 (seqK (fun T H => wpC tab noExt R.detentlaw20_HandOrder_s4 T H (blockK 5 (seqK (fun T H => wpC tab noExt R.detentlaw20_HandOrder_s5 T H K) K))) (blockK 5 (seqK (fun T H => wpC tab noExt R.detentlaw20_HandOrder_s5 T H K) K))))) (Lv 156 [(0, (sl T0 0)), (1, (sl T0 1)), (4, (sl T0 4)), (5, (sl T0 5)), (7, (sl T0 7)), (8, (sl T0 8)), (9, (sl T0 9)), (10, (sl T0 10)), (12, (sl T0 12)), (15, (sl T0 15))] fun T => K (Ex.out 4) T (AH.bump H 2))) :
  wpC tab noExt R.detentlaw20_HandOrder_l6 T0 H K := by
  rw [detentlaw20_HandOrder_l6_at hT]
  revert h
  repeat' (first
    | exact Lv.get rfl (by repeat (first | exact Lvs.nil | refine Lvs.cons rfl ?_))
    | refine andThen_imp fun _ => ?_
    | refine condP_imp ?_ ?_
    | refine CallP_imp fun _ _ => ?_
    | refine callvP_imp fun _ _ => ?_
    | refine gP_imp ?_ fun _ _ => ?_
    | refine and_imp2 ?_
    | intro k k' hk
    | exact hk _ _
    | exact fun h => h)
theorem detentlaw20_HandOrder_s7_w {T0 : List AV} (hT : T0.length = 156) (H : AH) (K : Ex → List AV → AH → Prop) (h : Lv 156 [(0, (sl T0 0)), (1, (sl T0 1)), (4, (AV.s (SV.bool true))), (5, (sl T0 5)), (7, (sl T0 7)), (8, (sl T0 8)), (9, (sl T0 9)), (10, (sl T0 10)), (12, (sl T0 12)), (15, (sl T0 15))] fun T => K Ex.ret T (AH.bump H 1)) :
  wpC tab noExt R.detentlaw20_HandOrder_s7 T0 H K := by
  rw [detentlaw20_HandOrder_s7_at hT]
  revert h
  repeat' (first
    | exact Lv.get rfl (by repeat (first | exact Lvs.nil | refine Lvs.cons rfl ?_))
    | refine andThen_imp fun _ => ?_
    | refine condP_imp ?_ ?_
    | refine CallP_imp fun _ _ => ?_
    | refine callvP_imp fun _ _ => ?_
    | refine gP_imp ?_ fun _ _ => ?_
    | refine and_imp2 ?_
    | intro k k' hk
    | exact hk _ _
    | exact fun h => h)
theorem detentlaw20_HandOrder_s8_w {T0 : List AV} (hT : T0.length = 156) (H : AH) (K : Ex → List AV → AH → Prop) (h : Lv 156 [(0, (sl T0 0)), (1, (sl T0 1)), (4, (sl T0 4)), (5, (sl T0 5)), (7, (sl T0 7)), (8, (sl T0 8)), (9, (AV.s (SV.int .i64 0))), (10, (sl T0 10)), (12, (sl T0 12)), (15, (sl T0 15))] fun T => loopP tab noExt R.detentlaw20_HandOrder_l6 T (AH.bump H 1) (blockK 4 (seqK (fun T H => wpC tab noExt R.detentlaw20_HandOrder_s7 T H K) K))) :
  wpC tab noExt R.detentlaw20_HandOrder_s8 T0 H K := by
  rw [detentlaw20_HandOrder_s8_at hT]
  revert h
  repeat' (first
    | exact Lv.get rfl (by repeat (first | exact Lvs.nil | refine Lvs.cons rfl ?_))
    | refine andThen_imp fun _ => ?_
    | refine condP_imp ?_ ?_
    | refine CallP_imp fun _ _ => ?_
    | refine callvP_imp fun _ _ => ?_
    | refine gP_imp ?_ fun _ _ => ?_
    | refine and_imp2 ?_
    | intro k k' hk
    | exact hk _ _
    | exact fun h => h)
theorem detentlaw20_HandOrder_s9_w {T0 : List AV} (hT : T0.length = 156) (H : AH) (K : Ex → List AV → AH → Prop) (h : Lv 156 [(0, (sl T0 0)), (1, (sl T0 1)), (4, (sl T0 4)), (5, (sl T0 5)), (7, (sl T0 7)), (8, (AV.s (SV.int .i64 0))), (9, (sl T0 9)), (10, (sl T0 10)), (12, (sl T0 12)), (15, (sl T0 15))] fun T => loopP tab noExt R.detentlaw20_HandOrder_l1 T (AH.bump H 1) (blockK 2 (seqK (fun T H => wpC tab noExt R.detentlaw20_HandOrder_s8 T H K) K))) :
  wpC tab noExt R.detentlaw20_HandOrder_s9 T0 H K := by
  rw [detentlaw20_HandOrder_s9_at hT]
  revert h
  repeat' (first
    | exact Lv.get rfl (by repeat (first | exact Lvs.nil | refine Lvs.cons rfl ?_))
    | refine andThen_imp fun _ => ?_
    | refine condP_imp ?_ ?_
    | refine CallP_imp fun _ _ => ?_
    | refine callvP_imp fun _ _ => ?_
    | refine gP_imp ?_ fun _ _ => ?_
    | refine and_imp2 ?_
    | intro k k' hk
    | exact hk _ _
    | exact fun h => h)
theorem detentlaw20_HandOrder_callw {a0 a1 : AV} {H : AH} {K : AV → AH → Prop} (h : CallP tab noExt F.detentlaw20_known [] (AH.bump (AH.bump H 1) 2) fun v1 H2 => andThen (unA .not v1) fun v3 => condP v3 (andThen (some (AV.s (SV.bool false))) fun v => K v (AH.bump H2 1)) (andThen (lenA a0) fun v4 => andThen (binA .gtr v4 (AV.s (SV.int .i64 8))) fun v5 => gP (gd v5 false) (AH.bump H2 8) (fun k6 => k6 a1 (AH.bump H2 8)) fun v7 H8 => gP (gd v5 false) H8 (fun k9 => andThen (lenA v7) fun v12 => k9 v12 H8) fun v10 H11 => gP (gd v5 false) H11 (fun k13 => andThen (binA .gtr v10 (AV.s (SV.int .i64 8))) fun v16 => k13 v16 H11) fun v14 H15 => andThen (pickA v5 (AV.s (SV.bool true)) v14) fun v17 => condP v17 (andThen (some (AV.s (SV.bool true))) fun v => K v (AH.bump H15 1)) (CallP tab noExt F.cyc_NewHands [(AV.s (SV.int .i64 100))] (AH.bump H15 6) fun v18 H19 => andThen (extractA 0 v18) fun v20 => andThen (extractA 1 v18) fun v21 => Lv 156 [(0, a0), (1, a1), (4, (AV.s (SV.bool false))), (5, v20), (7, (AV.s (SV.int .i64 0))), (8, undef), (9, undef), (10, undef), (12, undef), (15, undef)] fun T => loopP tab noExt R.detentlaw20_HandOrder_l0 T (AH.bump H19 1) (blockK 0 (seqK (fun T H => wpC tab noExt R.detentlaw20_HandOrder_s9 T H (retK [.tmp 4] K)) (retK [.tmp 4] K)))))) : CallP tab noExt F.detentlaw20_HandOrder [a0, a1] H K := by
  apply detentlaw20_HandOrder_call
  revert h
  repeat' (first
    | exact Lv.get rfl (by repeat (first | exact Lvs.nil | refine Lvs.cons rfl ?_))
    | refine andThen_imp fun _ => ?_
    | refine condP_imp ?_ ?_
    | refine CallP_imp fun _ _ => ?_
    | refine callvP_imp fun _ _ => ?_
    | refine gP_imp ?_ fun _ _ => ?_
    | refine and_imp2 ?_
    | intro k k' hk
    | exact hk _ _
    | exact fun h => h)
end Go.AM

/-
  All that is written out small.
-/


/-
  The law HandOrder, in the abstract machine.
-/
set_option maxRecDepth 10000
namespace Go.AM
attribute [local simp] Nat.add_assoc resA resA1 fillA buildA callvP

theorem u8_el {ρ : HF} {xs : List Int} {s : SV} (h : At ρ (.slice (.int .u8)) xs [s]) {i : Nat} (hi : i < xs.length) : ∃ b c cells x, s = .slice (some (b, 0)) xs.length c 1 ∧ ρ b = some (.cells true cells) ∧ xs[i]? = some x ∧ cells[i]? = some (.int .u8 x) ∧ 0 ≤ x ∧ x ≤ 255 := by
  obtain ⟨b, c, cells, x, li, h1, h2, h3, ⟨e, hwf⟩, h5, h6⟩ := At.slGet h hi
  have h5 : (cells.drop (i * 1)).take 1 = li := h5
  rw [Nat.mul_one, e] at h5
  have hb : (0 : Int) ≤ x ∧ x ≤ 255 := by simpa [Lit.wf, IntKind.min, IntKind.max, IntKind.signed, IntKind.bits] using hwf
  refine ⟨b, c, cells, x, h1, h2, h3, ?_, hb⟩
  have := congrArg (fun l => l[0]?) h5
  simpa using this

/-- Handlers as this law has them. -/
structure OrdP (cs : List Cyc) (al : List Alr) (up : Int) : Prop where
  lc : cs.length ≤ 8
  la : al.length ≤ 8
  c : ∀ c ∈ cs, (0 ≤ c.first ∧ c.first ≤ 255) ∧ (20 ≤ c.period ∧ c.period ≤ 275) ∧ up ≤ c.next ∧ c.next ≤ up + 600
  a : ∀ a ∈ al, (0 ≤ a.at_ ∧ a.at_ ≤ 400) ∧ (a.on = true → up ≤ a.at_)

theorem OrdP.ok {cs : List Cyc} {al : List Alr} {up : Int} (h : OrdP cs al up) (hu : 0 ≤ up ∧ up ≤ 1000) : HdOk cs al up :=
  ⟨hu.1, by omega, h.lc, h.la, fun c hc => by have := h.c c hc; omega, fun a ha => by have := (h.a a ha).1; omega⟩

theorem OrdP.tick {cs : List Cyc} {al : List Alr} {up : Int} (h : OrdP cs al up) (hon : ∀ c ∈ cs, c.on = true) : OrdP (cs.map (cycT (up + 100))) (al.map (alrT (up + 100))) (up + 100) ∧ ∀ c ∈ cs.map (cycT (up + 100)), c.on = true := by
  refine ⟨⟨by simpa using h.lc, by simpa using h.la, ?_, ?_⟩, ?_⟩
  · intro x hx
    obtain ⟨c, hc, rfl⟩ := List.mem_map.1 hx
    have h1 := h.c c hc
    have h2 := cycT_next (c := c) (up := up + 100) (by omega)
    have h3 := h2.2.2 (hon c hc)
    have h4 : max c.next (up + 100 + c.period) ≤ up + 700 := Int.max_le.2 ⟨by omega, by omega⟩
    exact ⟨h1.1, h1.2.1, by omega, by omega⟩
  · intro x hx
    obtain ⟨a, ha, rfl⟩ := List.mem_map.1 hx
    have h1 := h.a a ha
    unfold alrT
    split
    · exact ⟨by simp, by simp⟩
    · rename_i hn
      refine ⟨h1.1, fun ho => ?_⟩
      have : ¬ a.at_ ≤ up + 100 := fun hle => hn ⟨ho, hle⟩
      omega
  · intro x hx
    obtain ⟨c, hc, rfl⟩ := List.mem_map.1 hx
    exact hon c hc

section
variable {ρ : HF}

theorem ho_l0 (h : Nat) (xs : List Int) (s : SV) (hx : At ρ (.slice (.int .u8)) xs [s]) (hl : xs.length ≤ 8) (Rs : List Asr) (T : List AV) (H : AH) (hT : T.length = 156) (A1 : AV) (t0 : sl T 0 = .s s) (t1 : sl T 1 = A1) (t5 : sl T 5 = ptr h) (t7 : sl T 7 = i64 (0 : Nat))
    (hs : Sat ρ H (HdA h [] [] [] 0 100 0 0 :: Rs)) (K : Ex → List AV → AH → Prop)
    (hk : ∀ (T' : List AV) (H' : AH) (cs : List Cyc), T'.length = 156 → sl T' 1 = A1 → sl T' 5 = ptr h → OrdP cs [] 0 → (∀ c ∈ cs, c.on = true) → Sat ρ H' (HdA h cs [] [] 0 100 0 0 :: Rs) → K (.out 0) T' H') :
    loopP tab noExt R.detentlaw20_HandOrder_l0 T H K := by
  have hlen := At.slLen hx
  refine loopP_invK (I := fun k T H' => T.length = 156 ∧ sl T 0 = .s s ∧ sl T 1 = A1 ∧ sl T 5 = ptr h ∧ ∃ (i : Nat) (cs : List Cyc), sl T 7 = i64 i ∧ i ≤ xs.length ∧ cs.length = i ∧ k = xs.length - i ∧ OrdP cs [] 0 ∧ (∀ c ∈ cs, c.on = true) ∧ Sat ρ H' (HdA h cs [] [] 0 100 0 0 :: Rs)) ?_ xs.length _ _ ⟨hT, t0, t1, t5, 0, [], t7, Nat.zero_le _, rfl, rfl, ⟨by simp, by simp, by simp, by simp⟩, by simp, hs⟩
  rintro k T H' ⟨hT, t0, t1, t5, i, cs, t7, hi, hci, hk', hP, hon, hs⟩ K' kn kr ko
  rw [detentlaw20_HandOrder_l0_at hT]
  simp only [t0, t1, t5, t7, hlen, andThen_some, binA_lss, condP_bool]
  by_cases hlt : i < xs.length
  · rw [decide_eq_true (by omega)]
    obtain ⟨b, cp, cells, x, rfl, hρ, hxi, hcel, hx0, hx1⟩ := u8_el hx hlt
    have hb := hs.roOf _ _ hρ
    have w1 : IntKind.i64.wrap x = x := wrap_i64 (by omega) (by omega)
    have w2 : IntKind.i64.wrap (20 + x) = 20 + x := wrap_i64 (by omega) (by omega)
    have w3 := wrapP1 i (by omega)
    have hld : H'.ld b i = some (.int .u8 x) := by rw [ld_of H' hb]; exact hcel
    simp [hlt, hld, w1, w2]
    refine (Cyclic_tri h cs [] [] 0 100 0 0 (hP.ok (by omega)) (20 + x) x true false (by omega) (by omega) (by omega) (by omega)).use ((hs.bump _).bump _) ?_
    rintro v H2 P' ⟨rfl, rfl⟩ hs2
    have hbad : ¬ badP (20 + x) x := by unfold badP; omega
    have e : (cycR cs 0 (20 + x) x true false).2 = cs ++ [⟨x, x, 20 + x, true, false⟩] := by
      unfold cycR; rw [if_neg hbad, if_neg (by omega)]; simp
    rw [e] at hs2
    simp [w3]
    refine kn (xs.length - (i + 1)) _ _ (by omega) ⟨rfl, rfl, rfl, rfl, i + 1, cs ++ [⟨x, x, 20 + x, true, false⟩], rfl, hlt, by simp [hci], rfl, ⟨by simp; omega, by simp, ?_, by simp⟩, ?_, Sat.bump hs2 _⟩
    · intro c hc
      rcases List.mem_append.1 hc with hc | hc
      · exact hP.c c hc
      · simp at hc; subst hc; simp only; omega
    · intro c hc
      rcases List.mem_append.1 hc with hc | hc
      · exact hon c hc
      · simp at hc; subst hc; rfl
  · rw [decide_eq_false (by omega)]
    simp only [Bool.false_eq_true, if_false]
    exact ko _ _ _ (hk _ _ cs rfl rfl rfl hP hon (hs.bump _))

theorem ho_l1 (h : Nat) (cs : List Cyc) (hP0 : OrdP cs [] 0) (xs : List Int) (s : SV) (hx : At ρ (.slice (.int .u8)) xs [s]) (hl : xs.length ≤ 8) (Rs : List Asr) (T : List AV) (H : AH) (hT : T.length = 156) (t1 : sl T 1 = .s s) (t5 : sl T 5 = ptr h) (t8 : sl T 8 = i64 (0 : Nat))
    (hs : Sat ρ H (HdA h cs [] [] 0 100 0 0 :: Rs)) (K : Ex → List AV → AH → Prop)
    (hk : ∀ (T' : List AV) (H' : AH) (al : List Alr), T'.length = 156 → sl T' 5 = ptr h → OrdP cs al 0 → Sat ρ H' (HdA h cs al [] 0 100 0 0 :: Rs) → K (.out 2) T' H') :
    loopP tab noExt R.detentlaw20_HandOrder_l1 T H K := by
  have hlen := At.slLen hx
  refine loopP_invK (I := fun k T H' => T.length = 156 ∧ sl T 1 = .s s ∧ sl T 5 = ptr h ∧ ∃ (i : Nat) (al : List Alr), sl T 8 = i64 i ∧ i ≤ xs.length ∧ al.length = i ∧ k = xs.length - i ∧ OrdP cs al 0 ∧ Sat ρ H' (HdA h cs al [] 0 100 0 0 :: Rs)) ?_ xs.length _ _ ⟨hT, t1, t5, 0, [], t8, Nat.zero_le _, rfl, rfl, hP0, hs⟩
  rintro k T H' ⟨hT, t1, t5, i, al, t8, hi, hai, hk', hP, hs⟩ K' kn kr ko
  rw [detentlaw20_HandOrder_l1_at hT]
  simp only [t1, t5, t8, hlen, andThen_some, binA_lss, condP_bool]
  by_cases hlt : i < xs.length
  · rw [decide_eq_true (by omega)]
    obtain ⟨b, cp, cells, x, rfl, hρ, hxi, hcel, hx0, hx1⟩ := u8_el hx hlt
    have w1 : IntKind.i64.wrap x = x := wrap_i64 (by omega) (by omega)
    have w3 := wrapP1 i (by omega)
    simp only [if_true]
    refine (Alarm_tri h cs al [] 0 100 0 0 (hP.ok (by omega))).use ((hs.bump _).bump _) ?_
    rintro v H2 P' ⟨rfl, rfl⟩ hs2
    have e : (almR al).2 = al ++ [⟨false, 0⟩] := by unfold almR; rw [if_neg (by omega)]
    rw [e] at hs2
    have hP2 : OrdP cs (al ++ [⟨false, 0⟩]) 0 := ⟨hP.lc, by simp; omega, hP.c, by
      intro a ha
      rcases List.mem_append.1 ha with ha | ha
      · exact hP.a a ha
      · simp at ha; subst ha; simp⟩
    have hb := Sat.roOf hs2 _ _ hρ
    have hld : H2.ld b i = some (.int .u8 x) := by rw [ld_of H2 hb]; exact hcel
    simp only [binA_add, andThen_some, w3]
    have w4 : ((i : Int) + 1) = ((i + 1 : Nat) : Int) := by omega
    simp [hlt, hld, w1]
    rw [w4]
    refine (HdSet_tri h cs (al ++ [⟨false, 0⟩]) [] 0 100 0 0 (hP2.ok (by omega)) (by omega) ((i + 1 : Nat) : Int) x (by omega) (by omega)).use (Sat.bump hs2 _) ?_
    rintro v H3 P' ⟨rfl, rfl⟩ hs3
    have e3 : (setR (al ++ [⟨false, 0⟩]) 0 100 ((i + 1 : Nat) : Int) x).2 = al ++ [⟨true, x + 100⟩] := by
      have hid : idxN ((i + 1 : Nat) : Int) (al ++ [(⟨false, 0⟩ : Alr)]).length = some i := by
        unfold idxN; rw [if_pos (by simp; omega)]; congr 1
      unfold setR
      rw [hid]
      simp only
      rw [if_neg (by omega)]
      subst hai
      simp
    rw [e3] at hs3
    try simp only [binA_add, andThen_some, w3]
    refine kn (xs.length - (i + 1)) _ _ (by omega) ⟨rfl, rfl, rfl, i + 1, al ++ [⟨true, x + 100⟩], by show i64 _ = i64 _; rfl, hlt, by simp [hai], rfl, ⟨hP.lc, by simp; omega, hP.c, ?_⟩, Sat.bump hs3 _⟩
    intro a ha
    rcases List.mem_append.1 ha with ha | ha
    · exact hP.a a ha
    · simp at ha; subst ha; simp only; omega
  · rw [decide_eq_false (by omega)]
    simp only [Bool.false_eq_true, if_false]
    exact ko _ _ _ (hk _ _ al rfl rfl hP (hs.bump _))

theorem ho_st1 (p cp : Nat) (j : List SV) (z : List Fir) (hzl : z.length < 4611686018427387904) (i : Nat) (hlt : i + 1 < z.length) (a b : Fir) (ha : z[i]? = some a) (hb : z[i + 1]? = some b) (hc : a.at_ < b.at_) (Rs : List Asr) (T : List AV) (H' : AH) (hT : T.length = 156) (A5 A9 : AV) (t5 : sl T 5 = A5) (t9 : sl T 9 = A9) (t10 : sl T 10 = .s (.slice (some (p, 0)) z.length cp 3)) (t12 : sl T 12 = i64 (i + 1 : Nat))
    (hs1 : Sat ρ H' (Cel p (flat encF z ++ j) :: Rs)) (K' : Ex → List AV → AH → Prop)
    (kn : ∀ (T' : List AV) (H2 : AH), T'.length = 156 → sl T' 5 = A5 → sl T' 9 = A9 → sl T' 10 = .s (.slice (some (p, 0)) z.length cp 3) → sl T' 12 = i64 (i + 1 + 1 : Nat) → Sat ρ H2 (Cel p (flat encF z ++ j) :: Rs) → K' .norm T' H2) :
    wpC tab noExt R.detentlaw20_HandOrder_l2 T H' K' := by
  apply detentlaw20_HandOrder_l2_w hT
  simp only [t5, t9, t10, t12, lenA_slice, andThen_some, binA_lss, condP_bool]
  rw [decide_eq_true (by omega)]
  have w1 := wrapM1 (i + 1) (by omega) (by omega)
  have w1' : i + 1 - 1 = i := by omega
  rw [w1'] at w1
  have w2 := wrapP1 (i + 1) (by omega)
  have x1 := ixEl (b := p) (c := cp) (k := 3) (show i < z.length by omega)
  have x2 := ixEl (b := p) (c := cp) (k := 3) hlt
  have q1 := rdEl encF_len hs1.cel ha
  simp only [if_true, binA_sub, w1, andThen_some, x1]
  simp [q1]
  have hs2 := Sat.frees (hs1.bump 4) 7 [5] (by decide) (by decide)
  simp only [List.map_cons, List.map_nil, List.cons_append, List.nil_append, bump_next, Nat.add_assoc] at hs2
  have z3 : ∀ x : Fir, splice [SV.bool false, SV.int .i64 0, SV.int .u64 0] 0 (encF x) = encF x := fun x => by simp [encF]
  refine ⟨_, new_of _ hs2.fre, ?_⟩
  have hs3 := Sat.mk hs2 [.bool false, .int .i64 0, .int .u64 0]
  have hs3 : Sat ρ (((H'.bump 4).bump 7).set (H'.next + 9) (Blk.cells false [SV.bool false, SV.int IntKind.i64 0, SV.int IntKind.u64 0])) (Cel (H'.next + 9) [SV.bool false, SV.int IntKind.i64 0, SV.int IntKind.u64 0] :: Cel p (flat encF z ++ j) :: Rs) := hs3
  show (encF a).length = 3 ∧ andThen ((((H'.bump 4).bump 7).set (H'.next + 9) (Blk.cells false [SV.bool false, SV.int IntKind.i64 0, SV.int IntKind.u64 0])).stn (H'.next + 9) 0 (encF a)) _
  generalize (((H'.bump 4).bump 7).set (H'.next + 9) (Blk.cells false [SV.bool false, SV.int IntKind.i64 0, SV.int IntKind.u64 0])) = H6 at *
  generalize H'.next + 9 = X at *
  refine ⟨rfl, _, stn_of _ hs3.cel (by simp [encF]), ?_⟩
  have hs4 := Sat.set hs3 (encF a)
  rw [z3]
  generalize H6.set X (Blk.cells false (encF a)) = H7 at *
  have q2 := rdEl encF_len (Sat.swap hs4).cel hb
  refine ⟨by omega, _, q2, ?_⟩
  have hs5 := Sat.frees hs4 6 [4] (by decide) (by decide)
  simp only [List.map_cons, List.map_nil, List.cons_append, List.nil_append] at hs5
  refine ⟨_, new_of _ hs5.fre, ?_⟩
  have hs6 := Sat.mk hs5 [.bool false, .int .i64 0, .int .u64 0]
  generalize ((H7.bump 6).set (H7.next + 4) (Blk.cells false [SV.bool false, SV.int IntKind.i64 0, SV.int IntKind.u64 0])) = H10 at *
  generalize H7.next + 4 = Y at *
  refine ⟨rfl, _, stn_of _ hs6.cel (by simp [encF]), ?_⟩
  have hs7 := Sat.set hs6 (encF b)
  rw [z3]
  generalize H10.set Y (Blk.cells false (encF b)) = H11 at *
  have hs8 : Sat ρ H11 (Cel Y (encF b) :: Cel X (encF a) :: Cel p (flat encF z ++ j) :: Rs) := hs7
  have l2 : ∀ o, H11.ld Y o = (encF b)[o]? := fun o => by rw [ld_of H11 hs8.cel]
  have l1 : ∀ o, H11.ld X o = (encF a)[o]? := fun o => by rw [ld_of H11 (Sat.swap hs8).cel]
  have fin : ∀ (T' : List AV) (m : Nat), T'.length = 156 → sl T' 5 = A5 → sl T' 9 = A9 → sl T' 10 = .s (.slice (some (p, 0)) z.length cp 3) → sl T' 12 = i64 (i + 1 + 1 : Nat) → K' .norm T' ((H11.bump 35).bump m) := by
    intro T' m h1' h5 h9 h10 h12
    exact kn _ _ h1' h5 h9 h10 h12 (((Sat.drop (Sat.drop hs8)).bump _).bump _)
  have w2' : IntKind.i64.wrap ((i : Int) + 1 + 1) = ((i + 1 + 1 : Nat) : Int) := by rw [wrap_i64 (by omega) (by omega)]; omega
  have e2 : ∀ x : Fir, (encF x)[2]? = some (.int .u64 x.at_) := fun _ => rfl
  have e1 : ∀ x : Fir, (encF x)[1]? = some (.int .i64 x.no) := fun _ => rfl
  have e0 : ∀ x : Fir, (encF x)[0]? = some (.bool x.cyc) := fun _ => rfl
  have fX2 : loadA none (.s (.ptr (some (X, 2)))) (H11.bump 35) = some (u64 a.at_) := by rw [loadA_one, bump_ld, l1, e2]; rfl
  have fX1 : loadA none (.s (.ptr (some (X, 1)))) (H11.bump 35) = some (i64 a.no) := by rw [loadA_one, bump_ld, l1, e1]; rfl
  have fX0 : loadA none (.s (.ptr (some (X, 0)))) (H11.bump 35) = some (bl a.cyc) := by rw [loadA_one, bump_ld, l1, e0]; rfl
  have fY2 : loadA none (.s (.ptr (some (Y, 2)))) (H11.bump 35) = some (u64 b.at_) := by rw [loadA_one, bump_ld, l2, e2]; rfl
  have fY1 : loadA none (.s (.ptr (some (Y, 1)))) (H11.bump 35) = some (i64 b.no) := by rw [loadA_one, bump_ld, l2, e1]; rfl
  have fY0 : loadA none (.s (.ptr (some (Y, 0)))) (H11.bump 35) = some (bl b.cyc) := by rw [loadA_one, bump_ld, l2, e0]; rfl
  have c0 : H11.ld X 2 = some (.int .u64 a.at_) := by rw [l1, e2]
  have c0' : H11.ld Y 2 = some (.int .u64 b.at_) := by rw [l2, e2]
  have hadd : binA .add (i64 ((i : Int) + 1)) (i64 1) = some (i64 (i + 1 + 1 : Nat)) := by rw [binA_add, w2']
  have hgt : binA .gtr (u64 a.at_) (u64 b.at_) = some (bl false) := by rw [binA_gtr, decide_eq_false (by omega)]
  have heq : binA .eql (u64 a.at_) (u64 b.at_) = some (bl false) := by rw [binA_eql, decide_eq_false (by omega)]
  have hge : True ∧ True := ⟨trivial, trivial⟩
  refine ⟨_, c0, _, c0', ?_⟩
  repeat (first
    | refine gP_t rfl ?_
    | refine gP_f rfl ?_
    | refine condP_f ?_
    | refine ⟨_, hgt, ?_⟩ | refine ⟨_, heq, ?_⟩ | refine ⟨_, hge, ?_⟩ | refine ⟨_, hadd, ?_⟩
    | refine ⟨_, fX2, ?_⟩ | refine ⟨_, fX1, ?_⟩ | refine ⟨_, fX0, ?_⟩ | refine ⟨_, fY2, ?_⟩ | refine ⟨_, fY1, ?_⟩ | refine ⟨_, fY0, ?_⟩
    | refine ⟨_, rfl, ?_⟩)
  intro T' hT' hl
  simp only [Lvs] at hl
  obtain ⟨_, _, _, u5, _, _, u9, u10, u12, _⟩ := hl
  exact fin T' _ hT' u5 u9 u10 (by first | exact u12 | (rw [u12]; show AV.s (.int .i64 _) = AV.s (.int .i64 _); rw [w2']))


theorem ho_st2 (p cp : Nat) (j : List SV) (z : List Fir) (hzl : z.length < 4611686018427387904) (i : Nat) (hlt : i + 1 < z.length) (a b : Fir) (ha : z[i]? = some a) (hb : z[i + 1]? = some b) (hc : a.at_ = b.at_ ∧ a.cyc = true ∧ b.cyc = false) (Rs : List Asr) (T : List AV) (H' : AH) (hT : T.length = 156) (A5 A9 : AV) (t5 : sl T 5 = A5) (t9 : sl T 9 = A9) (t10 : sl T 10 = .s (.slice (some (p, 0)) z.length cp 3)) (t12 : sl T 12 = i64 (i + 1 : Nat))
    (hs1 : Sat ρ H' (Cel p (flat encF z ++ j) :: Rs)) (K' : Ex → List AV → AH → Prop)
    (kn : ∀ (T' : List AV) (H2 : AH), T'.length = 156 → sl T' 5 = A5 → sl T' 9 = A9 → sl T' 10 = .s (.slice (some (p, 0)) z.length cp 3) → sl T' 12 = i64 (i + 1 + 1 : Nat) → Sat ρ H2 (Cel p (flat encF z ++ j) :: Rs) → K' .norm T' H2) :
    wpC tab noExt R.detentlaw20_HandOrder_l2 T H' K' := by
  apply detentlaw20_HandOrder_l2_w hT
  simp only [t5, t9, t10, t12, lenA_slice, andThen_some, binA_lss, condP_bool]
  rw [decide_eq_true (by omega)]
  have w1 := wrapM1 (i + 1) (by omega) (by omega)
  have w1' : i + 1 - 1 = i := by omega
  rw [w1'] at w1
  have w2 := wrapP1 (i + 1) (by omega)
  have x1 := ixEl (b := p) (c := cp) (k := 3) (show i < z.length by omega)
  have x2 := ixEl (b := p) (c := cp) (k := 3) hlt
  have q1 := rdEl encF_len hs1.cel ha
  simp only [if_true, binA_sub, w1, andThen_some, x1]
  simp [q1]
  have hs2 := Sat.frees (hs1.bump 4) 7 [5] (by decide) (by decide)
  simp only [List.map_cons, List.map_nil, List.cons_append, List.nil_append, bump_next, Nat.add_assoc] at hs2
  have z3 : ∀ x : Fir, splice [SV.bool false, SV.int .i64 0, SV.int .u64 0] 0 (encF x) = encF x := fun x => by simp [encF]
  refine ⟨_, new_of _ hs2.fre, ?_⟩
  have hs3 := Sat.mk hs2 [.bool false, .int .i64 0, .int .u64 0]
  have hs3 : Sat ρ (((H'.bump 4).bump 7).set (H'.next + 9) (Blk.cells false [SV.bool false, SV.int IntKind.i64 0, SV.int IntKind.u64 0])) (Cel (H'.next + 9) [SV.bool false, SV.int IntKind.i64 0, SV.int IntKind.u64 0] :: Cel p (flat encF z ++ j) :: Rs) := hs3
  show (encF a).length = 3 ∧ andThen ((((H'.bump 4).bump 7).set (H'.next + 9) (Blk.cells false [SV.bool false, SV.int IntKind.i64 0, SV.int IntKind.u64 0])).stn (H'.next + 9) 0 (encF a)) _
  generalize (((H'.bump 4).bump 7).set (H'.next + 9) (Blk.cells false [SV.bool false, SV.int IntKind.i64 0, SV.int IntKind.u64 0])) = H6 at *
  generalize H'.next + 9 = X at *
  refine ⟨rfl, _, stn_of _ hs3.cel (by simp [encF]), ?_⟩
  have hs4 := Sat.set hs3 (encF a)
  rw [z3]
  generalize H6.set X (Blk.cells false (encF a)) = H7 at *
  have q2 := rdEl encF_len (Sat.swap hs4).cel hb
  refine ⟨by omega, _, q2, ?_⟩
  have hs5 := Sat.frees hs4 6 [4] (by decide) (by decide)
  simp only [List.map_cons, List.map_nil, List.cons_append, List.nil_append] at hs5
  refine ⟨_, new_of _ hs5.fre, ?_⟩
  have hs6 := Sat.mk hs5 [.bool false, .int .i64 0, .int .u64 0]
  generalize ((H7.bump 6).set (H7.next + 4) (Blk.cells false [SV.bool false, SV.int IntKind.i64 0, SV.int IntKind.u64 0])) = H10 at *
  generalize H7.next + 4 = Y at *
  refine ⟨rfl, _, stn_of _ hs6.cel (by simp [encF]), ?_⟩
  have hs7 := Sat.set hs6 (encF b)
  rw [z3]
  generalize H10.set Y (Blk.cells false (encF b)) = H11 at *
  have hs8 : Sat ρ H11 (Cel Y (encF b) :: Cel X (encF a) :: Cel p (flat encF z ++ j) :: Rs) := hs7
  have l2 : ∀ o, H11.ld Y o = (encF b)[o]? := fun o => by rw [ld_of H11 hs8.cel]
  have l1 : ∀ o, H11.ld X o = (encF a)[o]? := fun o => by rw [ld_of H11 (Sat.swap hs8).cel]
  have fin : ∀ (T' : List AV) (m : Nat), T'.length = 156 → sl T' 5 = A5 → sl T' 9 = A9 → sl T' 10 = .s (.slice (some (p, 0)) z.length cp 3) → sl T' 12 = i64 (i + 1 + 1 : Nat) → K' .norm T' ((H11.bump 35).bump m) := by
    intro T' m h1' h5 h9 h10 h12
    exact kn _ _ h1' h5 h9 h10 h12 (((Sat.drop (Sat.drop hs8)).bump _).bump _)
  have w2' : IntKind.i64.wrap ((i : Int) + 1 + 1) = ((i + 1 + 1 : Nat) : Int) := by rw [wrap_i64 (by omega) (by omega)]; omega
  have e2 : ∀ x : Fir, (encF x)[2]? = some (.int .u64 x.at_) := fun _ => rfl
  have e1 : ∀ x : Fir, (encF x)[1]? = some (.int .i64 x.no) := fun _ => rfl
  have e0 : ∀ x : Fir, (encF x)[0]? = some (.bool x.cyc) := fun _ => rfl
  have fX2 : loadA none (.s (.ptr (some (X, 2)))) (H11.bump 35) = some (u64 a.at_) := by rw [loadA_one, bump_ld, l1, e2]; rfl
  have fX1 : loadA none (.s (.ptr (some (X, 1)))) (H11.bump 35) = some (i64 a.no) := by rw [loadA_one, bump_ld, l1, e1]; rfl
  have fX0 : loadA none (.s (.ptr (some (X, 0)))) (H11.bump 35) = some (bl a.cyc) := by rw [loadA_one, bump_ld, l1, e0]; rfl
  have fY2 : loadA none (.s (.ptr (some (Y, 2)))) (H11.bump 35) = some (u64 b.at_) := by rw [loadA_one, bump_ld, l2, e2]; rfl
  have fY1 : loadA none (.s (.ptr (some (Y, 1)))) (H11.bump 35) = some (i64 b.no) := by rw [loadA_one, bump_ld, l2, e1]; rfl
  have fY0 : loadA none (.s (.ptr (some (Y, 0)))) (H11.bump 35) = some (bl b.cyc) := by rw [loadA_one, bump_ld, l2, e0]; rfl
  have c0 : H11.ld X 2 = some (.int .u64 a.at_) := by rw [l1, e2]
  have c0' : H11.ld Y 2 = some (.int .u64 b.at_) := by rw [l2, e2]
  have hadd : binA .add (i64 ((i : Int) + 1)) (i64 1) = some (i64 (i + 1 + 1 : Nat)) := by rw [binA_add, w2']
  obtain ⟨he, h1, h2⟩ := hc
  rw [h1] at fX0
  rw [h2] at fY0
  have hgt : binA .gtr (u64 a.at_) (u64 b.at_) = some (bl false) := by rw [binA_gtr, decide_eq_false (by omega)]
  have heq : binA .eql (u64 a.at_) (u64 b.at_) = some (bl true) := by rw [binA_eql, decide_eq_true he]
  have hge : True ∧ True := ⟨trivial, trivial⟩
  refine ⟨_, c0, _, c0', ?_⟩
  repeat (first
    | refine gP_t rfl ?_
    | refine gP_f rfl ?_
    | refine condP_f ?_
    | refine ⟨_, hgt, ?_⟩ | refine ⟨_, heq, ?_⟩ | refine ⟨_, hge, ?_⟩ | refine ⟨_, hadd, ?_⟩
    | refine ⟨_, fX2, ?_⟩ | refine ⟨_, fX1, ?_⟩ | refine ⟨_, fX0, ?_⟩ | refine ⟨_, fY2, ?_⟩ | refine ⟨_, fY1, ?_⟩ | refine ⟨_, fY0, ?_⟩
    | refine ⟨_, rfl, ?_⟩)
  intro T' hT' hl
  simp only [Lvs] at hl
  obtain ⟨_, _, _, u5, _, _, u9, u10, u12, _⟩ := hl
  exact fin T' _ hT' u5 u9 u10 (by first | exact u12 | (rw [u12]; show AV.s (.int .i64 _) = AV.s (.int .i64 _); rw [w2']))


theorem ho_st3 (p cp : Nat) (j : List SV) (z : List Fir) (hzl : z.length < 4611686018427387904) (i : Nat) (hlt : i + 1 < z.length) (a b : Fir) (ha : z[i]? = some a) (hb : z[i + 1]? = some b) (hc : a.at_ = b.at_ ∧ a.cyc = false ∧ b.cyc = false ∧ a.no < b.no) (Rs : List Asr) (T : List AV) (H' : AH) (hT : T.length = 156) (A5 A9 : AV) (t5 : sl T 5 = A5) (t9 : sl T 9 = A9) (t10 : sl T 10 = .s (.slice (some (p, 0)) z.length cp 3)) (t12 : sl T 12 = i64 (i + 1 : Nat))
    (hs1 : Sat ρ H' (Cel p (flat encF z ++ j) :: Rs)) (K' : Ex → List AV → AH → Prop)
    (kn : ∀ (T' : List AV) (H2 : AH), T'.length = 156 → sl T' 5 = A5 → sl T' 9 = A9 → sl T' 10 = .s (.slice (some (p, 0)) z.length cp 3) → sl T' 12 = i64 (i + 1 + 1 : Nat) → Sat ρ H2 (Cel p (flat encF z ++ j) :: Rs) → K' .norm T' H2) :
    wpC tab noExt R.detentlaw20_HandOrder_l2 T H' K' := by
  apply detentlaw20_HandOrder_l2_w hT
  simp only [t5, t9, t10, t12, lenA_slice, andThen_some, binA_lss, condP_bool]
  rw [decide_eq_true (by omega)]
  have w1 := wrapM1 (i + 1) (by omega) (by omega)
  have w1' : i + 1 - 1 = i := by omega
  rw [w1'] at w1
  have w2 := wrapP1 (i + 1) (by omega)
  have x1 := ixEl (b := p) (c := cp) (k := 3) (show i < z.length by omega)
  have x2 := ixEl (b := p) (c := cp) (k := 3) hlt
  have q1 := rdEl encF_len hs1.cel ha
  simp only [if_true, binA_sub, w1, andThen_some, x1]
  simp [q1]
  have hs2 := Sat.frees (hs1.bump 4) 7 [5] (by decide) (by decide)
  simp only [List.map_cons, List.map_nil, List.cons_append, List.nil_append, bump_next, Nat.add_assoc] at hs2
  have z3 : ∀ x : Fir, splice [SV.bool false, SV.int .i64 0, SV.int .u64 0] 0 (encF x) = encF x := fun x => by simp [encF]
  refine ⟨_, new_of _ hs2.fre, ?_⟩
  have hs3 := Sat.mk hs2 [.bool false, .int .i64 0, .int .u64 0]
  have hs3 : Sat ρ (((H'.bump 4).bump 7).set (H'.next + 9) (Blk.cells false [SV.bool false, SV.int IntKind.i64 0, SV.int IntKind.u64 0])) (Cel (H'.next + 9) [SV.bool false, SV.int IntKind.i64 0, SV.int IntKind.u64 0] :: Cel p (flat encF z ++ j) :: Rs) := hs3
  show (encF a).length = 3 ∧ andThen ((((H'.bump 4).bump 7).set (H'.next + 9) (Blk.cells false [SV.bool false, SV.int IntKind.i64 0, SV.int IntKind.u64 0])).stn (H'.next + 9) 0 (encF a)) _
  generalize (((H'.bump 4).bump 7).set (H'.next + 9) (Blk.cells false [SV.bool false, SV.int IntKind.i64 0, SV.int IntKind.u64 0])) = H6 at *
  generalize H'.next + 9 = X at *
  refine ⟨rfl, _, stn_of _ hs3.cel (by simp [encF]), ?_⟩
  have hs4 := Sat.set hs3 (encF a)
  rw [z3]
  generalize H6.set X (Blk.cells false (encF a)) = H7 at *
  have q2 := rdEl encF_len (Sat.swap hs4).cel hb
  refine ⟨by omega, _, q2, ?_⟩
  have hs5 := Sat.frees hs4 6 [4] (by decide) (by decide)
  simp only [List.map_cons, List.map_nil, List.cons_append, List.nil_append] at hs5
  refine ⟨_, new_of _ hs5.fre, ?_⟩
  have hs6 := Sat.mk hs5 [.bool false, .int .i64 0, .int .u64 0]
  generalize ((H7.bump 6).set (H7.next + 4) (Blk.cells false [SV.bool false, SV.int IntKind.i64 0, SV.int IntKind.u64 0])) = H10 at *
  generalize H7.next + 4 = Y at *
  refine ⟨rfl, _, stn_of _ hs6.cel (by simp [encF]), ?_⟩
  have hs7 := Sat.set hs6 (encF b)
  rw [z3]
  generalize H10.set Y (Blk.cells false (encF b)) = H11 at *
  have hs8 : Sat ρ H11 (Cel Y (encF b) :: Cel X (encF a) :: Cel p (flat encF z ++ j) :: Rs) := hs7
  have l2 : ∀ o, H11.ld Y o = (encF b)[o]? := fun o => by rw [ld_of H11 hs8.cel]
  have l1 : ∀ o, H11.ld X o = (encF a)[o]? := fun o => by rw [ld_of H11 (Sat.swap hs8).cel]
  have fin : ∀ (T' : List AV) (m : Nat), T'.length = 156 → sl T' 5 = A5 → sl T' 9 = A9 → sl T' 10 = .s (.slice (some (p, 0)) z.length cp 3) → sl T' 12 = i64 (i + 1 + 1 : Nat) → K' .norm T' ((H11.bump 35).bump m) := by
    intro T' m h1' h5 h9 h10 h12
    exact kn _ _ h1' h5 h9 h10 h12 (((Sat.drop (Sat.drop hs8)).bump _).bump _)
  have w2' : IntKind.i64.wrap ((i : Int) + 1 + 1) = ((i + 1 + 1 : Nat) : Int) := by rw [wrap_i64 (by omega) (by omega)]; omega
  have e2 : ∀ x : Fir, (encF x)[2]? = some (.int .u64 x.at_) := fun _ => rfl
  have e1 : ∀ x : Fir, (encF x)[1]? = some (.int .i64 x.no) := fun _ => rfl
  have e0 : ∀ x : Fir, (encF x)[0]? = some (.bool x.cyc) := fun _ => rfl
  have fX2 : loadA none (.s (.ptr (some (X, 2)))) (H11.bump 35) = some (u64 a.at_) := by rw [loadA_one, bump_ld, l1, e2]; rfl
  have fX1 : loadA none (.s (.ptr (some (X, 1)))) (H11.bump 35) = some (i64 a.no) := by rw [loadA_one, bump_ld, l1, e1]; rfl
  have fX0 : loadA none (.s (.ptr (some (X, 0)))) (H11.bump 35) = some (bl a.cyc) := by rw [loadA_one, bump_ld, l1, e0]; rfl
  have fY2 : loadA none (.s (.ptr (some (Y, 2)))) (H11.bump 35) = some (u64 b.at_) := by rw [loadA_one, bump_ld, l2, e2]; rfl
  have fY1 : loadA none (.s (.ptr (some (Y, 1)))) (H11.bump 35) = some (i64 b.no) := by rw [loadA_one, bump_ld, l2, e1]; rfl
  have fY0 : loadA none (.s (.ptr (some (Y, 0)))) (H11.bump 35) = some (bl b.cyc) := by rw [loadA_one, bump_ld, l2, e0]; rfl
  have c0 : H11.ld X 2 = some (.int .u64 a.at_) := by rw [l1, e2]
  have c0' : H11.ld Y 2 = some (.int .u64 b.at_) := by rw [l2, e2]
  have hadd : binA .add (i64 ((i : Int) + 1)) (i64 1) = some (i64 (i + 1 + 1 : Nat)) := by rw [binA_add, w2']
  obtain ⟨he, h1, h2, h⟩ := hc
  rw [h1] at fX0
  rw [h2] at fY0
  have hgt : binA .gtr (u64 a.at_) (u64 b.at_) = some (bl false) := by rw [binA_gtr, decide_eq_false (by omega)]
  have heq : binA .eql (u64 a.at_) (u64 b.at_) = some (bl true) := by rw [binA_eql, decide_eq_true he]
  have hge : binA .geq (i64 a.no) (i64 b.no) = some (bl false) := by rw [binA_geq, decide_eq_false (by omega)]
  refine ⟨_, c0, _, c0', ?_⟩
  repeat (first
    | refine gP_t rfl ?_
    | refine gP_f rfl ?_
    | refine condP_f ?_
    | refine ⟨_, hgt, ?_⟩ | refine ⟨_, heq, ?_⟩ | refine ⟨_, hge, ?_⟩ | refine ⟨_, hadd, ?_⟩
    | refine ⟨_, fX2, ?_⟩ | refine ⟨_, fX1, ?_⟩ | refine ⟨_, fX0, ?_⟩ | refine ⟨_, fY2, ?_⟩ | refine ⟨_, fY1, ?_⟩ | refine ⟨_, fY0, ?_⟩
    | refine ⟨_, rfl, ?_⟩)
  intro T' hT' hl
  simp only [Lvs] at hl
  obtain ⟨_, _, _, u5, _, _, u9, u10, u12, _⟩ := hl
  exact fin T' _ hT' u5 u9 u10 (by first | exact u12 | (rw [u12]; show AV.s (.int .i64 _) = AV.s (.int .i64 _); rw [w2']))


theorem ho_st4 (p cp : Nat) (j : List SV) (z : List Fir) (hzl : z.length < 4611686018427387904) (i : Nat) (hlt : i + 1 < z.length) (a b : Fir) (ha : z[i]? = some a) (hb : z[i + 1]? = some b) (hc : a.at_ = b.at_ ∧ a.cyc = true ∧ b.cyc = true ∧ a.no < b.no) (Rs : List Asr) (T : List AV) (H' : AH) (hT : T.length = 156) (A5 A9 : AV) (t5 : sl T 5 = A5) (t9 : sl T 9 = A9) (t10 : sl T 10 = .s (.slice (some (p, 0)) z.length cp 3)) (t12 : sl T 12 = i64 (i + 1 : Nat))
    (hs1 : Sat ρ H' (Cel p (flat encF z ++ j) :: Rs)) (K' : Ex → List AV → AH → Prop)
    (kn : ∀ (T' : List AV) (H2 : AH), T'.length = 156 → sl T' 5 = A5 → sl T' 9 = A9 → sl T' 10 = .s (.slice (some (p, 0)) z.length cp 3) → sl T' 12 = i64 (i + 1 + 1 : Nat) → Sat ρ H2 (Cel p (flat encF z ++ j) :: Rs) → K' .norm T' H2) :
    wpC tab noExt R.detentlaw20_HandOrder_l2 T H' K' := by
  apply detentlaw20_HandOrder_l2_w hT
  simp only [t5, t9, t10, t12, lenA_slice, andThen_some, binA_lss, condP_bool]
  rw [decide_eq_true (by omega)]
  have w1 := wrapM1 (i + 1) (by omega) (by omega)
  have w1' : i + 1 - 1 = i := by omega
  rw [w1'] at w1
  have w2 := wrapP1 (i + 1) (by omega)
  have x1 := ixEl (b := p) (c := cp) (k := 3) (show i < z.length by omega)
  have x2 := ixEl (b := p) (c := cp) (k := 3) hlt
  have q1 := rdEl encF_len hs1.cel ha
  simp only [if_true, binA_sub, w1, andThen_some, x1]
  simp [q1]
  have hs2 := Sat.frees (hs1.bump 4) 7 [5] (by decide) (by decide)
  simp only [List.map_cons, List.map_nil, List.cons_append, List.nil_append, bump_next, Nat.add_assoc] at hs2
  have z3 : ∀ x : Fir, splice [SV.bool false, SV.int .i64 0, SV.int .u64 0] 0 (encF x) = encF x := fun x => by simp [encF]
  refine ⟨_, new_of _ hs2.fre, ?_⟩
  have hs3 := Sat.mk hs2 [.bool false, .int .i64 0, .int .u64 0]
  have hs3 : Sat ρ (((H'.bump 4).bump 7).set (H'.next + 9) (Blk.cells false [SV.bool false, SV.int IntKind.i64 0, SV.int IntKind.u64 0])) (Cel (H'.next + 9) [SV.bool false, SV.int IntKind.i64 0, SV.int IntKind.u64 0] :: Cel p (flat encF z ++ j) :: Rs) := hs3
  show (encF a).length = 3 ∧ andThen ((((H'.bump 4).bump 7).set (H'.next + 9) (Blk.cells false [SV.bool false, SV.int IntKind.i64 0, SV.int IntKind.u64 0])).stn (H'.next + 9) 0 (encF a)) _
  generalize (((H'.bump 4).bump 7).set (H'.next + 9) (Blk.cells false [SV.bool false, SV.int IntKind.i64 0, SV.int IntKind.u64 0])) = H6 at *
  generalize H'.next + 9 = X at *
  refine ⟨rfl, _, stn_of _ hs3.cel (by simp [encF]), ?_⟩
  have hs4 := Sat.set hs3 (encF a)
  rw [z3]
  generalize H6.set X (Blk.cells false (encF a)) = H7 at *
  have q2 := rdEl encF_len (Sat.swap hs4).cel hb
  refine ⟨by omega, _, q2, ?_⟩
  have hs5 := Sat.frees hs4 6 [4] (by decide) (by decide)
  simp only [List.map_cons, List.map_nil, List.cons_append, List.nil_append] at hs5
  refine ⟨_, new_of _ hs5.fre, ?_⟩
  have hs6 := Sat.mk hs5 [.bool false, .int .i64 0, .int .u64 0]
  generalize ((H7.bump 6).set (H7.next + 4) (Blk.cells false [SV.bool false, SV.int IntKind.i64 0, SV.int IntKind.u64 0])) = H10 at *
  generalize H7.next + 4 = Y at *
  refine ⟨rfl, _, stn_of _ hs6.cel (by simp [encF]), ?_⟩
  have hs7 := Sat.set hs6 (encF b)
  rw [z3]
  generalize H10.set Y (Blk.cells false (encF b)) = H11 at *
  have hs8 : Sat ρ H11 (Cel Y (encF b) :: Cel X (encF a) :: Cel p (flat encF z ++ j) :: Rs) := hs7
  have l2 : ∀ o, H11.ld Y o = (encF b)[o]? := fun o => by rw [ld_of H11 hs8.cel]
  have l1 : ∀ o, H11.ld X o = (encF a)[o]? := fun o => by rw [ld_of H11 (Sat.swap hs8).cel]
  have fin : ∀ (T' : List AV) (m : Nat), T'.length = 156 → sl T' 5 = A5 → sl T' 9 = A9 → sl T' 10 = .s (.slice (some (p, 0)) z.length cp 3) → sl T' 12 = i64 (i + 1 + 1 : Nat) → K' .norm T' ((H11.bump 35).bump m) := by
    intro T' m h1' h5 h9 h10 h12
    exact kn _ _ h1' h5 h9 h10 h12 (((Sat.drop (Sat.drop hs8)).bump _).bump _)
  have w2' : IntKind.i64.wrap ((i : Int) + 1 + 1) = ((i + 1 + 1 : Nat) : Int) := by rw [wrap_i64 (by omega) (by omega)]; omega
  have e2 : ∀ x : Fir, (encF x)[2]? = some (.int .u64 x.at_) := fun _ => rfl
  have e1 : ∀ x : Fir, (encF x)[1]? = some (.int .i64 x.no) := fun _ => rfl
  have e0 : ∀ x : Fir, (encF x)[0]? = some (.bool x.cyc) := fun _ => rfl
  have fX2 : loadA none (.s (.ptr (some (X, 2)))) (H11.bump 35) = some (u64 a.at_) := by rw [loadA_one, bump_ld, l1, e2]; rfl
  have fX1 : loadA none (.s (.ptr (some (X, 1)))) (H11.bump 35) = some (i64 a.no) := by rw [loadA_one, bump_ld, l1, e1]; rfl
  have fX0 : loadA none (.s (.ptr (some (X, 0)))) (H11.bump 35) = some (bl a.cyc) := by rw [loadA_one, bump_ld, l1, e0]; rfl
  have fY2 : loadA none (.s (.ptr (some (Y, 2)))) (H11.bump 35) = some (u64 b.at_) := by rw [loadA_one, bump_ld, l2, e2]; rfl
  have fY1 : loadA none (.s (.ptr (some (Y, 1)))) (H11.bump 35) = some (i64 b.no) := by rw [loadA_one, bump_ld, l2, e1]; rfl
  have fY0 : loadA none (.s (.ptr (some (Y, 0)))) (H11.bump 35) = some (bl b.cyc) := by rw [loadA_one, bump_ld, l2, e0]; rfl
  have c0 : H11.ld X 2 = some (.int .u64 a.at_) := by rw [l1, e2]
  have c0' : H11.ld Y 2 = some (.int .u64 b.at_) := by rw [l2, e2]
  have hadd : binA .add (i64 ((i : Int) + 1)) (i64 1) = some (i64 (i + 1 + 1 : Nat)) := by rw [binA_add, w2']
  obtain ⟨he, h1, h2, h⟩ := hc
  rw [h1] at fX0
  rw [h2] at fY0
  have hgt : binA .gtr (u64 a.at_) (u64 b.at_) = some (bl false) := by rw [binA_gtr, decide_eq_false (by omega)]
  have heq : binA .eql (u64 a.at_) (u64 b.at_) = some (bl true) := by rw [binA_eql, decide_eq_true he]
  have hge : binA .geq (i64 a.no) (i64 b.no) = some (bl false) := by rw [binA_geq, decide_eq_false (by omega)]
  refine ⟨_, c0, _, c0', ?_⟩
  repeat (first
    | refine gP_t rfl ?_
    | refine gP_f rfl ?_
    | refine condP_f ?_
    | refine ⟨_, hgt, ?_⟩ | refine ⟨_, heq, ?_⟩ | refine ⟨_, hge, ?_⟩ | refine ⟨_, hadd, ?_⟩
    | refine ⟨_, fX2, ?_⟩ | refine ⟨_, fX1, ?_⟩ | refine ⟨_, fX0, ?_⟩ | refine ⟨_, fY2, ?_⟩ | refine ⟨_, fY1, ?_⟩ | refine ⟨_, fY0, ?_⟩
    | refine ⟨_, rfl, ?_⟩)
  intro T' hT' hl
  simp only [Lvs] at hl
  obtain ⟨_, _, _, u5, _, _, u9, u10, u12, _⟩ := hl
  exact fin T' _ hT' u5 u9 u10 (by first | exact u12 | (rw [u12]; show AV.s (.int .i64 _) = AV.s (.int .i64 _); rw [w2']))


/-- All stand in order. -/
theorem ho_l2 (so : SV) (z : List Fir) (hz : SrtL ltF z) (hnd : z.Nodup) (hzl : z.length < 4611686018427387904) (Rs : List Asr) (T : List AV) (H : AH) (hT : T.length = 156) (A5 A9 : AV) (t5 : sl T 5 = A5) (t9 : sl T 9 = A9) (t10 : sl T 10 = .s so) (t12 : sl T 12 = i64 (1 : Nat))
    (hs : Sat ρ H (Row encF 3 so z :: Rs)) (K : Ex → List AV → AH → Prop)
    (hk : ∀ (T' : List AV) (H' : AH), T'.length = 156 → sl T' 5 = A5 → sl T' 9 = A9 → sl T' 10 = .s so → Sat ρ H' (Row encF 3 so z :: Rs) → K (.out 6) T' H') :
    loopP tab noExt R.detentlaw20_HandOrder_l2 T H K := by
  refine loopP_invK (I := fun k T H' => T.length = 156 ∧ sl T 5 = A5 ∧ sl T 9 = A9 ∧ sl T 10 = .s so ∧ ∃ (i : Nat), sl T 12 = i64 (i + 1 : Nat) ∧ i ≤ z.length ∧ k = z.length - i ∧ Sat ρ H' (Row encF 3 so z :: Rs)) ?_ z.length _ _ ⟨hT, t5, t9, t10, 0, t12, Nat.zero_le _, rfl, hs⟩
  rintro k T H' ⟨hT, t5, t9, t10, i, t12, hi, hk', hs⟩ K' kn kr ko
  have hl := Sat.rowLen hs
  by_cases hlt : i + 1 < z.length
  · obtain ⟨a, ha⟩ : ∃ a, z[i]? = some a := ⟨_, List.getElem?_eq_getElem (by omega)⟩
    obtain ⟨b, hb⟩ : ∃ b, z[i + 1]? = some b := ⟨_, List.getElem?_eq_getElem hlt⟩
    have hab := srt_strict hz hnd ha hb
    rcases hs.rowInv with ⟨e1, _, h0, _⟩ | ⟨p, cp, j, rfl, hs1, h1, h2⟩
    · subst h0; simp at hlt
    have kk : ∀ (T' : List AV) (H2 : AH), T'.length = 156 → sl T' 5 = A5 → sl T' 9 = A9 → sl T' 10 = .s (.slice (some (p, 0)) z.length cp 3) → sl T' 12 = i64 (i + 1 + 1 : Nat) → Sat ρ H2 (Cel p (flat encF z ++ j) :: Rs) → K' .norm T' H2 :=
      fun T' H2 h0 h5 h9 h10 h12 hs' => kn (z.length - (i + 1)) _ _ (by omega) ⟨h0, h5, h9, h10, i + 1, h12, by omega, rfl, Sat.mkRow (enc := encF) (k := 3) (r := z) (c := cp) hs' h1 h2⟩
    by_cases hlt' : a.at_ < b.at_
    · exact ho_st1 p cp j z hzl i hlt a b ha hb hlt' Rs T H' hT A5 A9 t5 t9 t10 t12 hs1 K' kk
    · have heq : a.at_ = b.at_ ∧ ((a.cyc = true ∧ b.cyc = false) ∨ (a.cyc = b.cyc ∧ a.no < b.no)) := by
        simp only [ltF, hlt'] at hab
        simp at hab
        exact hab
      obtain ⟨he, ⟨h3, h4⟩ | ⟨h3, h4⟩⟩ := heq
      · exact ho_st2 p cp j z hzl i hlt a b ha hb ⟨he, h3, h4⟩ Rs T H' hT A5 A9 t5 t9 t10 t12 hs1 K' kk
      · cases hac : a.cyc
        · exact ho_st3 p cp j z hzl i hlt a b ha hb ⟨he, hac, by rw [← h3, hac], h4⟩ Rs T H' hT A5 A9 t5 t9 t10 t12 hs1 K' kk
        · exact ho_st4 p cp j z hzl i hlt a b ha hb ⟨he, hac, by rw [← h3, hac], h4⟩ Rs T H' hT A5 A9 t5 t9 t10 t12 hs1 K' kk
  · rw [detentlaw20_HandOrder_l2_at hT]
    simp only [t5, t9, t10, t12, hl, andThen_some, binA_lss, condP_bool]
    rw [decide_eq_false (by omega)]
    simp only [Bool.false_eq_true, if_false]
    exact ko _ _ _ (hk _ _ rfl rfl rfl rfl (hs.bump _))

/-- All are due, and were not before. -/
theorem ho_l3 (h : Nat) (cs : List Cyc) (al : List Alr) (up : Int) (hu : 0 ≤ up ∧ up ≤ 1000) (so : SV) (z : List Fir) (hz : ∀ x ∈ z, x.at_ ≤ up ∧ up - 100 ≤ x.at_ ∧ 0 ≤ x.at_) (hzl : z.length < 4611686018427387904) (Rs : List Asr) (T : List AV) (H : AH) (hT : T.length = 156) (A9 : AV) (t5 : sl T 5 = ptr h) (t9 : sl T 9 = A9) (t10 : sl T 10 = .s so) (t15 : sl T 15 = i64 (0 : Nat))
    (hs : Sat ρ H (Row encF 3 so z :: HdA h cs al [] 0 100 up 0 :: Rs)) (K : Ex → List AV → AH → Prop)
    (hk : ∀ (T' : List AV) (H' : AH), T'.length = 156 → sl T' 5 = ptr h → sl T' 9 = A9 → Sat ρ H' (HdA h cs al [] 0 100 up 0 :: Rs) → K (.out 8) T' H') :
    loopP tab noExt R.detentlaw20_HandOrder_l3 T H K := by
  refine loopP_invK (I := fun k T H' => T.length = 156 ∧ sl T 5 = ptr h ∧ sl T 9 = A9 ∧ sl T 10 = .s so ∧ ∃ (i : Nat), sl T 15 = i64 i ∧ i ≤ z.length ∧ k = z.length - i ∧ Sat ρ H' (Row encF 3 so z :: HdA h cs al [] 0 100 up 0 :: Rs)) ?_ z.length _ _ ⟨hT, t5, t9, t10, 0, t15, Nat.zero_le _, rfl, hs⟩
  rintro k T H' ⟨hT, t5, t9, t10, i, t15, hi, hk', hs⟩ K' kn kr ko
  rw [detentlaw20_HandOrder_l3_at hT]
  have hl := Sat.rowLen hs
  simp only [t5, t9, t10, t15, hl, andThen_some, binA_lss, condP_bool]
  by_cases hlt : i < z.length
  · rw [decide_eq_true (by omega)]
    obtain ⟨x, hx⟩ : ∃ x, z[i]? = some x := ⟨_, List.getElem?_eq_getElem hlt⟩
    obtain ⟨z1, z2, z0⟩ := hz x (List.mem_of_getElem? hx)
    obtain ⟨p, cp, j, rfl, hb, h1, h2⟩ := Sat.rowBlk hs (by omega)
    have ix := ixEl (b := p) (c := cp) (k := 3) hlt
    have q := rdCell encF_len hb hx 2 (by omega)
    simp [encF] at q
    obtain ⟨c, s1, s2, hs1⟩ := Sat.hdOpen hs.swap
    have hh0 : H'.ld h 0 = some (.ptr (some (c, 0))) := by rw [ld_of H' hs1.cel]; rfl
    simp only [if_true, ix, andThen_some]
    simp [q, hh0]
    refine (Up_tri c [] 0 100 up 0).use ((((hs1.front 1 (by simp)).bump 4).bump 25)) ?_
    rintro v H2 P' ⟨rfl, rfl⟩ hs2
    have hs2 : Sat ρ H2 (CkA c [] 0 100 up 0 :: Cel h [.ptr (some (c, 0)), .int .u64 100, s1, s2] :: Row encC 5 s1 cs :: Row encL 2 s2 al :: Row encF 3 (.slice (some (p, 0)) z.length cp 3) z :: Rs) := hs2
    obtain ⟨p', cp', j', e', hb2, _, _⟩ := Sat.rowBlk (hs2.front 4 (by simp)) (by omega)
    cases e'
    have q2 := rdCell encF_len hb2 hx 2 (by omega)
    simp [encF] at q2
    have hh2 : H2.ld h 0 = some (.ptr (some (c, 0))) := by rw [ld_of H2 (hs2.front 1 (by simp)).cel]; rfl
    have n1 : ¬ up < x.at_ := by omega
    have w1 : IntKind.u64.wrap (x.at_ + 100) = x.at_ + 100 := wrap_u64 (by omega) (by omega)
    simp [q2, n1, hh2, w1, ix]
    refine (Up_tri c [] 0 100 up 0).use hs2 ?_
    rintro v H3 P' ⟨rfl, rfl⟩ hs3
    have hs3 : Sat ρ H3 (CkA c [] 0 100 up 0 :: Cel h [.ptr (some (c, 0)), .int .u64 100, s1, s2] :: Row encC 5 s1 cs :: Row encL 2 s2 al :: Row encF 3 (.slice (some (p, 0)) z.length cp 3) z :: Rs) := hs3
    obtain ⟨p', cp', j', e', hb3, _, _⟩ := Sat.rowBlk (hs3.front 4 (by simp)) (by omega)
    cases e'
    have q3 := rdCell encF_len hb3 hx 2 (by omega)
    simp [encF] at q3
    have n2 : ¬ x.at_ + 100 < up := by omega
    have w3 := wrapP1 i (by omega)
    simp [q3, n2, w3]
    refine kn (z.length - (i + 1)) _ _ (by omega) ⟨rfl, rfl, rfl, rfl, i + 1, rfl, hlt, rfl, Sat.bump ?_ _⟩
    exact (Sat.hdClose hs3.swap).swap
  · rw [decide_eq_false (by omega)]
    simp only [Bool.false_eq_true, if_false]
    exact ko _ _ _ (hk _ _ rfl rfl rfl (hs.drop.bump _))

theorem ho_s4 (h : Nat) (cs : List Cyc) (al : List Alr) (up : Int) (hu : 0 ≤ up ∧ up ≤ 1000) (so : SV) (z : List Fir) (hz : ∀ x ∈ z, x.at_ ≤ up ∧ up - 100 ≤ x.at_ ∧ 0 ≤ x.at_) (hzl : z.length < 4611686018427387904) (Rs : List Asr) (T : List AV) (H : AH) (hT : T.length = 156) (A9 : AV) (t5 : sl T 5 = ptr h) (t9 : sl T 9 = A9) (t10 : sl T 10 = .s so)
    (hs : Sat ρ H (Row encF 3 so z :: HdA h cs al [] 0 100 up 0 :: Rs)) (K : Ex → List AV → AH → Prop)
    (hk : ∀ (T' : List AV) (H' : AH), T'.length = 156 → sl T' 5 = ptr h → sl T' 9 = A9 → Sat ρ H' (HdA h cs al [] 0 100 up 0 :: Rs) → K .norm T' H') :
    wpC tab noExt R.detentlaw20_HandOrder_s4 T H K := by
  apply detentlaw20_HandOrder_s4_w hT
  intro T1 hT1 hl
  simp only [Lvs] at hl
  obtain ⟨_, _, _, u5, _, _, u9, u10, _, u15, _⟩ := hl
  refine ho_l3 h cs al up hu so z hz hzl Rs T1 _ hT1 A9 (u5.trans t5) (u9.trans t9) (u10.trans t10) u15 (hs.bump _) _ ?_
  intro T' H' h0 h5 h9 hs'
  simp
  exact hk T' H' h0 h5 h9 hs'

theorem ho_l6 (h : Nat) (cs0 : List Cyc) (al0 : List Alr) (hP0 : OrdP cs0 al0 0) (hon0 : ∀ c ∈ cs0, c.on = true) (Rs : List Asr) (T : List AV) (H : AH) (hT : T.length = 156) (t5 : sl T 5 = ptr h) (t9 : sl T 9 = i64 (0 : Nat))
    (hs : Sat ρ H (HdA h cs0 al0 [] 0 100 0 0 :: Rs)) (K : Ex → List AV → AH → Prop)
    (hk : ∀ (T' : List AV) (H' : AH), T'.length = 156 → K (.out 4) T' H') :
    loopP tab noExt R.detentlaw20_HandOrder_l6 T H K := by
  refine loopP_invK (I := fun k T H' => T.length = 156 ∧ sl T 5 = ptr h ∧ ∃ (n : Nat) (cs : List Cyc) (al : List Alr) (Rs : List Asr), sl T 9 = i64 n ∧ n ≤ 4 ∧ k = 4 - n ∧ OrdP cs al (n * 100) ∧ (∀ c ∈ cs, c.on = true) ∧ Sat ρ H' (HdA h cs al [] 0 100 (n * 100) 0 :: Rs)) ?_ 4 _ _ ⟨hT, t5, 0, cs0, al0, Rs, t9, by omega, rfl, by simpa using hP0, hon0, by simpa using hs⟩
  rintro k T H' ⟨hT, t5, n, cs, al, Rs, t9, hn, hk', hP, hon, hs⟩ K' kn kr ko
  apply detentlaw20_HandOrder_l6_w hT
  simp only [t5, t9, andThen_some, binA_lss, condP_bool]
  by_cases hlt : n < 4
  · rw [decide_eq_true (by omega)]
    simp only [if_true]
    have hok := hP.ok (by omega)
    refine (Pass_tri h cs al [] 0 100 (n * 100) 0 hok (by omega) (by omega)).use ((hs.bump _).bump _) ?_
    rintro v H2 P' ⟨so, sa, z, rfl, hz, hzp, rfl⟩ hs2
    obtain ⟨hP2, hon2⟩ := hP.tick hon
    have hnd : z.Nodup := hzp.nodup_iff.2 (genF_nodup fun c hc => by have := (hP.c c hc).2.1; omega)
    have hbt : ∀ x ∈ z, x.at_ ≤ (n : Int) * 100 + 100 ∧ (n : Int) * 100 + 100 - 100 ≤ x.at_ ∧ 0 ≤ x.at_ := by
      intro x hx
      have := genF_between (lo := (n : Int) * 100) (fun c hc => ⟨by have := (hP.c c hc).2.1; omega, fun _ => (hP.c c hc).2.2.1⟩) (fun a ha => (hP.a a ha).2) (hzp.mem_iff.1 hx)
      omega
    have hzl : z.length < 4611686018427387904 := by
      rw [hzp.length_eq]
      have h1 := genC_len (cs := cs) (up := (n : Int) * 100 + 100) (by omega) (fun c hc => by have := hP.c c hc; omega) cs.length
      have h2 := genA_len al ((n : Int) * 100 + 100) al.length
      have h3 : (cs.length : Int) * ((n : Int) * 100 + 100 + 1) ≤ 8 * ((n : Int) * 100 + 100 + 1) := Int.mul_le_mul_of_nonneg_right (by have := hP.lc; omega) (by omega)
      have h4 := hP.la
      unfold genF
      rw [List.length_append]
      omega
    have hup : (n : Int) * 100 + 100 = ((n + 1 : Nat) : Int) * 100 := by push_cast; omega
    simp only [extractA_tup, List.getElem?_cons_zero, List.getElem?_cons_succ, Option.map_some, Part.av, andThen_some]
    intro T1 hT1 hl
    simp only [Lvs] at hl
    obtain ⟨_, _, _, u5, _, _, u9, u10, u12, _⟩ := hl
    refine ho_l2 so z hz hnd hzl _ T1 _ hT1 (ptr h) (i64 n) u5 u9 u10 u12 (Sat.bump hs2 1) _ ?_
    intro T2 H3 h0 h5 h9 h10 hs3
    simp
    have hs4 : Sat ρ H3 (Row encF 3 so z :: HdA h (cs.map (cycT ((n : Int) * 100 + 100))) (al.map (alrT ((n : Int) * 100 + 100))) [] 0 100 ((n : Int) * 100 + 100) 0 :: Row encI 1 sa [] :: Rs) := Sat.re hs3 [0, 2, 1] (by simp) (by decide)
    refine ho_s4 h _ _ ((n : Int) * 100 + 100) (by omega) so z hbt hzl _ T2 H3 h0 (i64 n) h5 h9 h10 hs4 _ ?_
    intro T3 H4 k0 k5 k9 hs5
    simp
    apply detentlaw20_HandOrder_s5_w k0
    have w := wrapP1 n (by omega)
    simp only [k9, andThen_some, binA_add, w]
    intro T4 hT4 hl
    simp only [Lvs] at hl
    obtain ⟨_, _, _, x5, _, _, x9, _⟩ := hl
    rw [hup] at hP2 hon2 hs5
    exact kn (4 - (n + 1)) _ _ (by omega) ⟨hT4, x5.trans k5, n + 1, _, _, _, x9, by omega, rfl, hP2, hon2, hs5.bump _⟩
  · rw [decide_eq_false (by omega)]
    simp only [Bool.false_eq_true, if_false]
    intro T1 hT1 _
    exact ko _ _ _ (hk _ _ hT1)

theorem ho_s8 (h : Nat) (cs0 : List Cyc) (al0 : List Alr) (hP0 : OrdP cs0 al0 0) (hon0 : ∀ c ∈ cs0, c.on = true) (Rs : List Asr) (T : List AV) (H : AH) (hT : T.length = 156) (t5 : sl T 5 = ptr h)
    (hs : Sat ρ H (HdA h cs0 al0 [] 0 100 0 0 :: Rs)) (K : Ex → List AV → AH → Prop)
    (hk : ∀ (T' : List AV) (H' : AH), sl T' 4 = bl true → K .ret T' H') :
    wpC tab noExt R.detentlaw20_HandOrder_s8 T H K := by
  apply detentlaw20_HandOrder_s8_w hT
  intro T1 hT1 hl
  simp only [Lvs] at hl
  obtain ⟨_, _, _, u5, _, _, u9, _⟩ := hl
  refine ho_l6 h cs0 al0 hP0 hon0 Rs T1 _ hT1 (u5.trans t5) u9 (hs.bump _) _ ?_
  intro T2 H2 h0
  simp
  apply detentlaw20_HandOrder_s7_w h0
  intro T3 hT3 hl
  simp only [Lvs] at hl
  exact hk _ _ hl.2.2.1

theorem ho_s9 (h : Nat) (cs0 : List Cyc) (hP0 : OrdP cs0 [] 0) (hon0 : ∀ c ∈ cs0, c.on = true) (xs : List Int) (s : SV) (hx : At ρ (.slice (.int .u8)) xs [s]) (hl : xs.length ≤ 8) (Rs : List Asr) (T : List AV) (H : AH) (hT : T.length = 156) (t1 : sl T 1 = .s s) (t5 : sl T 5 = ptr h)
    (hs : Sat ρ H (HdA h cs0 [] [] 0 100 0 0 :: Rs)) (K : Ex → List AV → AH → Prop)
    (hk : ∀ (T' : List AV) (H' : AH), sl T' 4 = bl true → K .ret T' H') :
    wpC tab noExt R.detentlaw20_HandOrder_s9 T H K := by
  apply detentlaw20_HandOrder_s9_w hT
  intro T1 hT1 hl1
  simp only [Lvs] at hl1
  obtain ⟨_, u1, _, u5, _, u8, _⟩ := hl1
  refine ho_l1 h cs0 hP0 xs s hx hl Rs T1 _ hT1 (u1.trans t1) (u5.trans t5) u8 (hs.bump _) _ ?_
  intro T2 H2 al h0 h5 hP hs2
  simp
  exact ho_s8 h cs0 al hP hon0 Rs T2 H2 h0 h5 hs2 K hk
end

theorem HandOrder_abs (H : AH) (hw : WF H) (hn : H.next = 2) (avs : List AV) (ha : ArgsAt H.blk [.slice (.int .u8), .slice (.int .u8)] avs) : CallP tab noExt F.detentlaw20_HandOrder avs H fun v _ => v = bl true := by
  obtain ⟨xs, s, _, rfl, hx, ha1⟩ := ha.slice
  obtain ⟨ys, t, _, rfl, hy, ha2⟩ := ha1.slice
  obtain rfl := ha2.nil'
  have hlx := At.slLen hx
  have hly := At.slLen hy
  apply detentlaw20_HandOrder_callw
  refine (known20_at ((hw.bump _).bump _) (m := 5) (by simp [hn]) (fun g => by kernel_rfl)).start (ρ := H.blk) ((hw.bump _).bump _) (fun _ _ h => h) ?_
  rintro v H1 hs rfl
  by_cases g1 : (8 : Int) < xs.length
  · simp [g1, hlx]
  by_cases g2 : (8 : Int) < ys.length
  · simp [g1, g2, hlx, hly]
  simp [g1, g2, hlx, hly]
  refine (NewHands_tri 100 (by omega) (by omega)).use (R := []) ((hs.bump _).bump _) ?_
  rintro v H2 P' ⟨h, rfl, rfl⟩ hs2
  simp
  intro T1 hT1 hl1
  simp only [Lvs] at hl1
  obtain ⟨u0, u1, _, u5, u7, _⟩ := hl1
  refine ho_l0 h xs s hx (by omega) [] T1 _ hT1 (.s t) u0 u1 u5 u7 (Sat.bump hs2 _) _ ?_
  intro T2 H3 cs h0 h1 h5 hP hon hs3
  simp
  refine ho_s9 h cs hP hon ys t hy (by omega) [] T2 H3 h0 h1 h5 hs3 _ ?_
  intro T3 H4 h4
  have h4' : T3[4]?.getD undef = bl true := by rw [← List.getD_eq_getElem?_getD]; exact h4
  simp [h4']

end Go.AM
