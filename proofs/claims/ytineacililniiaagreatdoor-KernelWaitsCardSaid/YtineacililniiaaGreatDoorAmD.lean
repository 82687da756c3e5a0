/-
  THE ABSTRACT MACHINE: each operation that only computes, or only reads, gives what the model's gives.
-/
import Derived.Test.YtineacililniiaaGreatDoorAmC
import Derived.Laws.Strings
namespace Go.AM

variable {P : Program} {G : List Nat} {φ : Phi} {T : List AV} {a : Act} {w : World} {B : Nat} {w0 : World} {H : AH}

/-- The places of the parts. -/
def placesOk (G : List Nat) (place : Nat → Option (Nat × Nat)) : List (Nat × Nat × Opd) → List (Nat × Operand) → Bool
  | [], [] => true
  | p :: ps, q :: qs => decide (place q.1 = some (p.1, p.2.1)) && chkOpd G p.2.2 q.2 && placesOk G place ps qs
  | _, _ => false

theorem places_rel {place : Nat → Option (Nat × Nat)} (hT : TRel φ T a.tmps) (hG : GRel G φ) : ∀ {ps : List (Nat × Nat × Opd)} {qs : List (Nat × Operand)}, placesOk G place ps qs = true →
    R2 (fun (p : Nat × Nat × AV) (q : Nat × Value) => place q.1 = some (p.1, p.2.1) ∧ AVRel φ p.2.2 q.2) (ps.map fun p => (p.1, p.2.1, ev T p.2.2)) (qs.map fun q => (q.1, a.eval q.2))
  | [], [], _ => trivial
  | p :: ps, q :: qs, h => by
    simp [placesOk] at h
    exact ⟨⟨h.1.1, opd_rel h.1.2 hT hG⟩, places_rel hT hG h.2⟩
  | [], _ :: _, h => by simp [placesOk] at h
  | _ :: _, [], h => by simp [placesOk] at h

def fieldPlaceOf (P : Program) (fields : Array Field) (i : Nat) : Option (Nat × Nat) := (fields[i]?).bind fun f => (szOf P f.type).map fun n => (f.offset, n)

def isInt (P : Program) (t : TypeId) : Option IntKind :=
  match P.underlying t with
  | some (.int k) => some k
  | _ => none

def slElem (P : Program) (t : TypeId) : Option TypeId :=
  match P.underlying t with
  | some (.slice e) => some e
  | _ => none

theorem slElem_eq {t e : TypeId} (h : slElem P t = some e) : P.underlying t = some (.slice e) := by
  unfold slElem at h
  split at h
  · cases h; assumption
  · cases h

def arrElem (P : Program) (t : TypeId) : Option (Nat × TypeId) :=
  match P.underlying t with
  | some (.array n e) => some (n, e)
  | _ => none

theorem arrElem_eq {t e : TypeId} {n : Nat} (h : arrElem P t = some (n, e)) : P.underlying t = some (.array n e) := by
  unfold arrElem at h
  split at h
  · cases h; assumption
  · cases h

def fieldOf (P : Program) (t : TypeId) (i : Nat) : Option Field :=
  match P.underlying t with
  | some (.struct fs) => fs[i]?
  | _ => none

theorem fieldOf_eq {t : TypeId} {i : Nat} {f : Field} (h : fieldOf P t i = some f) : ∃ fs, P.underlying t = some (.struct fs) ∧ fs[i]? = some f := by
  unfold fieldOf at h
  split at h
  · exact ⟨_, by assumption, h⟩
  · cases h

def eqKOk (P : Program) (k : EqK) (t : TypeId) : Bool :=
  match k, P.underlying t with
  | .bool, some .bool => true
  | .str, some .string => true
  | .ptr, some (.pointer _) => true
  | .slice, some (.slice _) => true
  | .map, some (.map _ _) => true
  | .fn, some (.func _ _ _) => true
  | _, _ => false

/-- A struct of numbers and truths alone, one cell a field. -/
def flatField (P : Program) (f : Field) (i : Nat) (k : Bool) : Bool :=
  f.offset == i && f.name != "_" && (match k, P.underlying f.type with | false, some (.int _) => true | true, some .bool => true | _, _ => false)

def flatFields (P : Program) : List Field → List Bool → Nat → Bool
  | [], [], _ => true
  | f :: fs, k :: ks, i => flatField P f i k && flatFields P fs ks (i + 1)
  | _, _, _ => false

def flatStruct (P : Program) (t : TypeId) (ks : List Bool) : Bool :=
  match P.underlying t with
  | some (.struct fs) => !P.stoodInHeld t && !P.eqGuardType P.depth t && flatFields P fs.toList ks 0
  | _ => false

def bytesOk (P : Program) (t : TypeId) (n : Nat) : Bool := decide ((P.info? t).map (·.bytes) = some n)

/-- Which operation of the model an operation stands for: those that only compute or read. -/
def chkPure (P : Program) (G : List Nat) (r : ROp) (op : Op) : Bool :=
  match r with
  | .move y => (match op with | .move x => chkOpd G y x | .assign x => chkOpd G y x | _ => false)
  | .pick c' a' b' => (match op with | .pick c a b => chkOpd G c' c && chkOpd G a' a && chkOpd G b' b | _ => false)
  | .nilCheck y => (match op with | .nilCheck x => chkOpd G y x | _ => false)
  | .build z ps => (match op with
    | .build t parts => zeroOk P t z && (match P.underlying t with
      | some (.struct fs) => fs.toList.all (fun f => (szOf P f.type).isSome) && placesOk G (fieldPlaceOf P fs) ps parts.toList
      | some (.array _ e) => (match szOf P e with | some n => placesOk G (fun i => some (i * n, n)) ps parts.toList | none => false)
      | _ => false)
    | _ => false)
  | .load m y => (match op with | .load t x => decide (aggM P t = some m) && chkOpd G y x | _ => false)
  | .fieldAddr off y => (match op with
    | .fieldAddr s x i => (match fieldOf P s i with | some f => f.offset == off && (match szOf P f.type with | some n => n != 0 | none => false) && chkOpd G y x | none => false)
    | _ => false)
  | .field m off y => (match op with
    | .field s x i => (match fieldOf P s i with | some f => f.offset == off && decide (aggM P f.type = some m) && chkOpd G y x | none => false)
    | _ => false)
  | .indexSl esz y j => (match op with
    | .indexAddr t x i => (match slElem P t with | some e => decide (szOf P e = some esz) && chkOpd G y x && chkOpd G j i | none => false)
    | _ => false)
  | .indexArr len esz y j => (match op with
    | .indexAddr t x i => (match arrElem P t with | some (n, e) => n == len && decide (szOf P e = some esz) && chkOpd G y x && chkOpd G j i | none => false)
    | _ => false)
  | .index len esz m y j => (match op with
    | .index t x i => (match arrElem P t with | some (n, e) => n == len && decide (szOf P e = some esz) && decide (aggM P e = some m) && chkOpd G y x && chkOpd G j i | none => false)
    | _ => false)
  | .slSl esz y lo' hi' mx' => (match op with
    | .slice t x lo hi mx => (match slElem P t with | some e => decide (szOf P e = some esz) && chkOpd G y x && chkOpt G lo' lo && chkOpt G hi' hi && chkOpt G mx' mx && !(mx.isSome && hi.isNone) | none => false)
    | _ => false)
  | .bin op' x' y' => (match op with | .binOp op t x y _ => op == op' && chkOpd G x' x && chkOpd G y' y | _ => false)
  | .eqs k ng x' y' => (match op with | .binOp op t x y _ => (if ng then op == .neq else op == .eql) && eqKOk P k t && chkOpd G x' x && chkOpd G y' y | _ => false)
  | .eqAgg ks ng x' y' => (match op with | .binOp op t x y _ => (if ng then op == .neq else op == .eql) && flatStruct P t ks && chkOpd G x' x && chkOpd G y' y | _ => false)
  | .un op' y => (match op with | .unOp op _ x => op == op' && chkOpd G y x | _ => false)
  | .conv k y => (match op with | .convert src dst x => (P.underlying src).isSome && decide (isInt P dst = some k) && chkOpd G y x | _ => false)
  | .makeFunc f caps => (match op with | .makeFunc (.func g) first captured => f == g && first.isEmpty && chkOpds G caps captured.toList | _ => false)
  | .bindf f y => (match op with | .makeFunc (.func g) first captured => f == g && captured.isEmpty && (match first.toList with | [x] => chkOpd G y x | _ => false) | _ => false)
  | .extract i' y => (match op with | .extract x i => i == i' && chkOpd G y x | _ => false)
  | .len y => (match op with
    | .call { callee := .builtin .len, args := args, argTypes := ts } => (match args.toList, ts.toList with
      | [x], [t] => chkOpd G y x && (match P.underlying t with | some (.slice _) => true | _ => false)
      | _, _ => false)
    | _ => false)
  | .lenArr n => (match op with
    | .call { callee := .builtin .len, args := args, argTypes := ts } => (match args.toList, ts.toList with
      | [_], [t] => (match P.underlying t with
        | some (.array m _) => m == n
        | some (.pointer e) => (match P.underlying e with | some (.array m _) => m == n | _ => false)
        | _ => false)
      | _, _ => false)
    | _ => false)
  | .minmax mx x' y' => (match op with
    | .call { callee := .builtin b, args := args, argTypes := _ } => (if mx then b == .max else b == .min) && (match args.toList with
      | [x, y] => chkOpd G x' x && chkOpd G y' y
      | _ => false)
    | _ => false)
  | .stuck => true
  | _ => false

theorem mapM_places (w : World) : ∀ (fs : List Field), (∀ f ∈ fs, (szOf P f.type).isSome = true) →
    (fs.mapM fun (f : Field) => (do pure (f.offset, ← sizeOf f.type) : Sem (Nat × Nat))).run P w = .ok (fs.map fun f => (f.offset, (szOf P f.type).getD 0)) w
  | [], _ => by simp
  | f :: fs, h => by
    obtain ⟨n, hn⟩ := Option.isSome_iff_exists.1 (h f (by simp))
    have ih := mapM_places w fs (fun f' hf => h f' (by simp [hf]))
    rw [List.mapM_cons]
    simp only [Sem.run_bind, run_szOf hn, Result.andThen_ok, Sem.run_pure]
    rw [ih]
    simp [hn]

theorem mapM_places_arr (fs : Array Field) (h : ∀ f ∈ fs.toList, (szOf P f.type).isSome = true) (w : World) :
    (fs.mapM fun (f : Field) => (do pure (f.offset, ← sizeOf f.type) : Sem (Nat × Nat))).run P w = .ok (fs.toList.map fun f => (f.offset, (szOf P f.type).getD 0)).toArray w := by
  rw [Array.mapM_eq_mapM_toList, Sem.run_map, mapM_places w fs.toList h]
  rfl

theorem fieldPlaceOf_eq (fs : Array Field) (h : ∀ f ∈ fs.toList, (szOf P f.type).isSome = true) (i : Nat) :
    (fs.toList.map fun f => (f.offset, (szOf P f.type).getD 0)).toArray[i]? = fieldPlaceOf P fs i := by
  unfold fieldPlaceOf
  simp only [List.getElem?_toArray, List.getElem?_map, Array.getElem?_toList]
  cases hi : fs[i]? with
  | none => rfl
  | some f =>
    obtain ⟨n, hn⟩ := Option.isSome_iff_exists.1 (h f (by simpa using Array.mem_of_getElem? hi))
    simp [hn]


/- ---- slice expressions ---- -/

def OptRel (φ : Phi) : Option AV → Option Value → Prop
  | none, none => True
  | some x, some v => AVRel φ x v
  | _, _ => False

theorem opt_rel {x : Option Opd} {o : Option Operand} (h : chkOpt G x o = true) (hT : TRel φ T a.tmps) (hG : GRel G φ) : OptRel φ (x.map (ev T)) (o.map a.eval) := by
  unfold chkOpt at h
  split at h
  · trivial
  · exact opd_rel h hT hG
  · cases h

theorem boundA_some {d y n : Nat} {x : AV} (h : boundA d y (some x) = some n) : ∃ k m, x = .s (.int k m) ∧ 0 ≤ m ∧ m ≤ (y : Int) ∧ n = m.toNat := by
  unfold boundA at h
  split at h
  · simp_all
  · rename_i k m heq
    split at h
    · rename_i hm
      cases heq
      cases h
      exact ⟨k, m, rfl, hm.1, hm.2, rfl⟩
    · cases h
  · cases h

theorem sliceBound_sim {x : AV} {v : Value} {d y y' n : Nat} (hx : AVRel φ x v) (h : boundA d y (some x) = some n) (hy : y ≤ y') (code : BoundsCode) :
    (Instr.sliceBound v y' code).run P w = .ok n w ∧ n ≤ y := by
  obtain ⟨k, m, rfl, h0, h1, rfl⟩ := boundA_some h
  have hv : v = .int k m := hx
  subst hv
  refine ⟨?_, by omega⟩
  simp only [Instr.sliceBound, asIntOf, Sem.run_bind, Sem.run_pure, Result.andThen_ok, Sem.run_ite]
  rw [if_pos ⟨h0, by omega⟩]

theorem bounds_sim {len cap cap' l h m : Nat} {lo hi mx : Option AV} {clo chi cmx : Option Value} (hlo : OptRel φ lo clo) (hhi : OptRel φ hi chi) (hmx : OptRel φ mx cmx)
    (hc : cap ≤ cap') (hlc : len ≤ cap) (hno : (cmx.isSome && chi.isNone) = false) (hb : boundsA len cap lo hi mx = some (l, h, m)) (s : Bool) :
    ∃ m', (Instr.sliceBounds s len cap' clo chi cmx).run P w = .ok (l, h, m') w ∧ l ≤ h ∧ h ≤ m ∧ m ≤ m' ∧ m' ≤ cap' ∧ m ≤ cap := by
  unfold boundsA at hb
  simp only [Option.bind_eq_some_iff, Option.some.injEq, Prod.mk.injEq] at hb
  obtain ⟨m0, hm, h0, hh, l0, hl, rfl, rfl, rfl⟩ := hb
  unfold Instr.sliceBounds
  -- the low end, whatever the high one
  have low : ∀ hi' : Nat, boundA 0 hi' lo = some l0 → ((clo = none ∧ l0 = 0) ∨ ∃ v, clo = some v ∧ ∀ code, (Instr.sliceBound v hi' code).run P w = .ok l0 w) ∧ l0 ≤ hi' := by
    intro hi' hb
    cases lo with
    | none =>
      cases clo with
      | none => simp only [boundA, Option.some.injEq] at hb; subst hb; exact ⟨.inl ⟨rfl, rfl⟩, by omega⟩
      | some v => exact hlo.elim
    | some x =>
      cases clo with
      | none => exact hlo.elim
      | some v => exact ⟨.inr ⟨v, rfl, fun code => (sliceBound_sim (P := P) (w := w) hlo hb (Nat.le_refl _) code).1⟩, (sliceBound_sim (P := P) (w := w) hlo hb (Nat.le_refl _) .sliceB).2⟩
  cases mx with
  | none =>
    cases cmx with
    | some v => exact hmx.elim
    | none =>
      simp only [boundA, Option.some.injEq] at hm
      subst hm
      cases hi with
      | none =>
        cases chi with
        | some v => exact hhi.elim
        | none =>
          simp only [boundA, Option.some.injEq] at hh
          subst hh
          obtain ⟨e1, e2⟩ := low len hl
          refine ⟨cap', ?_, e2, hlc, hc, Nat.le_refl _, Nat.le_refl _⟩
          rcases e1 with ⟨rfl, rfl⟩ | ⟨v, rfl, e1⟩
          · rfl
          · simp only [Sem.run_bind, Sem.run_pure, Result.andThen_ok, e1]
      | some x =>
        cases chi with
        | none => exact hhi.elim
        | some v =>
          obtain ⟨f1, f2⟩ := sliceBound_sim (P := P) (w := w) hhi hh hc (if s = true then .sliceAcap else .sliceAlen)
          obtain ⟨e1, e2⟩ := low h0 hl
          refine ⟨cap', ?_, e2, f2, hc, Nat.le_refl _, Nat.le_refl _⟩
          rcases e1 with ⟨rfl, rfl⟩ | ⟨v, rfl, e1⟩ <;> simp only [Sem.run_bind, Sem.run_pure, Result.andThen_ok, f1, *]
  | some y =>
    cases cmx with
    | none => exact hmx.elim
    | some u =>
      obtain ⟨g1, g2⟩ := sliceBound_sim (P := P) (w := w) hmx hm hc (if s = true then .slice3Acap else .slice3Alen)
      cases hi with
      | none =>
        cases chi with
        | some v => exact hhi.elim
        | none => simp at hno
      | some x =>
        cases chi with
        | none => exact hhi.elim
        | some v =>
          obtain ⟨f1, f2⟩ := sliceBound_sim (P := P) (w := w) hhi hh (Nat.le_refl _) .slice3B
          obtain ⟨e1, e2⟩ := low h0 hl
          refine ⟨m0, ?_, e2, f2, Nat.le_refl _, by omega, g2⟩
          rcases e1 with ⟨rfl, rfl⟩ | ⟨v, rfl, e1⟩ <;> simp only [Sem.run_bind, Sem.run_pure, Result.andThen_ok, g1, f1, *]

/- ---- numbers ---- -/

theorem arith_sim {op : BinOp} {k : IntKind} {x y : Int} {v : SV} (h : arithA op k x y = some v) (hs : op ≠ .shl) (hs' : op ≠ .shr) :
    ∃ cv, (binOp op 0 (.int k x) (.int k y)).run P w = .ok cv w ∧ SVRel φ v cv := by
  unfold arithA at h
  cases op <;> simp only [Option.some.injEq, reduceCtorEq, ne_eq, not_true_eq_false, not_false_eq_true] at h hs hs' <;>
    first
    | (subst h; exact ⟨_, by simp [binOp, Op.intArith, Op.intBits, Op.intCmp], rfl⟩)
    | (split at h
       · cases h
       · rename_i hy
         simp only [Option.some.injEq] at h
         subst h
         exact ⟨_, by simp [binOp, Op.intDiv, hy], rfl⟩)

theorem binOp_type (op : BinOp) (t t' : TypeId) (k k' : IntKind) (x y : Int) : binOp op t (.int k x) (.int k' y) = binOp op t' (.int k x) (.int k' y) := by
  cases op <;> simp [binOp]

theorem shift_sim {left : Bool} {k k' : IntKind} {x y : Int} {v : SV} (h : shiftA left k x y = some v) :
    ∃ cv, (binOp (if left then .shl else .shr) 0 (.int k x) (.int k' y)).run P w = .ok cv w ∧ SVRel φ v cv := by
  unfold shiftA at h
  split at h
  · cases h
  · rename_i hy
    cases left <;> simp at h <;> subst h <;> exact ⟨_, by simp [binOp, Op.shift, hy], rfl⟩

theorem eqGuard_run (op : BinOp) (t : TypeId) (x y : Operand) (u v : Value) (h1 : u ≠ .nilIface ∨ v ≠ .nilIface) (h2 : ∀ c d, u = .agg c → v = .agg d → P.eqGuardType P.depth t = false) :
    (eqGuard op t x y u v).run P w = .ok () w := by
  unfold eqGuard
  cases op <;> first
    | (simp; done)
    | (cases u <;> cases v <;> first | (simp; done) | (simp at h1; done) | (rename_i c d; simp [h2 c d rfl rfl]; done))

/- ---- comparisons ---- -/

theorem equal_step (t : TypeId) (x y : Value) : Op.equal t x y = Op.equalIn (9999 + 1) t x y := rfl

section
variable (t : TypeId) (d : Nat)
theorem equal_bool' (hu : P.underlying t = some .bool) (x y : Bool) : (Op.equalIn (d + 1) t (.bool x) (.bool y)).run P w = .ok (x == y) w := by
  simp only [Op.equalIn, Sem.run_bind, run_underlying hu, Result.andThen_ok]; rfl
theorem equal_bool (hu : P.underlying t = some .bool) (x y : Bool) : (Op.equal t (.bool x) (.bool y)).run P w = .ok (x == y) w := equal_bool' t 9999 hu x y
theorem equal_ptr1' {e : TypeId} (hu : P.underlying t = some (.pointer e)) (y : Option Addr) : (Op.equalIn (d + 1) t (.pointer none) (.pointer y)).run P w = .ok y.isNone w := by
  simp only [Op.equalIn, Sem.run_bind, run_underlying hu, Result.andThen_ok]; rfl
theorem equal_ptr1 {e : TypeId} (hu : P.underlying t = some (.pointer e)) (y : Option Addr) : (Op.equal t (.pointer none) (.pointer y)).run P w = .ok y.isNone w := equal_ptr1' t 9999 hu y
theorem equal_ptr2' {e : TypeId} (hu : P.underlying t = some (.pointer e)) (y : Addr) : (Op.equalIn (d + 1) t (.pointer (some y)) (.pointer none)).run P w = .ok false w := by
  simp only [Op.equalIn, Sem.run_bind, run_underlying hu, Result.andThen_ok]; rfl
theorem equal_ptr2 {e : TypeId} (hu : P.underlying t = some (.pointer e)) (y : Addr) : (Op.equal t (.pointer (some y)) (.pointer none)).run P w = .ok false w := equal_ptr2' t 9999 hu y
theorem equal_sl1' {e : TypeId} (hu : P.underlying t = some (.slice e)) (y : Option Addr) (l c : Nat) : (Op.equalIn (d + 1) t (.slice none 0 0) (.slice y l c)).run P w = .ok y.isNone w := by
  simp only [Op.equalIn, Sem.run_bind, run_underlying hu, Result.andThen_ok]; rfl
theorem equal_sl1 {e : TypeId} (hu : P.underlying t = some (.slice e)) (y : Option Addr) (l c : Nat) : (Op.equal t (.slice none 0 0) (.slice y l c)).run P w = .ok y.isNone w := equal_sl1' t 9999 hu y l c
theorem equal_sl2' {e : TypeId} (hu : P.underlying t = some (.slice e)) (y : Addr) (l c : Nat) : (Op.equalIn (d + 1) t (.slice (some y) l c) (.slice none 0 0)).run P w = .ok false w := by
  simp only [Op.equalIn, Sem.run_bind, run_underlying hu, Result.andThen_ok]; rfl
theorem equal_sl2 {e : TypeId} (hu : P.underlying t = some (.slice e)) (y : Addr) (l c : Nat) : (Op.equal t (.slice (some y) l c) (.slice none 0 0)).run P w = .ok false w := equal_sl2' t 9999 hu y l c
theorem equal_map1' {k e : TypeId} (hu : P.underlying t = some (.map k e)) (y : Option Nat) : (Op.equalIn (d + 1) t (.map none) (.map y)).run P w = .ok y.isNone w := by
  simp only [Op.equalIn, Sem.run_bind, run_underlying hu, Result.andThen_ok]; rfl
theorem equal_map1 {k e : TypeId} (hu : P.underlying t = some (.map k e)) (y : Option Nat) : (Op.equal t (.map none) (.map y)).run P w = .ok y.isNone w := equal_map1' t 9999 hu y
theorem equal_map2' {k e : TypeId} (hu : P.underlying t = some (.map k e)) (y : Nat) : (Op.equalIn (d + 1) t (.map (some y)) (.map none)).run P w = .ok false w := by
  simp only [Op.equalIn, Sem.run_bind, run_underlying hu, Result.andThen_ok]; rfl
theorem equal_map2 {k e : TypeId} (hu : P.underlying t = some (.map k e)) (y : Nat) : (Op.equal t (.map (some y)) (.map none)).run P w = .ok false w := equal_map2' t 9999 hu y
theorem equal_fn0' {p r : Array TypeId} {v : Bool} (hu : P.underlying t = some (.func p r v)) : (Op.equalIn (d + 1) t .nilFunc .nilFunc).run P w = .ok true w := by
  simp only [Op.equalIn, Sem.run_bind, run_underlying hu, Result.andThen_ok]; rfl
theorem equal_fn0 {p r : Array TypeId} {v : Bool} (hu : P.underlying t = some (.func p r v)) : (Op.equal t .nilFunc .nilFunc).run P w = .ok true w := equal_fn0' t 9999 hu
theorem equal_fn1' {p r : Array TypeId} {v : Bool} (hu : P.underlying t = some (.func p r v)) (f : Fn) (x y : Array Value) : (Op.equalIn (d + 1) t .nilFunc (.func f x y)).run P w = .ok false w := by
  simp only [Op.equalIn, Sem.run_bind, run_underlying hu, Result.andThen_ok]; rfl
theorem equal_fn1 {p r : Array TypeId} {v : Bool} (hu : P.underlying t = some (.func p r v)) (f : Fn) (x y : Array Value) : (Op.equal t .nilFunc (.func f x y)).run P w = .ok false w := equal_fn1' t 9999 hu f x y
theorem equal_fn2' {p r : Array TypeId} {v : Bool} (hu : P.underlying t = some (.func p r v)) (f : Fn) (x y : Array Value) : (Op.equalIn (d + 1) t (.func f x y) .nilFunc).run P w = .ok false w := by
  simp only [Op.equalIn, Sem.run_bind, run_underlying hu, Result.andThen_ok]; rfl
theorem equal_fn2 {p r : Array TypeId} {v : Bool} (hu : P.underlying t = some (.func p r v)) (f : Fn) (x y : Array Value) : (Op.equal t (.func f x y) .nilFunc).run P w = .ok false w := equal_fn2' t 9999 hu f x y
end

theorem eqK_inv {k : EqK} {t : TypeId} (h : eqKOk P k t = true) : match k with
    | .bool => P.underlying t = some .bool
    | .str => P.underlying t = some .string
    | .ptr => ∃ e, P.underlying t = some (.pointer e)
    | .slice => ∃ e, P.underlying t = some (.slice e)
    | .map => ∃ k e, P.underlying t = some (.map k e)
    | .fn => ∃ p r v, P.underlying t = some (.func p r v) := by
  unfold eqKOk at h
  split at h
  · assumption
  · assumption
  · exact ⟨_, by assumption⟩
  · exact ⟨_, by assumption⟩
  · exact ⟨_, _, by assumption⟩
  · exact ⟨_, _, _, by assumption⟩
  · cases h

/-- == and != by what is told of the equality. -/
def eqBin (ng : Bool) : BinOp := if ng then .neq else .eql

theorem bin_bool (ng : Bool) (t : TypeId) (x y : Bool) {r : Bool} (h : (Op.equal t (.bool x) (.bool y)).run P w = .ok r w) : (binOp (eqBin ng) t (.bool x) (.bool y)).run P w = .ok (.bool (ng ^^ r)) w := by
  cases ng <;> simp [eqBin, binOp, h]
theorem bin_ptr (ng : Bool) (t : TypeId) (x y : Option Addr) {r : Bool} (h : (Op.equal t (.pointer x) (.pointer y)).run P w = .ok r w) : (binOp (eqBin ng) t (.pointer x) (.pointer y)).run P w = .ok (.bool (ng ^^ r)) w := by
  cases ng <;> simp [eqBin, binOp, h]
theorem bin_sl (ng : Bool) (t : TypeId) (x y : Option Addr) (a b c d : Nat) {r : Bool} (h : (Op.equal t (.slice x a b) (.slice y c d)).run P w = .ok r w) : (binOp (eqBin ng) t (.slice x a b) (.slice y c d)).run P w = .ok (.bool (ng ^^ r)) w := by
  cases ng <;> simp [eqBin, binOp, h]
theorem bin_map (ng : Bool) (t : TypeId) (x y : Option Nat) {r : Bool} (h : (Op.equal t (.map x) (.map y)).run P w = .ok r w) : (binOp (eqBin ng) t (.map x) (.map y)).run P w = .ok (.bool (ng ^^ r)) w := by
  cases ng <;> simp [eqBin, binOp, h]
theorem bin_fn0 (ng : Bool) (t : TypeId) {r : Bool} (h : (Op.equal t .nilFunc .nilFunc).run P w = .ok r w) : (binOp (eqBin ng) t .nilFunc .nilFunc).run P w = .ok (.bool (ng ^^ r)) w := by
  cases ng <;> simp [eqBin, binOp, h]
theorem bin_fn1 (ng : Bool) (t : TypeId) (f : Fn) (x y : Array Value) {r : Bool} (h : (Op.equal t .nilFunc (.func f x y)).run P w = .ok r w) : (binOp (eqBin ng) t .nilFunc (.func f x y)).run P w = .ok (.bool (ng ^^ r)) w := by
  cases ng <;> simp [eqBin, binOp, h]
theorem bin_fn2 (ng : Bool) (t : TypeId) (f : Fn) (x y : Array Value) {r : Bool} (h : (Op.equal t (.func f x y) .nilFunc).run P w = .ok r w) : (binOp (eqBin ng) t (.func f x y) .nilFunc).run P w = .ok (.bool (ng ^^ r)) w := by
  cases ng <;> simp [eqBin, binOp, h]

theorem eqs_sim {ng : Bool} {k : EqK} {x y v : AV} (h : eqsA k ng x y = some v) {t : TypeId} (ht : eqKOk P k t = true) {u u' : Value}
    (hx : AVRel φ x u) (hy : AVRel φ y u') : ∃ cv, (binOp (eqBin ng) t u u').run P w = .ok cv w ∧ AVRel φ v cv := by
  have ht := eqK_inv ht
  unfold eqsA at h
  split at h <;> simp only [Option.some.injEq, reduceCtorEq] at h <;> (try subst h) <;> simp only at ht
  · have hx' : u = .bool _ := hx
    have hy' : u' = .bool _ := hy
    subst hx'; subst hy'
    exact ⟨_, bin_bool ng t _ _ (equal_bool t ht _ _), rfl⟩
  · have hx' : u = .string _ := hx
    have hy' : u' = .string _ := hy
    subst hx'; subst hy'
    refine ⟨_, ?_, rfl⟩
    rw [← ByteArray.toList_eq, ← ByteArray.toList_eq]
    cases ng <;> simp [eqBin, binOp, Op.stringOp]
  · obtain ⟨e, hu⟩ := ht
    rename_i bo
    have hx' : u = .pointer none := hx
    subst hx'
    cases bo with
    | none =>
      have hy' : u' = .pointer none := hy
      subst hy'
      exact ⟨_, bin_ptr ng t _ _ (equal_ptr1 t hu _), rfl⟩
    | some p =>
      obtain ⟨z, _, hy'⟩ := hy
      subst hy'
      exact ⟨_, bin_ptr ng t _ _ (equal_ptr1 t hu _), rfl⟩
  · obtain ⟨e, hu⟩ := ht
    obtain ⟨z, _, hx'⟩ := hx
    have hy' : u' = .pointer none := hy
    subst hx'; subst hy'
    exact ⟨_, bin_ptr ng t _ _ (equal_ptr2 t hu _), by simp [AVRel, SVRel]⟩
  · obtain ⟨e, hu⟩ := ht
    rename_i bo _ _ _
    obtain ⟨_, _, hx'⟩ := hx
    subst hx'
    cases bo with
    | none =>
      obtain ⟨_, _, hy'⟩ := hy
      subst hy'
      exact ⟨_, bin_sl ng t _ _ _ _ _ _ (equal_sl1 t hu _ _ _), rfl⟩
    | some p =>
      obtain ⟨_, _, _, _, _, _, _, _, _, hy', _⟩ := hy
      subst hy'
      exact ⟨_, bin_sl ng t _ _ _ _ _ _ (equal_sl1 t hu _ _ _), rfl⟩
  · obtain ⟨e, hu⟩ := ht
    obtain ⟨_, _, _, _, _, _, _, _, _, hx', _⟩ := hx
    obtain ⟨_, _, hy'⟩ := hy
    subst hx'; subst hy'
    exact ⟨_, bin_sl ng t _ _ _ _ _ _ (equal_sl2 t hu _ _ _), by simp [AVRel, SVRel]⟩
  · obtain ⟨k, e, hu⟩ := ht
    rename_i bo
    have hx' : u = .map none := hx
    subst hx'
    cases bo with
    | none =>
      have hy' : u' = .map none := hy
      subst hy'
      exact ⟨_, bin_map ng t _ _ (equal_map1 t hu _), rfl⟩
    | some p =>
      obtain ⟨_, _, _, _, hy'⟩ := hy
      subst hy'
      exact ⟨_, bin_map ng t _ _ (equal_map1 t hu _), rfl⟩
  · obtain ⟨k, e, hu⟩ := ht
    obtain ⟨_, _, _, _, hx'⟩ := hx
    have hy' : u' = .map none := hy
    subst hx'; subst hy'
    exact ⟨_, bin_map ng t _ _ (equal_map2 t hu _), by simp [AVRel, SVRel]⟩
  · obtain ⟨p, r, v, hu⟩ := ht
    have hx' : u = .nilFunc := hx
    have hy' : u' = .nilFunc := hy
    subst hx'; subst hy'
    exact ⟨_, bin_fn0 ng t (equal_fn0 t hu), rfl⟩
  · obtain ⟨p, r, v, hu⟩ := ht
    have hx' : u = .nilFunc := hx
    obtain ⟨_, _, hy'⟩ := hy
    subst hx'; subst hy'
    exact ⟨_, bin_fn1 ng t _ _ _ (equal_fn1 t hu _ _ _), by simp [AVRel, SVRel]⟩
  · obtain ⟨p, r, v, hu⟩ := ht
    obtain ⟨_, _, hx'⟩ := hx
    have hy' : u' = .nilFunc := hy
    subst hx'; subst hy'
    exact ⟨_, bin_fn2 ng t _ _ _ (equal_fn2 t hu _ _ _), by simp [AVRel, SVRel]⟩

end Go.AM
