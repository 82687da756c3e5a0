/-
  THE ABSTRACT MACHINE: when an operation of it stands for an operation of the model; each that only computes gives what the model's gives.
-/
import Derived.Test.YtineacililniiaaGreatDoorAmB
namespace Go.AM

/- ---- slots and operands ---- -/

structure TRel (φ : Phi) (T : List AV) (ts : Array Value) : Prop where
  len : T.length = ts.size
  get : ∀ t, AVRel φ (T.getD t undef) (ts.getD t Go.undef)

theorem TRel.mono {φ φ' : Phi} (h : Ext φ φ') {T : List AV} {ts : Array Value} (hr : TRel φ T ts) : TRel φ' T ts := ⟨hr.len, fun t => (hr.get t).mono h⟩

theorem TRel.put {φ : Phi} {T : List AV} {a : Act} (hr : TRel φ T a.tmps) (d : Option Nat) {v : AV} {cv : Value} (hv : AVRel φ v cv) : TRel φ (put T d v) (a.put d cv).tmps := by
  cases d with
  | none => exact hr
  | some d =>
    refine ⟨by simp [AM.put, Act.put, hr.len], fun t => ?_⟩
    have hl := hr.len
    have hg := hr.get t
    simp only [AM.put, Act.put, List.getD_eq_getElem?_getD, Array.getD_eq_getD_getElem?, List.getElem?_set, Array.getElem?_setIfInBounds] at hg ⊢
    by_cases hd : d = t
    · subst hd
      by_cases hlt : d < T.length
      · simp [hlt, ← hl]; exact hv
      · simp [hlt, ← hl]; exact AVRel_undef φ
    · simp [hd]; exact hg

def GRel (G : List Nat) (φ : Phi) : Prop := ∀ n ∈ G, ∃ cs, φ n = some (n, 0, cs)

theorem GRel.mono {G : List Nat} {φ φ' : Phi} (h : Ext φ φ') (hg : GRel G φ) : GRel G φ' := fun n hn => let ⟨cs, hc⟩ := hg n hn; ⟨cs, h _ _ hc⟩

def constOk1 : SV → Value → Bool
  | .int k n, .int k' m => k == k' && n == m
  | .bool a, .bool b => a == b
  | .str a, .string b => decide (a = b)
  | .ptr none, .pointer none => true
  | .slice none l c _, .slice none 0 0 => l == 0 && c == 0
  | .map none, .map none => true
  | .nilfn, .nilFunc => true
  | _, _ => false

def constOkL : List SV → List Value → Bool
  | [], [] => true
  | x :: xs, v :: vs => constOk1 x v && constOkL xs vs
  | _, _ => false

def constOk : AV → Value → Bool
  | .s x, v => constOk1 x v
  | .agg l, .agg cs => constOkL l cs.toList
  | _, _ => false

theorem constOk1_rel {φ : Phi} {x : SV} {v : Value} (h : constOk1 x v = true) : SVRel φ x v := by
  unfold constOk1 at h
  split at h <;> simp_all [SVRel]

theorem constOkL_rel {φ : Phi} : ∀ {l : List SV} {cs : List Value}, constOkL l cs = true → R2 (SVRel φ) l cs
  | [], [], _ => trivial
  | _ :: _, _ :: _, h => by simp [constOkL] at h; exact ⟨constOk1_rel h.1, constOkL_rel h.2⟩
  | [], _ :: _, h => by simp [constOkL] at h
  | _ :: _, [], h => by simp [constOkL] at h

theorem constOk_rel {φ : Phi} {x : AV} {v : Value} (h : constOk x v = true) : AVRel φ x v := by
  unfold constOk at h
  split at h
  · exact constOk1_rel h
  · exact ⟨_, constOkL_rel h, rfl⟩
  · cases h

def chkOpd (G : List Nat) : Opd → Operand → Bool
  | .t n, .tmp m => n == m
  | .c v, .const w => constOk v w
  | .c (.s (.fn f [])), .func g => f == g
  | .g n, .global m => n == m && G.contains n
  | _, _ => false

variable {G : List Nat} {φ : Phi} {T : List AV} {a : Act}

theorem opd_rel {x : Opd} {o : Operand} (h : chkOpd G x o = true) (hT : TRel φ T a.tmps) (hG : GRel G φ) : AVRel φ (ev T x) (a.eval o) := by
  unfold chkOpd at h
  split at h
  · simp at h; subst h; exact hT.get _
  · exact constOk_rel h
  · simp at h; subst h; exact ⟨[], trivial, rfl⟩
  · simp at h
    obtain ⟨rfl, h2⟩ := h
    obtain ⟨cs, hc⟩ := hG _ h2
    exact ⟨_, ⟨_, _, _, hc, rfl⟩, by simp [Act.eval]⟩
  · cases h

def chkOpds (G : List Nat) : List Opd → List Operand → Bool
  | [], [] => true
  | x :: xs, o :: os => chkOpd G x o && chkOpds G xs os
  | _, _ => false

theorem opds_rel (hT : TRel φ T a.tmps) (hG : GRel G φ) : ∀ {xs : List Opd} {os : List Operand}, chkOpds G xs os = true → R2 (AVRel φ) (xs.map (ev T)) (os.map a.eval)
  | [], [], _ => trivial
  | _ :: _, _ :: _, h => by simp [chkOpds] at h; exact ⟨opd_rel h.1 hT hG, opds_rel hT hG h.2⟩
  | [], _ :: _, h => by simp [chkOpds] at h
  | _ :: _, [], h => by simp [chkOpds] at h

def chkOpt (G : List Nat) : Option Opd → Option Operand → Bool
  | none, none => true
  | some x, some o => chkOpd G x o
  | _, _ => false

/- ---- types ---- -/

def szOf (P : Program) (t : TypeId) : Option Nat := (P.info? t).map (·.size)

def aggM (P : Program) (t : TypeId) : Option (Option Nat) :=
  match P.underlying t with
  | some (.struct _) => (szOf P t).map some
  | some (.array _ _) => (szOf P t).map some
  | some _ => some none
  | none => none

def zeroOk (P : Program) (t : TypeId) (z : List SV) : Bool :=
  match (P.info? t).map (·.zero) with
  | some (some v) => constOkL z v.cells.toList
  | _ => false

theorem run_szOf {P : Program} {t : TypeId} {n : Nat} (h : szOf P t = some n) (w : World) : (sizeOf t).run P w = .ok n w := by
  unfold szOf at h
  cases hi : P.info? t with
  | none => simp [hi] at h
  | some i => simp [hi] at h; simp [sizeOf, typeInfo, hi, h]

theorem run_zero {P : Program} {t : TypeId} {z : List SV} (h : zeroOk P t z = true) (w : World) : ∃ v, (zeroValue t).run P w = .ok v w ∧ R2 (SVRel φ) z v.cells.toList := by
  unfold zeroOk at h
  split at h
  · rename_i v hv
    cases hi : P.info? t with
    | none => simp [hi] at hv
    | some i =>
      simp [hi] at hv
      exact ⟨v, by simp [zeroValue, typeInfo, hi, hv], constOkL_rel h⟩
  · cases h

theorem run_isAgg' {P : Program} {t : TypeId} {m : Option Nat} (h : aggM P t = some m) (w : World) : (isAgg t).run P w = .ok m.isSome w := by
  unfold aggM at h
  split at h
  · rename_i hu
    cases hz : szOf P t with
    | none => simp [hz] at h
    | some k => simp [hz] at h; subst h; simp [isAgg, run_underlying hu]
  · rename_i hu
    cases hz : szOf P t with
    | none => simp [hz] at h
    | some k => simp [hz] at h; subst h; simp [isAgg, run_underlying hu]
  · rename_i d h1 h2 hu
    simp at h; subst h
    simp only [isAgg, Sem.run_bind, run_underlying hu, Result.andThen_ok]
    cases d <;> first | rfl | exact absurd hu (h1 _) | exact absurd hu (h2 _ _)
  · cases h

theorem aggM_size {P : Program} {t : TypeId} {n : Nat} (h : aggM P t = some (some n)) : szOf P t = some n := by
  unfold aggM at h
  split at h
  · simpa using h
  · simpa using h
  · simp at h
  · cases h

/- ---- what a step gives ---- -/

def PureDone (P : Program) (φ : Phi) (s : Sem Next) (w : World) (v : AV) : Prop := ∃ cv, s.run P w = .ok (.value cv) w ∧ AVRel φ v cv

/-- What a sum of a value and a step gives. -/
theorem PureDone.of {P : Program} {s : Sem Value} {w : World} {v : AV} {cv : Value} (h : s.run P w = .ok cv w) (hr : AVRel φ v cv) : PureDone P φ (do pure (.value (← s))) w v :=
  ⟨cv, by simp [h], hr⟩

theorem part_sim {P : Program} {t : TypeId} {m : Option Nat} (h : aggM P t = some m) {l : List SV} {cs : Array Value} (hr : R2 (SVRel φ) l cs.toList) {off : Nat} {v : AV} (hp : partA m l off = some v) (w : World) :
    ∃ cv, (part t cs off).run P w = .ok cv w ∧ AVRel φ v cv := by
  unfold part
  simp only [Sem.run_bind, run_isAgg' h, Result.andThen_ok]
  cases m with
  | none =>
    simp only [partA, Option.map_eq_some_iff] at hp
    obtain ⟨x, hx, rfl⟩ := hp
    obtain ⟨c, hc, hr'⟩ := hr.get off x hx
    refine ⟨c, ?_, hr'⟩
    have : cs[off]? = some c := by simpa using hc
    simp [this]
  | some n =>
    simp only [partA] at hp
    split at hp
    · cases hp
      refine ⟨.agg (cs.extract off (off + n)), by simp [run_szOf (aggM_size h)], (cs.extract off (off + n)).toList, ?_, rfl⟩
      have := R2.take n (R2.drop off hr)
      simpa [List.extract_eq_take_drop] using this
    · cases hp

theorem add_eq (x y o n : Nat) : (Addr.mk x (y + o) none).add n = ⟨x, y + (o + n), none⟩ := by
  unfold Addr.add; split
  · simp_all
  · simp [Nat.add_assoc]

theorem ptr_of {φ : Phi} {b o : Nat} {v : Value} (h : AVRel φ (.s (.ptr (some (b, o)))) v) : ∃ cb sh cs, φ b = some (cb, sh, cs) ∧ v = .pointer (some ⟨cb, sh + o, none⟩) := by
  obtain ⟨x, ⟨cb, sh, cs, h1, h2⟩, h3⟩ := h
  subst h2
  exact ⟨cb, sh, cs, h1, h3⟩

theorem ptr_mk {φ : Phi} {b o cb sh cs : Nat} (h : φ b = some (cb, sh, cs)) : AVRel φ (.s (.ptr (some (b, o)))) (.pointer (some ⟨cb, sh + o, none⟩)) := ⟨_, ⟨cb, sh, cs, h, rfl⟩, rfl⟩

theorem slice_of {φ : Phi} {b o l c e : Nat} {v : Value} (h : AVRel φ (.s (.slice (some (b, o)) l c e)) v) :
    0 < e ∧ l ≤ c ∧ ∃ cb sh cs x c', φ b = some (cb, sh, cs) ∧ c ≤ c' ∧ v = .slice (some x) l c' ∧ (c' ≠ 0 → x = ⟨cb, sh + o, none⟩ ∧ sh + o + c' * e ≤ cs) := h

theorem slice_none {φ : Phi} {l c e : Nat} {v : Value} (h : AVRel φ (.s (.slice none l c e)) v) : l = 0 ∧ c = 0 ∧ v = .slice none 0 0 := h

/- ---- parts laid over cells ---- -/

theorem set_fold (cs : List Value) : ∀ (vs : List Value) (off : Nat) (z : Array Value), cs = z.toList → off + vs.length ≤ cs.length →
    ((vs.zipIdx.foldl (fun (z : Array Value) (p : Value × Nat) => z.setIfInBounds (off + p.2) p.1) z)).toList = cs.take off ++ vs ++ cs.drop (off + vs.length) := by
  intro vs off z hz hl
  have key : ∀ (vs : List Value) (k : Nat) (z : Array Value), off + k + vs.length ≤ z.size →
      ((vs.zipIdx k).foldl (fun (z : Array Value) (p : Value × Nat) => z.setIfInBounds (off + p.2) p.1) z).toList = z.toList.take (off + k) ++ vs ++ z.toList.drop (off + k + vs.length) := by
    intro vs
    induction vs with
    | nil => intro k z _; simp
    | cons v vs ih =>
      intro k z hl
      simp only [List.zipIdx_cons, List.foldl_cons]
      rw [ih (k + 1) _ (by simp at hl ⊢; omega)]
      have e := list_seg_step z.toList (off + k) v vs (by simp at hl ⊢; omega)
      simpa [Array.toList_setIfInBounds, Nat.add_assoc] using e
  have := key vs 0 z (by subst hz; simpa using hl)
  simpa [hz] using this

theorem fill_sim {place : Nat → Option (Nat × Nat)} : ∀ {ps : List (Nat × Nat × AV)} {qs : List (Nat × Value)} {z : List SV} {cz : Array Value} {l : List SV},
    fillA z ps = some l → R2 (SVRel φ) z cz.toList → R2 (fun (p : Nat × Nat × AV) (q : Nat × Value) => place q.1 = some (p.1, p.2.1) ∧ AVRel φ p.2.2 q.2) ps qs →
    ∃ cl, Instr.fill place cz qs = some cl ∧ R2 (SVRel φ) l cl.toList
  | [], [], z, cz, l, h, hz, _ => by
    simp only [fillA] at h; cases h; exact ⟨cz, rfl, hz⟩
  | (off, size, v) :: ps, (i, cv) :: qs, z, cz, l, h, hz, hp => by
    obtain ⟨⟨hpl, hv⟩, hp⟩ := hp
    simp only [fillA] at h
    split at h
    · rename_i cl hcl
      split at h
      · rename_i hle
        have hc := hv.cells hcl
        have hlen := hc.length
        have hzl := hz.length
        simp only at hpl
        have hlen2 : cl.length = cv.cells.toList.length := hlen
        have hlen' : cv.cells.size = size := by
          have : cv.cells.size = cv.cells.toList.length := by simp
          omega
        have hz' : R2 (SVRel φ) (splice z off cl) (cv.cells.toList.zipIdx.foldl (fun (z : Array Value) (p : Value × Nat) => z.setIfInBounds (off + p.2) p.1) cz).toList := by
          rw [set_fold cz.toList cv.cells.toList off cz rfl (by omega)]
          unfold splice
          rw [List.append_assoc]
          refine R2.append (R2.take _ hz) (R2.append hc ?_)
          rw [hlen2]; exact R2.drop _ hz
        obtain ⟨cl', h1, h2⟩ := fill_sim h hz' hp
        refine ⟨cl', ?_, h2⟩
        simp only [Instr.fill, hpl]
        rw [if_neg (by simp; constructor; · exact hlen'
                       · simp at hzl; omega)]
        rw [← h1]
        congr 1
        rw [← Array.toList_zipIdx, Array.foldl_toList]
      · cases h
    · cases h
  | [], _ :: _, _, _, _, _, _, hp => hp.elim
  | _ :: _, [], _, _, _, _, _, hp => hp.elim

end Go.AM
