/-
  THE ABSTRACT MACHINE IS SOUND: where its run of a function gives a value, every call of the model's function gives it.
-/
import Derived.Test.YtineacililniiaaGreatDoorAmL
namespace Go.AM

variable {P : Program} {G : List Nat} {φ : Phi} {T : List AV} {a : Act} {w : World} {B : Nat} {w0 : World} {H H' : AH}

def chkCode (P : Program) (G : List Nat) (L : Nat) : Code → RC → Bool
  | .skip, .skip => true
  | .label _, .skip => true
  | .ret, .ret => true
  | .exit id, .exit id' => id == id'
  | .region _ ops draw, .region n rops => if draw then chkDraw P G ops n L rops else plainOpers P G ops n ops.toList rops
  | .seq a b, .seq a' b' => chkCode P G L a a' && chkCode P G L b b'
  | .cond c a b, .cond c' a' b' => chkOpd G c' c && chkCode P G L a a' && chkCode P G L b b'
  | .block id a, .block id' a' => id == id' && chkCode P G L a a'
  | .loop a, .loop a' => chkCode P G L a a'
  | _, _ => false

section
variable {rec : Nat → List AV → AH → Option (AV × AH)} {fuel : Nat}

theorem regA_length {base : Nat} {l : List ROper} {T : List AV} {H : AH} {s : List AV × AH} (h : regA rec base l T H = some s) : s.1.length = T.length := runL_length (base := base) l (regA_run l T H s h)

theorem iterA_length {f : List AV → AH → Option (Ex × List AV × AH)} (hf : ∀ T H e T' H', f T H = some (e, T', H') → T'.length = T.length) : ∀ (n : Nat) {T T' : List AV} {H H' : AH} {e : Ex}, iterA f n T H = some (e, T', H') → T'.length = T.length
  | 0, _, _, _, _, _, h => by simp [iterA] at h
  | n + 1, T, T', H, H', e, h => by
    simp only [iterA, Option.bind_eq_some_iff] at h
    obtain ⟨⟨e1, T1, H1⟩, h1, h2⟩ := h
    have k := hf _ _ _ _ _ h1
    cases e1 with
    | norm => exact (iterA_length hf n h2).trans k
    | ret => simp only at h2; cases h2; exact k
    | out id => simp only at h2; cases h2; exact k

theorem rcA_length : ∀ (c : RC) {T T' : List AV} {H H' : AH} {e : Ex}, rcA rec fuel c T H = some (e, T', H') → T'.length = T.length
  | .skip, _, _, _, _, _, h => by simp only [rcA] at h; cases h; rfl
  | .ret, _, _, _, _, _, h => by simp only [rcA] at h; cases h; rfl
  | .exit _, _, _, _, _, _, h => by simp only [rcA] at h; cases h; rfl
  | .region n ops, T, T', H, H', e, h => by
    simp only [rcA, Option.map_eq_some_iff] at h
    obtain ⟨s, h1, h2⟩ := h
    cases h2
    exact regA_length h1
  | .seq a b, T, T', H, H', e, h => by
    simp only [rcA, Option.bind_eq_some_iff] at h
    obtain ⟨⟨e1, T1, H1⟩, h1, h2⟩ := h
    have k := rcA_length a h1
    cases e1 with
    | norm => exact (rcA_length b h2).trans k
    | ret => simp only at h2; cases h2; exact k
    | out id => simp only at h2; cases h2; exact k
  | .cond c a b, T, T', H, H', e, h => by
    simp only [rcA] at h
    split at h
    · exact rcA_length a h
    · exact rcA_length b h
    · cases h
  | .block id a, T, T', H, H', e, h => by
    simp only [rcA, Option.map_eq_some_iff] at h
    obtain ⟨⟨e1, T1, H1⟩, h1, h2⟩ := h
    cases h2
    exact rcA_length a h1
  | .loop a, T, T', H, H', e, h => by
    simp only [rcA] at h
    exact iterA_length (fun _ _ _ _ _ h => rcA_length a h) fuel h

theorem code_sim (hrec : CallsOk P G B w0 rec) (hr : FrmOk rec) (hnx : NextOk rec) (hmix : P.follows .mixedOrders = true) {L : Nat} : ∀ (c : Code) (r : RC), chkCode P G L c r = true →
    ∀ (φ : Phi) (T : List AV) (H : AH) (a : Act) (w : World) (e : Ex) (Tz : List AV) (Hz : AH) (Q : Exit → Act → World → Prop), St B w0 G φ T H a w → L ≤ T.length → rcA rec fuel r T H = some (e, Tz, Hz) →
      (∀ φ' a' w', Ext φ φ' → St B w0 G φ' Tz Hz a' w' → Q (exOf e) a' w') → c.wp P Q a w := by
  intro c
  induction c with
  | skip =>
    intro r hc φ T H a w e Tz Hz Q hs hL h hQ
    cases r <;> simp only [chkCode, Bool.false_eq_true] at hc
    simp only [rcA, Option.some.injEq, Prod.mk.injEq] at h
    obtain ⟨rfl, rfl, rfl⟩ := h
    exact wp_skip (hQ φ a w (Ext.refl _) hs)
  | label l =>
    intro r hc φ T H a w e Tz Hz Q hs hL h hQ
    cases r <;> simp only [chkCode, Bool.false_eq_true] at hc
    simp only [rcA, Option.some.injEq, Prod.mk.injEq] at h
    obtain ⟨rfl, rfl, rfl⟩ := h
    exact wp_label (hQ φ a w (Ext.refl _) hs)
  | ret =>
    intro r hc φ T H a w e Tz Hz Q hs hL h hQ
    cases r <;> simp only [chkCode, Bool.false_eq_true] at hc
    simp only [rcA, Option.some.injEq, Prod.mk.injEq] at h
    obtain ⟨rfl, rfl, rfl⟩ := h
    exact wp_ret (hQ φ a w (Ext.refl _) hs)
  | exit id =>
    intro r hc φ T H a w e Tz Hz Q hs hL h hQ
    cases r <;> simp only [chkCode, Bool.false_eq_true] at hc
    have hid := eq_of_beq hc
    subst hid
    simp only [rcA, Option.some.injEq, Prod.mk.injEq] at h
    obtain ⟨rfl, rfl, rfl⟩ := h
    exact wp_exit (hQ φ a w (Ext.refl _) hs)
  | region id ops draw =>
    intro r hc φ T H a w e Tz Hz Q hs hL h hQ
    cases r <;> simp only [chkCode, Bool.false_eq_true] at hc
    rename_i n rops
    simp only [rcA, Option.map_eq_some_iff] at h
    obtain ⟨⟨T1, H1⟩, h1, h2⟩ := h
    simp only [Prod.mk.injEq] at h2
    obtain ⟨rfl, rfl, rfl⟩ := h2
    have hs' : St B w0 G φ T (H.bump n) a w := ⟨hs.heap.bump n, hs.tmps, hs.glob, hs.defs⟩
    cases draw with
    | false =>
      simp only [Bool.false_eq_true, if_false] at hc
      exact wp_region_list (plain_sim hrec hnx ops.toList rops φ T _ a w hc (Nat.le_refl _) hs' h1 hQ)
    | true =>
      simp only [if_true] at hc
      have hd := chkDraw_ok hc
      refine wp_region_any hmix ?_
      have hs2 : St B w0 G φ T (H.bump n) a { w with drawn := w.drawn + 1 } := ⟨hs'.heap.heap_eq rfl rfl rfl, hs'.tmps, hs'.glob, hs'.defs⟩
      refine draw_any (H0 := H.bump n) hrec hr hnx hd hL (fun i hi => ⟨hs.heap.lt _ (Nat.le_add_right _ _), ?_⟩) h1 ops.size [] _ φ (T, H.bump n) a _ (by simp) (by simp) rfl ?_ ?_ ?_ rfl hs2 hQ
      · simp only [AH.bump]; omega
      · simp [hd.size]
      · simp [hd.size]
      · intro i hi
        simp [Array.getD_eq_getD_getElem?, Array.getElem?_replicate]
        split <;> rfl
  | seq c1 c2 ih1 ih2 =>
    intro r hc φ T H a w e Tz Hz Q hs hL h hQ
    cases r <;> simp only [chkCode, Bool.false_eq_true, Bool.and_eq_true] at hc
    obtain ⟨hc1, hc2⟩ := hc
    simp only [rcA, Option.bind_eq_some_iff] at h
    obtain ⟨⟨e1, T1, H1⟩, h1, h2⟩ := h
    refine wp_seq ?_
    refine ih1 _ hc1 φ T H a w e1 T1 H1 _ hs hL h1 ?_
    intro φ' a' w' he hs'
    cases e1 with
    | norm => exact ih2 _ hc2 φ' T1 H1 a' w' e Tz Hz Q hs' (by rw [rcA_length _ h1]; exact hL) h2 (fun φ'' a'' w'' he' => hQ φ'' a'' w'' (he.trans he'))
    | ret => simp only at h2; cases h2; exact hQ φ' a' w' he hs'
    | out id => simp only at h2; cases h2; exact hQ φ' a' w' he hs'
  | cond x c1 c2 ih1 ih2 =>
    intro r hc φ T H a w e Tz Hz Q hs hL h hQ
    cases r <;> simp only [chkCode, Bool.false_eq_true, Bool.and_eq_true] at hc
    obtain ⟨⟨hx, hc1⟩, hc2⟩ := hc
    have hv := opd_rel hx hs.tmps hs.glob
    simp only [rcA] at h
    split at h
    · rename_i hb
      rw [hb] at hv
      exact wp_cond_true hv (ih1 _ hc1 φ T H a w e Tz Hz Q hs hL h hQ)
    · rename_i hb
      rw [hb] at hv
      exact wp_cond_false hv (ih2 _ hc2 φ T H a w e Tz Hz Q hs hL h hQ)
    · cases h
  | block id c1 ih1 =>
    intro r hc φ T H a w e Tz Hz Q hs hL h hQ
    cases r <;> simp only [chkCode, Bool.false_eq_true, Bool.and_eq_true, beq_iff_eq] at hc
    obtain ⟨rfl, hc1⟩ := hc
    simp only [rcA, Option.map_eq_some_iff] at h
    obtain ⟨⟨e1, T1, H1⟩, h1, h2⟩ := h
    simp only [Prod.mk.injEq] at h2
    obtain ⟨h3, rfl, rfl⟩ := h2
    refine wp_block (ih1 _ hc1 φ T H a w e1 _ _ _ hs hL h1 ?_)
    intro φ' a' w' he hs'
    have hq := hQ φ' a' w' he hs'
    cases e1 with
    | norm => simp at h3; subst h3; exact hq
    | ret => simp at h3; subst h3; exact hq
    | out id' =>
      simp only [exOf, Exit.inBlock]
      by_cases hid : id' = id
      · subst hid; simp at h3; subst h3; rw [if_pos rfl]; exact hq
      · have : (Ex.out id' : Ex) ≠ .out id := fun hc => hid (by cases hc; rfl)
        rw [if_neg this] at h3; subst h3; rw [if_neg hid]; exact hq
  | loop c1 ih1 =>
    intro r hc φ T H a w e Tz Hz Q hs hL h hQ
    cases r <;> simp only [chkCode, Bool.false_eq_true] at hc
    rename_i r1
    simp only [rcA] at h
    have key : ∀ (n : Nat) (φ' : Phi) (T : List AV) (H : AH) (a : Act) (w : World), Ext φ φ' → iterA (rcA rec fuel r1) n T H = some (e, Tz, Hz) → St B w0 G φ' T H a w → L ≤ T.length → Code.rounds P c1 Q n a w := by
      intro n
      induction n with
      | zero => intro φ' T H a w _ h; simp [iterA] at h
      | succ n ih =>
        intro φ' T H a w hext h hs hL
        simp only [iterA, Option.bind_eq_some_iff] at h
        obtain ⟨⟨e1, T1, H1⟩, h1, h2⟩ := h
        rw [rounds_succ]
        refine ih1 _ hc φ' T H a w e1 T1 H1 _ hs hL h1 ?_
        intro φ'' a' w' he hs'
        cases e1 with
        | norm => exact ih φ'' T1 H1 a' w' (hext.trans he) h2 hs' (by rw [rcA_length _ h1]; exact hL)
        | ret => simp only at h2; cases h2; exact hQ φ'' a' w' (hext.trans he) hs'
        | out id => simp only at h2; cases h2; exact hQ φ'' a' w' (hext.trans he) hs'
    exact wp_loop_rounds fuel (key fuel φ T H a w (Ext.refl _) h hs hL)
  | _ =>
    intro r hc
    cases r <;> simp [chkCode] at hc

end

def chkRes (P : Program) : List ResultVar → List RRes → Bool
  | [], [] => true
  | .tmp t :: rs, .tmp t' :: rs' => t == t' && chkRes P rs rs'
  | .cell t ty :: rs, .cell t' m :: rs' => t == t' && decide (aggM P ty = some m) && chkRes P rs rs'
  | _, _ => false

def chkFunc (P : Program) (G : List Nat) (fn : Func) (rf : RFunc) : Bool :=
  (match fn.body with | some c => chkCode P G rf.ntmps c rf.body | none => false) && fn.ntmps == rf.ntmps && chkRes P fn.results.toList rf.results && !(fn.name == "runtime.NumGoroutine")

/-- One result. -/
def res1 (tmps : Array Value) : ResultVar → Sem Value
  | .tmp t => pure (tmps.getD t Go.undef)
  | .cell a t => do loadVar t (← asAddr (tmps.getD a Go.undef))

theorem loadVar_sim (hH : HRel B w0 φ H w) {m : Option Nat} {ty : TypeId} (hm : aggM P ty = some m) {x v : AV} {u : Value} (hx : AVRel φ x u) (h : loadA m x H = some v) : ∃ cv, (do loadVar ty (← asAddr u) : Sem Value).run P w = .ok cv w ∧ AVRel φ v cv := by
  unfold loadA at h
  split at h
  · rename_i b o'
    obtain ⟨cb, sh, cs, hφ, hv⟩ := ptr_of hx
    subst hv
    cases m with
    | none =>
      simp only [Option.map_eq_some_iff] at h
      obtain ⟨s, hs, rfl⟩ := h
      obtain ⟨cb', sh', cs', u, h1, h3, h4⟩ := hH.ld hs
      rw [hφ] at h1
      cases h1
      refine ⟨u, ?_, h4⟩
      simp only [asAddr, loadVar, Sem.run_bind, Sem.run_pure, Result.andThen_ok, run_isAgg' hm]
      simp [h3]
    | some n =>
      simp only [Option.map_eq_some_iff] at h
      obtain ⟨l, hl, rfl⟩ := h
      obtain ⟨cb', sh', cs', vs, h1, h3, h4, h5, h6⟩ := hH.ldn hl
      rw [hφ] at h1
      cases h1
      refine ⟨.agg vs.toArray, ?_, vs, h6, rfl⟩
      have hld := run_loadCells_list (P := P) w ⟨cb, sh + o', none⟩ vs (fun j v' hj => by rw [add_eq, ← Nat.add_assoc]; exact h5 j v' hj)
      rw [h4] at hld
      simp only [asAddr, loadVar, Sem.run_bind, Sem.run_pure, Result.andThen_ok, run_isAgg' hm]
      simp [run_szOf (aggM_size hm), hld]
  · cases h

theorem res1_sim (hH : HRel B w0 φ H w) (hT : TRel φ T a.tmps) {rv : ResultVar} {r : RRes} (hc : chkRes P [rv] [r] = true) {v : AV} (h : resA1 T H r = some v) : ∃ cv, (res1 a.tmps rv).run P w = .ok cv w ∧ AVRel φ v cv := by
  cases rv with
  | tmp t =>
    cases r <;> simp only [chkRes, Bool.and_true, Bool.false_eq_true, beq_iff_eq] at hc
    subst hc
    simp only [resA1, Option.some.injEq] at h
    subst h
    exact ⟨_, rfl, hT.get t⟩
  | cell t ty =>
    cases r <;> simp only [chkRes, Bool.and_true, Bool.false_eq_true, Bool.and_eq_true, beq_iff_eq, decide_eq_true_eq] at hc
    obtain ⟨rfl, hm⟩ := hc
    simp only [resA1] at h
    exact loadVar_sim hH hm (hT.get t) h

theorem ress_sim (hH : HRel B w0 φ H w) (hT : TRel φ T a.tmps) : ∀ (rvs : List ResultVar) (rs : List RRes) (vs : List AV), chkRes P rvs rs = true → rs.mapM (resA1 T H) = some vs → ∃ cvs : List Value, (rvs.mapM (res1 a.tmps)).run P w = .ok cvs w ∧ R2 (AVRel φ) vs cvs
  | [], [], vs, _, h => by
    simp at h; subst h
    exact ⟨[], rfl, trivial⟩
  | rv :: rvs, r :: rs, vs, hc, h => by
    simp only [List.mapM_cons, Option.pure_def, Option.bind_eq_bind, Option.bind_eq_some_iff] at h
    obtain ⟨v, h1, vs', h2, h3⟩ := h
    have hc1 : chkRes P [rv] [r] = true ∧ chkRes P rvs rs = true := by
      cases rv <;> cases r <;> simp_all [chkRes]
    obtain ⟨cv, e1, e2⟩ := res1_sim hH hT hc1.1 h1
    obtain ⟨cvs, e3, e4⟩ := ress_sim hH hT rvs rs vs' hc1.2 h2
    cases h3
    refine ⟨cv :: cvs, ?_, e2, e4⟩
    simp only [List.mapM_cons, Sem.run_bind, e1, Result.andThen_ok, e3, Sem.run_pure]
  | [], _ :: _, _, hc, _ => by simp [chkRes] at hc
  | .tmp _ :: _, [], _, hc, _ => by simp [chkRes] at hc
  | .cell _ _ :: _, [], _, hc, _ => by simp [chkRes] at hc

theorem parts_sim : ∀ (vs : List AV) (ps : List Part) (cvs : List Value), partsA vs = some ps → R2 (AVRel φ) vs cvs → R2 (PartRel φ) ps cvs
  | [], ps, [], h, _ => by simp only [partsA, Option.some.injEq] at h; subst h; trivial
  | v :: vs, ps, cv :: cvs, h, hr => by
    simp only [partsA, Option.bind_eq_some_iff, Option.map_eq_some_iff] at h
    obtain ⟨p, h1, ps', h2, rfl⟩ := h
    refine ⟨?_, parts_sim vs ps' cvs h2 hr.2⟩
    cases v <;> simp only [AV.part?, Option.some.injEq, reduceCtorEq] at h1 <;> subst h1 <;> exact hr.1
  | [], _, _ :: _, _, hr => hr.elim
  | _ :: _, _, [], _, hr => hr.elim

theorem results_run {fn : Func} {tmps : Array Value} {cvs : List Value} (h : (fn.results.toList.mapM (res1 tmps)).run P w = .ok cvs w) :
    (results fn tmps).run P w = .ok (if h : cvs.toArray.size = 1 then cvs.toArray[0] else .tuple cvs.toArray) w := by
  have : (fn.results.mapM (res1 tmps)).run P w = .ok cvs.toArray w := by
    rw [Array.mapM_eq_mapM_toList, Sem.run_map, h]; rfl
  have hres : results fn tmps = (do let vs ← fn.results.mapM (res1 tmps); pure (if h : vs.size = 1 then vs[0] else .tuple vs)) := by
    unfold results
    congr 1
  rw [hres, Sem.run_bind, this]
  rfl

theorem res_sim (hH : HRel B w0 φ H w) (hT : TRel φ T a.tmps) {fn : Func} {rs : List RRes} (hc : chkRes P fn.results.toList rs = true) {v : AV} (h : resA rs T H = some v) :
    ∃ cv, (results fn a.tmps).run P w = .ok cv w ∧ AVRel φ v cv := by
  unfold resA at h
  split at h
  · rename_i r
    cases hl : fn.results.toList with
    | nil => rw [hl] at hc; simp [chkRes] at hc
    | cons rv rvs =>
      rw [hl] at hc
      have hc1 : chkRes P [rv] [r] = true ∧ rvs = [] := by
        cases rv <;> cases r <;> simp_all [chkRes] <;> (cases rvs <;> simp_all [chkRes])
      obtain ⟨cv, e1, e2⟩ := res1_sim hH hT hc1.1 h
      refine ⟨cv, ?_, e2⟩
      have := results_run (fn := fn) (tmps := a.tmps) (P := P) (w := w) (cvs := [cv]) (by rw [hl, hc1.2]; simp only [List.mapM_cons, List.mapM_nil, Sem.run_bind, e1, Result.andThen_ok, Sem.run_pure])
      rw [this]; simp
  · rename_i hne
    simp only [Option.bind_eq_some_iff, Option.map_eq_some_iff] at h
    obtain ⟨vs, h1, ps, h2, rfl⟩ := h
    obtain ⟨cvs, e1, e2⟩ := ress_sim hH hT _ _ _ hc h1
    have hlen : cvs.length ≠ 1 := by
      intro hl
      have h3 : vs.length = 1 := by rw [e2.length, hl]
      have h4 : rs.length = 1 := by
        have : ∀ (rs : List RRes) (vs : List AV), rs.mapM (resA1 T H) = some vs → vs.length = rs.length := by
          intro rs
          induction rs with
          | nil => intro vs h; simp at h; subst h; rfl
          | cons r rs ih =>
            intro vs h
            simp only [List.mapM_cons, Option.pure_def, Option.bind_eq_bind, Option.bind_eq_some_iff] at h
            obtain ⟨v, _, vs', h2, h3⟩ := h
            cases h3
            simp [ih vs' h2]
        rw [← this rs vs h1, h3]
      match rs, h4 with
      | [r], _ => exact hne r rfl
    refine ⟨.tuple cvs.toArray, ?_, cvs, parts_sim vs ps cvs h2 e2, rfl⟩
    rw [results_run e1]
    rw [dif_neg (by simpa using hlen)]

/-- The table of functions is the program's. -/
def TabOk (P : Program) (G : List Nat) (tab : Nat → Option RFunc) : Prop := ∀ f rf, tab f = some rf → ∃ fn, P.funcs[f]? = some fn ∧ chkFunc P G fn rf = true

theorem args_rel {args : List AV} {cargs : Array Value} (h : R2 (AVRel φ) args cargs.toList) (n : Nat) : TRel φ (args ++ List.replicate (n - args.length) undef) (cargs ++ Array.replicate (n - cargs.size) Go.undef) := by
  have hl : args.length = cargs.size := by have := h.length; simpa using this
  refine ⟨by simp [hl], fun t => ?_⟩
  simp only [List.getD_eq_getElem?_getD, Array.getD_eq_getD_getElem?]
  rw [List.getElem?_append, Array.getElem?_append, hl]
  split
  · rename_i ht
    obtain ⟨v, hv, hr⟩ := h.get t args[t] (by simp [hl, ht])
    have e1 : args[t]? = some args[t] := by simp [hl, ht]
    rw [e1, show cargs[t]? = some v by simpa using hv]
    exact hr
  · rw [List.getElem?_replicate, Array.getElem?_replicate]
    split
    · exact AVRel_undef φ
    · exact AVRel_undef φ

def AllOk (P : Program) (G : List Nat) : Nat → List (Option RFunc) → Prop
  | _, [] => True
  | i, none :: l => AllOk P G (i + 1) l
  | i, some rf :: l => (∃ fn, P.funcs[i]? = some fn ∧ chkFunc P G fn rf = true) ∧ AllOk P G (i + 1) l

theorem allOk_get : ∀ (l : List (Option RFunc)) (i f : Nat) (rf : RFunc), AllOk P G i l → l[f]? = some (some rf) → ∃ fn, P.funcs[i + f]? = some fn ∧ chkFunc P G fn rf = true
  | [], _, _, _, _, h => by simp at h
  | none :: l, i, 0, rf, h, hf => by simp at hf
  | none :: l, i, f + 1, rf, h, hf => by
    have := allOk_get l (i + 1) f rf h (by simpa using hf)
    rw [show i + 1 + f = i + (f + 1) by omega] at this; exact this
  | some r :: l, i, 0, rf, h, hf => by
    simp at hf; subst hf; exact h.1
  | some r :: l, i, f + 1, rf, h, hf => by
    have := allOk_get l (i + 1) f rf h.2 (by simpa using hf)
    rw [show i + 1 + f = i + (f + 1) by omega] at this; exact this

theorem tabOk_of {l : List (Option RFunc)} (h : AllOk P G 0 l) : TabOk P G (fun f => (l[f]?).join) := by
  intro f rf hf
  have hf : (l[f]?).join = some rf := hf
  have : l[f]? = some (some rf) := by
    cases hl : l[f]? with
    | none => rw [hl] at hf; cases hf
    | some x => rw [hl] at hf; simp at hf; rw [hf]
  have := allOk_get l 0 f rf h this
  simpa using this

/-- THE MACHINE IS SOUND. -/
theorem run_sound {tab : Nat → Option RFunc} {ext : Nat → List AV → AH → Option (AV × AH)} (htab : TabOk P G tab) (hext : CallsOk P G B w0 ext) (hfr : FrmOk ext) (hnx : NextOk ext) (hmix : P.follows .mixedOrders = true) :
    ∀ n, CallsOk P G B w0 (run tab ext n)
  | 0 => fun _ _ _ _ _ h => by simp [run] at h
  | n + 1 => by
    intro f args H v H' h φ w cargs hH hG hargs
    simp only [run] at h
    split at h
    · exact hext f args H v H' h φ w cargs hH hG hargs
    · rename_i rf hrf
      obtain ⟨fn, hfn, hck⟩ := htab f rf hrf
      simp only [chkFunc, Bool.and_eq_true, beq_iff_eq, Bool.not_eq_true'] at hck
      obtain ⟨⟨⟨h1, h2⟩, h3⟩, h4⟩ := hck
      split at h1
      · rename_i c hc
        refine ⟨⟨fn, hfn, by rw [hc]; rfl, h4⟩, ?_⟩
        simp only [Option.bind_eq_some_iff] at h
        obtain ⟨⟨e, T1, H1⟩, h5, h6⟩ := h
        refine calls_of_wp hfn hc ?_
        refine code_sim (run_sound htab hext hfr hnx hmix n) (run_frame hfr hnx n) (run_next hnx n) hmix c rf.body h1 φ _ H _ w e T1 H1 _ ⟨hH, by rw [h2]; exact args_rel hargs _, hG, rfl⟩ (by simp; omega) h5 ?_
        intro φ' a' w' he hs
        cases e with
        | out id => simp at h6
        | norm =>
          simp only [Option.map_eq_some_iff, Prod.mk.injEq] at h6
          obtain ⟨v', h7, rfl, rfl⟩ := h6
          obtain ⟨cv, r1, r2⟩ := res_sim hs.heap hs.tmps h3 h7
          exact ⟨hs.defs, cv, r1, φ', cv, rfl, he, hs.heap, r2⟩
        | ret =>
          simp only [Option.map_eq_some_iff, Prod.mk.injEq] at h6
          obtain ⟨v', h7, rfl, rfl⟩ := h6
          obtain ⟨cv, r1, r2⟩ := res_sim hs.heap hs.tmps h3 h7
          exact ⟨hs.defs, cv, r1, φ', cv, rfl, he, hs.heap, r2⟩
      · cases h1

end Go.AM
