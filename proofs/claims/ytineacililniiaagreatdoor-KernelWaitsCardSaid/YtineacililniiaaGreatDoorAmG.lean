/-
  THE ABSTRACT MACHINE: each operation of it, whatever it does, stands for the model's.
-/
import Derived.Test.YtineacililniiaaGreatDoorAmF
namespace Go.AM

variable {P : Program} {G : List Nat} {φ : Phi} {T : List AV} {a : Act} {w : World} {B : Nat} {w0 : World} {H H' : AH}

theorem copy_sim (hH : HRel B w0 φ H w) (hT : TRel φ T a.tmps) (hG : GRel G φ) {esz : Nat} {d' s' : Opd} {o : Oper} (hc : chkEff P G (.copy esz d' s') o.op = true) {v : AV}
    (h : copyA esz (ev T d') (ev T s') H = some (v, H')) : Done P B w0 φ H' v (execOp a.eval o) w := by
  simp only [chkEff] at hc
  split at hc
  · rename_i args ts hop
    split at hc
    · rename_i d s dt st ha ht
      have ha := args2 ha
      have ht := args2 ht
      subst ha; subst ht
      simp only [Bool.and_eq_true] at hc
      obtain ⟨⟨h1, h2⟩, h4⟩ := hc
      split at h4
      · rename_i e he
        have hu := slElem_eq he
        simp only [decide_eq_true_eq] at h4
        have hd := opd_rel h1 hT hG
        have hs := opd_rel h2 hT hG
        obtain ⟨cs0, hex⟩ := exec_builtin (P := P) (a := a) hop w
        have hex : (execOp a.eval o).run P w = (do pure (.value (← Builtin.copy_ #[dt, st] o.type #[a.eval d, a.eval s])) : Sem Next).run P w := by rw [hex]; simp only [List.map_toArray, List.map_cons, List.map_nil]; rfl
        unfold copyA at h
        split at h
        · rename_i len cap e' hb
          rw [hb] at hd
          simp only [Option.bind_eq_some_iff] at h
          obtain ⟨n, hn, new, hnew, h⟩ := h
          obtain ⟨vs, f1, f2, f3⟩ := firstCells_sim (P := P) hH hs hnew hn (Nat.min_le_left _ _)
          obtain ⟨q1, q2, q3⟩ := slice_none hd
          subst q1
          simp only [Option.some.injEq, Prod.mk.injEq] at h
          obtain ⟨rfl, rfl⟩ := h
          refine Done.of_val hex (cv := goInt (min n 0 : Nat)) (w' := w) ?_ (Ext.refl _) hH rfl
          rw [q3]
          have f1w := f1 w rfl
          rw [Nat.min_zero] at f1w
          simp [Builtin.copy_, run_underlying hu, f3, run_szOf h4, f1w]
        · rename_i b o' len cap e' hb
          rw [hb] at hd
          simp only [Option.bind_eq_some_iff] at h
          obtain ⟨n, hn, new, hnew, h⟩ := h
          obtain ⟨vs, f1, f2, f3⟩ := firstCells_sim (P := P) hH hs hnew hn (Nat.min_le_left _ _)
          have hmin : Nat.min n len = min n len := rfl
          split at h
          · rename_i hee
            subst hee
            obtain ⟨q1, q2, cb, sh, cs, z, c', q3, q4, q5, q6⟩ := slice_of hd
            simp only [Option.map_eq_some_iff] at h
            obtain ⟨H1, hH1, h⟩ := h
            simp only [Prod.mk.injEq] at h
            obtain ⟨rfl, rfl⟩ := h
            have hnl := sliceCells_length hnew hn (Nat.min_le_left _ _) hs
            obtain ⟨w', r1, r2⟩ := stn_sim (P := P) hH hH1 f2 q3 (z := z) (by
              intro hne
              have hlen : (min n len) * e' ≠ 0 := by rw [← hnl]; intro h0; exact hne (List.eq_nil_of_length_eq_zero h0)
              have : min n len ≠ 0 := by intro h0; rw [h0] at hlen; simp at hlen
              exact (q6 (by omega)).1)
            refine Done.of_val hex (cv := goInt (min n len : Nat)) (w' := w') ?_ (Ext.refl _) r2 rfl
            rw [q5]
            simp [Builtin.copy_, run_underlying hu, f3, run_szOf h4, hmin, f1 w rfl, r1]
          · cases h
        · cases h
      · cases h4
    · cases hc
  · cases hc

theorem clear_sim (hH : HRel B w0 φ H w) (hT : TRel φ T a.tmps) (hG : GRel G φ) {esz : Nat} {z : List SV} {x' : Opd} {o : Oper} (hc : chkEff P G (.clear esz z x') o.op = true)
    (h : clearA esz z (ev T x') H = some H') : ∃ w', ((execOp a.eval o).run P w = .ok (.value Go.undef) w') ∧ HRel B w0 φ H' w' := by
  simp only [chkEff] at hc
  split at hc
  · rename_i args ts hop
    split at hc
    · rename_i x t ha ht
      have ha := args1 ha
      have ht := args1 ht
      subst ha; subst ht
      simp only [Bool.and_eq_true] at hc
      obtain ⟨h1, h4⟩ := hc
      split at h4
      · rename_i e he
        have hu := slElem_eq he
        simp only [Bool.and_eq_true, decide_eq_true_eq] at h4
        have hx := opd_rel h1 hT hG
        obtain ⟨cs0, hex⟩ := exec_builtin (P := P) (a := a) hop w
        have hex : (execOp a.eval o).run P w = (do pure (.value (← Builtin.clear_ #[t] o.type #[a.eval x])) : Sem Next).run P w := by rw [hex]; simp only [List.map_toArray, List.map_cons, List.map_nil]; rfl
        unfold clearA at h
        split at h
        · rename_i l c e' hb
          rw [hb] at hx
          obtain ⟨q1, q2, q3⟩ := slice_none hx
          simp only [Option.some.injEq] at h
          subst h
          refine ⟨w, ?_, hH⟩
          rw [hex, q3]
          simp [Builtin.clear_, run_underlying hu, Go.undef]
        · rename_i b o' n c e' hb
          rw [hb] at hx
          obtain ⟨q1, q2, cb, sh, cs, y, c', q3, q4, q5, q6⟩ := slice_of hx
          split at h
          · rename_i hn
            subst hn
            simp only [Option.some.injEq] at h
            subst h
            refine ⟨w, ?_, hH⟩
            rw [hex, q5]
            simp [Builtin.clear_, run_underlying hu, Go.undef]
          · rename_i hn
            split at h
            · rename_i hee
              obtain ⟨rfl, hzl⟩ := hee
              obtain ⟨zv, hz1, hz2⟩ := run_zero h4.2 (P := P) w (φ := φ)
              have hrep := rep_rel hz2 n
              obtain ⟨hy, _⟩ := q6 (by omega)
              subst hy
              obtain ⟨w', r1, r2⟩ := stn_sim (P := P) hH h hrep q3 (z := ⟨cb, sh + o', none⟩) (fun _ => rfl)
              refine ⟨w', ?_, r2⟩
              rw [hex, q5]
              have r1' : (storeCells ⟨cb, sh + o', none⟩ (Builtin.zeroCells zv.cells n).toList).run P w = .ok () w' := r1
              cases n with
              | zero => exact absurd rfl hn
              | succ n =>
                simp [Builtin.clear_, run_underlying hu, Go.undef, hz1, r1']
            · cases h
        · cases h
      · cases h4
    · cases hc
  · cases hc

/-- What a call of a function leaves, for all that stands for its arguments. -/
def CallsOk (P : Program) (G : List Nat) (B : Nat) (w0 : World) (rec : Nat → List AV → AH → Option (AV × AH)) : Prop :=
  ∀ f args H v H', rec f args H = some (v, H') → ∀ (φ : Phi) (w : World) (cargs : Array Value), HRel B w0 φ H w → GRel G φ → R2 (AVRel φ) args cargs.toList →
    (∃ fn, P.funcs[f]? = some fn ∧ fn.body.isNone = false ∧ (fn.name == "runtime.NumGoroutine") = false) ∧
    Calls P f cargs w fun e w' => ∃ φ' cv, e = .returned cv ∧ Ext φ φ' ∧ HRel B w0 φ' H' w' ∧ AVRel φ' v cv

def chkOp (P : Program) (G : List Nat) (r : ROp) (op : Op) : Bool :=
  match r.kind with
  | .pure => chkPure P G r op
  | .load => chkPure P G r op
  | .alloc => chkAlloc P G r op
  | .eff => chkEff P G r op

theorem call_fn (f : Nat) (cargs : Array Value) (w : World) {fn : Func} (h1 : P.funcs[f]? = some fn) (h2 : fn.body.isNone = false) (h3 : (fn.name == "runtime.NumGoroutine") = false) :
    (callFunc f cargs).run P w = .ok (.enter f cargs) w := by
  simp only [callFunc, Sem.run_bind, run_program, Result.andThen_ok, h1, h3, Bool.false_eq_true, if_false, h2, Sem.run_pure]

/- ---- maps ---- -/

abbrev EntRel (φ : Phi) (p : SV × Part) (q : MapEntry) : Prop := SVRel φ p.1 q.key ∧ PartRel φ p.2 q.val

theorem HRel.setMap (h : HRel B w0 φ H w) {b : Nat} {es es' : List (SV × Part)} (hb : H.blk b = some (.map es)) {cb sh cs : Nat} (hφ : φ b = some (cb, sh, cs)) {ces' : Array MapEntry} {clk' : Nat} (hr : R2 (EntRel φ) es' ces'.toList) :
    HRel B w0 φ (H.set b (.map es')) { w with heap := w.heap.setIfInBounds cb (.map ces' clk') } := by
  obtain ⟨cb0, sh0, cs0, ces, clk, g1, g2, g3, g4⟩ := h.maps b es hb
  rw [hφ] at g1
  cases g1
  have hsz := (Array.getElem?_eq_some_iff.1 g2).1
  have hget : ∀ x, x ≠ cb → (w.heap.setIfInBounds cb (.map ces' clk'))[x]? = w.heap[x]? := fun x hx => by
    rw [Array.getElem?_setIfInBounds, if_neg (fun e => hx e.symm)]
  have hself : (w.heap.setIfInBounds cb (.map ces' clk'))[cb]? = some (.map ces' clk') := by
    rw [Array.getElem?_setIfInBounds, if_pos rfl, if_pos hsz]
  refine { dom := ?_, lt := ?_, cells := ?_, maps := ?_, inj := ?_, old := ?_, bound := ?_, os := h.os, out := h.out, nf := ?_ }
  · intro b' hb'
    simp only [AH.set, upd] at hb'
    split at hb'
    · cases hb'
    · exact h.dom b' hb'
  · intro b' hb'
    simp only [AH.set, upd] at hb' ⊢
    rw [if_neg (fun hc => by subst hc; rw [h.lt _ hb'] at hb; cases hb)]
    exact h.lt b' hb'
  · intro b' ro l hb'
    simp only [AH.set, upd] at hb'
    split at hb'
    · cases hb'
    · obtain ⟨cb', sh', cs', c, e, fr, k1, k2, k3⟩ := h.cells b' ro l hb'
      refine ⟨cb', sh', cs', c, e, fr, k1, ?_, k3⟩
      show (w.heap.setIfInBounds cb _)[cb']? = _
      rw [hget _ (fun e => by subst e; rw [g2] at k2; cases k2)]
      exact k2
  · intro b' es2 hb'
    simp only [AH.set, upd] at hb'
    split at hb'
    · rename_i e
      subst e
      cases hb'
      exact ⟨cb, sh, cs, ces', clk', hφ, hself, hr, g4⟩
    · rename_i hne
      obtain ⟨cb', sh', cs', ces2, clk2, k1, k2, k3, k4⟩ := h.maps b' es2 hb'
      refine ⟨cb', sh', cs', ces2, clk2, k1, ?_, k3, k4⟩
      show (w.heap.setIfInBounds cb _)[cb']? = _
      rw [hget _ (fun e => by
        subst e
        rcases h.inj b' b _ _ k1 hφ (by rw [hb']; simp) (by rw [hb]; simp) rfl with e | ⟨_, _, e, _⟩
        · exact hne e
        · rw [hb'] at e; cases e)]
      exact k2
  · intro b1 b2 x1 x2 h1 h2 d1 d2 hx
    simp only [AH.set, upd] at d1 d2 ⊢
    have o1 : H.blk b1 ≠ some .dead := by
      by_cases e : b1 = b
      · subst e; rw [hb]; simp
      · rw [if_neg e] at d1; exact d1
    have o2 : H.blk b2 ≠ some .dead := by
      by_cases e : b2 = b
      · subst e; rw [hb]; simp
      · rw [if_neg e] at d2; exact d2
    rcases h.inj b1 b2 x1 x2 h1 h2 o1 o2 hx with e | ⟨l, l', e1, e2⟩
    · exact .inl e
    · refine .inr ⟨l, l', ?_, ?_⟩
      · rw [if_neg (fun e => by subst e; rw [hb] at e1; cases e1)]; exact e1
      · rw [if_neg (fun e => by subst e; rw [hb] at e2; cases e2)]; exact e2
  · intro c hc
    show (w.heap.setIfInBounds cb _)[c]? = _
    rw [hget _ (by omega)]
    exact h.old c hc
  · show B ≤ (w.heap.setIfInBounds cb _).size
    rw [Array.size_setIfInBounds]; exact h.bound
  · intro k c e fr hk hc
    have hc : (w.heap.setIfInBounds cb (.map ces' clk'))[k]? = some (.cells c e fr) := hc
    by_cases e1 : k = cb
    · subst e1; rw [hself] at hc; cases hc
    · rw [hget _ e1] at hc
      exact h.nf k c e fr hk hc

theorem HRel.newMap (h : HRel B w0 φ H w) {id : Nat} {H' : AH} (hn : H.new id (.map []) = some H') (hid : id < H.next) :
    ∃ φ', Ext φ φ' ∧ φ' id = some (w.heap.size, 0, 0) ∧ HRel B w0 φ' H' { w with heap := w.heap.push (.map #[] 0) } := by
  unfold AH.new at hn
  split at hn
  · rename_i hb
    cases hn
    have hφ := h.dom id hb
    have hext : Ext φ (fun b => if b = id then some (w.heap.size, 0, 0) else φ b) := by
      intro b x hx
      by_cases hbi : b = id
      · subst hbi; rw [hφ] at hx; cases hx
      · simp [hbi, hx]
    refine ⟨fun b => if b = id then some (w.heap.size, 0, 0) else φ b, hext, by simp, ?_⟩
    have hget : ∀ x, x < w.heap.size → (w.heap.push (Obj.map #[] 0))[x]? = w.heap[x]? := by
      intro x hx; rw [Array.getElem?_push]; rw [if_neg (by omega)]
    refine { dom := ?_, lt := ?_, cells := ?_, maps := ?_, inj := ?_, old := ?_, bound := ?_, os := h.os, out := h.out, nf := ?_ }
    · intro b' hb'
      simp only [AH.set, upd] at hb'
      split at hb'
      · cases hb'
      · rename_i hne; simp [hne, h.dom b' hb']
    · intro b' hb'
      simp only [AH.set, upd] at hb' ⊢
      rw [if_neg (by omega)]
      exact h.lt b' hb'
    · intro b' ro' l'' hb'
      simp only [AH.set, upd] at hb'
      split at hb'
      · cases hb'
      · rename_i hne
        obtain ⟨cb', sh', cs', c', e', fr', g1, g2, g3, g4, g5, g6⟩ := h.cells b' ro' l'' hb'
        have hlt := (Array.getElem?_eq_some_iff.1 g2).1
        refine ⟨cb', sh', cs', c', e', fr', by simp [hne, g1], (hget _ hlt).trans g2, g3, g4, ?_, g6⟩
        intro i x hx
        obtain ⟨v, hv, hrv⟩ := g5 i x hx
        exact ⟨v, hv, hrv.mono hext⟩
    · intro b' es hb'
      simp only [AH.set, upd] at hb'
      split at hb'
      · rename_i heq
        cases hb'
        refine ⟨w.heap.size, 0, 0, #[], 0, by simp [heq], ?_, trivial, h.bound⟩
        show (w.heap.push (Obj.map #[] 0))[w.heap.size]? = _
        simp
      · rename_i hne
        obtain ⟨cb', sh', cs', ces, clk, g1, g2, g3, g4⟩ := h.maps b' es hb'
        have hlt := (Array.getElem?_eq_some_iff.1 g2).1
        exact ⟨cb', sh', cs', ces, clk, by simp [hne, g1], (hget _ hlt).trans g2, R2.mono (fun _ _ hp => ⟨hp.1.mono hext, hp.2.mono hext⟩) g3, g4⟩
    · intro b1 b2 x1 x2 hx1 hx2 hd1 hd2 hxe
      by_cases e1 : b1 = id
      · by_cases e2 : b2 = id
        · exact .inl (e1.trans e2.symm)
        · simp only [e1, e2, if_true, if_false] at hx1 hx2
          cases hx1
          have := h.lt_size hx2 (by intro hd; apply hd2; simp only [AH.set, upd]; rw [if_neg e2]; exact hd)
          simp only at hxe; omega
      · by_cases e2 : b2 = id
        · simp only [e1, e2, if_true, if_false] at hx1 hx2
          cases hx2
          have := h.lt_size hx1 (by intro hd; apply hd1; simp only [AH.set, upd]; rw [if_neg e1]; exact hd)
          simp only at hxe; omega
        · simp only [e1, e2, if_false] at hx1 hx2
          have l1 : H.blk b1 ≠ some .dead := by intro hd; apply hd1; simp only [AH.set, upd]; rw [if_neg e1]; exact hd
          have l2 : H.blk b2 ≠ some .dead := by intro hd; apply hd2; simp only [AH.set, upd]; rw [if_neg e2]; exact hd
          rcases h.inj b1 b2 x1 x2 hx1 hx2 l1 l2 hxe with heq | ⟨m1, m2, k1, k2⟩
          · exact .inl heq
          · exact .inr ⟨m1, m2, by simp only [AH.set, upd]; rw [if_neg e1]; exact k1, by simp only [AH.set, upd]; rw [if_neg e2]; exact k2⟩
    · intro c' hc'
      exact (hget _ (by have := h.bound; omega)).trans (h.old c' hc')
    · show B ≤ (w.heap.push (Obj.map #[] 0)).size
      rw [Array.size_push]; have := h.bound; omega
    · intro k c' e' fr' hk hc'
      have hc' : (w.heap.push (Obj.map #[] 0))[k]? = some (.cells c' e' fr') := hc'
      by_cases hlt : k < w.heap.size
      · rw [hget k hlt] at hc'; exact h.nf k c' e' fr' hk hc'
      · rw [Array.getElem?_push] at hc'
        split at hc'
        · cases hc'
        · rw [Array.getElem?_eq_none (by omega)] at hc'; cases hc'
  · cases hn

theorem find_sim {kd k : IntKind} {n : Int} : ∀ {es : List (SV × Part)} {ces : List MapEntry} {i : Nat} {x : Option (Nat × Part)}, R2 (EntRel φ) es ces → findK k n es i = some x →
    (x = none → Instr.findNow (.int kd) (.int k n) ces i = some none) ∧ (∀ j p, x = some (j, p) → i ≤ j ∧ ∃ q : MapEntry, ces[j - i]? = some q ∧ Instr.findNow (.int kd) (.int k n) ces i = some (some (j, q.val)) ∧ q.key = .int k n ∧ PartRel φ p q.val)
  | [], [], i, x, _, h => by
    simp only [findK, Option.some.injEq] at h
    subst h
    exact ⟨fun _ => rfl, fun j p hp => by cases hp⟩
  | (y, p) :: es, q :: ces, i, x, hr, h => by
    obtain ⟨⟨r1, r2⟩, r3⟩ := hr
    cases y with
    | int k' n' =>
      have hk : q.key = .int k' n' := r1
      simp only [findK] at h
      split at h
      · rename_i e1
        subst e1
        split at h
        · rename_i e2
          subst e2
          simp only [Option.some.injEq] at h
          subst h
          refine ⟨fun h => (by cases h), fun j p' hp => ?_⟩
          cases hp
          refine ⟨Nat.le_refl _, q, by simp, ?_, hk, r2⟩
          simp only [Instr.findNow, hk, Instr.sameNow, if_true]
          simp
        · rename_i e2
          obtain ⟨i1, i2⟩ := find_sim (kd := kd) r3 h
          have e : Instr.findNow (.int kd) (.int k n) (q :: ces) i = Instr.findNow (.int kd) (.int k n) ces (i + 1) := by
            have hne : (n == n') = false := by simpa using e2
            simp only [Instr.findNow, hk, Instr.sameNow, if_true, hne]
          refine ⟨fun hx => by rw [e]; exact i1 hx, fun j p' hp => ?_⟩
          obtain ⟨h1, q', h2, h3, h4⟩ := i2 j p' hp
          refine ⟨by omega, q', ?_, by rw [e]; exact h3, h4⟩
          rw [show j - i = (j - (i + 1)) + 1 by omega]
          exact h2
      · cases h
    | _ => simp [findK] at h
  | [], _ :: _, _, _, hr, _ => hr.elim
  | _ :: _, [], _, _, hr, _ => hr.elim

theorem R2.set {α β : Type} {R : α → β → Prop} : ∀ {as : List α} {bs : List β} (i : Nat) {x : α} {y : β}, R2 R as bs → R x y → R2 R (as.set i x) (bs.set i y)
  | [], [], _, _, _, _, _ => trivial
  | _ :: _, _ :: _, 0, _, _, h, hx => ⟨hx, h.2⟩
  | _ :: _, _ :: _, i + 1, _, _, h, hx => ⟨h.1, R2.set i h.2 hx⟩
  | [], _ :: _, _, _, _, h, _ => h.elim
  | _ :: _, [], _, _, _, h, _ => h.elim

theorem R2.erase {α β : Type} {R : α → β → Prop} : ∀ {as : List α} {bs : List β} (i : Nat), R2 R as bs → R2 R (as.eraseIdx i) (bs.eraseIdx i)
  | [], [], _, _ => trivial
  | _ :: _, _ :: _, 0, h => h.2
  | _ :: _, _ :: _, i + 1, h => ⟨h.1, R2.erase i h.2⟩
  | [], _ :: _, _, h => h.elim
  | _ :: _, [], _, h => h.elim

theorem intMap_eq {t : TypeId} (h : intMap P t = true) : ∃ kt et kd, P.underlying t = some (.map kt et) ∧ P.underlying kt = some (.int kd) := by
  unfold intMap at h
  split at h
  · rename_i kt et hm
    split at h
    · rename_i kd hk; exact ⟨kt, et, kd, hm, hk⟩
    · cases h
  · cases h

theorem run_checkKey1 {kt : TypeId} {kd : IntKind} (h : P.underlying kt = some (.int kd)) (b : Bool) (d : Nat) (k : IntKind) (n : Int) (w : World) : (Instr.checkKey b (d + 1) kt (.int k n)).run P w = .ok () w := by
  simp only [Instr.checkKey, Sem.run_bind, run_underlying h, Result.andThen_ok]
  rfl

theorem run_checkKey {kt : TypeId} {kd : IntKind} (h : P.underlying kt = some (.int kd)) (b : Bool) (k : IntKind) (n : Int) (w : World) : (Instr.checkKey b 10000 kt (.int k n)).run P w = .ok () w := by
  exact run_checkKey1 h b 9999 k n w

theorem run_findKey {kt : TypeId} {kd : IntKind} (h : P.underlying kt = some (.int kd)) (k : IntKind) (n : Int) {ces : List MapEntry} {r : Option (Nat × Value)} (hr : Instr.findNow (.int kd) (.int k n) ces 0 = some r) (w : World) : (Instr.findKey kt (.int k n) ces).run P w = .ok r w := by
  simp [Instr.findKey, run_underlying h, hr]

theorem part_av {p : Part} {q : Value} (h : PartRel φ p q) : AVRel φ p.av q := by
  cases p <;> exact h

theorem av_part {x : AV} {p : Part} (hp : x.part? = some p) {q : Value} (h : AVRel φ x q) : PartRel φ p q := by
  cases x <;> simp only [AV.part?, Option.some.injEq, reduceCtorEq] at hp <;> subst hp <;> exact h

theorem run_getMap {r : Nat} {ces : Array MapEntry} {clk : Nat} (h : w.heap[r]? = some (.map ces clk)) : (getObj r).run P w = .ok (.map ces clk) w := by
  simp [getObj, Sem.run, h]

theorem run_setMap {r : Nat} {ces : Array MapEntry} {clk : Nat} (h : w.heap[r]? = some (.map ces clk)) (o : Obj) : (setObj r o).run P w = .ok () { w with heap := w.heap.setIfInBounds r o } := by
  simp [setObj, Sem.run, h]

theorem hop_sim (hH : HRel B w0 φ H w) (hT : TRel φ T a.tmps) (hG : GRel G φ) {g : HOp} {args : List Opd} {o : Oper} (hc : chkHop P G g args o.op = true) {id : Nat} (hid : id < H.next) {v : AV} (h : hopA g id (args.map (ev T)) H = some (v, H')) : Done P B w0 φ H' v (execOp a.eval o) w := by
  cases g with
  | makeMap =>
    simp only [chkHop] at hc
    split at hc
    · rename_i t hop
      simp only [List.map_nil, hopA, Option.map_eq_some_iff, Prod.mk.injEq] at h
      obtain ⟨H1, h1, rfl, rfl⟩ := h
      obtain ⟨φ', e1, e2, e3⟩ := hH.newMap h1 hid
      refine ⟨.map (some w.heap.size), _, φ', .inl ?_, e1, e3, ⟨_, _, _, e2, rfl⟩⟩
      simp only [execOp, hop, Option.map_none, Instr.makeMap]
      simp [newObj, Sem.run]
    · cases hc
  | lookup ok =>
    simp only [chkHop] at hc
    split at hc
    · rename_i t m k ok' m' k' hop
      simp only [Bool.and_eq_true, beq_iff_eq] at hc
      obtain ⟨⟨⟨c1, c2⟩, c3⟩, c4⟩ := hc
      subst c1
      obtain ⟨kt, et, kd, u1, u2⟩ := intMap_eq c4
      have hm := opd_rel c2 hT hG
      have hk := opd_rel c3 hT hG
      simp only [List.map_cons, List.map_nil] at h
      generalize ev T m' = x at *
      generalize ev T k' = y at *
      unfold hopA at h
      split at h <;> (rename_i e1 e2; simp only [HOp.lookup.injEq, reduceCtorEq, List.cons.injEq, and_true] at e1 e2)
      · obtain ⟨rfl, rfl⟩ := e2
        subst e1
        split at h
        · rename_i es hb
          split at h
          · rename_i i p hf
            simp only [Option.some.injEq, Prod.mk.injEq] at h
            obtain ⟨rfl, rfl⟩ := h
            obtain ⟨cb, sh, cs, ces, clk, g1, g2, g3, g4⟩ := hH.maps _ es hb
            obtain ⟨cb', sh', cs', k1, k2⟩ := hm
            rw [g1] at k1
            cases k1
            have hk : a.eval k = .int _ _ := hk
            obtain ⟨_, q, f1, f2, f3, f4⟩ := (find_sim (kd := kd) g3 hf).2 _ _ rfl
            have hrun := run_findKey (P := P) u2 _ _ f2 w
            refine ⟨if ok then .tuple #[q.val, .bool true] else q.val, w, φ, .inl ?_, Ext.refl _, hH, ?_⟩
            · simp only [execOp, hop, k2, hk, Instr.lookup, Sem.run_bind, run_underlying u1, Result.andThen_ok, run_getMap g2, Sem.run_pure, run_checkKey u2, hrun]
            · cases ok with
              | true => exact ⟨[q.val, .bool true], ⟨f4, rfl, trivial⟩, rfl⟩
              | false => exact part_av f4
          · cases h
        · cases h
      · cases h
    · cases hc
  | update =>
    simp only [chkHop] at hc
    split at hc
    · rename_i t m k v0 m' k' v' hop
      simp only [Bool.and_eq_true] at hc
      obtain ⟨⟨⟨c2, c3⟩, c5⟩, c4⟩ := hc
      obtain ⟨kt, et, kd, u1, u2⟩ := intMap_eq c4
      have hm := opd_rel c2 hT hG
      have hk := opd_rel c3 hT hG
      have hv := opd_rel c5 hT hG
      simp only [List.map_cons, List.map_nil] at h
      generalize ev T m' = x at *
      generalize ev T k' = y at *
      generalize ev T v' = z at *
      unfold hopA at h
      split at h <;> (rename_i e1 e2; simp only [reduceCtorEq, List.cons.injEq, and_true] at e1 e2)
      · rename_i rr kk nn zz _
        obtain ⟨rfl, rfl, rfl⟩ := e2
        split at h
        · rename_i es p hb hp
          obtain ⟨cb, sh, cs, ces, clk, g1, g2, g3, g4⟩ := hH.maps _ es hb
          obtain ⟨cb', sh', cs', k1, k2⟩ := hm
          rw [g1] at k1
          cases k1
          have hk : a.eval k = .int _ _ := hk
          have hpv := av_part hp hv
          split at h
          · rename_i i p0 hf
            simp only [Option.some.injEq, Prod.mk.injEq] at h
            obtain ⟨rfl, rfl⟩ := h
            obtain ⟨_, q, f1, f2, f3, f4⟩ := (find_sim (kd := kd) g3 hf).2 _ _ rfl
            have hrun := run_findKey (P := P) u2 _ _ f2 w
            simp only [Nat.sub_zero] at f1
            have fa : ces[i]? = some q := by rw [← Array.getElem?_toList]; exact f1
            refine ⟨Go.undef, _, φ, .inr ⟨?_, rfl⟩, Ext.refl _, hH.setMap (ces' := ces.modify i fun e => { e with key := a.eval k, val := a.eval v0 }) (clk' := clk) hb g1 ?_, AVRel_undef _⟩
            · simp only [execOp, hop, k2, hk, Instr.mapUpdate, Sem.run_bind, run_underlying u1, Result.andThen_ok, run_getMap g2, run_checkKey u2, hrun, fa, Option.map_some, Option.getD_some, f3]
              simp [Instr.keyThatStays, Instr.sameBits, run_setMap g2]
            · have : (ces.modify i fun e => { e with key := a.eval k, val := a.eval v0 }).toList = ces.toList.set i { q with key := a.eval k, val := a.eval v0 } := by
                rw [Array.toList_modify]
                apply List.ext_getElem?
                intro j
                rw [List.getElem?_modify, List.getElem?_set]
                by_cases e : i = j
                · subst e
                  rw [if_pos rfl, if_pos (List.getElem?_eq_some_iff.1 f1).1, f1]
                  simp
                · rw [if_neg e]
                  simp [e]
              rw [this]
              exact R2.set i g3 ⟨hk, hpv⟩
          · rename_i hf
            simp only [Option.some.injEq, Prod.mk.injEq] at h
            obtain ⟨rfl, rfl⟩ := h
            have f2 := (find_sim (kd := kd) g3 hf).1 rfl
            have hrun := run_findKey (P := P) u2 _ _ f2 w
            refine ⟨Go.undef, _, φ, .inr ⟨?_, rfl⟩, Ext.refl _, hH.setMap (ces' := ces.push { key := a.eval k, val := a.eval v0, born := clk }) (clk' := clk + 1) hb g1 ?_, AVRel_undef _⟩
            · simp only [execOp, hop, k2, hk, Instr.mapUpdate, Sem.run_bind, run_underlying u1, Result.andThen_ok, run_getMap g2, run_checkKey u2, hrun, run_setMap g2, Sem.run_pure]
            · rw [Array.toList_push]
              exact R2.append g3 ⟨⟨hk, hpv⟩, trivial⟩
          · cases h
        · cases h
      · cases h
    · cases hc
  | delete =>
    simp only [chkHop] at hc
    split at hc
    · rename_i as ts m' k' hop
      split at hc
      · rename_i m k t t2 has hts
        have has := args2 has
        have hts := args2 hts
        subst has; subst hts
        simp only [Bool.and_eq_true] at hc
        obtain ⟨⟨c2, c3⟩, c4⟩ := hc
        obtain ⟨kt, et, kd, u1, u2⟩ := intMap_eq c4
        have hm := opd_rel c2 hT hG
        have hk := opd_rel c3 hT hG
        simp only [List.map_cons, List.map_nil] at h
        generalize ev T m' = x at *
        generalize ev T k' = y at *
        obtain ⟨cs0, hex⟩ := exec_builtin (P := P) (a := a) hop w
        have hex : (execOp a.eval o).run P w = (do pure (.value (← Builtin.delete_ #[t, t2] o.type #[a.eval m, a.eval k])) : Sem Next).run P w := by rw [hex]; simp only [List.map_toArray, List.map_cons, List.map_nil]; rfl
        unfold hopA at h
        split at h <;> (rename_i e1 e2; simp only [reduceCtorEq, List.cons.injEq, and_true] at e1 e2)
        · obtain ⟨rfl, rfl⟩ := e2
          split at h
          · rename_i es hb
            obtain ⟨cb, sh, cs, ces, clk, g1, g2, g3, g4⟩ := hH.maps _ es hb
            obtain ⟨cb', sh', cs', k1, k2⟩ := hm
            rw [g1] at k1
            cases k1
            have hk : a.eval k = .int _ _ := hk
            split at h
            · rename_i i p0 hf
              simp only [Option.some.injEq, Prod.mk.injEq] at h
              obtain ⟨rfl, rfl⟩ := h
              obtain ⟨_, q, f1, f2, f3, f4⟩ := (find_sim (kd := kd) g3 hf).2 _ _ rfl
              have hrun := run_findKey (P := P) u2 _ _ f2 w
              refine ⟨Go.undef, _, φ, .inl ?_, Ext.refl _, hH.setMap (ces' := ces.eraseIdxIfInBounds i) (clk' := clk) hb g1 ?_, AVRel_undef _⟩
              · rw [hex, k2, hk]
                simp [Builtin.delete_, run_underlying u1, run_getMap g2, run_checkKey u2, hrun, run_setMap g2, Go.undef]
              · rw [Array.toList_eraseIdxIfInBounds]
                exact R2.erase i g3
            · rename_i hf
              simp only [Option.some.injEq, Prod.mk.injEq] at h
              obtain ⟨rfl, rfl⟩ := h
              have f2 := (find_sim (kd := kd) g3 hf).1 rfl
              have hrun := run_findKey (P := P) u2 _ _ f2 w
              refine ⟨Go.undef, _, φ, .inl ?_, Ext.refl _, hH.setMap (ces' := ces) (clk' := clk) hb g1 g3, AVRel_undef _⟩
              rw [hex, k2, hk]
              simp [Builtin.delete_, run_underlying u1, run_getMap g2, run_checkKey u2, hrun, run_setMap g2, Go.undef]
            · cases h
          · cases h
        · cases h
      · cases hc
    · cases hc
  | slArr len esz =>
    simp only [chkHop] at hc
    split at hc
    · rename_i t x x' hop
      split at hc
      · rename_i n e he
        simp only [Bool.and_eq_true, beq_iff_eq, decide_eq_true_eq] at hc
        obtain ⟨⟨c1, c2⟩, c3⟩ := hc
        subst c1
        have hu := arrElem_eq he
        have hx := opd_rel c3 hT hG
        simp only [List.map_cons, List.map_nil] at h
        generalize ev T x' = y at *
        unfold hopA at h
        split at h <;> (rename_i e1 e2; simp only [HOp.slArr.injEq, reduceCtorEq, List.cons.injEq, and_true] at e1 e2)
        · obtain ⟨rfl, rfl⟩ := e1
          subst e2
          split at h
          · rename_i ro l hb
            split at h
            · rename_i hle
              simp only [Option.some.injEq, Prod.mk.injEq] at h
              obtain ⟨rfl, rfl⟩ := h
              obtain ⟨cb, sh, cs, c, et, fr, g1, g2, g3, g4, _⟩ := hH.cells _ ro l hb
              obtain ⟨cb', sh', cs', k1, k2⟩ := ptr_of hx
              rw [g1] at k1
              cases k1
              obtain ⟨h0, h1⟩ := hle
              refine ⟨.slice (some ⟨cb, sh + _, none⟩) _ _, w, φ, .inl ?_, Ext.refl _, hH, ⟨h0, Nat.le_refl _, cb, sh, cs, _, _, g1, Nat.le_refl _, rfl, fun _ => ⟨rfl, by omega⟩⟩⟩
              simp only [execOp, hop, Option.map_none, Instr.sliceAt, Sem.run_bind, run_underlying hu, Result.andThen_ok, k2, Instr.sureAddr, Sem.run_pure, Instr.sliceBounds, run_szOf c2]
              simp [Addr.add]
            · cases h
          · cases h
        · cases h
      · cases hc
    · cases hc

/-- An operation of the abstract machine, and the model's. -/
theorem op_sim {rec : Nat → List AV → AH → Option (AV × AH)} (hrec : CallsOk P G B w0 rec) (hH : HRel B w0 φ H w) (hT : TRel φ T a.tmps) (hG : GRel G φ) {r : ROp} {o : Oper} (hc : chkOp P G r o.op = true) {id : Nat} (hid : id < H.next) {v : AV}
    (h : opA rec (ev T) id H r = some (v, H')) {K : Act → World → Prop} {Q : Exit → Act → World → Prop}
    (hK : ∀ φ' cv w', Ext φ φ' → HRel B w0 φ' H' w' → AVRel φ' v cv → K (a.put o.dst cv) w') : o.wp P a w K Q := by
  have fin : Done P B w0 φ H' v (execOp a.eval o) w → o.wp P a w K Q := by
    rintro ⟨cv, w', φ', hr, h1, h2, h3⟩
    unfold Oper.wp
    rcases hr with hr | ⟨hr, hu⟩
    · rw [hr]; exact hK φ' cv w' h1 h2 h3
    · rw [hr]; subst hu; exact hK φ' _ w' h1 h2 h3
  have pureFin : H' = H → PureDone P φ (execOp a.eval o) w v → o.wp P a w K Q := by
    rintro rfl ⟨cv, h1, h2⟩
    exact fin ⟨cv, w, φ, .inl h1, Ext.refl _, hH, h2⟩
  unfold chkOp at hc
  unfold opA at h
  split at h
  · rename_i hk
    rw [hk] at hc
    simp only [Option.map_eq_some_iff, Prod.mk.injEq] at h
    obtain ⟨v', hv, rfl, rfl⟩ := h
    exact pureFin rfl (pure_sim hT hG hc hv)
  · rename_i hk
    rw [hk] at hc
    simp only [Option.map_eq_some_iff, Prod.mk.injEq] at h
    obtain ⟨v', hv, rfl, rfl⟩ := h
    exact pureFin rfl (load_sim hH hT hG hc hv)
  · rename_i hk
    rw [hk] at hc
    simp only [Option.bind_eq_some_iff, Option.map_eq_some_iff, Prod.mk.injEq] at h
    obtain ⟨⟨l, v'⟩, hv, H1, hn, rfl, rfl⟩ := h
    exact fin (alloc_sim hH hT hG hc hid hv hn)
  · rename_i hk
    rw [hk] at hc
    cases r with
    | store n b u =>
      simp only [effO, Option.map_eq_some_iff, Prod.mk.injEq] at h
      obtain ⟨H1, h1, rfl, rfl⟩ := h
      exact fin (store_sim hH hT hG hc h1)
    | append esz bytes s x => exact fin (append_sim hH hT hG hid hc h)
    | copy esz d s => exact fin (copy_sim hH hT hG hc h)
    | clear esz z x =>
      simp only [effO, Option.map_eq_some_iff, Prod.mk.injEq] at h
      obtain ⟨H1, h1, rfl, rfl⟩ := h
      obtain ⟨w', h2, h3⟩ := clear_sim hH hT hG hc h1
      exact fin ⟨_, w', φ, .inl h2, Ext.refl _, h3, AVRel_undef _⟩
    | call f args =>
      simp only [effO] at h
      simp only [chkEff] at hc
      split at hc
      · rename_i g as ts hop
        simp only [Bool.and_eq_true, beq_iff_eq] at hc
        obtain ⟨h1, h2⟩ := hc
        subst h1
        obtain ⟨⟨fn, c1, c2, c3⟩, hcall⟩ := hrec _ _ _ _ _ h φ w (as.map a.eval) hH hG (by simpa using opds_rel hT hG h2)
        have hrun : (execOp a.eval o).run P w = .ok (.enter f (as.map a.eval)) w := by
          simp only [execOp, hop, resolve, Act.eval, Deferred.ofValue, Sem.run_bind, Sem.run_pure, Result.andThen_ok, invoke]
          simp [call_fn f _ w c1 c2 c3]
        unfold Oper.wp
        rw [hrun]
        show Calls P f (as.map a.eval) w _
        refine hcall.mono ?_
        rintro e w' ⟨φ', cv, rfl, e1, e2, e3⟩
        exact hK φ' cv w' e1 e2 e3
      · cases hc
    | callv x args =>
      simp only [effO] at h
      split at h
      · rename_i f caps hx
        simp only [chkEff] at hc
        split at hc
        · rename_i y as ts hop
          simp only [Bool.and_eq_true] at hc
          obtain ⟨h1, h2⟩ := hc
          have hy := opd_rel h1 hT hG
          rw [hx] at hy
          obtain ⟨xs, x1, x2⟩ := hy
          obtain ⟨⟨fn, c1, c2, c3⟩, hcall⟩ := hrec _ _ _ _ _ h φ w (as.map a.eval ++ (xs.map fun x => Value.pointer (some x)).toArray) hH hG (by
            simp only [Array.toList_append, Array.toList_map]
            exact R2.append (opds_rel hT hG h2) (R2.map (fun _ _ hp => ⟨_, hp, rfl⟩) x1))
          have hrun : (execOp a.eval o).run P w = .ok (.enter f (as.map a.eval ++ (xs.map fun x => Value.pointer (some x)).toArray)) w := by
            simp only [execOp, hop, resolve, x2, Deferred.ofValue, Sem.run_bind, Sem.run_pure, Result.andThen_ok, invoke, Array.empty_append]
            rw [call_fn f _ w c1 c2 c3]
          unfold Oper.wp
          rw [hrun]
          show Calls P f _ w _
          refine hcall.mono ?_
          rintro e w' ⟨φ', cv, rfl, e1, e2, e3⟩
          exact hK φ' cv w' e1 e2 e3
        · cases hc
      · rename_i f p hx
        simp only [chkEff] at hc
        split at hc
        · rename_i y as ts hop
          simp only [Bool.and_eq_true] at hc
          obtain ⟨h1, h2⟩ := hc
          have hy := opd_rel h1 hT hG
          rw [hx] at hy
          obtain ⟨z, x1, x2⟩ := hy
          obtain ⟨⟨fn, c1, c2, c3⟩, hcall⟩ := hrec _ _ _ _ _ h φ w (#[Value.pointer (some z)] ++ as.map a.eval) hH hG (by
            simp only [Array.toList_append, Array.toList_map]
            exact ⟨⟨_, x1, rfl⟩, opds_rel hT hG h2⟩)
          have hrun : (execOp a.eval o).run P w = .ok (.enter f (#[Value.pointer (some z)] ++ as.map a.eval)) w := by
            simp only [execOp, hop, resolve, x2, Deferred.ofValue, Sem.run_bind, Sem.run_pure, Result.andThen_ok, invoke, Array.append_empty]
            rw [call_fn f _ w c1 c2 c3]
          unfold Oper.wp
          rw [hrun]
          show Calls P f _ w _
          refine hcall.mono ?_
          rintro e w' ⟨φ', cv, rfl, e1, e2, e3⟩
          exact hK φ' cv w' e1 e2 e3
        · cases hc
      · cases h
    | hop g args => exact fin (hop_sim hH hT hG hc hid h)
    | _ => simp [effO] at h

end Go.AM
