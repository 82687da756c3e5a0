/-
  THE ABSTRACT MACHINE: each operation of it, whatever it does, stands for the model's.
-/
import Derived.Test.YtinlhpgfoojneaaAmF
namespace Go.AM

variable {P : Program} {G : List Nat} {φ : Phi} {T : List AV} {a : Act} {w : World} {B : Nat} {w0 : World} {H H' : AH}

theorem copy_sim (hH : HRel B w0 φ H w) (hT : TRel φ T a.tmps) (hG : GRel G φ) {esz : Nat} {d' s' : Opd} {o : Oper} (hc : chkEff P G (.copy esz d' s') o.op = true) {v : AV}
    (h : copyA esz (ev T d') (ev T s') H = some (v, H')) : Done P B w0 φ H' v (execOp a.eval o) w := by
  simp only [chkEff] at hc
  split at hc
  · rename_i args ts hop
    split at hc
    · rename_i d s dt st ha ht
      have ha := args2 ha
      have ht := args2 ht
      subst ha; subst ht
      simp only [Bool.and_eq_true] at hc
      obtain ⟨⟨h1, h2⟩, h4⟩ := hc
      split at h4
      · rename_i e he
        have hu := slElem_eq he
        simp only [decide_eq_true_eq] at h4
        have hd := opd_rel h1 hT hG
        have hs := opd_rel h2 hT hG
        obtain ⟨cs0, hex⟩ := exec_builtin (P := P) (a := a) hop w
        have hex : (execOp a.eval o).run P w = (do pure (.value (← Builtin.copy_ #[dt, st] o.type #[a.eval d, a.eval s])) : Sem Next).run P w := by rw [hex]; simp only [List.map_toArray, List.map_cons, List.map_nil]; rfl
        unfold copyA at h
        split at h
        · rename_i len cap e' hb
          rw [hb] at hd
          simp only [Option.bind_eq_some_iff] at h
          obtain ⟨n, hn, new, hnew, h⟩ := h
          obtain ⟨vs, f1, f2, f3⟩ := firstCells_sim (P := P) hH hs hnew hn (Nat.min_le_left _ _)
          obtain ⟨q1, q2, q3⟩ := slice_none hd
          subst q1
          simp only [Option.some.injEq, Prod.mk.injEq] at h
          obtain ⟨rfl, rfl⟩ := h
          refine Done.of_val hex (cv := goInt (min n 0 : Nat)) (w' := w) ?_ (Ext.refl _) hH rfl
          rw [q3]
          have f1w := f1 w rfl
          rw [Nat.min_zero] at f1w
          simp [Builtin.copy_, run_underlying hu, f3, run_szOf h4, f1w]
        · rename_i b o' len cap e' hb
          rw [hb] at hd
          simp only [Option.bind_eq_some_iff] at h
          obtain ⟨n, hn, new, hnew, h⟩ := h
          obtain ⟨vs, f1, f2, f3⟩ := firstCells_sim (P := P) hH hs hnew hn (Nat.min_le_left _ _)
          have hmin : Nat.min n len = min n len := rfl
          split at h
          · rename_i hee
            subst hee
            obtain ⟨q1, q2, cb, sh, cs, z, c', q3, q4, q5, q6⟩ := slice_of hd
            simp only [Option.map_eq_some_iff] at h
            obtain ⟨H1, hH1, h⟩ := h
            simp only [Prod.mk.injEq] at h
            obtain ⟨rfl, rfl⟩ := h
            have hnl := sliceCells_length hnew hn (Nat.min_le_left _ _) hs
            obtain ⟨w', r1, r2⟩ := stn_sim (P := P) hH hH1 f2 q3 (z := z) (by
              intro hne
              have hlen : (min n len) * e' ≠ 0 := by rw [← hnl]; intro h0; exact hne (List.eq_nil_of_length_eq_zero h0)
              have : min n len ≠ 0 := by intro h0; rw [h0] at hlen; simp at hlen
              exact (q6 (by omega)).1)
            refine Done.of_val hex (cv := goInt (min n len : Nat)) (w' := w') ?_ (Ext.refl _) r2 rfl
            rw [q5]
            simp [Builtin.copy_, run_underlying hu, f3, run_szOf h4, hmin, f1 w rfl, r1]
          · cases h
        · cases h
      · cases h4
    · cases hc
  · cases hc

theorem clear_sim (hH : HRel B w0 φ H w) (hT : TRel φ T a.tmps) (hG : GRel G φ) {esz : Nat} {z : List SV} {x' : Opd} {o : Oper} (hc : chkEff P G (.clear esz z x') o.op = true)
    (h : clearA esz z (ev T x') H = some H') : ∃ w', ((execOp a.eval o).run P w = .ok (.value Go.undef) w') ∧ HRel B w0 φ H' w' := by
  simp only [chkEff] at hc
  split at hc
  · rename_i args ts hop
    split at hc
    · rename_i x t ha ht
      have ha := args1 ha
      have ht := args1 ht
      subst ha; subst ht
      simp only [Bool.and_eq_true] at hc
      obtain ⟨h1, h4⟩ := hc
      split at h4
      · rename_i e he
        have hu := slElem_eq he
        simp only [Bool.and_eq_true, decide_eq_true_eq] at h4
        have hx := opd_rel h1 hT hG
        obtain ⟨cs0, hex⟩ := exec_builtin (P := P) (a := a) hop w
        have hex : (execOp a.eval o).run P w = (do pure (.value (← Builtin.clear_ #[t] o.type #[a.eval x])) : Sem Next).run P w := by rw [hex]; simp only [List.map_toArray, List.map_cons, List.map_nil]; rfl
        unfold clearA at h
        split at h
        · rename_i l c e' hb
          rw [hb] at hx
          obtain ⟨q1, q2, q3⟩ := slice_none hx
          simp only [Option.some.injEq] at h
          subst h
          refine ⟨w, ?_, hH⟩
          rw [hex, q3]
          simp [Builtin.clear_, run_underlying hu, Go.undef]
        · rename_i b o' n c e' hb
          rw [hb] at hx
          obtain ⟨q1, q2, cb, sh, cs, y, c', q3, q4, q5, q6⟩ := slice_of hx
          split at h
          · rename_i hn
            subst hn
            simp only [Option.some.injEq] at h
            subst h
            refine ⟨w, ?_, hH⟩
            rw [hex, q5]
            simp [Builtin.clear_, run_underlying hu, Go.undef]
          · rename_i hn
            split at h
            · rename_i hee
              obtain ⟨rfl, hzl⟩ := hee
              obtain ⟨zv, hz1, hz2⟩ := run_zero h4.2 (P := P) w (φ := φ)
              have hrep := rep_rel hz2 n
              obtain ⟨hy, _⟩ := q6 (by omega)
              subst hy
              obtain ⟨w', r1, r2⟩ := stn_sim (P := P) hH h hrep q3 (z := ⟨cb, sh + o', none⟩) (fun _ => rfl)
              refine ⟨w', ?_, r2⟩
              rw [hex, q5]
              have r1' : (storeCells ⟨cb, sh + o', none⟩ (Builtin.zeroCells zv.cells n).toList).run P w = .ok () w' := r1
              cases n with
              | zero => exact absurd rfl hn
              | succ n =>
                simp [Builtin.clear_, run_underlying hu, Go.undef, hz1, r1']
            · cases h
        · cases h
      · cases h4
    · cases hc
  · cases hc

/-- What a call of a function leaves, for all that stands for its arguments. -/
def CallsOk (P : Program) (G : List Nat) (B : Nat) (w0 : World) (rec : Nat → List AV → AH → Option (AV × AH)) : Prop :=
  ∀ f args H v H', rec f args H = some (v, H') → ∀ (φ : Phi) (w : World) (cargs : Array Value), HRel B w0 φ H w → GRel G φ → R2 (AVRel φ) args cargs.toList →
    (∃ fn, P.funcs[f]? = some fn ∧ fn.body.isNone = false ∧ (fn.name == "runtime.NumGoroutine") = false) ∧
    Calls P f cargs w fun e w' => ∃ φ' cv, e = .returned cv ∧ Ext φ φ' ∧ HRel B w0 φ' H' w' ∧ AVRel φ' v cv

def chkOp (P : Program) (G : List Nat) (r : ROp) (op : Op) : Bool :=
  match r.kind with
  | .pure => chkPure P G r op
  | .load => chkPure P G r op
  | .alloc => chkAlloc P G r op
  | .eff => chkEff P G r op

theorem call_fn (f : Nat) (cargs : Array Value) (w : World) {fn : Func} (h1 : P.funcs[f]? = some fn) (h2 : fn.body.isNone = false) (h3 : (fn.name == "runtime.NumGoroutine") = false) :
    (callFunc f cargs).run P w = .ok (.enter f cargs) w := by
  simp only [callFunc, Sem.run_bind, run_program, Result.andThen_ok, h1, h3, Bool.false_eq_true, if_false, h2, Sem.run_pure]

/-- An operation of the abstract machine, and the model's. -/
theorem op_sim {rec : Nat → List AV → AH → Option (AV × AH)} (hrec : CallsOk P G B w0 rec) (hH : HRel B w0 φ H w) (hT : TRel φ T a.tmps) (hG : GRel G φ) {r : ROp} {o : Oper} (hc : chkOp P G r o.op = true) {id : Nat} (hid : id < H.next) {v : AV}
    (h : opA rec (ev T) id H r = some (v, H')) {K : Act → World → Prop} {Q : Exit → Act → World → Prop}
    (hK : ∀ φ' cv w', Ext φ φ' → HRel B w0 φ' H' w' → AVRel φ' v cv → K (a.put o.dst cv) w') : o.wp P a w K Q := by
  have fin : Done P B w0 φ H' v (execOp a.eval o) w → o.wp P a w K Q := by
    rintro ⟨cv, w', φ', hr, h1, h2, h3⟩
    unfold Oper.wp
    rcases hr with hr | ⟨hr, hu⟩
    · rw [hr]; exact hK φ' cv w' h1 h2 h3
    · rw [hr]; subst hu; exact hK φ' _ w' h1 h2 h3
  have pureFin : H' = H → PureDone P φ (execOp a.eval o) w v → o.wp P a w K Q := by
    rintro rfl ⟨cv, h1, h2⟩
    exact fin ⟨cv, w, φ, .inl h1, Ext.refl _, hH, h2⟩
  unfold chkOp at hc
  unfold opA at h
  split at h
  · rename_i hk
    rw [hk] at hc
    simp only [Option.map_eq_some_iff, Prod.mk.injEq] at h
    obtain ⟨v', hv, rfl, rfl⟩ := h
    exact pureFin rfl (pure_sim hT hG hc hv)
  · rename_i hk
    rw [hk] at hc
    simp only [Option.map_eq_some_iff, Prod.mk.injEq] at h
    obtain ⟨v', hv, rfl, rfl⟩ := h
    exact pureFin rfl (load_sim hH hT hG hc hv)
  · rename_i hk
    rw [hk] at hc
    simp only [Option.bind_eq_some_iff, Option.map_eq_some_iff, Prod.mk.injEq] at h
    obtain ⟨⟨l, v'⟩, hv, H1, hn, rfl, rfl⟩ := h
    exact fin (alloc_sim hH hT hG hc hid hv hn)
  · rename_i hk
    rw [hk] at hc
    cases r with
    | store n b u =>
      simp only [effO, Option.map_eq_some_iff, Prod.mk.injEq] at h
      obtain ⟨H1, h1, rfl, rfl⟩ := h
      exact fin (store_sim hH hT hG hc h1)
    | append esz bytes s x => exact fin (append_sim hH hT hG hid hc h)
    | copy esz d s => exact fin (copy_sim hH hT hG hc h)
    | clear esz z x =>
      simp only [effO, Option.map_eq_some_iff, Prod.mk.injEq] at h
      obtain ⟨H1, h1, rfl, rfl⟩ := h
      obtain ⟨w', h2, h3⟩ := clear_sim hH hT hG hc h1
      exact fin ⟨_, w', φ, .inl h2, Ext.refl _, h3, AVRel_undef _⟩
    | call f args =>
      simp only [effO] at h
      simp only [chkEff] at hc
      split at hc
      · rename_i g as ts hop
        simp only [Bool.and_eq_true, beq_iff_eq] at hc
        obtain ⟨h1, h2⟩ := hc
        subst h1
        obtain ⟨⟨fn, c1, c2, c3⟩, hcall⟩ := hrec _ _ _ _ _ h φ w (as.map a.eval) hH hG (by simpa using opds_rel hT hG h2)
        have hrun : (execOp a.eval o).run P w = .ok (.enter f (as.map a.eval)) w := by
          simp only [execOp, hop, resolve, Act.eval, Deferred.ofValue, Sem.run_bind, Sem.run_pure, Result.andThen_ok, invoke]
          simp [call_fn f _ w c1 c2 c3]
        unfold Oper.wp
        rw [hrun]
        show Calls P f (as.map a.eval) w _
        refine hcall.mono ?_
        rintro e w' ⟨φ', cv, rfl, e1, e2, e3⟩
        exact hK φ' cv w' e1 e2 e3
      · cases hc
    | callv x args =>
      simp only [effO] at h
      split at h
      · rename_i f caps hx
        simp only [chkEff] at hc
        split at hc
        · rename_i y as ts hop
          simp only [Bool.and_eq_true] at hc
          obtain ⟨h1, h2⟩ := hc
          have hy := opd_rel h1 hT hG
          rw [hx] at hy
          obtain ⟨xs, x1, x2⟩ := hy
          obtain ⟨⟨fn, c1, c2, c3⟩, hcall⟩ := hrec _ _ _ _ _ h φ w (as.map a.eval ++ (xs.map fun x => Value.pointer (some x)).toArray) hH hG (by
            simp only [Array.toList_append, Array.toList_map]
            exact R2.append (opds_rel hT hG h2) (R2.map (fun _ _ hp => ⟨_, hp, rfl⟩) x1))
          have hrun : (execOp a.eval o).run P w = .ok (.enter f (as.map a.eval ++ (xs.map fun x => Value.pointer (some x)).toArray)) w := by
            simp only [execOp, hop, resolve, x2, Deferred.ofValue, Sem.run_bind, Sem.run_pure, Result.andThen_ok, invoke, Array.empty_append]
            rw [call_fn f _ w c1 c2 c3]
          unfold Oper.wp
          rw [hrun]
          show Calls P f _ w _
          refine hcall.mono ?_
          rintro e w' ⟨φ', cv, rfl, e1, e2, e3⟩
          exact hK φ' cv w' e1 e2 e3
        · cases hc
      · cases h
    | _ => simp [effO] at h

end Go.AM
