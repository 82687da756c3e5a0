/-
  THE ABSTRACT MACHINE: operations that read, that make memory, that write.
-/
import Derived.Test.YtineacililniiaaGreatDoorAmE
import Derived.Deep.AppendSrc
namespace Go.AM

variable {P : Program} {G : List Nat} {φ : Phi} {T : List AV} {a : Act} {w : World} {B : Nat} {w0 : World} {H H' : AH}

theorem load_sim (hH : HRel B w0 φ H w) (hT : TRel φ T a.tmps) (hG : GRel G φ) {r : ROp} {o : Oper} (hc : chkPure P G r o.op = true) {v : AV} (h : loadO (ev T) H r = some v) : PureDone P φ (execOp a.eval o) w v := by
  cases r with
  | load m y =>
    simp only [chkPure] at hc
    split at hc
    · rename_i t x hop
      simp only [Bool.and_eq_true, decide_eq_true_eq] at hc
      obtain ⟨hm, h2⟩ := hc
      have hx := opd_rel h2 hT hG
      simp only [loadO, loadA] at h
      split at h
      · rename_i b o' hb
        rw [hb] at hx
        obtain ⟨cb, sh, cs, hφ, hv⟩ := ptr_of hx
        cases m with
        | none =>
          simp only [Option.map_eq_some_iff] at h
          obtain ⟨s, hs, rfl⟩ := h
          obtain ⟨cb', sh', cs', u, h1, h3, h4⟩ := hH.ld hs
          rw [hφ] at h1
          cases h1
          refine ⟨u, ?_, h4⟩
          simp only [execOp, hop, Instr.loadAt, hv, Instr.sureAddr, loadVar, Sem.run_bind, Sem.run_pure, Result.andThen_ok, run_isAgg' hm]
          simp [h3]
        | some n =>
          simp only [Option.map_eq_some_iff] at h
          obtain ⟨l, hl, rfl⟩ := h
          obtain ⟨cb', sh', cs', vs, h1, h3, h4, h5, h6⟩ := hH.ldn hl
          rw [hφ] at h1
          cases h1
          refine ⟨.agg vs.toArray, ?_, vs, h6, rfl⟩
          have hld := run_loadCells_list (P := P) w ⟨cb, sh + o', none⟩ vs (fun j v' hj => by rw [add_eq, ← Nat.add_assoc]; exact h5 j v' hj)
          rw [h4] at hld
          simp only [execOp, hop, Instr.loadAt, hv, Instr.sureAddr, loadVar, Sem.run_bind, Sem.run_pure, Result.andThen_ok, run_isAgg' hm]
          simp [run_szOf (aggM_size hm), hld]
      · cases h
    · cases hc
  | _ => simp [loadO] at h

/-- What a step leaves. -/
def Done (P : Program) (B : Nat) (w0 : World) (φ : Phi) (H' : AH) (v : AV) (s : Sem Next) (w : World) : Prop :=
  ∃ cv w' φ', (s.run P w = .ok (.value cv) w' ∨ (s.run P w = .ok .skip w' ∧ cv = Go.undef)) ∧ Ext φ φ' ∧ HRel B w0 φ' H' w' ∧ AVRel φ' v cv

/- ---- new blocks ---- -/

theorem rep_get (z : List SV) : ∀ (n i : Nat), i < n * z.length → (repCells z n)[i]? = z[i % z.length]?
  | 0, i, h => by omega
  | n + 1, i, h => by
    unfold repCells
    rw [List.getElem?_append]
    split
    · rename_i hi; rw [Nat.mod_eq_of_lt hi]
    · rename_i hi
      have h' : i < n * z.length + z.length := by rw [Nat.add_mul] at h; omega
      rw [rep_get z n (i - z.length) (by omega), Nat.mod_eq_sub_mod (a := i) (b := z.length) (by omega)]

theorem rep_length (z : List SV) (n : Nat) : (repCells z n).length = n * z.length := by
  induction n with
  | zero => simp [repCells]
  | succ n ih => simp [repCells, ih, Nat.add_mul, Nat.add_comm]

theorem rep_rel {z : List SV} {zc : Array Value} (hz : R2 (SVRel φ) z zc.toList) (n : Nat) : R2 (SVRel φ) (repCells z n) ((Array.range (n * zc.size)).map fun i => zc[i % zc.size]!).toList := by
  have hl : z.length = zc.size := by have := hz.length; simpa using this
  refine R2.of_get (by simp [rep_length, hl]) ?_
  intro i x v hx hv
  have hi : i < n * z.length := by
    have := (List.getElem?_eq_some_iff.1 hx).1
    rwa [rep_length] at this
  rw [rep_get z n i hi] at hx
  obtain ⟨u, hu, hr⟩ := hz.get _ _ hx
  have hlt : i % z.length < zc.size := by rw [← hl]; exact Nat.mod_lt _ (by cases hz' : z.length with | zero => rw [hz'] at hi; omega | succ => omega)
  have : v = u := by
    rw [Array.getElem?_toList] at hv
    simp only [Array.getElem?_map, Array.getElem?_range] at hv
    rw [if_pos (by rw [← hl]; exact hi)] at hv
    simp only [Option.map_some, Option.some.injEq] at hv
    rw [← hv, ← hl]
    rw [Array.getElem?_toList] at hu
    rw [getElem!_pos zc _ hlt]
    rw [Array.getElem?_eq_getElem hlt] at hu
    exact Option.some.inj hu
  rw [this]; exact hr

def chkAlloc (P : Program) (G : List Nat) (r : ROp) (op : Op) : Bool :=
  match r with
  | .newc l => (match op with | .alloc e => zeroOk P e l | _ => false)
  | .box y => (match op with | .box _ x => chkOpd G y x | _ => false)
  | .buildSlice esz len z ps => (match op with
    | .buildSlice t n parts => (match slElem P t with
      | some e => n == len && esz != 0 && decide (szOf P e = some esz) && decide (len * esz ≤ 16777216) && placesOk G (fun i => some (i * esz, esz)) ps parts.toList &&
        (match (P.info? e).map (·.zero) with
          | some (some v) => decide ((repCells (z.take esz) len) = z) && (if len = 0 then z.isEmpty else constOkL (z.take esz) v.cells.toList) && v.cells.size == esz
          | _ => false)
      | none => false)
    | _ => false)
  | .makeSlice esz bytes z l c => (match op with
    | .makeSlice t l' c' => (match slElem P t with
      | some e => esz != 0 && decide (szOf P e = some esz) && bytesOk P e bytes && zeroOk P e z && z.length == esz && chkOpd G l l' && chkOpd G c c'
      | none => false)
    | _ => false)
  | _ => false

theorem run_bytes {t : TypeId} {n : Nat} (h : bytesOk P t n = true) (w : World) : ∃ i, (typeInfo t).run P w = .ok i w ∧ i.bytes = n := by
  unfold bytesOk at h
  simp only [decide_eq_true_eq] at h
  cases hi : P.info? t with
  | none => simp [hi] at h
  | some i => simp [hi] at h; exact ⟨i, by simp [typeInfo, hi], h⟩

/-- A new row of cells. -/
theorem row_sim (hH : HRel B w0 φ H w) {id : Nat} (hid : id < H.next) {l : List SV} (hn : H.new id (.cells false l) = some H') {c : Array Value} (hr : R2 (SVRel φ) l c.toList) (e : TypeId) :
    ∃ φ', Ext φ φ' ∧ φ' id = some (w.heap.size, 0, c.size) ∧ HRel B w0 φ' H' { w with heap := w.heap.push (.cells c e) } := by
  have hl : l.length = c.size := by have := hr.length; simpa using this
  exact hH.new hn hid (Nat.le_of_eq hl) (fun i x hx => by obtain ⟨v, hv, hr'⟩ := hr.get i x hx; exact ⟨v, by simpa using hv, hr'⟩) e _ rfl rfl rfl

theorem newRow_run (e : TypeId) (c : Array Value) (w : World) : (newRow e c).run P w = .ok ⟨w.heap.size, 0, none⟩ { w with heap := w.heap.push (.cells c e) } := by
  simp [newRow]


theorem alloc_sim (hH : HRel B w0 φ H w) (hT : TRel φ T a.tmps) (hG : GRel G φ) {r : ROp} {o : Oper} (hc : chkAlloc P G r o.op = true) {id : Nat} (hid : id < H.next) {l : List SV} {v : AV}
    (h : allocO (ev T) id r = some (l, v)) (hn : H.new id (.cells false l) = some H') : Done P B w0 φ H' v (execOp a.eval o) w := by
  cases r with
  | newc l' =>
    simp only [allocO, Option.some.injEq, Prod.mk.injEq] at h
    obtain ⟨rfl, rfl⟩ := h
    simp only [chkAlloc] at hc
    split at hc
    · rename_i e hop
      obtain ⟨z, hz1, hz2⟩ := run_zero hc (P := P) w (φ := φ)
      obtain ⟨φ', e1, e2, e3⟩ := row_sim hH hid hn hz2 e
      refine ⟨_, _, φ', .inl ?_, e1, e3, ptr_mk (o := 0) e2⟩
      simp only [execOp, hop, Instr.alloc, Sem.run_bind, hz1, Result.andThen_ok, newVar, newRow_run, Sem.run_pure, Nat.add_zero]
    · cases hc
  | box y =>
    simp only [allocO, Option.map_eq_some_iff] at h
    obtain ⟨l', hl, h⟩ := h
    cases h
    simp only [chkAlloc] at hc
    split at hc
    · rename_i e x hop
      have hx := opd_rel hc hT hG
      obtain ⟨φ', e1, e2, e3⟩ := row_sim hH hid hn (hx.cells hl) e
      refine ⟨_, _, φ', .inl ?_, e1, e3, ptr_mk (o := 0) e2⟩
      simp only [execOp, hop, Instr.box, Sem.run_bind, newVar, newRow_run, Result.andThen_ok, Sem.run_pure, Nat.add_zero]
    · cases hc
  | buildSlice esz len z ps =>
    simp only [allocO, Option.map_eq_some_iff] at h
    obtain ⟨l', hl, h⟩ := h
    cases h
    simp only [chkAlloc] at hc
    split at hc
    · rename_i t n parts hop
      split at hc
      · rename_i e he
        have hu := slElem_eq he
        simp only [Bool.and_eq_true, beq_iff_eq, bne_iff_ne, decide_eq_true_eq] at hc
        obtain ⟨⟨⟨⟨⟨h1, h2⟩, h3⟩, h4⟩, h5⟩, h6⟩ := hc
        subst h1
        split at h6
        · rename_i zv hzv
          simp only [Bool.and_eq_true, beq_iff_eq, decide_eq_true_eq] at h6
          obtain ⟨⟨h7, h8⟩, h9⟩ := h6
          have hzero : (zeroValue e).run P w = .ok zv w := by
            cases hi : P.info? e with
            | none => simp [hi] at hzv
            | some i => simp [hi] at hzv; simp [zeroValue, typeInfo, hi, hzv]
          -- the cells that are laid before the parts
          have hbase : R2 (SVRel φ) z ((Array.range (n * esz)).map fun i => (if n * esz = 0 then #[] else zv.cells)[i % (if n * esz = 0 then #[] else zv.cells).size]!).toList := by
            by_cases hn0 : n = 0
            · subst hn0
              have : z = [] := by simpa using h8
              subst this
              simp [R2]
            · rw [if_neg hn0] at h8
              have hne : ¬ n * esz = 0 := Nat.mul_ne_zero hn0 h2
              simp only [if_neg hne]
              have hz := constOkL_rel (φ := φ) h8
              have := rep_rel hz n
              rw [h7, h9] at this
              rw [h9]
              exact this
          obtain ⟨cl, f1, f2⟩ := fill_sim (place := fun i => some (i * esz, esz)) hl hbase (places_rel hT hG h5)
          obtain ⟨φ', e1, e2, e3⟩ := row_sim hH hid hn f2 e
          have hlen : cl.size = n * esz := by
            have g1 : ∀ (ps : List (Nat × Nat × AV)) (z l : List SV), fillA z ps = some l → l.length = z.length := by
              intro ps
              induction ps with
              | nil => intro z l h; simp only [fillA, Option.some.injEq] at h; rw [h]
              | cons p ps ih =>
                intro z l h
                obtain ⟨off, size, v⟩ := p
                simp only [fillA] at h
                split at h
                · split at h
                  · rename_i hcc; rw [ih _ _ h, splice_length _ _ _ (by omega)]
                  · cases h
                · cases h
            have g2 := f2.length
            have g3 := g1 _ _ _ hl
            have g4 := hbase.length
            simp at g2 g4
            omega
          refine ⟨.slice (some ⟨w.heap.size, 0, none⟩) n n, _, φ', .inl ?_, e1, e3, ?_⟩
          · simp only [execOp, hop, Instr.buildSlice, Sem.run_bind, run_underlying hu, Result.andThen_ok, run_szOf h3, Sem.run_ite]
            rw [if_neg (by simp; omega)]
            by_cases hn0 : n * esz = 0
            · simp only [if_pos hn0] at f1 ⊢
              have f1' : Instr.fill (fun i => some (i * esz, esz)) ((Array.range (n * esz)).map fun x => (#[] : Array Value)[x % (#[] : Array Value).size]!) (parts.map fun q => (q.1, a.eval q.2)).toList = some cl := by simpa using f1
              have hp : (Pure.pure #[] : Sem (Array Value)).run P w = .ok #[] w := rfl
              rw [hp]
              simp only [Result.andThen_ok]
              rw [f1']
              simp only [Sem.run_bind, newRow_run, Result.andThen_ok, Sem.run_pure]
            · simp only [if_neg hn0] at f1 ⊢
              simp only [Sem.run_bind, hzero, Sem.run_pure, Result.andThen_ok]
              have f1' : Instr.fill (fun i => some (i * esz, esz)) ((Array.range (n * esz)).map fun x => zv.cells[x % zv.cells.size]!) (parts.map fun q => (q.1, a.eval q.2)).toList = some cl := by simpa using f1
              rw [f1']
              simp only [Sem.run_bind, newRow_run, Result.andThen_ok, Sem.run_pure]
          · refine ⟨by omega, Nat.le_refl _, w.heap.size, 0, cl.size, _, n, e2, Nat.le_refl _, rfl, fun _ => ⟨rfl, ?_⟩⟩
            rw [hlen]; omega
        · cases h6
      · cases hc
    · cases hc
  | makeSlice esz bytes z l' c' =>
    simp only [allocO, Option.map_eq_some_iff] at h
    obtain ⟨r, hr, h⟩ := h
    cases h
    simp only [chkAlloc] at hc
    split at hc
    · rename_i t lo co hop
      split at hc
      · rename_i e he
        have hu := slElem_eq he
        simp only [Bool.and_eq_true, beq_iff_eq, bne_iff_ne, decide_eq_true_eq] at hc
        obtain ⟨⟨⟨⟨⟨⟨h1, h2⟩, h3⟩, h4⟩, h5⟩, h6⟩, h7⟩ := hc
        have hlo := opd_rel h6 hT hG
        have hco := opd_rel h7 hT hG
        unfold makeA at hr
        split at hr
        · rename_i ln cn e1 e2
          rw [e1] at hlo
          rw [e2] at hco
          have hlo : a.eval lo = .int .i64 ln := hlo
          have hco : a.eval co = .int .i64 cn := hco
          split at hr
          · rename_i hcond
            obtain ⟨q1, q2, q3, q4, q5⟩ := hcond
            cases hr
            obtain ⟨i, hi1, hi2⟩ := run_bytes h3 w
            obtain ⟨zv, hz1, hz2⟩ := run_zero h4 (P := P) w (φ := φ)
            have hzl : zv.cells.size = esz := by have := hz2.length; simp at this; omega
            have hrep := rep_rel hz2 cn.toNat
            obtain ⟨φ', f1, f2, f3⟩ := row_sim hH hid hn hrep e
            have hwl : IntKind.i64.wrap ln = ln := by rw [IntKind.wrap_i64]; omega
            have hwc : IntKind.i64.wrap cn = cn := by rw [IntKind.wrap_i64]; omega
            refine ⟨.slice (some ⟨w.heap.size, 0, none⟩) ln.toNat cn.toNat, _, φ', .inl ?_, f1, f3, ?_⟩
            · simp only [execOp, hop, Instr.makeSlice, Sem.run_bind, run_underlying hu, Result.andThen_ok, hlo, hco, asInt, asIntOf, Sem.run_pure, hi1, hwl, hwc, hi2]
              have hcnd : (decide (cn < 0) || decide ((bytes : Int) * cn > 2 ^ 48) || decide (ln < 0) || decide (ln > cn)) = false := by
                simp; omega
              simp only [hcnd, Bool.false_eq_true, if_false, Sem.run_bind, run_askRoom, Result.andThen_ok, run_szOf h2, Sem.run_ite, hz1, Sem.run_pure]
              by_cases hn0 : cn.toNat * esz = 0
              · simp only [if_pos hn0, Result.andThen_ok, newRow_run, Sem.run_bind, Sem.run_pure]
                have : (Array.range (cn.toNat * zv.cells.size)).map (fun i => zv.cells[i % zv.cells.size]!) = #[] := by rw [hzl, hn0]; simp
                rw [this, hn0]
                simp [show Array.range 0 = #[] from rfl]
              · simp only [if_neg hn0, Result.andThen_ok, newRow_run, Sem.run_bind, Sem.run_pure, hzl]
            · refine ⟨by omega, by show ln.toNat ≤ cn.toNat; omega, w.heap.size, 0, _, _, cn.toNat, f2, Nat.le_refl _, rfl, fun _ => ⟨rfl, ?_⟩⟩
              simp [hzl]
          · cases hr
        · cases hr
      · cases hc
    · cases hc
  | _ => simp [allocO] at h

/- ---- effects ---- -/

theorem HRel.kill (hH : HRel B w0 φ H w) {b : Nat} (hb : H.blk b ≠ none) : HRel B w0 φ (H.set b .dead) w := by
  refine { dom := ?_, lt := ?_, cells := ?_, maps := ?_, inj := ?_, old := hH.old, bound := hH.bound, os := hH.os, out := hH.out, nf := hH.nf }
  · intro b' hb'
    simp only [AH.set, upd] at hb'
    split at hb'
    · cases hb'
    · exact hH.dom b' hb'
  · intro b' hb'
    simp only [AH.set, upd] at hb' ⊢
    rw [if_neg (fun hc => hb (by subst hc; exact hH.lt _ hb'))]
    exact hH.lt b' hb'
  · intro b' ro l hb'
    simp only [AH.set, upd] at hb'
    split at hb'
    · cases hb'
    · exact hH.cells b' ro l hb'
  · intro b' es hb'
    simp only [AH.set, upd] at hb'
    split at hb'
    · cases hb'
    · exact hH.maps b' es hb'
  · intro b1 b2 x1 x2 h1 h2 d1 d2 hx
    simp only [AH.set, upd] at d1 d2 ⊢
    split at d1
    · exact absurd rfl d1
    · split at d2
      · exact absurd rfl d2
      · rename_i n1 n2
        simp only [if_neg n1, if_neg n2]
        exact hH.inj b1 b2 x1 x2 h1 h2 d1 d2 hx

/-- A row goes on under another name: what is known of it, with some cells laid behind. -/
theorem HRel.move (hH : HRel B w0 φ H w) {b id : Nat} {l : List SV} (hb : H.blk b = some (.cells false l)) {cb sh cs : Nat} (hφ : φ b = some (cb, sh, cs)) {o k : Nat} {new : List SV} {vs : List Value}
    (hok : o + k ≤ l.length) (hr : R2 (SVRel φ) new vs) (hfit : sh + o + k + new.length ≤ cs) (hid : id < H.next)
    (hn : (H.set b .dead).new id (.cells false ((l.drop o).take k ++ new)) = some H') :
    ∃ φ' w', Ext φ φ' ∧ φ' id = some (cb, sh + o, cs) ∧ (storeCells ⟨cb, sh + o + k, none⟩ vs).run P w = .ok () w' ∧ HRel B w0 φ' H' w' := by
  obtain ⟨cb', sh', cs', c, e, fr, h1, h2, h3, h4, h5, h6⟩ := hH.cells b false l hb
  rw [hφ] at h1
  cases h1
  obtain ⟨hfr, hB⟩ := h6 rfl
  subst hfr
  have hlen := hr.length
  have hst := run_storeCells_at P cb (sh + o + k) e vs 0 c w h2 (by omega) hr.oneCell
  simp only [Nat.add_zero] at hst
  have hk := hH.kill (b := b) (by rw [hb]; simp)
  unfold AH.new at hn
  split at hn
  · rename_i hidn
    cases hn
    have hφid : φ id = none := hk.dom id hidn
    have hne : id ≠ b := by intro hc; subst hc; rw [hφ] at hφid; cases hφid
    have hidH : H.blk id = none := by
      simp only [AH.set, upd, if_neg hne] at hidn; exact hidn
    have hext : Ext φ (fun x => if x = id then some (cb, sh + o, cs) else φ x) := by
      intro x y hx
      by_cases hxi : x = id
      · subst hxi; rw [hφid] at hx; cases hx
      · simp [hxi, hx]
    have hget : ∀ x, x ≠ cb → (w.setRow cb (c.toList.take (sh + o + k) ++ vs ++ c.toList.drop (sh + o + k + vs.length)).toArray).heap[x]? = w.heap[x]? := by
      intro x hx; rw [setRow_get, if_neg hx]
    have hcl : sh + o + k + vs.length ≤ c.toList.length := by simp; omega
    refine ⟨fun x => if x = id then some (cb, sh + o, cs) else φ x, _, hext, by simp, hst, ?_⟩
    -- another block that lives is none of this row
    have hoth : ∀ b', b' ≠ b → H.blk b' ≠ some .dead → ∀ x, φ b' = some x → x.1 ≠ cb := by
      intro b' hne' hd x hx heq
      rcases hH.inj b' b x _ hx hφ hd (by rw [hb]; simp) heq with h | ⟨_, _, _, hy⟩
      · exact hne' h
      · rw [hb] at hy; cases hy
    refine { dom := ?_, lt := ?_, cells := ?_, maps := ?_, inj := ?_, old := ?_, bound := ?_, os := hH.os, out := hH.out, nf := nf_setRow hH.nf _ _ }
    · intro b' hb'
      simp only [AH.set, upd] at hb'
      split at hb'
      · cases hb'
      · rename_i hne'
        split at hb'
        · cases hb'
        · simp [hne', hH.dom b' hb']
    · intro b' hb'
      simp only [AH.set, upd] at hb' ⊢
      rw [if_neg (by omega)]
      split
      · rename_i hc; subst hc; rw [hH.lt _ hb'] at hb; cases hb
      · exact hH.lt b' hb'
    · intro b' ro' l'' hb'
      simp only [AH.set, upd] at hb'
      split at hb'
      · rename_i heq
        cases hb'
        refine ⟨cb, sh + o, cs, (c.toList.take (sh + o + k) ++ vs ++ c.toList.drop (sh + o + k + vs.length)).toArray, e, (0, 0), by simp [heq], ?_, ?_, ?_, ?_, fun _ => ⟨rfl, hB⟩⟩
        · rw [setRow_get, if_pos rfl, h2]; rfl
        · simp; simp at hcl; omega
        · simp; omega
        · intro i x hx
          rw [List.getElem?_toArray, vals_get _ _ _ _ hcl]
          rw [List.getElem?_append] at hx
          simp only [List.length_take, List.length_drop] at hx
          have hmin : min k (l.length - o) = k := by omega
          rw [hmin] at hx
          split at hx
          · rename_i hik
            rw [if_neg (by omega)]
            rw [List.getElem?_take, if_pos hik, List.getElem?_drop] at hx
            obtain ⟨v, hv, hrv⟩ := h5 (o + i) x hx
            exact ⟨v, by rw [Array.getElem?_toList, Nat.add_assoc]; exact hv, hrv.mono hext⟩
          · rename_i hik
            have hlt := (List.getElem?_eq_some_iff.1 hx).1
            rw [if_pos (by omega)]
            obtain ⟨v, hv, hrv⟩ := hr.get (i - k) x hx
            exact ⟨v, by rw [show sh + o + i - (sh + o + k) = i - k by omega]; exact hv, hrv.mono hext⟩
      · rename_i hne'
        split at hb'
        · cases hb'
        · rename_i hneb
          obtain ⟨cb', sh', cs', c', e', fr', g1, g2, g3, g4, g5, g6⟩ := hH.cells b' ro' l'' hb'
          have hcb : cb' ≠ cb := hoth b' hneb (by rw [hb']; simp) _ g1
          exact ⟨cb', sh', cs', c', e', fr', by simp [hne', g1], by rw [hget _ hcb]; exact g2, g3, g4, fun i x hx => by obtain ⟨v, hv, hrv⟩ := g5 i x hx; exact ⟨v, hv, hrv.mono hext⟩, g6⟩
    · intro b' es hb'
      simp only [AH.set, upd] at hb'
      split at hb'
      · cases hb'
      · rename_i hne'
        split at hb'
        · cases hb'
        · rename_i hneb
          obtain ⟨cb', sh', cs', ces, clk, g1, g2, g3, g4⟩ := hH.maps b' es hb'
          have hcb : cb' ≠ cb := hoth b' hneb (by rw [hb']; simp) _ g1
          exact ⟨cb', sh', cs', ces, clk, by simp [hne', g1], by rw [hget _ hcb]; exact g2, R2.mono (fun _ _ hp => ⟨hp.1.mono hext, hp.2.mono hext⟩) g3, g4⟩
    · intro b1 b2 x1 x2 hx1 hx2 hd1 hd2 hxe
      simp only [AH.set, upd] at hd1 hd2 ⊢
      by_cases e1 : b1 = id
      · by_cases e2 : b2 = id
        · exact .inl (e1.trans e2.symm)
        · simp only [e1, if_true] at hx1
          simp only [e2, if_false] at hx2
          cases hx1
          exfalso
          rw [if_neg e2] at hd2
          split at hd2
          · exact hd2 rfl
          · rename_i hneb
            exact hoth b2 hneb hd2 _ hx2 hxe.symm
      · by_cases e2 : b2 = id
        · simp only [e2, if_true] at hx2
          simp only [e1, if_false] at hx1
          cases hx2
          exfalso
          rw [if_neg e1] at hd1
          split at hd1
          · exact hd1 rfl
          · rename_i hneb
            exact hoth b1 hneb hd1 _ hx1 hxe
        · simp only [e1, e2, if_false] at hx1 hx2 hd1 hd2 ⊢
          split at hd1
          · exact absurd rfl hd1
          · rename_i n1
            split at hd2
            · exact absurd rfl hd2
            · rename_i n2
              simp only [if_neg n1, if_neg n2]
              exact hH.inj b1 b2 x1 x2 hx1 hx2 hd1 hd2 hxe
    · intro c' hc'
      rw [hget _ (by omega)]
      exact hH.old c' hc'
    · simpa [World.setRow] using hH.bound
  · cases hn

theorem cell?_heap {w w' : World} (h : w'.heap = w.heap) (x : Addr) : w'.cell? x = w.cell? x := by unfold World.cell?; rw [h]

/-- The cells of the first elements of a slice. -/
theorem firstCells_sim (hH : HRel B w0 φ H w) {esz n : Nat} {x : AV} {v : Value} (hx : AVRel φ x v) {l : List SV} (h : sliceCells esz x n H = some l) {m : Nat} (hm : slLen x = some m) (hnm : n ≤ m) :
    ∃ vs : List Value, (∀ w', w'.heap = w.heap → (Builtin.firstCells esz n v).run P w' = .ok vs.toArray w') ∧ R2 (SVRel φ) l vs ∧ (∀ w', (Builtin.lenOf v).run P w' = .ok m w') := by
  unfold sliceCells at h
  split at h
  · rename_i ln c e
    simp only [slLen, Option.some.injEq] at hm
    subst hm
    obtain ⟨h1, h2, h3⟩ := slice_none hx
    subst h1; subst h3
    simp only [Option.some.injEq] at h; subst h
    exact ⟨[], fun _ _ => rfl, trivial, fun _ => rfl⟩
  · rename_i b o ln c e
    simp only [slLen, Option.some.injEq] at hm
    subst hm
    obtain ⟨h1, h2, cb, sh, cs, z, c', h3, h4, h5, h6⟩ := slice_of hx
    subst h5
    split at h
    · rename_i hc
      obtain ⟨rfl, hle⟩ := hc
      obtain ⟨cb', sh', cs', vs, g1, g2, g3, g4, g5⟩ := hH.ldn h
      rw [h3] at g1
      cases g1
      refine ⟨vs, ?_, g5, fun _ => rfl⟩
      intro w' hw
      simp only [Builtin.firstCells]
      by_cases hc0 : c' = 0
      · have : n = 0 := by omega
        subst this
        have hv : vs = [] := by apply List.eq_nil_of_length_eq_zero; omega
        subst hv
        simp [loadCells, loadCellsFrom]
      · obtain ⟨hz, _⟩ := h6 hc0
        subst hz
        have hld := run_loadCells_list (P := P) w' ⟨cb, sh + o, none⟩ vs (fun j v' hj => by rw [add_eq, ← Nat.add_assoc, cell?_heap hw]; exact g4 j v' hj)
        rw [g3] at hld
        exact hld
    · cases h
  · cases h

theorem sliceCells_length {esz n : Nat} {x : AV} {l : List SV} (h : sliceCells esz x n H = some l) {m : Nat} (hm : slLen x = some m) (hnm : n ≤ m) {v : Value} (hx : AVRel φ x v) : l.length = n * esz := by
  unfold sliceCells at h
  split at h
  · simp only [slLen, Option.some.injEq] at hm
    subst hm
    obtain ⟨h1, h2, h3⟩ := slice_none hx
    simp only [Option.some.injEq] at h; subst h
    have : n = 0 := by omega
    subst this; simp
  · split at h
    · unfold AH.ldn at h
      split at h
      · split at h
        · cases h; simp; omega
        · cases h
      · cases h
    · cases h
  · cases h

theorem next_bound (need cap : Nat) (h : cap < need) : Builtin.nextslicecap need cap ≤ 2 * need + 192 := by
  have key : ∀ (k c : Nat), c < need → Builtin.growBy need k c ≤ 2 * need + 192 := by
    intro k
    induction k with
    | zero => intro c hc; simp only [Builtin.growBy]; omega
    | succ k ih =>
      intro c hc
      simp only [Builtin.growBy]
      split
      · omega
      · by_cases hlt : c + (c + 768) / 4 < need
        · exact ih _ hlt
        · have hge : c + (c + 768) / 4 ≥ need := by omega
          cases k with
          | zero => simp only [Builtin.growBy]; omega
          | succ k => simp only [Builtin.growBy]; rw [if_pos hge]; omega
  unfold Builtin.nextslicecap
  split
  · omega
  · split
    · omega
    · exact key 4 cap h

/-- A map of whole numbers. -/
def intMap (P : Program) (t : TypeId) : Bool :=
  match P.underlying t with
  | some (.map k _) => (match P.underlying k with | some (.int _) => true | _ => false)
  | _ => false

def chkHop (P : Program) (G : List Nat) (h : HOp) (args : List Opd) (op : Op) : Bool :=
  match h with
  | .makeMap => (match op, args with | .makeMap _ none, [] => true | _, _ => false)
  | .lookup ok => (match op, args with | .lookup t m k ok', [m', k'] => ok == ok' && chkOpd G m' m && chkOpd G k' k && intMap P t | _, _ => false)
  | .update => (match op, args with | .mapUpdate t m k v, [m', k', v'] => chkOpd G m' m && chkOpd G k' k && chkOpd G v' v && intMap P t | _, _ => false)
  | .delete => (match op, args with
    | .call { callee := .builtin .delete, args := as, argTypes := ts }, [m', k'] => (match as.toList, ts.toList with
      | [m, k], [t, _] => chkOpd G m' m && chkOpd G k' k && intMap P t
      | _, _ => false)
    | _, _ => false)
  | .slArr len esz => (match op, args with
    | .slice t x none none none, [x'] => (match arrElem P t with | some (n, e) => n == len && decide (szOf P e = some esz) && chkOpd G x' x | none => false)
    | _, _ => false)

def chkEff (P : Program) (G : List Nat) (r : ROp) (op : Op) : Bool :=
  match r with
  | .store n b u => (match op with | .store t x v => decide (szOf P t = some n) && chkOpd G b x && chkOpd G u v | _ => false)
  | .append esz bytes s' x' => (match op with
    | .call { callee := .builtin .append, args := args, argTypes := ts } => (match args.toList, ts.toList with
      | [s, x], [st, xt] => chkOpd G s' s && chkOpd G x' x && (slElem P xt).isSome && (match slElem P st with
        | some e => esz != 0 && decide (szOf P e = some esz) && bytesOk P e bytes && bytes != 0 && decide (bytes ≤ 1073741824) && (match (P.info? e).map (·.zero) with | some (some v) => v.cells.size == esz | _ => false)
        | none => false)
      | _, _ => false)
    | _ => false)
  | .copy esz d' s' => (match op with
    | .call { callee := .builtin .copy, args := args, argTypes := ts } => (match args.toList, ts.toList with
      | [d, s], [dt, _] => chkOpd G d' d && chkOpd G s' s && (match slElem P dt with | some e => decide (szOf P e = some esz) | none => false)
      | _, _ => false)
    | _ => false)
  | .clear esz z x' => (match op with
    | .call { callee := .builtin .clear, args := args, argTypes := ts } => (match args.toList, ts.toList with
      | [x], [t] => chkOpd G x' x && (match slElem P t with | some e => decide (szOf P e = some esz) && zeroOk P e z | none => false)
      | _, _ => false)
    | _ => false)
  | .call f args => (match op with
    | .call { callee := .value (.func g), args := as, argTypes := _ } => f == g && chkOpds G args as.toList
    | _ => false)
  | .callv x args => (match op with
    | .call { callee := .value y, args := as, argTypes := _ } => chkOpd G x y && chkOpds G args as.toList
    | _ => false)
  | .hop h args => chkHop P G h args op
  | _ => false

theorem HRel.drew (hH : HRel B w0 φ H w) : HRel B w0 φ H w.drew := hH.heap_eq rfl rfl rfl

/-- A store of cells that are laid at a place which a slice names. -/
theorem stn_sim (hH : HRel B w0 φ H w) {b o : Nat} {l : List SV} (hs : H.stn b o l = some H') {vs : List Value} (hr : R2 (SVRel φ) l vs) {cb sh cs : Nat} (hφ : φ b = some (cb, sh, cs)) {z : Addr} (hz : l ≠ [] → z = ⟨cb, sh + o, none⟩) :
    ∃ w', (storeCells z vs).run P w = .ok () w' ∧ HRel B w0 φ H' w' := by
  obtain ⟨cb', sh', cs', w', h1, h2, h3, h4⟩ := hH.stn P hs hr
  rw [hφ] at h1
  cases h1
  by_cases hl : l = []
  · subst hl
    have : vs = [] := by cases vs with | nil => rfl | cons => exact hr.elim
    subst this
    have e1 : (storeCells ⟨cb, sh + o, none⟩ []).run P w = .ok () w := rfl
    rw [e1] at h2
    cases h2
    exact ⟨w, rfl, h3⟩
  · rw [hz hl]; exact ⟨w', h2, h3⟩

theorem store_sim (hH : HRel B w0 φ H w) (hT : TRel φ T a.tmps) (hG : GRel G φ) {n : Nat} {b u : Opd} {o : Oper} (hc : chkEff P G (.store n b u) o.op = true) (h : storeA n (ev T b) (ev T u) H = some H') :
    Done P B w0 φ H' undef (execOp a.eval o) w := by
  simp only [chkEff] at hc
  split at hc
  · rename_i t x v hop
    simp only [Bool.and_eq_true, decide_eq_true_eq] at hc
    obtain ⟨⟨h1, h2⟩, h3⟩ := hc
    have hx := opd_rel h2 hT hG
    have hv := opd_rel h3 hT hG
    simp only [storeA] at h
    split at h
    · rename_i b' o' hb
      rw [hb] at hx
      obtain ⟨cb, sh, cs, hφ, hxv⟩ := ptr_of hx
      split at h
      · rename_i l hl
        split at h
        · rename_i hlen
          have hcells := hv.cells hl
          obtain ⟨w', r1, r2⟩ := stn_sim (P := P) hH h hcells hφ (z := ⟨cb, sh + o', none⟩) (fun _ => rfl)
          have hsz : (a.eval v).cells.size = n := by have := hcells.length; simp at this; omega
          refine ⟨_, w', φ, .inr ⟨?_, rfl⟩, Ext.refl _, r2, AVRel_undef _⟩
          simp only [execOp, hop, Instr.storeAt, Sem.run_bind, hxv, Instr.sureAddr, Sem.run_pure, Result.andThen_ok, storeVar, run_szOf h1, hsz, ne_eq, not_true_eq_false, if_false, r1]
        · cases h
      · cases h
    · cases h
  · cases hc

theorem args2 {α : Type} {as : Array α} {x y : α} (h : as.toList = [x, y]) : as = #[x, y] := by apply Array.ext'; simpa using h
theorem args1 {α : Type} {as : Array α} {x : α} (h : as.toList = [x]) : as = #[x] := by apply Array.ext'; simpa using h

theorem exec_builtin {o : Oper} {b : Builtin} {args : Array Operand} {ts : Array TypeId} (hop : o.op = .call { callee := .builtin b, args := args, argTypes := ts }) (w : World) :
    ∃ cs, (execOp a.eval o).run P w = (builtin b ts o.type cs (args.map a.eval)).run P w := by
  refine ⟨args.map fun | .const _ => true | _ => false, ?_⟩
  simp only [execOp, hop, resolve, Sem.run_bind, Sem.run_pure, Result.andThen_ok, invoke]
  rfl

/-- What a builtin's value leaves. -/
theorem Done.of_val {H' : AH} {v : AV} {s : Sem Next} {t : Sem Value} (he : s.run P w = (do pure (.value (← t)) : Sem Next).run P w) {cv : Value} {w' : World} (hr : t.run P w = .ok cv w') {φ' : Phi} (h1 : Ext φ φ') (h2 : HRel B w0 φ' H' w') (h3 : AVRel φ' v cv) :
    Done P B w0 φ H' v s w := ⟨cv, w', φ', .inl (by rw [he]; simp [hr]), h1, h2, h3⟩

theorem append_sim (hH : HRel B w0 φ H w) (hT : TRel φ T a.tmps) (hG : GRel G φ) {esz bytes id : Nat} (hid : id < H.next) {s' x' : Opd} {o : Oper} (hc : chkEff P G (.append esz bytes s' x') o.op = true) {v : AV}
    (h : appendA esz bytes id (ev T s') (ev T x') H = some (v, H')) : Done P B w0 φ H' v (execOp a.eval o) w := by
  simp only [chkEff] at hc
  split at hc
  · rename_i args ts hop
    split at hc
    · rename_i s x st xt ha ht
      have ha := args2 ha
      have ht := args2 ht
      subst ha; subst ht
      simp only [Bool.and_eq_true] at hc
      obtain ⟨⟨⟨h1, h2⟩, h3⟩, h4⟩ := hc
      split at h4
      · rename_i e he
        have hu := slElem_eq he
        obtain ⟨xe, hxe⟩ := Option.isSome_iff_exists.1 h3
        have hxu := slElem_eq hxe
        simp only [Bool.and_eq_true, decide_eq_true_eq, bne_iff_ne] at h4
        obtain ⟨⟨⟨⟨⟨k0, k1⟩, k2⟩, k3⟩, k4⟩, k5⟩ := h4
        split at k5
        · rename_i zv hzv
          obtain ⟨i, hi⟩ : ∃ i, P.info? e = some i := by
            cases hi : P.info? e with
            | none => simp [hi] at hzv
            | some i => exact ⟨i, rfl⟩
          have hiz : i.zero = some zv := by simpa [hi] using hzv
          have his : i.size = esz := by simpa [szOf, hi] using k1
          have hib : i.bytes = bytes := by simpa [bytesOk, hi] using k2
          have hzsz : zv.cells.size = esz := by simpa using k5
          have hs := opd_rel h1 hT hG
          have hx := opd_rel h2 hT hG
          obtain ⟨cs0, hex⟩ := exec_builtin (P := P) (a := a) hop w
          have hex : (execOp a.eval o).run P w = (do pure (.value (← Builtin.append_ #[st, xt] o.type #[a.eval s, a.eval x])) : Sem Next).run P w := by rw [hex]; simp only [List.map_toArray, List.map_cons, List.map_nil]; rfl
          unfold appendA at h
          split at h
          · rename_i len cap ee hb
            rw [hb] at hs
            simp only [Option.bind_eq_some_iff] at h
            obtain ⟨n, hn, new, hnew, h⟩ := h
            split at h
            · rename_i hbound
              obtain ⟨vs, f1, f2, f3⟩ := firstCells_sim (P := P) hH hx hnew hn (Nat.le_refl _)
              have hnl := sliceCells_length hnew hn (Nat.le_refl _) hx
              have hvl : vs.length = n * esz := by rw [← f2.length]; exact hnl
              have src : Src P i.size xt (a.eval x) n vs w := ⟨.inl ⟨xe, hxu⟩, f3, by rw [his]; exact f1 w rfl, by rw [his]; exact f1 w.drew rfl, by rw [his]; exact hvl, f2.oneCell⟩
              have hb1 : len + n ≤ 70368744177664 := Nat.le_trans (Nat.le_mul_of_pos_right _ (by omega)) hbound
              have grow : ∀ (basesz : Option Addr) (c' : Nat) (olds : List Value), a.eval s = .slice basesz len c' → c' < len + n → (Builtin.firstCells i.size len (.slice basesz len c')).run P w.drew = .ok olds.toArray w.drew →
                  ∃ newCap, len + n ≤ newCap ∧ (Builtin.append_ #[st, xt] o.type #[a.eval s, a.eval x]).run P w = .ok (.slice (some ⟨w.heap.size, 0, none⟩) (len + n) newCap)
                    (w.drew.alloc (.cells ((olds ++ vs).toArray ++ Builtin.zeroCells zv.cells (newCap - (len + n))) e)) := by
                intro basesz c' olds hv hlt hold
                have hnx := next_bound (len + n) c' hlt
                have hfit : Builtin.nextslicecap (len + n) c' * i.bytes ≤ 281474976710656 := by
                  rw [hib]
                  calc Builtin.nextslicecap (len + n) c' * bytes ≤ (2 * (len + n) + 192) * bytes := Nat.mul_le_mul_right _ hnx
                    _ = 2 * ((len + n) * bytes) + 192 * bytes := by rw [Nat.add_mul, Nat.mul_assoc]
                    _ ≤ 281474976710656 := by omega
                have := run_append_grow_src (P := P) w st xt o.type e i zv hu hi hiz basesz len c' olds hold (a.eval x) n vs src hlt (by omega) hfit
                rw [hv]
                exact ⟨_, by unfold grownCap; simp [Question.cut], this⟩
              -- the zeros behind what is laid
              have zlen : ∀ k, (Builtin.zeroCells zv.cells k).size = k * esz := by intro k; simp [Builtin.zeroCells, hzsz]
              obtain ⟨q1, q2, q3⟩ := slice_none hs
              subst q1; subst q2
              by_cases hn0 : n = 0
              · subst hn0
                simp only [if_true, Option.some.injEq, Prod.mk.injEq] at h
                obtain ⟨rfl, rfl⟩ := h
                have hrun : (Builtin.append_ #[st, xt] o.type #[a.eval s, a.eval x]).run P w = .ok (.slice none 0 0) w := by
                  rw [q3]
                  simp [Builtin.append_, run_underlying hu, run_underlying hxu, sizeOf, typeInfo, hi, f3, his, f1 w rfl]
                exact Done.of_val hex hrun (Ext.refl _) hH ⟨rfl, rfl, rfl⟩
              · simp only [if_neg hn0, Option.map_eq_some_iff] at h
                obtain ⟨H1, hH1, h⟩ := h
                simp only [Prod.mk.injEq] at h
                obtain ⟨rfl, rfl⟩ := h
                obtain ⟨nc, g1, g2⟩ := grow none 0 [] q3 (by omega) rfl
                obtain ⟨φ', e1, e2, e3⟩ := hH.new hH1 hid (c := ([] ++ vs).toArray ++ Builtin.zeroCells zv.cells (nc - (0 + n))) (by have := f2.length; simp; omega)
                  (fun i x hx => by
                    obtain ⟨u, hu, hr⟩ := f2.get i x hx
                    refine ⟨u, ?_, hr⟩
                    have hlt := (List.getElem?_eq_some_iff.1 hu).1
                    rw [Array.getElem?_append_left (by simpa using hlt)]
                    simpa using hu) e (w.drew.alloc (.cells (([] ++ vs).toArray ++ Builtin.zeroCells zv.cells (nc - (0 + n))) e)) rfl rfl rfl
                refine Done.of_val hex g2 e1 e3 ⟨?_, Nat.le_refl _, w.heap.size, 0, _, _, nc, e2, by omega, by simp, fun _ => ⟨rfl, ?_⟩⟩
                · exact Nat.pos_of_ne_zero k0
                · simp only [Array.size_append, List.size_toArray, List.nil_append, hvl, zlen]
                  rw [← Nat.add_mul]
                  have : n + (nc - (0 + n)) = nc := by omega
                  rw [this]; omega
            · cases h
          · rename_i b o' len cap e' hb
            rw [hb] at hs
            simp only [Option.bind_eq_some_iff] at h
            obtain ⟨n, hn, new, hnew, h⟩ := h
            split at h
            · rename_i hcond
              obtain ⟨rfl, hbound⟩ := hcond
              obtain ⟨vs, f1, f2, f3⟩ := firstCells_sim (P := P) hH hx hnew hn (Nat.le_refl _)
              have hnl := sliceCells_length hnew hn (Nat.le_refl _) hx
              have hvl : vs.length = n * e' := by rw [← f2.length]; exact hnl
              have src : Src P i.size xt (a.eval x) n vs w := ⟨.inl ⟨xe, hxu⟩, f3, by rw [his]; exact f1 w rfl, by rw [his]; exact f1 w.drew rfl, by rw [his]; exact hvl, f2.oneCell⟩
              have hb1 : len + n ≤ 70368744177664 := Nat.le_trans (Nat.le_mul_of_pos_right _ (by omega)) hbound
              have grow : ∀ (base' : Option Addr) (c' : Nat) (olds : List Value), a.eval s = .slice base' len c' → c' < len + n → (Builtin.firstCells i.size len (.slice base' len c')).run P w.drew = .ok olds.toArray w.drew →
                  ∃ newCap, len + n ≤ newCap ∧ (Builtin.append_ #[st, xt] o.type #[a.eval s, a.eval x]).run P w = .ok (.slice (some ⟨w.heap.size, 0, none⟩) (len + n) newCap)
                    (w.drew.alloc (.cells ((olds ++ vs).toArray ++ Builtin.zeroCells zv.cells (newCap - (len + n))) e)) := by
                intro base' c' olds hv hlt hold
                have hnx := next_bound (len + n) c' hlt
                have hfit : Builtin.nextslicecap (len + n) c' * i.bytes ≤ 281474976710656 := by
                  rw [hib]
                  calc Builtin.nextslicecap (len + n) c' * bytes ≤ (2 * (len + n) + 192) * bytes := Nat.mul_le_mul_right _ hnx
                    _ = 2 * ((len + n) * bytes) + 192 * bytes := by rw [Nat.add_mul, Nat.mul_assoc]
                    _ ≤ 281474976710656 := by omega
                have := run_append_grow_src (P := P) w st xt o.type e i zv hu hi hiz base' len c' olds hold (a.eval x) n vs src hlt (by omega) hfit
                rw [hv]
                exact ⟨_, by unfold grownCap; simp [Question.cut], this⟩
              -- the zeros behind what is laid
              have zlen : ∀ k, (Builtin.zeroCells zv.cells k).size = k * e' := by intro k; simp [Builtin.zeroCells, hzsz]
              obtain ⟨q1, q2, cb, sh, cs, z, c', q3, q4, q5, q6⟩ := slice_of hs
              -- there is room in the model's row
              have room : len + n ≤ c' → ∀ w', (storeCells (z.add (len * e')) vs).run P w = .ok () w' → (Builtin.append_ #[st, xt] o.type #[a.eval s, a.eval x]).run P w = .ok (.slice (some z) (len + n) c') w' := by
                intro hle w' hst
                rw [q5]
                simp [Builtin.append_, run_underlying hu, run_underlying hxu, sizeOf, typeInfo, hi, f3, his, f1 w rfl, hle, hst]
              have zadd : c' ≠ 0 → z.add (len * e') = ⟨cb, sh + (o' + len * e'), none⟩ := by
                intro hc0
                rw [(q6 hc0).1, add_eq]
              split at h
              · -- in place, as far as is known
                rename_i hle
                simp only [Option.map_eq_some_iff] at h
                obtain ⟨H1, hH1, h⟩ := h
                simp only [Prod.mk.injEq] at h
                obtain ⟨rfl, rfl⟩ := h
                obtain ⟨w', r1, r2⟩ := stn_sim (P := P) hH hH1 f2 q3 (z := z.add (len * e')) (by
                  intro hne
                  have hlen : n * e' ≠ 0 := by rw [← hnl]; intro h0; exact hne (List.eq_nil_of_length_eq_zero h0)
                  have : n ≠ 0 := by intro h0; subst h0; simp at hlen
                  exact zadd (by omega))
                exact Done.of_val hex (room (by omega) w' r1) (Ext.refl _) r2 ⟨q1, by omega, cb, sh, cs, z, c', q3, by omega, rfl, q6⟩
              · rename_i hgt
                split at h
                · rename_i l hl
                  split at h
                  · rename_i hfit
                    simp only [Option.map_eq_some_iff] at h
                    obtain ⟨H1, hH1, h⟩ := h
                    simp only [Prod.mk.injEq] at h
                    obtain ⟨rfl, rfl⟩ := h
                    by_cases hle : len + n ≤ c'
                    · -- the row has room, of which nothing was known: it goes on under a new name
                      obtain ⟨hz, hext⟩ := q6 (by omega)
                      have k2' : (len + n) * e' ≤ c' * e' := Nat.mul_le_mul_right _ hle
                      rw [Nat.add_mul] at k2'
                      obtain ⟨φ', w', g1, g2, g3, g4⟩ := hH.move (P := P) (b := b) (id := id) hl q3 (o := o') (k := len * e') hfit f2 (by rw [hnl]; omega) hid hH1
                      have g3' : (storeCells (z.add (len * e')) vs).run P w = .ok () w' := by rw [zadd (by omega), ← Nat.add_assoc]; exact g3
                      refine Done.of_val hex (room hle w' g3') g1 g4 ⟨q1, Nat.le_refl _, cb, sh + o', cs, z, c', g2, hle, rfl, fun _ => ⟨by rw [hz]; rfl, by omega⟩⟩
                    · -- a new row
                      have hsl : sliceCells e' (.s (.slice (some (b, o')) len cap e')) len H = some ((l.drop o').take (len * e')) := by
                        simp [sliceCells, AH.ldn, hl, hfit]
                      obtain ⟨olds, p1, p2, p3⟩ := firstCells_sim (P := P) hH (v := a.eval s) hs hsl rfl (Nat.le_refl _)
                      have hol : olds.length = len * e' := by rw [← p2.length]; simp; omega
                      obtain ⟨nc, g1, g2⟩ := grow (some z) c' olds q5 (by omega) (by rw [his, ← q5]; exact p1 w.drew rfl)
                      have hk := hH.kill (b := b) (by rw [hl]; simp)
                      have hall := R2.append p2 f2
                      obtain ⟨φ', e1, e2, e3⟩ := hk.new hH1 hid (c := (olds ++ vs).toArray ++ Builtin.zeroCells zv.cells (nc - (len + n))) (by have := hall.length; simp at this ⊢; omega)
                        (fun i x hx => by
                          obtain ⟨u, hu, hr⟩ := hall.get i x hx
                          refine ⟨u, ?_, hr⟩
                          have hlt := (List.getElem?_eq_some_iff.1 hu).1
                          rw [Array.getElem?_append_left (by simpa using hlt)]
                          simpa using hu) e (w.drew.alloc (.cells ((olds ++ vs).toArray ++ Builtin.zeroCells zv.cells (nc - (len + n))) e)) rfl rfl rfl
                      refine Done.of_val hex g2 e1 e3 ⟨q1, Nat.le_refl _, w.heap.size, 0, _, _, nc, e2, by omega, rfl, fun _ => ⟨rfl, ?_⟩⟩
                      simp only [Array.size_append, List.size_toArray, List.length_append, hol, hvl, zlen]
                      rw [← Nat.add_mul, ← Nat.add_mul]
                      have : len + n + (nc - (len + n)) = nc := by omega
                      rw [this]; omega
                  · cases h
                · cases h
            · cases h
          · cases h
        · cases k5
      · cases h4
    · cases hc
  · cases hc

end Go.AM
