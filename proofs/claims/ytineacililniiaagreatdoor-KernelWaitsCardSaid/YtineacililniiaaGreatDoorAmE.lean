/-
  THE ABSTRACT MACHINE: each operation that only computes gives what the model's gives.
-/
import Derived.Test.YtineacililniiaaGreatDoorAmD
import Derived.Laws.StructEq
namespace Go.AM

variable {P : Program} {G : List Nat} {φ : Phi} {T : List AV} {a : Act} {w : World} {B : Nat} {w0 : World} {H : AH}

theorem flat_off {f : Field} {i : Nat} {k : Bool} (h : flatField P f i k = true) : f.offset = i ∧ f.name ≠ "_" ∧ (k = false → ∃ k, P.underlying f.type = some (.int k)) ∧ (k = true → P.underlying f.type = some .bool) := by
  unfold flatField at h
  simp only [Bool.and_eq_true, beq_iff_eq, bne_iff_ne] at h
  refine ⟨h.1.1, h.1.2, ?_⟩
  have h2 := h.2
  split at h2
  · exact ⟨fun _ => ⟨_, by assumption⟩, fun h => by cases h⟩
  · exact ⟨fun h => (by cases h), fun _ => by assumption⟩
  · cases h2

theorem aggM_int {t : TypeId} {k : IntKind} (h : P.underlying t = some (.int k)) : aggM P t = some none := by unfold aggM; rw [h]
theorem aggM_bool {t : TypeId} (h : P.underlying t = some .bool) : aggM P t = some none := by unfold aggM; rw [h]

/-- One cell. -/
theorem part_one {t : TypeId} (h : aggM P t = some none) {cs : Array Value} {i : Nat} {v : Value} (hv : cs[i]? = some v) (w : World) : (part t cs i).run P w = .ok v w := by
  unfold part
  simp only [Sem.run_bind, run_isAgg' h, Result.andThen_ok]
  simp [hv]

theorem flat_sim (d : Nat) : ∀ (fs : List Field) (ks : List Bool) (i : Nat) (xs ys : List SV) (cx cy : Array Value) (r : Bool), flatFields P fs ks i = true → eqCells ks xs ys = some r →
    R2 (SVRel φ) xs (cx.toList.drop i) → R2 (SVRel φ) ys (cy.toList.drop i) → (Op.eqFields (d + 1) cx cy fs).run P w = .ok r w
  | [], [], i, xs, ys, cx, cy, r, _, he, _, _ => by
    cases xs <;> cases ys <;> simp [eqCells] at he
    subst he
    simp [Op.eqFields]
  | f :: fs, k :: ks, i, xs, ys, cx, cy, r, hf, he, hx, hy => by
    simp only [flatFields, Bool.and_eq_true] at hf
    obtain ⟨h1, h2, h3⟩ := flat_off hf.1
    subst h1
    have fin : ∀ (x y : SV) (xs' ys' : List SV) (b r' : Bool), xs = x :: xs' → ys = y :: ys' → aggM P f.type = some none → (∀ u v, SVRel φ x u → SVRel φ y v → (Op.equalIn (d + 1) f.type u v).run P w = .ok b w) → eqCells ks xs' ys' = some r' →
        (Op.eqFields (d + 1) cx cy (f :: fs)).run P w = .ok (b && r') w := by
      intro x y xs' ys' b r' e1 e2 hm hb hr'
      subst e1; subst e2
      have hx' : R2 (SVRel φ) xs' (cx.toList.drop (f.offset + 1)) := by have := R2.drop 1 hx; simpa using this
      have hy' : R2 (SVRel φ) ys' (cy.toList.drop (f.offset + 1)) := by have := R2.drop 1 hy; simpa using this
      obtain ⟨u, hu, ru⟩ := hx.get 0 x (by simp)
      obtain ⟨v, hv, rv⟩ := hy.get 0 y (by simp)
      have hu : cx[f.offset]? = some u := by simpa using hu
      have hv : cy[f.offset]? = some v := by simpa using hv
      have ih := flat_sim d fs ks (f.offset + 1) xs' ys' cx cy r' hf.2 hr' hx' hy'
      simp only [Op.eqFields, if_pos h2, Sem.run_bind, part_one hm hu, part_one hm hv, hb u v ru rv, Result.andThen_ok]
      cases b
      · simp
      · simpa using ih
    cases xs with
    | nil => cases k <;> cases ys <;> simp [eqCells] at he
    | cons x xs' =>
      cases ys with
      | nil => cases k <;> cases x <;> simp [eqCells] at he
      | cons y ys' =>
        cases k with
        | false =>
          cases x <;> cases y <;> simp only [eqCells, reduceCtorEq] at he
          rename_i k1 n k2 n'
          split at he
          · rename_i hk
            subst hk
            simp only [Option.map_eq_some_iff] at he
            obtain ⟨r', hr', rfl⟩ := he
            obtain ⟨k', hk'⟩ := h3.1 rfl
            refine fin _ _ _ _ (n == n') r' rfl rfl (aggM_int hk') ?_ hr'
            intro u v hu hv
            have hu : u = .int k1 n := hu
            have hv : v = .int k1 n' := hv
            subst hu; subst hv
            exact run_equalIn_int w d f.type k1 k' n n' hk'
          · cases he
        | true =>
          cases x <;> cases y <;> simp only [eqCells, reduceCtorEq] at he
          rename_i n n'
          simp only [Option.map_eq_some_iff] at he
          obtain ⟨r', hr', rfl⟩ := he
          refine fin _ _ _ _ (n == n') r' rfl rfl (aggM_bool (h3.2 rfl)) ?_ hr'
          intro u v hu hv
          have hu : u = .bool n := hu
          have hv : v = .bool n' := hv
          subst hu; subst hv
          exact run_equalIn_bool' w d f.type n n' (h3.2 rfl)
  | [], _ :: _, _, _, _, _, _, _, hf, _, _, _ => by simp [flatFields] at hf
  | _ :: _, [], _, _, _, _, _, _, hf, _, _, _ => by simp [flatFields] at hf

theorem eqAgg_sim {op : BinOp} {ks : List Bool} {ng : Bool} {x y v : AV} (h : eqAggA ks ng x y = some v) (hop : (if ng then op == .neq else op == .eql) = true) {t : TypeId} (ht : flatStruct P t ks = true)
    (ox oy : Operand) {u u' : Value} (hx : AVRel φ x u) (hy : AVRel φ y u') :
    ∃ cv, ((do eqGuard op t ox oy u u'; binOp op t u u' : Sem Value)).run P w = .ok cv w ∧ AVRel φ v cv := by
  unfold eqAggA at h
  split at h
  · rename_i xs ys
    simp only [Option.map_eq_some_iff] at h
    obtain ⟨r, hr, rfl⟩ := h
    obtain ⟨cx, hcx, rfl⟩ := hx
    obtain ⟨cy, hcy, rfl⟩ := hy
    unfold flatStruct at ht
    split at ht
    · rename_i fs hu
      simp only [Bool.and_eq_true, Bool.not_eq_true'] at ht
      have hf : P.fieldsOf t = fs := by simp [Program.fieldsOf, hu]
      have h1 := flat_sim (P := P) (w := w) (φ := φ) 9998 fs.toList ks 0 xs ys cx.toArray cy.toArray r ht.2 hr (by simpa using hcx) (by simpa using hcy)
      have h2 := run_equalIn_struct (P := P) w 9999 t cx.toArray cy.toArray (by rw [hf]; exact hu) ht.1.1
      rw [hf, h1] at h2
      refine ⟨.bool (ng ^^ r), ?_, rfl⟩
      simp only [Sem.run_bind, run_eqGuard_agg w op t ox oy _ _ ht.1.2, Result.andThen_ok]
      cases ng
      · have : op = .eql := by simpa using hop
        subst this
        rw [run_eql_struct, h2]; simp
      · have : op = .neq := by simpa using hop
        subst this
        rw [run_neq_struct, h2]; simp
    · cases ht
  · cases h

/- ---- all of them ---- -/

theorem beq_opd {b c : Bool} (h : (b && c) = true) : b = true ∧ c = true := by simpa using h

theorem pure_sim (hT : TRel φ T a.tmps) (hG : GRel G φ) {r : ROp} {o : Oper} (hc : chkPure P G r o.op = true) {v : AV} (h : pureA (ev T) r = some v) : PureDone P φ (execOp a.eval o) w v := by
  cases r with
  | move y =>
    simp only [pureA, Option.some.injEq] at h
    subst h
    simp only [chkPure] at hc
    split at hc
    · rename_i x hop; exact ⟨_, by simp [execOp, hop], opd_rel hc hT hG⟩
    · rename_i x hop; exact ⟨_, by simp [execOp, hop], opd_rel hc hT hG⟩
    · cases hc
  | pick c' a' b' =>
    simp only [chkPure] at hc
    split at hc
    · rename_i c x y hop
      simp only [Bool.and_eq_true] at hc
      have h1 := opd_rel hc.1.1 hT hG
      have h2 := opd_rel hc.1.2 hT hG
      have h3 := opd_rel hc.2 hT hG
      simp only [pureA, pickA] at h
      split at h
      · rename_i hb
        rw [hb] at h1
        have h1 : a.eval c = .bool true := h1
        simp only [Option.some.injEq] at h; subst h
        exact ⟨_, by simp [execOp, hop, h1, asBool], h2⟩
      · rename_i hb
        rw [hb] at h1
        have h1 : a.eval c = .bool false := h1
        simp only [Option.some.injEq] at h; subst h
        exact ⟨_, by simp [execOp, hop, h1, asBool], h3⟩
      · cases h
    · cases hc
  | nilCheck y =>
    simp only [chkPure] at hc
    split at hc
    · rename_i x hop
      have h1 := opd_rel hc hT hG
      simp only [pureA, nilCheckA] at h
      split at h
      · rename_i p hb
        rw [hb] at h1
        simp only [Option.some.injEq] at h; subst h
        obtain ⟨z, hz, h2⟩ := h1
        exact ⟨_, by simp [execOp, hop, h2], z, hz, rfl⟩
      · rename_i f caps hb
        rw [hb] at h1
        simp only [Option.some.injEq] at h; subst h
        obtain ⟨z, hz, h2⟩ := h1
        exact ⟨_, by simp [execOp, hop, h2], z, hz, rfl⟩
      · cases h
    · cases hc
  | build z ps =>
    simp only [chkPure] at hc
    split at hc
    · rename_i t parts hop
      simp only [Bool.and_eq_true] at hc
      obtain ⟨hz, hc⟩ := hc
      simp only [pureA, buildA, Option.map_eq_some_iff] at h
      obtain ⟨l, hl, rfl⟩ := h
      obtain ⟨zv, hz1, hz2⟩ := run_zero hz w
      split at hc
      · rename_i fs hu
        simp only [Bool.and_eq_true] at hc
        have hs : ∀ f ∈ fs.toList, (szOf P f.type).isSome = true := List.all_eq_true.1 hc.1
        obtain ⟨cl, h1, h2⟩ := fill_sim hl hz2 (places_rel hT hG hc.2)
        refine ⟨.agg cl, ?_, cl.toList, h2, rfl⟩
        have hfl : Instr.fill (fun i => (fs.toList.map fun f => (f.offset, (szOf P f.type).getD 0)).toArray[i]?) zv.cells (parts.map fun q => (q.1, a.eval q.2)).toList = some cl := by
          rw [show (fun i => (fs.toList.map fun f => (f.offset, (szOf P f.type).getD 0)).toArray[i]?) = fieldPlaceOf P fs from funext fun i => fieldPlaceOf_eq fs hs i]
          simpa using h1
        have hm := mapM_places_arr fs hs w
        simp only [execOp, hop, Instr.build, Sem.run_bind, hz1, Result.andThen_ok, run_underlying hu, hm, hfl, Sem.run_pure]
      · rename_i n e hu
        split at hc
        · rename_i sz hsz
          obtain ⟨cl, h1, h2⟩ := fill_sim hl hz2 (places_rel hT hG hc)
          refine ⟨.agg cl, ?_, cl.toList, h2, rfl⟩
          have hfl : Instr.fill (fun i => some (i * sz, sz)) zv.cells (parts.map fun q => (q.1, a.eval q.2)).toList = some cl := by simpa using h1
          simp only [execOp, hop, Instr.build, Sem.run_bind, hz1, Result.andThen_ok, run_underlying hu, run_szOf hsz, hfl, Sem.run_pure]
        · cases hc
      · cases hc
    · cases hc
  | load m y => simp [pureA] at h
  | fieldAddr off y =>
    simp only [chkPure] at hc
    split at hc
    · rename_i s x i hop
      split at hc
      · rename_i f hf
        simp only [Bool.and_eq_true, beq_iff_eq] at hc
        obtain ⟨⟨h1, h2⟩, h3⟩ := hc
        subst h1
        obtain ⟨fs, hu, hfi⟩ := fieldOf_eq hf
        have h4 := opd_rel h3 hT hG
        simp only [pureA, fieldAddrA] at h
        split at h
        · rename_i b o' hb
          rw [hb] at h4
          simp only [Option.some.injEq] at h; subst h
          obtain ⟨cb, sh, cs, hφ, hv⟩ := ptr_of h4
          split at h2
          · rename_i n hn
            have hn0 : n ≠ 0 := by simpa using h2
            refine ⟨.pointer (some ⟨cb, sh + (o' + f.offset), none⟩), ?_, ptr_mk hφ⟩
            simp only [execOp, hop, Instr.fieldAt, Sem.run_bind, run_underlying hu, Result.andThen_ok, hfi, hv, Instr.sureAddr, Sem.run_pure, fieldPlace, run_szOf hn, if_neg hn0, add_eq]
          · cases h2
        · cases h
      · cases hc
    · cases hc
  | field m off y =>
    simp only [chkPure] at hc
    split at hc
    · rename_i s x i hop
      split at hc
      · rename_i f hf
        simp only [Bool.and_eq_true, beq_iff_eq, decide_eq_true_eq] at hc
        obtain ⟨⟨h1, h2⟩, h3⟩ := hc
        subst h1
        obtain ⟨fs, hu, hfi⟩ := fieldOf_eq hf
        have h4 := opd_rel h3 hT hG
        simp only [pureA, fieldA] at h
        split at h
        · rename_i l hb
          rw [hb] at h4
          obtain ⟨cs, hcs, hv⟩ := h4
          obtain ⟨cv, h5, h6⟩ := part_sim (cs := cs.toArray) h2 (by simpa using hcs) h w
          exact ⟨cv, by simp [execOp, hop, Instr.field, run_underlying hu, hfi, hv, asAgg, h5], h6⟩
        · cases h
      · cases hc
    · cases hc
  | indexSl esz y j =>
    simp only [chkPure] at hc
    split at hc
    · rename_i t x i hop
      split at hc
      · rename_i e he
        simp only [Bool.and_eq_true, decide_eq_true_eq] at hc
        obtain ⟨⟨h1, h2⟩, h3⟩ := hc
        have hu := slElem_eq he
        have h4 := opd_rel h2 hT hG
        have h5 := opd_rel h3 hT hG
        simp only [pureA, indexSlA] at h
        split at h
        · rename_i b o' len cap e' k n hb hn
          rw [hb] at h4
          rw [hn] at h5
          have h5 : a.eval i = .int k n := h5
          split at h
          · rename_i hlt
            simp only [Option.some.injEq] at h; subst h
            obtain ⟨h6, h7, cb, sh, cs, z, c', h8, h9, h10, h11⟩ := slice_of h4
            obtain ⟨hz, _⟩ := h11 (by omega)
            subst hz
            refine ⟨.pointer (some ⟨cb, sh + (o' + n.toNat * esz), none⟩), ?_, ptr_mk h8⟩
            simp only [execOp, hop, Instr.indexAt, Sem.run_bind, h5, asIntOf, Sem.run_pure, Result.andThen_ok, run_underlying hu, h10]
            simp [hlt, run_szOf h1, add_eq]
          · cases h
        · cases h
      · cases hc
    · cases hc
  | indexArr len esz y j =>
    simp only [chkPure] at hc
    split at hc
    · rename_i t x i hop
      split at hc
      · rename_i n0 e he
        simp only [Bool.and_eq_true, decide_eq_true_eq, beq_iff_eq] at hc
        obtain ⟨⟨⟨h0, h1⟩, h2⟩, h3⟩ := hc
        subst h0
        have hu := arrElem_eq he
        have h4 := opd_rel h2 hT hG
        have h5 := opd_rel h3 hT hG
        simp only [pureA, indexArrA] at h
        split at h
        · rename_i b o' k n hb hn
          rw [hb] at h4
          rw [hn] at h5
          have h5 : a.eval i = .int k n := h5
          split at h
          · rename_i hlt
            simp only [Option.some.injEq] at h; subst h
            obtain ⟨cb, sh, cs, hφ, hv⟩ := ptr_of h4
            refine ⟨.pointer (some ⟨cb, sh + (o' + n.toNat * esz), none⟩), ?_, ptr_mk hφ⟩
            simp only [execOp, hop, Instr.indexAt, Sem.run_bind, h5, asIntOf, Sem.run_pure, Result.andThen_ok, run_underlying hu, hv, Instr.sureAddr]
            simp [hlt, run_szOf h1, add_eq]
          · cases h
        · cases h
      · cases hc
    · cases hc
  | index len esz m y j =>
    simp only [chkPure] at hc
    split at hc
    · rename_i t x i hop
      split at hc
      · rename_i n0 e he
        simp only [Bool.and_eq_true, decide_eq_true_eq, beq_iff_eq] at hc
        obtain ⟨⟨⟨⟨h0, h1⟩, hm⟩, h2⟩, h3⟩ := hc
        subst h0
        have hu := arrElem_eq he
        have h4 := opd_rel h2 hT hG
        have h5 := opd_rel h3 hT hG
        simp only [pureA, indexA] at h
        split at h
        · rename_i l k n hb hn
          rw [hb] at h4
          rw [hn] at h5
          have h5 : a.eval i = .int k n := h5
          split at h
          · rename_i hlt
            obtain ⟨cs, hcs, hv⟩ := h4
            obtain ⟨cv, h6, h7⟩ := part_sim (cs := cs.toArray) hm (by simpa using hcs) h w
            refine ⟨cv, ?_, h7⟩
            simp only [execOp, hop, Instr.index, Sem.run_bind, h5, asIntOf, Sem.run_pure, Result.andThen_ok, run_underlying hu, hv]
            simp [hlt, run_szOf h1, h6]
          · cases h
        · cases h
      · cases hc
    · cases hc
  | slSl esz y lo' hi' mx' =>
    simp only [chkPure] at hc
    split at hc
    · rename_i t x lo hi mx hop
      split at hc
      · rename_i e he
        simp only [Bool.and_eq_true, decide_eq_true_eq, Bool.not_eq_true'] at hc
        obtain ⟨⟨⟨⟨⟨h1, h2⟩, h3⟩, h4⟩, h5⟩, h6⟩ := hc
        have hu := slElem_eq he
        have hx := opd_rel h2 hT hG
        have hlo := opt_rel h3 hT hG
        have hhi := opt_rel h4 hT hG
        have hmx := opt_rel h5 hT hG
        have hno : ((mx.map a.eval).isSome && (hi.map a.eval).isNone) = false := by simpa using h6
        simp only [pureA, slSlA] at h
        split at h
        · rename_i len cap e' hb
          rw [hb] at hx
          simp only [Option.bind_eq_some_iff] at h
          obtain ⟨⟨l, hh, m⟩, hbd, h⟩ := h
          obtain ⟨e1, e2, e3⟩ := slice_none hx
          subst e1; subst e2
          simp only [Option.some.injEq] at h
          subst h
          obtain ⟨m', hr, q1, q2, q3, q4, q5⟩ := bounds_sim (P := P) (w := w) hlo hhi hmx (Nat.le_refl 0) (Nat.le_refl 0) hno hbd true
          have : m' = 0 := by omega
          subst this
          have : l = 0 := by omega
          subst this
          have : hh = 0 := by omega
          subst this
          refine ⟨.slice none 0 0, ?_, by simp [AVRel, SVRel]; omega⟩
          simp only [execOp, hop, Instr.sliceAt, Instr.slice, Sem.run_bind, run_underlying hu, Result.andThen_ok, e3, hr, run_szOf h1]
          simp
        · rename_i b o' len cap e' hb
          rw [hb] at hx
          split at h
          · rename_i hee
            subst hee
            simp only [Option.bind_eq_some_iff] at h
            obtain ⟨⟨l, hh, m⟩, hbd, h⟩ := h
            simp only [Option.some.injEq] at h
            subst h
            obtain ⟨q6, q7, cb, sh, cs, z, c', q8, q9, q10, q11⟩ := slice_of hx
            obtain ⟨m', hr, q1, q2, q3, q4, q5⟩ := bounds_sim (P := P) (w := w) hlo hhi hmx q9 q7 hno hbd true
            refine ⟨.slice (some (if m' = l then z else z.add (l * e'))) (hh - l) (m' - l), ?_, q6, by omega, cb, sh, cs, _, m' - l, q8, by omega, rfl, ?_⟩
            · simp only [execOp, hop, Instr.sliceAt, Instr.slice, Sem.run_bind, run_underlying hu, Result.andThen_ok, q10, hr, run_szOf h1]
              by_cases hml : m' = l <;> simp [hml]
            · intro hne
              obtain ⟨hz, hcs⟩ := q11 (by omega)
              subst hz
              rw [if_neg (by omega), add_eq]
              refine ⟨rfl, ?_⟩
              have k1 : (l + (m' - l)) * e' ≤ c' * e' := Nat.mul_le_mul_right _ (by omega)
              rw [Nat.add_mul] at k1
              omega
          · cases h
        · cases h
      · cases hc
    · cases hc
  | bin op' x' y' =>
    simp only [chkPure] at hc
    split at hc
    · rename_i op t x y t' hop
      simp only [Bool.and_eq_true, beq_iff_eq] at hc
      obtain ⟨⟨h1, h2⟩, h3⟩ := hc
      subst h1
      have hx := opd_rel h2 hT hG
      have hy := opd_rel h3 hT hG
      simp only [pureA, binA] at h
      split at h
      · rename_i k n k' n' e1 e2
        rw [e1] at hx
        rw [e2] at hy
        have hx : a.eval x = .int k n := hx
        have hy : a.eval y = .int k' n' := hy
        have fin : ∀ (v' : SV), (∃ cv, (binOp op 0 (.int k n) (.int k' n')).run P w = .ok cv w ∧ SVRel φ v' cv) → PureDone P φ (execOp a.eval o) w (.s v') := by
          intro v' hh
          obtain ⟨cv, c1, c2⟩ := hh
          refine ⟨cv, ?_, c2⟩
          rw [binOp_type op 0 t] at c1
          have hg := eqGuard_run (P := P) (w := w) op t x y (.int k n) (.int k' n') (.inl (by simp)) (by intro c d hc; cases hc)
          simp only [execOp, hop, hx, hy, Sem.run_bind, hg, Result.andThen_ok, c1, Sem.run_pure]
        split at h
        · simp only [Option.map_eq_some_iff] at h
          obtain ⟨v', hv, rfl⟩ := h
          exact fin v' (by simpa using shift_sim (P := P) (w := w) (φ := φ) (k' := k') hv)
        · simp only [Option.map_eq_some_iff] at h
          obtain ⟨v', hv, rfl⟩ := h
          exact fin v' (by simpa using shift_sim (P := P) (w := w) (φ := φ) (k' := k') hv)
        · rename_i n1 n2
          split at h
          · rename_i hk
            subst hk
            simp only [Option.map_eq_some_iff] at h
            obtain ⟨v', hv, rfl⟩ := h
            exact fin v' (arith_sim hv n1 n2)
          · cases h
      · cases h
    · cases hc
  | eqs k ng x' y' =>
    simp only [chkPure] at hc
    split at hc
    · rename_i op t x y t' hop
      simp only [Bool.and_eq_true] at hc
      obtain ⟨⟨⟨h1, h2⟩, h3⟩, h4⟩ := hc
      have hx := opd_rel h3 hT hG
      have hy := opd_rel h4 hT hG
      have h1 : op = eqBin ng := by cases ng <;> simpa [eqBin] using h1
      subst h1
      simp only [pureA] at h
      obtain ⟨cv, c1, c2⟩ := eqs_sim (P := P) (w := w) h h2 hx hy
      refine ⟨cv, ?_, c2⟩
      have hg : (eqGuard (eqBin ng) t x y (a.eval x) (a.eval y)).run P w = .ok () w := by
        refine eqGuard_run _ t x y _ _ ?_ ?_
        · unfold eqsA at h
          split at h <;> first | (rename_i e1 e2; rw [e1] at hx; left; intro hn; rw [hn] at hx; simp [AVRel, SVRel] at hx; done) | (cases h; done)
        · intro c d e1 e2
          unfold eqsA at h
          split at h <;> first | (rename_i g1 g2; rw [g1, e1] at hx; simp [AVRel, SVRel] at hx; done) | (cases h; done)
      simp only [execOp, hop, Sem.run_bind, hg, Result.andThen_ok, c1, Sem.run_pure]
    · cases hc
  | eqAgg ks ng x' y' =>
    simp only [chkPure] at hc
    split at hc
    · rename_i op t x y t' hop
      simp only [Bool.and_eq_true] at hc
      obtain ⟨⟨⟨h1, h2⟩, h3⟩, h4⟩ := hc
      obtain ⟨cv, c1, c2⟩ := eqAgg_sim (P := P) (w := w) h h1 h2 x y (opd_rel h3 hT hG) (opd_rel h4 hT hG)
      exact ⟨cv, by simp only [execOp, hop]; rw [Sem.run_bind, c1]; simp, c2⟩
    · cases hc
  | un op' y =>
    simp only [chkPure] at hc
    split at hc
    · rename_i op t x hop
      simp only [Bool.and_eq_true, beq_iff_eq] at hc
      obtain ⟨h1, h2⟩ := hc
      subst h1
      have hx := opd_rel h2 hT hG
      simp only [pureA, unA] at h
      split at h
      · rename_i k n e1
        rw [e1] at hx
        have hx : a.eval x = .int k n := hx
        simp only [Option.some.injEq] at h; subst h
        exact ⟨_, by simp [execOp, hop, hx, Op.unary, Op.intArith], rfl⟩
      · rename_i k n e1
        rw [e1] at hx
        have hx : a.eval x = .int k n := hx
        simp only [Option.some.injEq] at h; subst h
        exact ⟨_, by simp [execOp, hop, hx, Op.unary, Op.intBits], rfl⟩
      · rename_i b e1
        rw [e1] at hx
        have hx : a.eval x = .bool b := hx
        simp only [Option.some.injEq] at h; subst h
        exact ⟨_, by simp [execOp, hop, hx, Op.unary], rfl⟩
      · cases h
    · cases hc
  | conv k y =>
    simp only [chkPure] at hc
    split at hc
    · rename_i src dst x hop
      simp only [Bool.and_eq_true, decide_eq_true_eq] at hc
      obtain ⟨⟨h1, h2⟩, h3⟩ := hc
      have hx := opd_rel h3 hT hG
      simp only [pureA, convA] at h
      split at h
      · rename_i k' n e1
        rw [e1] at hx
        have hx : a.eval x = .int k' n := hx
        simp only [Option.some.injEq] at h; subst h
        have hd : P.underlying dst = some (.int k) := by
          unfold isInt at h2
          split at h2
          · cases h2; assumption
          · cases h2
        have hpk : P.intKind dst = k := by simp [Program.intKind, hd]
        have := run_convert_int (P := P) w src dst k' n h1 (by rw [hpk]; exact hd)
        rw [hpk] at this
        exact ⟨_, by simp [execOp, hop, hx, this], rfl⟩
      · cases h
    · cases hc
  | makeFunc f caps =>
    simp only [chkPure] at hc
    split at hc
    · rename_i g first captured hop
      simp only [Bool.and_eq_true, beq_iff_eq] at hc
      obtain ⟨⟨h1, h2⟩, h3⟩ := hc
      subst h1
      have hf : first = #[] := by simpa using h2
      subst hf
      simp only [pureA, Option.map_eq_some_iff] at h
      obtain ⟨cs, hcs, rfl⟩ := h
      have hr := opds_rel hT hG h3
      have key : ∀ (l : List AV) (vs : List Value) (cs : List (Nat × Nat)), R2 (AVRel φ) l vs → capsA l = some cs → ∃ xs : List Addr, R2 (ptrRel φ) cs xs ∧ vs = xs.map fun x => Value.pointer (some x) := by
        intro l
        induction l with
        | nil => intro vs cs h1 h2; cases vs <;> simp [R2, capsA] at h1 h2; subst h2; exact ⟨[], trivial, rfl⟩
        | cons x l ih =>
          intro vs cs h1 h2
          cases vs with
          | nil => exact h1.elim
          | cons v vs =>
            unfold capsA at h2
            split at h2
            · rename_i heq; cases heq
            · rename_i p rest heq
              cases heq
              simp only [Option.map_eq_some_iff] at h2
              obtain ⟨cs', h3, rfl⟩ := h2
              obtain ⟨z, hz, hv⟩ := h1.1
              obtain ⟨xs, h4, h5⟩ := ih vs cs' h1.2 h3
              exact ⟨z :: xs, ⟨hz, h4⟩, by simp [hv, h5]⟩
            · cases h2
      obtain ⟨xs, h4, h5⟩ := key _ _ _ hr hcs
      refine ⟨_, by simp [execOp, hop, Instr.makeFunc]; rfl, xs, h4, ?_⟩
      rw [← h5]; congr 1; apply Array.ext'; simp
    · cases hc
  | bindf f y =>
    simp only [chkPure] at hc
    split at hc
    · rename_i g first captured hop
      simp only [Bool.and_eq_true, beq_iff_eq] at hc
      obtain ⟨⟨h1, h2⟩, h3⟩ := hc
      subst h1
      have hf : captured = #[] := by simpa using h2
      subst hf
      split at h3
      · rename_i x hx
        have hfirst : first = #[x] := by apply Array.ext'; simpa using hx
        subst hfirst
        have hy := opd_rel h3 hT hG
        simp only [pureA] at h
        unfold bindA at h
        split at h
        · rename_i p hp
          cases h
          rw [hp] at hy
          obtain ⟨z, hz, hv⟩ := hy
          exact ⟨_, by simp [execOp, hop, Instr.makeFunc]; rfl, z, hz, by simp [hv]⟩
        · cases h
      · cases h3
    · cases hc
  | extract i' y =>
    simp only [chkPure] at hc
    split at hc
    · rename_i x i hop
      simp only [Bool.and_eq_true, beq_iff_eq] at hc
      obtain ⟨h1, h2⟩ := hc
      subst h1
      have hx := opd_rel h2 hT hG
      simp only [pureA, extractA] at h
      split at h
      · rename_i ps e1
        rw [e1] at hx
        obtain ⟨vs, h3, h4⟩ := hx
        simp only [Option.map_eq_some_iff] at h
        obtain ⟨p, hp, rfl⟩ := h
        obtain ⟨u, hu, hr⟩ := h3.get _ _ hp
        exact ⟨u, by simp [execOp, hop, h4, Instr.extract, hu], by cases p <;> exact hr⟩
      · cases h
    · cases hc
  | len y =>
    simp only [chkPure] at hc
    split at hc
    · rename_i args ts hop
      split at hc
      · rename_i x t ha ht
        simp only [Bool.and_eq_true] at hc
        obtain ⟨h1, h2⟩ := hc
        have hx := opd_rel h1 hT hG
        have ha : args = #[x] := by apply Array.ext'; simpa using ha
        have ht : ts = #[t] := by apply Array.ext'; simpa using ht
        subst ha; subst ht
        split at h2
        · rename_i e hu
          simp only [pureA, lenA] at h
          split at h
          · rename_i base n c e' e1
            rw [e1] at hx
            simp only [Option.some.injEq] at h; subst h
            refine ⟨.int .i64 n, ?_, rfl⟩
            cases base with
            | none =>
              obtain ⟨r1, r2, r3⟩ := hx
              subst r1
              simp [execOp, hop, resolve, invoke, builtin, r3, Builtin.len_, run_underlying hu, goInt]
            | some p =>
              obtain ⟨_, _, _, _, _, _, _, _, _, hv, _⟩ := hx
              simp [execOp, hop, resolve, invoke, builtin, hv, Builtin.len_, run_underlying hu, goInt]
          · cases h
        · cases h2
      · cases hc
    · cases hc
  | lenArr n =>
    simp only [pureA, Option.some.injEq] at h
    subst h
    simp only [chkPure] at hc
    split at hc
    · rename_i args ts hop
      split at hc
      · rename_i x t ha ht
        have ha : args = #[x] := by apply Array.ext'; simpa using ha
        have ht : ts = #[t] := by apply Array.ext'; simpa using ht
        subst ha; subst ht
        refine ⟨.int .i64 n, ?_, rfl⟩
        split at hc
        · rename_i m e hu
          have : m = n := by simpa using hc
          subst this
          simp [execOp, hop, resolve, invoke, builtin, Builtin.len_, run_underlying hu, goInt]
        · rename_i e hu
          split at hc
          · rename_i m e' hu'
            have : m = n := by simpa using hc
            subst this
            simp [execOp, hop, resolve, invoke, builtin, Builtin.len_, run_underlying hu, run_underlying hu', goInt]
          · cases hc
        · cases hc
      · cases hc
    · cases hc
  | minmax mx x' y' =>
    simp only [chkPure] at hc
    split at hc
    · rename_i b args ts hop
      simp only [Bool.and_eq_true] at hc
      obtain ⟨h1, h2⟩ := hc
      split at h2
      · rename_i x y ha
        have ha : args = #[x, y] := by apply Array.ext'; simpa using ha
        subst ha
        simp only [Bool.and_eq_true] at h2
        have hx := opd_rel h2.1 hT hG
        have hy := opd_rel h2.2 hT hG
        simp only [pureA, minmaxA] at h
        split at h
        · rename_i k n k' n' e1 e2
          rw [e1] at hx
          rw [e2] at hy
          have hx : a.eval x = .int k n := hx
          have hy : a.eval y = .int k' n' := hy
          simp only [Option.some.injEq] at h; subst h
          cases mx
          · have : b = .min := by simpa using h1
            subst this
            exact ⟨.int k (if n' < n then n' else n), by simp [execOp, hop, resolve, invoke, builtin, hx, hy, Builtin.min_, Builtin.min2], by simp [AVRel, SVRel]⟩
          · have : b = .max := by simpa using h1
            subst this
            exact ⟨.int k (if n' > n then n' else n), by simp [execOp, hop, resolve, invoke, builtin, hx, hy, Builtin.max_, Builtin.max2], by simp [AVRel, SVRel]⟩
        · cases h
      · cases h2
    · cases hc
  | _ => simp [pureA] at h

end Go.AM
