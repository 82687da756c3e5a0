/-
  WALKS: the rules.
-/
import Derived.Test.YteehkkadjjfcgaaGreatDoorMg1
import Derived.Shelf.Spec.SlicesInsertGrow
import Derived.Laws.AppendOwn
namespace Go.AM
section
variable {tab : Nat → Option RFunc} {ext : Nat → List AV → AH → Option (AV × AH)} {n : Nat} {E : Env} {L : List Asr} {K : Pst}
theorem wpO_mono {ρ : Opd → AV} {id : Nat} {H : AH} {o : ROp} {K K' : AV → AH → Prop} (hk : ∀ v H', K v H' → K' v H') (h : wpO tab ext ρ id H o K) : wpO tab ext ρ id H o K' := by
  cases o with
  | call f args => exact CallP.mono h hk
  | callv x args =>
    simp only [wpO, callvP] at h ⊢
    split at h
    · exact CallP.mono h hk
    · exact CallP.mono h hk
    · exact h
  | move x => exact hk _ _ h
  | box x => obtain ⟨l, h0, H', h1, h2⟩ := h; exact ⟨l, h0, H', h1, hk _ _ h2⟩
  | buildSlice esz len z ps => obtain ⟨l, h0, H', h1, h2⟩ := h; exact ⟨l, h0, H', h1, hk _ _ h2⟩
  | makeSlice esz bytes z l c => obtain ⟨l, h0, H', h1, h2⟩ := h; exact ⟨l, h0, H', h1, hk _ _ h2⟩
  | _ => obtain ⟨l, h0, h2⟩ := h; exact ⟨l, h0, hk _ _ h2⟩
theorem gP_mono {c : Bool} {H : AH} {P P' : (AV → AH → Prop) → Prop} {K K' : AV → AH → Prop} (hP : (∀ v H', K v H' → K' v H') → P K → P' K') (hk : ∀ v H', K v H' → K' v H') (h : gP c H P K) : gP c H P' K' := by
  unfold gP at *
  cases c with
  | true => exact hP hk h
  | false => exact hk _ _ h
theorem watchP_mono {T : List AV} {H : AH} {P P' : Prop} (hp : P → P') : ∀ {ws : List Watch}, watchP T H ws P → watchP T H ws P'
  | [], h => hp h
  | _ :: _, h => ⟨h.1, watchP_mono hp h.2⟩
theorem wpR_mono {base : Nat} {K K' : List AV → AH → Prop} (hk : ∀ T H, K T H → K' T H) : ∀ {l : List ROper} {T : List AV} {H : AH}, wpR tab ext base l T H K → wpR tab ext base l T H K'
  | [], _, _, h => hk _ _ h
  | o :: l, T, H, h => by
    simp only [wpR] at h ⊢
    split at h
    · exact wpO_mono (fun v H' => watchP_mono (wpR_mono hk)) h
    · exact gP_mono (fun hk' => wpO_mono hk') (fun v H' => watchP_mono (wpR_mono hk)) h
theorem wpC_mono : ∀ {c : RC} {T : List AV} {H : AH} {K K' : Ex → List AV → AH → Prop}, (∀ e T H, K e T H → K' e T H) → wpC tab ext c T H K → wpC tab ext c T H K'
  | .skip, _, _, _, _, hk, h => hk _ _ _ h
  | .ret, _, _, _, _, hk, h => hk _ _ _ h
  | .exit _, _, _, _, _, hk, h => hk _ _ _ h
  | .region _ _, _, _, _, _, hk, h => wpR_mono (hk .norm) h
  | .seq a b, T, H, K, K', hk, h => wpC_mono (c := a) (fun e T H h => by
      cases e with
      | norm => exact wpC_mono (c := b) hk h
      | ret => exact hk _ _ _ h
      | out id => exact hk _ _ _ h) h
  | .cond c a b, T, H, K, K', hk, h => by
    simp only [wpC, condP] at h ⊢
    split at h
    · exact wpC_mono (c := a) hk h
    · exact wpC_mono (c := b) hk h
    · exact h.elim
  | .block id a, T, H, K, K', hk, h => wpC_mono (c := a) (fun e T H h => by
      cases e with
      | norm => exact hk _ _ _ h
      | ret => exact hk _ _ _ h
      | out i =>
        simp only [blockK] at h ⊢
        split
        · rename_i he; rw [if_pos he] at h; exact hk _ _ _ h
        · rename_i he; rw [if_neg he] at h; exact hk _ _ _ h) h
  | .loop a, T, H, K, K', hk, ⟨k, e, T', H', h1, h2⟩ => ⟨k, e, T', H', h1, hk _ _ _ h2⟩
theorem wpO_pure {ρ : Opd → AV} {id : Nat} {H : AH} {o : ROp} {v : AV} {K : AV → AH → Prop} (h : pureA ρ o = some v) (hk : o.kind = .pure) (hK : K v H) : wpO tab ext ρ id H o K := by
  cases o <;> simp only [ROp.kind, reduceCtorEq] at hk
  case move x => simp only [pureA, Option.some.injEq] at h; subst h; exact hK
  case stuck => simp [pureA] at h
  all_goals exact ⟨v, h, hK⟩
theorem WK.watch {E0 : Env} {os : List ROper} {K : Env → List Asr → Prop} {ρ : HF} {Rs : List Asr} {base : Nat} {T0 T : List AV} {H : AH} (hT : T.length = n) (hl0 : LvE T0 E0) : ∀ {ws : List Watch}, WK tab ext n ws E0 E L os K → LvE T E → Sat ρ H (fres base os ++ (L ++ Rs)) →
    watchP T0 H ws (wpR tab ext base os T H (fun T H => ∃ E L, K E L ∧ T.length = n ∧ LvE T E ∧ Sat ρ H (L ++ Rs)))
  | [], h, hl, hs => h ρ Rs base T H hT hl hs
  | w :: ws, ⟨⟨h1, h0⟩, h2⟩, hl, hs => by
    refine ⟨?_, WK.watch hT hl0 h2 hl hs⟩
    have key : (∀ p, w.guard = some p → gd (T0.getD p.1 undef) p.2 = true) → loadA w.m (ev T0 w.a) H = some (T0.getD w.dst undef) := by
      intro hg
      have : ∃ g, (match w.guard with | none => some (AV.s (.bool true)) | some p => look E0 p.1) = some g ∧ (∀ p, w.guard = some p → gd g p.2 = true) := by
        cases hw : w.guard with
        | none => exact ⟨_, rfl, fun _ h => by cases h⟩
        | some p =>
          have h3 := h0 p hw
          obtain ⟨g, hgE⟩ := Option.isSome_iff_exists.1 h3
          refine ⟨g, hgE, fun q hq => ?_⟩
          cases hq
          have h4 := hg p hw
          have h5 : T0.getD p.1 undef = g := hl0 _ _ hgE
          rw [h5] at h4; exact h4
      obtain ⟨g, g1, g2⟩ := this
      obtain ⟨b, o, v, e1, e2, e3⟩ := h1 g g1 g2
      rw [evo_ok hl0 e1]
      have e4 : T0.getD w.dst undef = v := hl0 _ _ e2
      rw [e4]
      rcases e3 with ⟨e5, x, rfl, e6⟩ | ⟨m, l, e5, rfl, e6⟩
      · rw [e5]; show (H.ld b o).map AV.s = _; rw [e6.of ρ H _ hs.mid]; rfl
      · rw [e5]; show (H.ldn b o m).map AV.agg = _; rw [e6.of ρ H _ hs.mid]; rfl
    cases hw : w.guard with
    | none => exact key (fun _ h => by rw [hw] at h; cases h)
    | some p => obtain ⟨t, b⟩ := p; exact fun hg => key (fun q hq => by rw [hw] at hq; cases hq; exact hg)
variable {os : List ROper} {Kr : Env → List Asr → Prop} {d i : Nat} {ws : List Watch}
theorem RP.gen {o : ROper} (hg : o.guard = none) (h : ∀ (ρ : HF) (Rs : List Asr) (base : Nat) (T : List AV) (H : AH), T.length = n → LvE T E → Sat ρ H (Fre (base + o.idx) :: (fres base os ++ (L ++ Rs))) →
    wpO tab ext (ev T) (base + o.idx) H o.op fun v H' => ∃ E' L', WK tab ext n o.watch E E' L' os Kr ∧ LvE (put T o.dst v) E' ∧ Sat ρ H' (fres base os ++ (L' ++ Rs))) : RP tab ext n E L (o :: os) Kr := by
  intro ρ Rs base T H hT hl hs
  simp only [wpR, hg]
  refine wpO_mono ?_ (h ρ Rs base T H hT hl hs)
  rintro v H' ⟨E', L', h1, h2, h3⟩
  exact WK.watch (put_len hT _ _) hl h1 h2 h3
theorem RP.done (h : Kr E L) : RP tab ext n E L [] Kr := fun _ _ _ _ _ hT hl hs => ⟨E, L, h, hT, hl, hs⟩
theorem WK.z {E0 : Env} (h : RP tab ext n E L os Kr) : WK tab ext n [] E0 E L os Kr := h
theorem RP.p {op : ROp} {v : AV} (h : pureE E op = some v) (hd : Nat.blt d n = true) (k : RP tab ext n ((d, v) :: E) L os Kr) : RP tab ext n E L (⟨some d, op, none, i, []⟩ :: os) Kr :=
  RP.gen rfl fun _ _ _ _ _ hT hl hs => let h1 := pureE_ok hl h; wpO_pure h1.1 h1.2 ⟨_, L, k, hl.put hT hd v, hs.drop⟩
theorem RP.pn {op : ROp} {v : AV} (h : pureE E op = some v) (k : RP tab ext n E L os Kr) : RP tab ext n E L (⟨none, op, none, i, []⟩ :: os) Kr :=
  RP.gen rfl fun _ _ _ _ _ _ hl hs => let h1 := pureE_ok hl h; wpO_pure h1.1 h1.2 ⟨_, L, k, hl, hs.drop⟩
theorem RP.l {a : Opd} {b o : Nat} {x : SV} (ha : evo E a = some (.s (.ptr (some (b, o))))) (hl : Ld L b o x) (hd : Nat.blt d n = true) (k : RP tab ext n ((d, .s x) :: E) L os Kr) : RP tab ext n E L (⟨some d, .load none a, none, i, []⟩ :: os) Kr :=
  RP.gen rfl fun ρ Rs base T H hT hv hs => by
    refine ⟨.s x, ?_, _, L, k, hv.put hT hd _, hs.drop⟩
    simp only [evo_ok hv ha]
    show (H.ld b o).map AV.s = _
    rw [hl.of ρ H _ hs.drop.mid]; rfl
theorem RP.ln {a : Opd} {b o m : Nat} {l : List SV} (ha : evo E a = some (.s (.ptr (some (b, o))))) (hl : Ldn L b o m l) (hd : Nat.blt d n = true) (k : RP tab ext n ((d, .agg l) :: E) L os Kr) : RP tab ext n E L (⟨some d, .load (some m) a, none, i, []⟩ :: os) Kr :=
  RP.gen rfl fun ρ Rs base T H hT hv hs => by
    refine ⟨.agg l, ?_, _, L, k, hv.put hT hd _, hs.drop⟩
    simp only [evo_ok hv ha]
    show (H.ldn b o m).map AV.agg = _
    rw [hl.of ρ H _ hs.drop.mid]; rfl
theorem RP.s {a v : Opd} {b o m : Nat} {u : AV} {vs : List SV} {L' : List Asr} (ha : evo E a = some (.s (.ptr (some (b, o))))) (hv : evo E v = some u) (hc : u.cells? = some vs) (hm : Nat.beq vs.length m = true) (hst : Stw L b o vs L') (k : WK tab ext n ws E E L' os Kr) : RP tab ext n E L (⟨none, .store m a v, none, i, ws⟩ :: os) Kr :=
  RP.gen rfl fun ρ Rs base T H hT hl hs => by
    obtain ⟨H', h1, h2⟩ := hst.of ρ H _ hs.drop.mid
    refine ⟨H', ?_, _, L', k, hl, h2.mid⟩
    rw [evo_ok hl ha, evo_ok hl hv]
    show (match u.cells? with | some l => if l.length = m then H.stn b o l else none | none => none) = _
    rw [hc]
    simp only
    rw [if_pos (Nat.eq_of_beq_eq_true hm), h1]
theorem RP.nw {l : List SV} (hd : Nat.blt d n = true) (k : ∀ b, RP tab ext n ((d, .s (.ptr (some (b, 0)))) :: E) (Cel b l :: L) os Kr) : RP tab ext n E L (⟨some d, .newc l, none, i, []⟩ :: os) Kr :=
  RP.gen rfl fun ρ Rs base T H hT hl hs => by
    have h1 := Sat.mk hs l
    refine ⟨_, new_of H hs.fre, _, _, k _, hl.put hT hd _, ?_⟩
    exact h1.perm (List.perm_middle.symm)
theorem RP.bx {x : Opd} {u : AV} {l : List SV} (hx : evo E x = some u) (hc : u.cells? = some l) (hd : Nat.blt d n = true) (k : ∀ b, RP tab ext n ((d, .s (.ptr (some (b, 0)))) :: E) (Cel b l :: L) os Kr) : RP tab ext n E L (⟨some d, .box x, none, i, []⟩ :: os) Kr :=
  RP.gen rfl fun ρ Rs base T H hT hl hs => by
    have h1 := Sat.mk hs l
    refine ⟨l, by rw [evo_ok hl hx, hc], _, new_of H hs.fre, _, _, k _, hl.put hT hd _, ?_⟩
    exact h1.perm (List.perm_middle.symm)
theorem RP.bs {esz len : Nat} {z : List SV} {ps : List (Nat × Nat × Opd)} {us : List (Nat × Nat × AV)} {l : List SV} (hp : evp E ps = some us) (hf : fillA z us = some l) (hd : Nat.blt d n = true) (k : ∀ b, RP tab ext n ((d, .s (.slice (some (b, 0)) len len esz)) :: E) (Cel b l :: L) os Kr) : RP tab ext n E L (⟨some d, .buildSlice esz len z ps, none, i, []⟩ :: os) Kr :=
  RP.gen rfl fun ρ Rs base T H hT hl hs => by
    have h1 := Sat.mk hs l
    refine ⟨l, by rw [evp_ok hl hp, hf], _, new_of H hs.fre, _, _, k _, hl.put hT hd _, ?_⟩
    exact h1.perm (List.perm_middle.symm)
theorem RP.mk {esz bytes : Nat} {z l : List SV} {a c : Opd} {ua uc : AV} {na nc : Nat} (ha : evo E a = some ua) (hc : evo E c = some uc) (hm : makeA esz bytes z ua uc = some (l, na, nc)) (hd : Nat.blt d n = true) (k : ∀ b, RP tab ext n ((d, .s (.slice (some (b, 0)) na nc esz)) :: E) (Cel b l :: L) os Kr) : RP tab ext n E L (⟨some d, .makeSlice esz bytes z a c, none, i, []⟩ :: os) Kr :=
  RP.gen rfl fun ρ Rs base T H hT hl hs => by
    have h1 := Sat.mk hs l
    refine ⟨_, by rw [evo_ok hl ha, evo_ok hl hc, hm], _, new_of H hs.fre, _, _, k _, hl.put hT hd _, ?_⟩
    exact h1.perm (List.perm_middle.symm)
theorem RP.c {f : Nat} {args : List Opd} {vs : List AV} {P R : List Asr} {Q : AV → List Asr → Prop} (ha : evl E args = some vs) (t : Tri tab ext f vs P Q) (hin : Ins P L R) (hd : Nat.blt d n = true)
    (k : ∀ v P', Q v P' → WK tab ext n ws E ((d, v) :: E) (P' ++ R) os Kr) : RP tab ext n E L (⟨some d, .call f args, none, i, ws⟩ :: os) Kr :=
  RP.gen rfl fun ρ Rs base T H hT hl hs => by
    show CallP tab ext f (args.map (ev T)) H _
    rw [evl_ok hl ha]
    refine t.use (R := R ++ (fres base os ++ Rs)) (hin.sat hs.drop.mid) ?_
    intro v H' P' hq hs'
    refine ⟨_, _, k v P' hq, hl.put hT hd _, ?_⟩
    rw [← List.append_assoc] at hs'
    exact hs'.mid
theorem RP.cn {f : Nat} {args : List Opd} {vs : List AV} {P R : List Asr} {Q : AV → List Asr → Prop} (ha : evl E args = some vs) (t : Tri tab ext f vs P Q) (hin : Ins P L R)
    (k : ∀ v P', Q v P' → WK tab ext n ws E E (P' ++ R) os Kr) : RP tab ext n E L (⟨none, .call f args, none, i, ws⟩ :: os) Kr :=
  RP.gen rfl fun ρ Rs base T H hT hl hs => by
    show CallP tab ext f (args.map (ev T)) H _
    rw [evl_ok hl ha]
    refine t.use (R := R ++ (fres base os ++ Rs)) (hin.sat hs.drop.mid) ?_
    intro v H' P' hq hs'
    refine ⟨_, _, k v P' hq, hl, ?_⟩
    rw [← List.append_assoc] at hs'
    exact hs'.mid
theorem RP.cv {x : Opd} {f : Nat} {caps : List (Nat × Nat)} {args : List Opd} {vs : List AV} {P R : List Asr} {Q : AV → List Asr → Prop} (hx : evo E x = some (.s (.fn f caps))) (ha : evl E args = some vs) (t : Tri tab ext f (vs ++ caps.map fun a => .s (.ptr (some a))) P Q) (hin : Ins P L R) (hd : Nat.blt d n = true)
    (k : ∀ v P', Q v P' → WK tab ext n ws E ((d, v) :: E) (P' ++ R) os Kr) : RP tab ext n E L (⟨some d, .callv x args, none, i, ws⟩ :: os) Kr :=
  RP.gen rfl fun ρ Rs base T H hT hl hs => by
    show callvP tab ext (ev T x) (args.map (ev T)) H _
    rw [evl_ok hl ha, evo_ok hl hx]
    refine t.use (R := R ++ (fres base os ++ Rs)) (hin.sat hs.drop.mid) ?_
    intro v H' P' hq hs'
    refine ⟨_, _, k v P' hq, hl.put hT hd _, ?_⟩
    rw [← List.append_assoc] at hs'
    exact hs'.mid
theorem RP.g {t : Nat} {b c : Bool} {dst : Option Nat} {op : ROp} (ht : look E t = some (.s (.bool c)))
    (h1 : c = b → RP tab ext n ((t, .s (.bool b)) :: E) L (⟨dst, op, none, i, ws⟩ :: os) Kr) (h2 : c = !b → RP tab ext n ((t, .s (.bool !b)) :: E) L (⟨dst, .move (.c undef), none, i, ws⟩ :: os) Kr) : RP tab ext n E L (⟨dst, op, some (t, b), i, ws⟩ :: os) Kr := by
  intro ρ Rs base T H hT hl hs
  have e : T.getD t undef = .s (.bool c) := hl _ _ ht
  have hl2 : LvE T ((t, .s (.bool c)) :: E) := fun j v hv => by
    simp only [look] at hv
    cases hb : Nat.beq t j with
    | true => rw [hb, cond_true] at hv; cases hv; have := Nat.eq_of_beq_eq_true hb; subst this; exact e
    | false => rw [hb, cond_false] at hv; exact hl _ _ hv
  simp only [wpR, e, gd_bool]
  by_cases hc : c = b
  · subst hc
    rw [show (c == c) = true by simp]
    have := h1 rfl ρ Rs base T H hT hl2 hs
    simpa only [wpR, gP_true] using this
  · have hc' : c = !b := by cases c <;> cases b <;> simp_all
    subst hc'
    rw [show ((!b) == b) = false by cases b <;> rfl]
    have := h2 rfl ρ Rs base T H hT hl2 hs
    simpa only [wpR, wpO, ev, gP_false] using this
theorem RP.gt {t : Nat} {b : Bool} {dst : Option Nat} {op : ROp} (ht : look E t = some (.s (.bool b))) (h1 : RP tab ext n E L (⟨dst, op, none, i, ws⟩ :: os) Kr) : RP tab ext n E L (⟨dst, op, some (t, b), i, ws⟩ :: os) Kr := by
  intro ρ Rs base T H hT hl hs
  have e : T.getD t undef = .s (.bool b) := hl _ _ ht
  simp only [wpR, e, gd_bool]
  rw [show (b == b) = true by simp]
  have := h1 ρ Rs base T H hT hl hs
  simpa only [wpR, gP_true] using this
theorem RP.gf {t : Nat} {b : Bool} {dst : Option Nat} {op : ROp} (ht : look E t = some (.s (.bool !b))) (h1 : RP tab ext n E L (⟨dst, .move (.c undef), none, i, ws⟩ :: os) Kr) : RP tab ext n E L (⟨dst, op, some (t, b), i, ws⟩ :: os) Kr := by
  intro ρ Rs base T H hT hl hs
  have e : T.getD t undef = .s (.bool !b) := hl _ _ ht
  simp only [wpR, e, gd_bool]
  rw [show ((!b) == b) = false by cases b <;> rfl]
  have := h1 ρ Rs base T H hT hl hs
  simpa only [wpR, wpO, ev, gP_false] using this
theorem RP.gu {t : Nat} {b : Bool} {dst : Option Nat} {op : ROp} {l : List Part} (ht : look E t = some (.tup l)) (h1 : RP tab ext n E L (⟨dst, .move (.c undef), none, i, ws⟩ :: os) Kr) : RP tab ext n E L (⟨dst, op, some (t, b), i, ws⟩ :: os) Kr := by
  intro ρ Rs base T H hT hl hs
  have e : T.getD t undef = .tup l := hl _ _ ht
  simp only [wpR, e, gd_tup]
  have := h1 ρ Rs base T H hT hl hs
  simpa only [wpR, wpO, ev, gP_false] using this
theorem RP.fact {p : Prop} (h : ∀ (ρ : HF) (H : AH) (R : List Asr), Sat ρ H (L ++ R) → p) (k : p → RP tab ext n E L os Kr) : RP tab ext n E L os Kr :=
  fun ρ Rs base T H hT hl hs => k (h ρ H _ hs.mid) ρ Rs base T H hT hl hs
theorem RP.imp {α : Type} {L' : α → List Asr} (h : ∀ (ρ : HF) (H : AH) (R : List Asr), Sat ρ H (L ++ R) → ∃ a, Sat ρ H (L' a ++ R)) (k : ∀ a, RP tab ext n E (L' a) os Kr) : RP tab ext n E L os Kr :=
  fun ρ Rs base T H hT hl hs => let ⟨a, h1⟩ := h ρ H _ hs.mid; k a ρ Rs base T H hT hl h1.mid
theorem RP.ent {L' : List Asr} (h : LEnt L L') (k : RP tab ext n E L' os Kr) : RP tab ext n E L os Kr :=
  fun ρ Rs base T H hT hl hs => k ρ Rs base T H hT hl (h ρ H _ hs.mid).mid
theorem RP.env {E' : Env} (h : ELe E' E) (k : RP tab ext n E' L os Kr) : RP tab ext n E L os Kr :=
  fun ρ Rs base T H hT hl hs => k ρ Rs base T H hT (h.lv hl) hs
theorem RP.pw {op : BinOp} {x y : Opd} {a b v : AV} (hx : evo E x = some a) (hy : evo E y = some b) (h : binA op a b = some v) (hd : Nat.blt d n = true) (k : RP tab ext n ((d, v) :: E) L os Kr) : RP tab ext n E L (⟨some d, .bin op x y, none, i, []⟩ :: os) Kr :=
  RP.gen rfl fun ρ Rs base T H hT hl hs => wpO_pure (o := .bin op x y) (by simp only [pureA, evo_ok hl hx, evo_ok hl hy, h]) rfl ⟨_, L, k, hl.put hT hd v, hs.drop⟩
theorem RP.ad {x y : Opd} {a b : Int} (hx : evo E x = some (i64 a)) (hy : evo E y = some (i64 b)) (h : -9223372036854775808 ≤ a + b ∧ a + b < 9223372036854775808) (hd : Nat.blt d n = true) (k : RP tab ext n ((d, i64 (a + b)) :: E) L os Kr) : RP tab ext n E L (⟨some d, .bin .add x y, none, i, []⟩ :: os) Kr :=
  RP.pw hx hy (by simp [wrap_i64 h.1 h.2]) hd k
theorem RP.su {x y : Opd} {a b : Int} (hx : evo E x = some (i64 a)) (hy : evo E y = some (i64 b)) (h : -9223372036854775808 ≤ a - b ∧ a - b < 9223372036854775808) (hd : Nat.blt d n = true) (k : RP tab ext n ((d, i64 (a - b)) :: E) L os Kr) : RP tab ext n E L (⟨some d, .bin .sub x y, none, i, []⟩ :: os) Kr :=
  RP.pw hx hy (by simp [wrap_i64 h.1 h.2]) hd k
theorem RP.inc {x y : Opd} {a : Nat} (hx : evo E x = some (i64 a)) (hy : evo E y = some (i64 1)) (h : a < 4611686018427387904) (hd : Nat.blt d n = true) (k : RP tab ext n ((d, i64 ((a + 1 : Nat) : Int)) :: E) L os Kr) : RP tab ext n E L (⟨some d, .bin .add x y, none, i, []⟩ :: os) Kr :=
  RP.pw hx hy (by simp; rw [wrap_i64 (by omega) (by omega)]) hd k
theorem RP.dec {x y : Opd} {a : Nat} (hx : evo E x = some (i64 ((a + 1 : Nat) : Int))) (hy : evo E y = some (i64 1)) (h : a < 4611686018427387904) (hd : Nat.blt d n = true) (k : RP tab ext n ((d, i64 a) :: E) L os Kr) : RP tab ext n E L (⟨some d, .bin .sub x y, none, i, []⟩ :: os) Kr :=
  RP.pw hx hy (by simp; exact wrap_i64 (by omega) (by omega)) hd k
theorem RP.ix {α : Type} {k : Nat} {s : SV} {r : List α} {x y : Opd} {kd : IntKind} {a : Int} (hx : evo E x = some (.s s)) (hy : evo E y = some (.s (.int kd a))) (hr : RdIn L k s r) (h : 0 ≤ a ∧ a < r.length) (hd : Nat.blt d n = true) (kk : RP tab ext n ((d, .s (.ptr (some (sb s, Go.AM.ix 0 a.toNat k 0)))) :: E) L os Kr) : RP tab ext n E L (⟨some d, .indexSl k x y, none, i, []⟩ :: os) Kr :=
  RP.fact (p := indexSlA k (.s s) (.s (.int kd a)) = some (.s (.ptr (some (sb s, Go.AM.ix 0 a.toNat k 0))))) (fun ρ H X hs => by
    obtain ⟨c, e⟩ := (hr.of ρ H X hs).2 (by omega)
    rw [e]
    simp [Go.AM.sb, Go.AM.ix, h.1, h.2]) fun hp => RP.p (by simp only [pureE, hx, hy, Option.bind_some, hp]) hd kk
theorem RP.ixn {α : Type} {k : Nat} {s : SV} {r : List α} {x y : Opd} {kd : IntKind} {a : Nat} (hx : evo E x = some (.s s)) (hy : evo E y = some (.s (.int kd a))) (hr : RdIn L k s r) (h : a < r.length) (hd : Nat.blt d n = true) (kk : RP tab ext n ((d, .s (.ptr (some (sb s, Go.AM.ix 0 a k 0)))) :: E) L os Kr) : RP tab ext n E L (⟨some d, .indexSl k x y, none, i, []⟩ :: os) Kr :=
  RP.ix hx hy hr ⟨by omega, by omega⟩ hd (by simpa using kk)
theorem RP.ixs {k b o len c e : Nat} {x y : Opd} {kd : IntKind} {a : Int} (hx : evo E x = some (.s (.slice (some (b, o)) len c e))) (hy : evo E y = some (.s (.int kd a))) (h : 0 ≤ a ∧ a < (len : Int)) (hd : Nat.blt d n = true) (kk : RP tab ext n ((d, .s (.ptr (some (b, Go.AM.ix o a.toNat k 0)))) :: E) L os Kr) : RP tab ext n E L (⟨some d, .indexSl k x y, none, i, []⟩ :: os) Kr :=
  RP.p (by simp [pureE, hx, hy, h.1, h.2, Go.AM.ix]) hd kk
theorem RP.ia {k b o len : Nat} {x y : Opd} {kd : IntKind} {a : Int} (hx : evo E x = some (.s (.ptr (some (b, o))))) (hy : evo E y = some (.s (.int kd a))) (h : 0 ≤ a ∧ a < (len : Int)) (hd : Nat.blt d n = true) (kk : RP tab ext n ((d, .s (.ptr (some (b, Go.AM.ix o a.toNat k 0)))) :: E) L os Kr) : RP tab ext n E L (⟨some d, .indexArr len k x y, none, i, []⟩ :: os) Kr :=
  RP.p (by simp [pureE, hx, hy, h.1, h.2, Go.AM.ix]) hd kk
theorem RP.ian {k b o len : Nat} {x y : Opd} {kd : IntKind} {a : Nat} (hx : evo E x = some (.s (.ptr (some (b, o))))) (hy : evo E y = some (.s (.int kd a))) (h : a < len) (hd : Nat.blt d n = true) (kk : RP tab ext n ((d, .s (.ptr (some (b, Go.AM.ix o a k 0)))) :: E) L os Kr) : RP tab ext n E L (⟨some d, .indexArr len k x y, none, i, []⟩ :: os) Kr :=
  RP.ia hx hy ⟨by omega, by omega⟩ hd (by simpa using kk)
theorem RP.ixp {k b l len c e : Nat} {x y : Opd} {kd : IntKind} {a : Nat} (hx : evo E x = some (.s (.slice (some (b, l * k)) len c e))) (hy : evo E y = some (.s (.int kd a))) (h : a < len) (hd : Nat.blt d n = true) (kk : RP tab ext n ((d, .s (.ptr (some (b, Go.AM.ix 0 (l + a) k 0)))) :: E) L os Kr) : RP tab ext n E L (⟨some d, .indexSl k x y, none, i, []⟩ :: os) Kr :=
  RP.ixs hx hy ⟨by omega, by omega⟩ hd (by simpa [Go.AM.ix, Nat.add_mul] using kk)
theorem RP.ln1 {α : Type} {k : Nat} {s : SV} {r : List α} {x : Opd} (hx : evo E x = some (.s s)) (hr : RdIn L k s r) (hd : Nat.blt d n = true) (kk : RP tab ext n ((d, i64 r.length) :: E) L os Kr) : RP tab ext n E L (⟨some d, .len x, none, i, []⟩ :: os) Kr :=
  RP.fact (p := lenA (.s s) = some (i64 r.length)) (fun ρ H X hs => (hr.of ρ H X hs).1) fun hp => RP.p (by simp only [pureE, hx, Option.bind_some, hp]) hd kk
theorem RP.fa {x : Opd} {b o off : Nat} (hx : evo E x = some (.s (.ptr (some (b, o))))) (hd : Nat.blt d n = true) (kk : RP tab ext n ((d, .s (.ptr (some (b, o + off)))) :: E) L os Kr) : RP tab ext n E L (⟨some d, .fieldAddr off x, none, i, []⟩ :: os) Kr :=
  RP.p (by simp [pureE, hx]) hd kk
theorem RP.fx {x : Opd} {b c a k d1 off : Nat} (hx : evo E x = some (.s (.ptr (some (b, Go.AM.ix c a k d1))))) (hd : Nat.blt d n = true) (kk : RP tab ext n ((d, .s (.ptr (some (b, Go.AM.ix c a k (d1 + off))))) :: E) L os Kr) : RP tab ext n E L (⟨some d, .fieldAddr off x, none, i, []⟩ :: os) Kr :=
  RP.p (by simp [pureE, hx, Nat.add_assoc, Go.AM.ix]) hd kk
theorem RP.ap {α : Type} {esz bytes : Nat} {s x : Opd} {sv xv : AV} {v' : α → AV} {L' : α → List Asr} (hs : evo E s = some sv) (hx : evo E x = some xv) (hd : Nat.blt d n = true)
    (h : ∀ (ρ : HF) (H : AH) (id : Nat) (X : List Asr), Sat ρ H (Fre id :: (L ++ X)) → ∃ a H', appendA esz bytes id sv xv H = some (v' a, H') ∧ Sat ρ H' (L' a ++ X))
    (k : ∀ a, WK tab ext n ws E ((d, v' a) :: E) (L' a) os Kr) : RP tab ext n E L (⟨some d, .append esz bytes s x, none, i, ws⟩ :: os) Kr :=
  RP.gen rfl fun ρ Rs base T H hT hl hq => by
    obtain ⟨a, H', h1, h2⟩ := h ρ H _ (fres base os ++ Rs) (hq.perm (List.Perm.cons _ (by rw [← List.append_assoc, ← List.append_assoc]; exact List.perm_append_comm.append_right _)))
    refine ⟨_, by rw [evo_ok hl hs, evo_ok hl hx]; exact h1, _, L' a, k a, hl.put hT hd _, h2.mid⟩
theorem RP.cl {esz : Nat} {z : List SV} {x : Opd} {xv : AV} {L' : List Asr} (hx : evo E x = some xv)
    (h : ∀ (ρ : HF) (H : AH) (X : List Asr), Sat ρ H (L ++ X) → ∃ H', clearA esz z xv H = some H' ∧ Sat ρ H' (L' ++ X))
    (k : WK tab ext n ws E E L' os Kr) : RP tab ext n E L (⟨none, .clear esz z x, none, i, ws⟩ :: os) Kr :=
  RP.gen rfl fun ρ Rs base T H hT hl hq => by
    obtain ⟨H', h1, h2⟩ := h ρ H _ hq.drop.mid
    refine ⟨_, by rw [evo_ok hl hx]; exact h1, _, L', k, hl, h2.mid⟩
theorem RP.cy {esz : Nat} {s x : Opd} {sv xv : AV} {dst : Option Nat} {v' : AV} {L' : List Asr} {E' : Env} (hs : evo E s = some sv) (hx : evo E x = some xv)
    (h : ∀ (ρ : HF) (H : AH) (X : List Asr), Sat ρ H (L ++ X) → ∃ H', copyA esz sv xv H = some (v', H') ∧ Sat ρ H' (L' ++ X)) (he : ∀ T : List AV, T.length = n → LvE T E → LvE (put T dst v') E')
    (k : WK tab ext n ws E E' L' os Kr) : RP tab ext n E L (⟨dst, .copy esz s x, none, i, ws⟩ :: os) Kr :=
  RP.gen rfl fun ρ Rs base T H hT hl hq => by
    obtain ⟨H', h1, h2⟩ := h ρ H _ hq.drop.mid
    refine ⟨_, by rw [evo_ok hl hs, evo_ok hl hx]; exact h1, _, L', k, he T hT hl, h2.mid⟩
theorem is_rp {ops : List ROper} (h : RP tab ext n E L ops Kr) : RP tab ext n E L ops Kr := h
theorem is_tc {c : RC} (h : TC tab ext n E L c K) : TC tab ext n E L c K := h
theorem is_l {dst : Option Nat} {m : Option Nat} {a : Opd} (h : RP tab ext n E L (⟨dst, .load m a, none, i, ws⟩ :: os) Kr) : RP tab ext n E L (⟨dst, .load m a, none, i, ws⟩ :: os) Kr := h
theorem is_b {dst : Option Nat} {op : BinOp} {x y : Opd} (h : RP tab ext n E L (⟨dst, .bin op x y, none, i, ws⟩ :: os) Kr) : RP tab ext n E L (⟨dst, .bin op x y, none, i, ws⟩ :: os) Kr := h
theorem is_x {dst : Option Nat} {k : Nat} {x y : Opd} (h : RP tab ext n E L (⟨dst, .indexSl k x y, none, i, ws⟩ :: os) Kr) : RP tab ext n E L (⟨dst, .indexSl k x y, none, i, ws⟩ :: os) Kr := h
theorem is_s {dst : Option Nat} {k : Nat} {x y : Opd} (h : RP tab ext n E L (⟨dst, .store k x y, none, i, ws⟩ :: os) Kr) : RP tab ext n E L (⟨dst, .store k x y, none, i, ws⟩ :: os) Kr := h
def okIdx (k : Nat) : List ROper → Bool
  | [] => true
  | o :: os => Nat.blt o.idx k && (os.all fun p => !(Nat.beq p.idx o.idx)) && okIdx k os
theorem okIdx_ok {k : Nat} : ∀ {ops : List ROper}, okIdx k ops = true → (ops.map (·.idx)).Nodup ∧ ∀ i ∈ ops.map (·.idx), i < k
  | [], _ => ⟨List.nodup_nil, by simp⟩
  | o :: os, h => by
    simp only [okIdx, Bool.and_eq_true, List.all_eq_true, Bool.not_eq_true', Nat.blt_eq] at h
    obtain ⟨⟨h1, h2⟩, h3⟩ := h
    obtain ⟨g1, g2⟩ := okIdx_ok h3
    refine ⟨?_, ?_⟩
    · rw [List.map_cons, List.nodup_cons]
      refine ⟨?_, g1⟩
      intro hm
      obtain ⟨p, hp, he⟩ := List.mem_map.1 hm
      have := h2 p hp
      rw [he, Nat.beq_refl] at this; cases this
    · intro i hi
      rw [List.map_cons] at hi
      rcases List.mem_cons.1 hi with rfl | hi
      · exact h1
      · exact g2 i hi
theorem TC.reg {k : Nat} {ops : List ROper} (hk : okIdx k ops = true) (h : RP tab ext n E L ops (K .norm)) : TC tab ext n E L (.region k ops) K := by
  intro ρ Rs T H hT hl hs
  obtain ⟨h1, h2⟩ := okIdx_ok hk
  have h3 := Sat.frees hs k (ops.map (·.idx)) h2 h1
  rw [List.map_map] at h3
  exact h ρ Rs H.next T (H.bump k) hT hl h3
theorem TC.seq {a b : RC} (h : TC tab ext n E L a (sq tab ext n b K)) : TC tab ext n E L (.seq a b) K := by
  intro ρ Rs T H hT hl hs
  show wpC tab ext a T H _
  refine wpC_mono ?_ (h ρ Rs T H hT hl hs)
  rintro e T' H' ⟨E', L', h1, h2, h3, h4⟩
  cases e with
  | norm => exact h1 ρ Rs T' H' h2 h3 h4
  | ret => exact ⟨E', L', h1, h2, h3, h4⟩
  | out id => exact ⟨E', L', h1, h2, h3, h4⟩
theorem TC.blk {id : Nat} {a : RC} (h : TC tab ext n E L a (bk id K)) : TC tab ext n E L (.block id a) K := by
  intro ρ Rs T H hT hl hs
  show wpC tab ext a T H _
  refine wpC_mono ?_ (h ρ Rs T H hT hl hs)
  rintro e T' H' ⟨E', L', h1, h2, h3, h4⟩
  cases e with
  | norm => exact ⟨E', L', h1, h2, h3, h4⟩
  | ret => exact ⟨E', L', h1, h2, h3, h4⟩
  | out i =>
    simp only [bk] at h1
    simp only [blockK]
    by_cases e : i = id
    · subst e; rw [if_pos rfl]; rw [Nat.beq_refl, cond_true] at h1; exact ⟨E', L', h1, h2, h3, h4⟩
    · rw [if_neg e]
      have : Nat.beq i id = false := by cases hb : Nat.beq i id with
        | false => rfl
        | true => exact absurd (Nat.eq_of_beq_eq_true hb) e
      rw [this, cond_false] at h1; exact ⟨E', L', h1, h2, h3, h4⟩
theorem TC.skip (h : K .norm E L) : TC tab ext n E L .skip K := fun _ _ _ _ hT hl hs => ⟨E, L, h, hT, hl, hs⟩
theorem TC.ret (h : K .ret E L) : TC tab ext n E L .ret K := fun _ _ _ _ hT hl hs => ⟨E, L, h, hT, hl, hs⟩
theorem TC.exit {id : Nat} (h : K (.out id) E L) : TC tab ext n E L (.exit id) K := fun _ _ _ _ hT hl hs => ⟨E, L, h, hT, hl, hs⟩
theorem TC.cT {c : Opd} {a b : RC} (hc : evo E c = some (.s (.bool true))) (h : TC tab ext n E L a K) : TC tab ext n E L (.cond c a b) K := fun ρ Rs T H hT hl hs => by
  simp only [wpC, evo_ok hl hc]; exact h ρ Rs T H hT hl hs
theorem TC.cF {c : Opd} {a b : RC} (hc : evo E c = some (.s (.bool false))) (h : TC tab ext n E L b K) : TC tab ext n E L (.cond c a b) K := fun ρ Rs T H hT hl hs => by
  simp only [wpC, evo_ok hl hc]; exact h ρ Rs T H hT hl hs
theorem TC.cP {c : Opd} {a b : RC} {p : Prop} [Decidable p] (hc : evo E c = some (.s (.bool (decide p)))) (h1 : p → TC tab ext n E L a K) (h2 : ¬ p → TC tab ext n E L b K) : TC tab ext n E L (.cond c a b) K := fun ρ Rs T H hT hl hs => by
  simp only [wpC, evo_ok hl hc]
  by_cases hp : p
  · rw [decide_eq_true hp]; exact h1 hp ρ Rs T H hT hl hs
  · rw [decide_eq_false hp]; exact h2 hp ρ Rs T H hT hl hs
theorem TC.cB {c : Opd} {a b : RC} {p : Bool} (hc : evo E c = some (.s (.bool p))) (h1 : p = true → TC tab ext n E L a K) (h2 : p = false → TC tab ext n E L b K) : TC tab ext n E L (.cond c a b) K := fun ρ Rs T H hT hl hs => by
  simp only [wpC, evo_ok hl hc]
  cases p with
  | true => exact h1 rfl ρ Rs T H hT hl hs
  | false => exact h2 rfl ρ Rs T H hT hl hs
theorem TC.fact {c : RC} {p : Prop} (h : ∀ (ρ : HF) (H : AH) (R : List Asr), Sat ρ H (L ++ R) → p) (k : p → TC tab ext n E L c K) : TC tab ext n E L c K :=
  fun ρ Rs T H hT hl hs => k (h ρ H _ hs) ρ Rs T H hT hl hs
theorem TC.imp {c : RC} {α : Type} {L' : α → List Asr} (h : ∀ (ρ : HF) (H : AH) (R : List Asr), Sat ρ H (L ++ R) → ∃ a, Sat ρ H (L' a ++ R)) (k : ∀ a, TC tab ext n E (L' a) c K) : TC tab ext n E L c K :=
  fun ρ Rs T H hT hl hs => let ⟨a, h1⟩ := h ρ H _ hs; k a ρ Rs T H hT hl h1
theorem TC.ent {c : RC} {L' : List Asr} (h : LEnt L L') (k : TC tab ext n E L' c K) : TC tab ext n E L c K :=
  fun ρ Rs T H hT hl hs => k ρ Rs T H hT hl (h ρ H _ hs)
theorem TC.env {c : RC} {E' : Env} (h : ELe E' E) (k : TC tab ext n E' L c K) : TC tab ext n E L c K :=
  fun ρ Rs T H hT hl hs => k ρ Rs T H hT (h.lv hl) hs
theorem TC.mono {c : RC} {K' : Pst} (h : TC tab ext n E L c K) (hk : ∀ e E L, K e E L → K' e E L) : TC tab ext n E L c K' := fun ρ Rs T H hT hl hs =>
  wpC_mono (fun _ _ _ ⟨E', L', h1, h2⟩ => ⟨E', L', hk _ _ _ h1, h2⟩) (h ρ Rs T H hT hl hs)
theorem TC.loop {c : RC} {α : Type} (m : α → Nat) (I : α → Prop) (Ei : α → Env) (Li : α → List Asr) (a0 : α) (h0 : I a0) (hE : ELe (Ei a0) E) (hL : LEnt L (Li a0)) (step : ∀ a, I a → TC tab ext n (Ei a) (Li a) c (lpK m I Ei Li a K)) : TC tab ext n E L (.loop c) K := by
  intro ρ Rs T H hT hl hs
  refine loopP_inv (I := fun k T H => T.length = n ∧ ∃ a, I a ∧ m a = k ∧ LvE T (Ei a) ∧ Sat ρ H (Li a ++ Rs)) ?_ (m a0) T H ⟨hT, a0, h0, rfl, hE.lv hl, hL _ _ _ hs⟩
  rintro k T H ⟨hT, a, hI, rfl, hl, hs⟩
  refine wpC_mono ?_ (step a hI ρ Rs T H hT hl hs)
  rintro e T' H' ⟨E', L', h1, h2, h3, h4⟩
  cases e with
  | norm =>
    obtain ⟨a', g0, g1, g2, g3⟩ := h1
    exact ⟨m a', g1, h2, a', g0, rfl, g2.lv h3, g3 _ _ _ h4⟩
  | ret => exact ⟨E', L', h1, h2, h3, h4⟩
  | out id => exact ⟨E', L', h1, h2, h3, h4⟩
theorem TC.mid {α : Type} (I : α → Prop) (Ei : α → Env) (Li : α → List Asr) {c b : RC} (h : TC tab ext n E L c (mdx I Ei Li K)) (k : ∀ p, I p → TC tab ext n (Ei p) (Li p) b K) : TC tab ext n E L c (sq tab ext n b K) :=
  h.mono fun e E' L' hk => by
    cases e with
    | norm => obtain ⟨p, h1, h2, h3⟩ := hk; exact TC.env h2 (TC.ent h3 (k p h1))
    | ret => exact hk
    | out i => exact hk
section
variable {α : Type} {I : α → Prop} {Ei : α → Env} {Li : α → List Asr}
theorem md_r (h : K .ret E L) : mdx I Ei Li K .ret E L := h
theorem md_o {i : Nat} (h : K (.out i) E L) : mdx I Ei Li K (.out i) E L := h
theorem md_n (a : α) (h0 : I a) (h2 : ELe (Ei a) E) (h3 : LEnt L (Li a)) : mdx I Ei Li K .norm E L := ⟨a, h0, h2, h3⟩
end
theorem sq_n {b : RC} (h : TC tab ext n E L b K) : sq tab ext n b K .norm E L := h
theorem sq_r {b : RC} (h : K .ret E L) : sq tab ext n b K .ret E L := h
theorem sq_o {b : RC} {i : Nat} (h : K (.out i) E L) : sq tab ext n b K (.out i) E L := h
theorem bk_n {id : Nat} (h : K .norm E L) : bk id K .norm E L := h
theorem bk_r {id : Nat} (h : K .ret E L) : bk id K .ret E L := h
theorem bk_e {id : Nat} (h : K .norm E L) : bk id K (.out id) E L := by simp only [bk]; rw [Nat.beq_refl, cond_true]; exact h
theorem bk_o {id i : Nat} (hi : Nat.beq i id = false) (h : K (.out i) E L) : bk id K (.out i) E L := by simp only [bk]; rw [hi, cond_false]; exact h
section
variable {α : Type} {m : α → Nat} {I : α → Prop} {Ei : α → Env} {Li : α → List Asr} {a : α}
theorem lp_r (h : K .ret E L) : lpK m I Ei Li a K .ret E L := h
theorem lp_o {i : Nat} (h : K (.out i) E L) : lpK m I Ei Li a K (.out i) E L := h
theorem lp_n (a' : α) (h0 : I a') (h1 : m a' < m a) (h2 : ELe (Ei a') E) (h3 : LEnt L (Li a')) : lpK m I Ei Li a K .norm E L := ⟨a', h0, h1, h2, h3⟩
end
theorem rt_n {rs : List RRes} {Q : AV → List Asr → Prop} {v : AV} {P' : List Asr} (h1 : resE E L rs v) (h2 : Q v P') (h3 : LEnt L P') : rt rs Q .norm E L := ⟨v, P', h1, h2, h3⟩
theorem rt_r {rs : List RRes} {Q : AV → List Asr → Prop} {v : AV} {P' : List Asr} (h1 : resE E L rs v) (h2 : Q v P') (h3 : LEnt L P') : rt rs Q .ret E L := ⟨v, P', h1, h2, h3⟩
theorem resE2 {E : Env} {L : List Asr} {t1 t2 : Nat} {x1 x2 : SV} (h1 : look E t1 = some (.s x1)) (h2 : look E t2 = some (.s x2)) : resE E L [.tmp t1, .tmp t2] (.tup [.s x1, .s x2]) := ⟨_, rfl, h1, h2, trivial⟩
def env0 : Nat → List AV → Env
  | _, [] => []
  | i, v :: vs => (i, v) :: env0 (i + 1) vs
theorem env0_lv : ∀ (vs : List AV) (i : Nat) (T : List AV), (∀ j v, vs[j]? = some v → sl T (i + j) = v) → LvE T (env0 i vs)
  | [], i, T, _ => fun j v h => by simp [env0, look] at h
  | v :: vs, i, T, h => fun j u hu => by
    simp only [env0, look] at hu
    cases hb : Nat.beq i j with
    | true =>
      rw [hb, cond_true] at hu
      cases hu
      have := Nat.eq_of_beq_eq_true hb
      subst this
      simpa using h 0 v (by simp)
    | false =>
      rw [hb, cond_false] at hu
      exact env0_lv vs (i + 1) T (fun k w hw => by rw [show i + 1 + k = i + (k + 1) by omega]; exact h (k + 1) w (by simpa using hw)) j u hu
theorem resE_ok {ρ : HF} {H : AH} {R : List Asr} {T : List AV} (hl : LvE T E) (hs : Sat ρ H (L ++ R)) {rs : List RRes} {v : AV} (h : resE E L rs v) : resA rs T H = some v := by
  have one : ∀ {t : Nat} {u : AV}, look E t = some u → T.getD t undef = u := fun h => hl _ _ h
  have many : ∀ {rs : List RRes} {ps : List Part}, resE.resL E L rs ps → ∃ vs, rs.mapM (resA1 T H) = some vs ∧ partsA vs = some ps := by
    intro rs
    induction rs with
    | nil => intro ps h; cases ps with
      | nil => exact ⟨[], rfl, rfl⟩
      | cons => simp [resE.resL] at h
    | cons r rs ih =>
      intro ps h
      cases ps with
      | nil => cases r <;> simp [resE.resL] at h
      | cons p ps =>
        cases r with
        | tmp t =>
          obtain ⟨h1, h2⟩ := h
          obtain ⟨vs, g1, g2⟩ := ih h2
          have e0 : resA1 T H (.tmp t) = some p.av := congrArg some (one h1)
          refine ⟨p.av :: vs, by simp [List.mapM_cons, e0, g1], ?_⟩
          simp only [partsA, g2]
          cases p <;> rfl
        | cell t m =>
          obtain ⟨⟨b, o, h1, h3⟩, h2⟩ := h
          obtain ⟨vs, g1, g2⟩ := ih h2
          have : resA1 T H (.cell t m) = some p.av := by
            simp only [resA1, one h1]
            rcases h3 with ⟨rfl, x, rfl, h4⟩ | ⟨k, l, rfl, rfl, h4⟩
            · show (H.ld b o).map AV.s = _; rw [h4.of ρ H R hs]; rfl
            · show (H.ldn b o k).map AV.agg = _; rw [h4.of ρ H R hs]; rfl
          refine ⟨p.av :: vs, by simp [List.mapM_cons, this, g1], ?_⟩
          simp only [partsA, g2]
          cases p <;> rfl
  unfold resE at h
  unfold resA
  split at h
  · exact congrArg some (one h)
  · obtain ⟨b, o, h1, h3⟩ := h
    simp only [resA1, one h1]
    rcases h3 with ⟨rfl, x, rfl, h4⟩ | ⟨k, l, rfl, rfl, h4⟩
    · show (H.ld b o).map AV.s = _; rw [h4.of ρ H R hs]; rfl
    · show (H.ldn b o k).map AV.agg = _; rw [h4.of ρ H R hs]; rfl
  · rename_i h1 h2
    obtain ⟨ps, rfl, h3⟩ := h
    obtain ⟨vs, g1, g2⟩ := many h3
    split
    · rename_i r
      cases r with
      | tmp t => exact absurd rfl (h1 t)
      | cell t m => exact absurd rfl (h2 t m)
    · simp [g1, g2]
theorem Tri.go {f : Nat} {rf : RFunc} {args : List AV} {P : List Asr} {Q : AV → List Asr → Prop} (hf : tab f = some rf) (ha : Nat.ble args.length rf.ntmps = true) (h : TC tab ext rf.ntmps (env0 0 args) P rf.body (rt rf.results Q)) : Tri tab ext f args P Q := by
  intro ρ H R hs
  refine CallP_of hf (wpC_mono ?_ (h ρ R _ H ?_ (env0_lv args 0 _ fun j v hv => ?_) hs))
  · rintro e T' H' ⟨E', L', h1, h2, h3, h4⟩
    have key : (∃ v P', resE E' L' rf.results v ∧ Q v P' ∧ LEnt L' P') → andThen (resA rf.results T' H') fun v => ∃ P', Q v P' ∧ Sat ρ H' (P' ++ R) := by
      rintro ⟨v, P', g1, g2, g3⟩
      exact ⟨v, resE_ok h3 h4 g1, P', g2, g3 _ _ _ h4⟩
    cases e with
    | norm => exact key h1
    | ret => exact key h1
    | out id => exact h1.elim
  · simp; have := Nat.le_of_ble_eq_true ha; omega
  · have hj := (List.getElem?_eq_some_iff.1 hv).1
    simp only [sl, Nat.zero_add, List.getD_eq_getElem?_getD]
    rw [List.getElem?_append_left hj, hv]; rfl
end
end Go.AM

/-
  Elements of slices that are arguments.
-/
namespace Go.AM
theorem R2_flat_get {α : Type} {R : α → List SV → Prop} {k : Nat} (hk : ∀ x l, R x l → l.length = k) : ∀ {xs : List α} {ls : List (List SV)} (j : List SV), R2 R xs ls → ∀ {i : Nat}, i < xs.length → ∃ x li, xs[i]? = some x ∧ R x li ∧ ((ls.flatten ++ j).drop (i * k)).take k = li ∧ i * k + k ≤ (ls.flatten ++ j).length
  | [], _, _, _, i, hi => by simp at hi
  | x :: xs, l :: ls, j, h, 0, _ => by
    have hl := hk _ _ h.1
    refine ⟨x, l, rfl, h.1, ?_, ?_⟩
    · rw [Nat.zero_mul, List.drop_zero, List.flatten_cons, List.append_assoc, ← hl, List.take_left]
    · simp [List.flatten_cons, hl]
  | x :: xs, l :: ls, j, h, i + 1, hi => by
    have hl := hk _ _ h.1
    obtain ⟨y, li, h1, h2, h3, h4⟩ := R2_flat_get hk j h.2 (i := i) (by simpa using hi)
    refine ⟨y, li, by simpa using h1, h2, ?_, ?_⟩
    · rw [← h3, Nat.add_mul, Nat.one_mul, Nat.add_comm (i * k) k, ← List.drop_drop, List.flatten_cons, List.append_assoc]
      congr 1
      conv => lhs; rw [← hl, List.drop_left]
      rw [hl]
    · simp only [List.flatten_cons, List.length_append, hl] at h4 ⊢
      rw [Nat.add_mul]; omega
  | _ :: _, [], _, h, _, _ => h.elim
section
variable {ρ : HF} {a : Ty} {xs : List a.den} {s : SV}
theorem At.slLen (h : At ρ (.slice a) xs [s]) : lenA (.s s) = some (i64 xs.length) := by
  obtain ⟨s', h1, h2⟩ := h
  cases h1
  rcases h2 with ⟨o, rfl, rfl⟩ | ⟨b, c, j, ls, rfl, _⟩ <;> rfl
theorem At.slGet (h : At ρ (.slice a) xs [s]) {i : Nat} (hi : i < xs.length) : ∃ b c l x li, s = .slice (some (b, 0)) xs.length c a.size ∧ ρ b = some (.cells true l) ∧ xs[i]? = some x ∧ At ρ a x li ∧ (l.drop (i * a.size)).take a.size = li ∧ i * a.size + a.size ≤ l.length := by
  obtain ⟨s', h1, h2⟩ := h
  cases h1
  rcases h2 with ⟨o, rfl, rfl⟩ | ⟨b, c, j, ls, rfl, hb, h3, h4, h5⟩
  · simp at hi
  · obtain ⟨x, li, k1, k2, k3, k4⟩ := R2_flat_get (fun _ _ h => At.len h) j h5 hi
    exact ⟨b, c, _, x, li, rfl, hb, k1, k2, k3, k4⟩
end
theorem ArgsAt.slice {f : HF} {a : Ty} {ts : List Ty} {l : List AV} (h : ArgsAt f (.slice a :: ts) l) : ∃ (xs : List a.den) (s : SV) (vs : List AV), l = .s s :: vs ∧ At f (.slice a) xs [s] ∧ ArgsAt f ts vs := by
  cases h with | cons h1 h2 => obtain ⟨s, rfl, h⟩ := h1; exact ⟨_, s, _, rfl, h, h2⟩
theorem ArgsAt.nil' {f : HF} {l : List AV} (h : ArgsAt f [] l) : l = [] := by cases h; rfl
end Go.AM

/-
  WALKS: rows of rows; rows that are copied, clipped, cut.
-/
namespace Go.AM
def ArgS (a : Ty) (xs : List a.den) (s : SV) : Asr := ⟨fun ρ _ S => S = [] ∧ At ρ (.slice a) xs [s], fun _ h => h⟩
theorem Sat.arg {ρ : HF} {H : AH} {R : List Asr} {a : Ty} {xs : List a.den} {s : SV} (h : Sat ρ H (ArgS a xs s :: R)) : At ρ (.slice a) xs [s] := by
  obtain ⟨_, S, h1, _⟩ := h
  obtain ⟨S1, S2, rfl, ⟨_, k⟩, _⟩ := SatL.cons_inv h1
  exact k
theorem Sat.mkArg {ρ : HF} {H : AH} {R : List Asr} {a : Ty} {xs : List a.den} {s : SV} (h : At ρ (.slice a) xs [s]) (hs : Sat ρ H R) : Sat ρ H (ArgS a xs s :: R) := by
  obtain ⟨hw, S, h1, h2⟩ := hs
  exact ⟨hw, [] ++ S, .cons (A := ArgS a xs s) ⟨rfl, h⟩ h1 (by simp), h2⟩
theorem RdIn.a {a : Ty} {xs : List a.den} {s : SV} {L : List Asr} : RdIn (ArgS a xs s :: L) a.size s xs := ⟨fun ρ H R hs => by
  have h := Sat.arg hs
  refine ⟨At.slLen h, fun h0 => ?_⟩
  obtain ⟨b, c, l, x, li, rfl, _⟩ := At.slGet h h0
  exact ⟨c, rfl⟩⟩
theorem Ld.g {kd : IntKind} {xs : List (Ty.int kd).den} {s : SV} {L : List Asr} {i : Nat} {x : Int} (hx : xs[i]? = some x) : Ld (ArgS (.int kd) xs s :: L) (sb s) (ix 0 i 1 0) (.int kd x) := ⟨fun ρ H R hs => by
  have h := Sat.arg hs
  have hlt := (List.getElem?_eq_some_iff.1 hx).1
  obtain ⟨b, c, l, y, li, rfl, hb, h1, h2, h3, h4⟩ := At.slGet h hlt
  have hy : y = x := by rw [hx] at h1; cases h1; rfl
  subst hy
  have hb' := hs.roOf b l hb
  obtain ⟨rfl, _⟩ := h2
  show H.ld b _ = _
  rw [ld_of H hb', ix]
  have := congrArg (fun l => l[0]?) h3
  simpa [Ty.size] using this⟩
def encI (x : Int) : List SV := [.int .i64 x]
theorem encI_len (x : Int) : (encI x).length = 1 := rfl
def rowsL (rs : List SV) (rows : List (List Int)) : List Asr := List.zipWith (Row encI 1) rs rows
def RowsA (rs : List SV) (rows : List (List Int)) : Asr := Asr.all (rowsL rs rows)
def RowsBut (i : Nat) (rs : List SV) (rows : List (List Int)) : Asr := Asr.all ((rowsL rs rows).eraseIdx i)
section
variable {tab : Nat → Option RFunc} {ext : Nat → List AV → AH → Option (AV × AH)} {α : Type} {enc : α → List SV} {k : Nat}
theorem ap_row (hk : ∀ e, (enc e).length = k) {bytes : Nat} {s s2 : SV} {r r2 : List α} {L R : List Asr} (hin : Ins [Row enc k s r, Row enc k s2 r2] L R) (hb : (r.length + r2.length) * bytes ≤ 70368744177664) :
    ∀ (ρ : HF) (H : AH) (id : Nat) (X : List Asr), Sat ρ H (Fre id :: (L ++ X)) → ∃ (s' : SV) (H' : AH), appendA k bytes id (.s s) (.s s2) H = some (.s s', H') ∧ Sat ρ H' ((Row enc k s' (r ++ r2) :: Row enc k s2 r2 :: R) ++ X) := by
  intro ρ H id X hs
  have h1 : Sat ρ H (Row enc k s r :: Fre id :: Row enc k s2 r2 :: (R ++ X)) := (hs.perm (List.Perm.cons _ (hin.perm.append_right X))).perm (List.Perm.swap _ _ _)
  have h2 := h1.front 2 (by simp)
  obtain ⟨s', H', e1, h3, _⟩ := Sat.append hk (_n := 0) h1 (h2.rowSrc hk) h2.rowSl hb
  exact ⟨s', H', e1, h3⟩
theorem ap_one (hk : ∀ e, (enc e).length = k) {bytes b c : Nat} {s : SV} {r : List α} {e : α} {L R : List Asr} (hin : Ins [Row enc k s r, Cel b (enc e)] L R) (hb : (r.length + 1) * bytes ≤ 70368744177664) :
    ∀ (ρ : HF) (H : AH) (id : Nat) (X : List Asr), Sat ρ H (Fre id :: (L ++ X)) → ∃ (s' : SV) (H' : AH), appendA k bytes id (.s s) (.s (.slice (some (b, 0)) 1 c k)) H = some (.s s', H') ∧ Sat ρ H' ((Row enc k s' (r ++ [e]) :: R) ++ X) := by
  intro ρ H id X hs
  have h1 : Sat ρ H (Row enc k s r :: Fre id :: Cel b (enc e) :: (R ++ X)) := (hs.perm (List.Perm.cons _ (hin.perm.append_right X))).perm (List.Perm.swap _ _ _)
  obtain ⟨s', H', e1, h3, _⟩ := Sat.append1 hk (o := 0) h1 (by rw [List.drop_zero, ← hk e, List.take_length]) (by rw [hk]; omega) hb
  exact ⟨s', H', e1, (h3.perm (List.Perm.swap _ _ _)).drop⟩
theorem row_nil (e : Nat) (L : List Asr) : LEnt L (Row enc k (.slice none 0 0 e) [] :: L) := fun _ _ _ h => Sat.mkNil h e
theorem row_empty {b : Nat} {L : List Asr} : LEnt (Cel b [] :: L) (Row enc k (.slice (some (b, 0)) 0 0 k) [] :: L) := fun _ _ _ h => Sat.mkRow (r := []) (j := []) (c := 0) h (by simp) (by simp)
theorem row_made {b c : Nat} {l : List SV} {r : List α} {L : List Asr} (h1 : flat enc r = l.take (r.length * k)) (h2 : c * k ≤ l.length) (h3 : r.length ≤ c) : LEnt (Cel b l :: L) (Row enc k (.slice (some (b, 0)) r.length c k) r :: L) := fun _ _ _ h => by
  have e : l = flat enc r ++ l.drop (r.length * k) := by rw [h1, List.take_append_drop]
  rw [e] at h
  exact Sat.mkRow h (by rw [← e]; exact h2) h3
theorem row_cases {s : SV} {r : List α} {L R : List Asr} (hin : In1 (Row enc k s r) L R) : ∀ (ρ : HF) (H : AH) (X : List Asr), Sat ρ H (L ++ X) → (∃ e, s = .slice none 0 0 e ∧ r = [] ∧ Sat ρ H (R ++ X)) ∨ ∃ b c j, s = .slice (some (b, 0)) r.length c k ∧ Sat ρ H ((Cel b (flat enc r ++ j) :: R) ++ X) ∧ c * k ≤ (flat enc r ++ j).length ∧ r.length ≤ c := by
  intro ρ H X hs
  exact Sat.rowInv (R := R ++ X) (hs.perm (hin.perm.append_right X))
theorem TC.rw {n : Nat} {E : Env} {K : Pst} {c : RC} {s : SV} {r : List α} {L R : List Asr} (hin : In1 (Row enc k s r) L R) (h0 : ∀ e, s = .slice none 0 0 e → r = [] → TC tab ext n E R c K)
    (h1 : ∀ (b cp : Nat) (j : List SV), s = .slice (some (b, 0)) r.length cp k → cp * k ≤ (flat enc r ++ j).length → r.length ≤ cp → TC tab ext n E (Cel b (flat enc r ++ j) :: R) c K) : TC tab ext n E L c K := by
  intro ρ Rs T H hT hl hs
  rcases row_cases hin ρ H Rs hs with ⟨e, h2, h3, h4⟩ | ⟨b, cp, j, h2, h3, h4, h5⟩
  · exact h0 e h2 h3 ρ Rs T H hT hl h4
  · exact h1 b cp j h2 h4 h5 ρ Rs T H hT hl h3
theorem RP.rw {n : Nat} {E : Env} {os : List ROper} {K : Env → List Asr → Prop} {s : SV} {r : List α} {L R : List Asr} (hin : In1 (Row enc k s r) L R) (h0 : ∀ e, s = .slice none 0 0 e → r = [] → RP tab ext n E R os K)
    (h1 : ∀ (b cp : Nat) (j : List SV), s = .slice (some (b, 0)) r.length cp k → cp * k ≤ (flat enc r ++ j).length → r.length ≤ cp → RP tab ext n E (Cel b (flat enc r ++ j) :: R) os K) : RP tab ext n E L os K := by
  intro ρ Rs base T H hT hl hs
  rcases row_cases hin ρ H (fres base os ++ Rs) hs.mid with ⟨e, h2, h3, h4⟩ | ⟨b, cp, j, h2, h3, h4, h5⟩
  · exact h0 e h2 h3 ρ Rs base T H hT hl h4.mid
  · exact h1 b cp j h2 h4 h5 ρ Rs base T H hT hl h3.mid
theorem bA {d y n : Nat} {kd : IntKind} (h : n ≤ y) : boundA d y (some (.s (.int kd n))) = some n := by simp [boundA, h]
theorem bds {len cap l h m : Nat} {lo hi mx : Option AV} (h1 : boundA cap cap mx = some m) (h2 : boundA len m hi = some h) (h3 : boundA 0 h lo = some l) : boundsA len cap lo hi mx = some (l, h, m) := by simp [boundsA, h1, h2, h3]
theorem RP.sc {n d i : Nat} {E : Env} {L : List Asr} {os : List ROper} {K : Env → List Asr → Prop} {x : Opd} {lo hi mx : Option Opd} {lo' hi' mx' : Option AV} {b o len cap l h m : Nat} (hx : evo E x = some (.s (.slice (some (b, o)) len cap k))) (h1 : evm E lo = some lo') (h2 : evm E hi = some hi') (h3 : evm E mx = some mx') (hb : boundsA len cap lo' hi' mx' = some (l, h, m)) (hd : Nat.blt d n = true)
    (kk : RP tab ext n ((d, .s (.slice (some (b, o + l * k)) (h - l) (m - l) k)) :: E) L os K) : RP tab ext n E L (⟨some d, .slSl k x lo hi mx, none, i, []⟩ :: os) K :=
  RP.p (by simp [pureE, hx, h1, h2, h3, slSlA, hb]) hd kk
theorem row_again {b : Nat} {j : List SV} {cp : Nat} {r : List α} {L : List Asr} (h1 : cp * k ≤ (flat enc r ++ j).length) (h2 : r.length ≤ cp) : LEnt (Cel b (flat enc r ++ j) :: L) (Row enc k (.slice (some (b, 0)) r.length cp k) r :: L) := fun _ _ _ h => Sat.mkRow h h1 h2
end
structure Hid (P : Prop) : Prop where
  h : P
theorem RUN {P Q : Prop} (h : P) (hf : Hid P → Q := by intro hp; (repeat (first | (refine is_rp ?_; first | refine RP.fx rfl rfl ?_ | refine RP.p rfl rfl ?_ | refine RP.done ?_ | (refine is_l ?_; first | refine RP.l rfl (by ((repeat (first | exact Ld.c rfl | exact Ld.r rfl | exact Ld.g (by assumption) | exact Ld.w (fun _ => by rfl) (by assumption) (by rfl) | exact Ld.a (by rfl) (fun _ => by rfl) (by assumption) (by rfl) | apply Ld.n)); fail_if_success refine ?_)) rfl ?_ | refine RP.ln rfl (by ((repeat (first | exact Ldn.cb (by rfl) rfl | exact Ldn.rb (by rfl) rfl | exact Ldn.w (fun _ => by rfl) (by assumption) | apply Ldn.n)); fail_if_success refine ?_)) rfl ?_) | refine RP.gt rfl ?_ | refine RP.gf rfl ?_ | refine RP.gu rfl ?_ | (refine is_b ?_; first | refine RP.inc rfl rfl (by omega) rfl ?_ | refine RP.ad rfl rfl (by omega) rfl ?_ | refine RP.dec rfl rfl (by omega) rfl ?_ | refine RP.su rfl rfl (by omega) rfl ?_) | (refine is_x ?_; first | refine RP.ixn rfl rfl (by ((repeat (first | exact RdIn.h | exact RdIn.a | apply RdIn.n)); fail_if_success refine ?_)) (by omega) rfl ?_ | refine RP.ix rfl rfl (by ((repeat (first | exact RdIn.h | exact RdIn.a | apply RdIn.n)); fail_if_success refine ?_)) (by omega) rfl ?_ | refine RP.ixp rfl rfl (by omega) rfl ?_ | refine RP.ixs rfl rfl (by omega) rfl ?_) | refine RP.ian rfl rfl (by omega) rfl ?_ | refine RP.ia rfl rfl (by omega) rfl ?_ | refine RP.ln1 rfl (by ((repeat (first | exact RdIn.h | exact RdIn.a | apply RdIn.n)); fail_if_success refine ?_)) rfl ?_ | (refine is_s ?_; refine RP.s rfl rfl rfl rfl (by ((repeat (first | exact Stw.c1 (by rfl) rfl | exact Stw.cb (by rfl) rfl | apply Stw.n)); fail_if_success refine ?_)) ?_) | refine RP.pn rfl ?_) | refine sq_n ?_ | (refine is_tc ?_; first | refine TC.seq ?_ | refine TC.reg (by kernel_rfl) ?_ | refine TC.cT rfl ?_ | refine TC.cF rfl ?_ | refine TC.blk ?_ | refine TC.skip ?_ | refine TC.ret ?_ | refine TC.exit ?_) | refine WK.z ?_ | refine sq_r ?_ | refine sq_o ?_ | refine bk_n ?_ | refine bk_r ?_ | refine bk_e ?_ | refine bk_o rfl ?_ | refine lp_r ?_ | refine lp_o ?_ | refine md_r ?_ | refine md_o ?_)); exact hp.h) : Q := hf ⟨h⟩
end Go.AM

/-
  slices: Clip, Clone, Delete, IndexFunc, ContainsFunc at elements of any kind.
-/
namespace Go.AM
set_option maxHeartbeats 8000000
attribute [local irreducible] sq bk lpK mdx rt TC RP WK Cel Ro Row Fre RowsA RowsBut
def clipB (k : Nat) : RFunc := RFunc.mk 9 [.tmp 2] (
  RC.seq (RC.region 1 [
    ⟨(some 2), .move (.c (.s (.slice none 0 0 1))), none, 0, []⟩]) (RC.seq (RC.region 7 [
    ⟨(some 3), .move (.t 0), none, 0, []⟩,
    ⟨(some 4), .move (.t 0), none, 1, []⟩,
    ⟨(some 5), .len (.t 4), none, 2, []⟩,
    ⟨(some 6), .move (.t 0), none, 3, []⟩,
    ⟨(some 7), .len (.t 6), none, 4, []⟩,
    ⟨(some 8), .slSl k (.t 3) none (some (.t 5)) (some (.t 7)), none, 5, []⟩,
    ⟨(some 2), .move (.t 8), none, 6, []⟩]) (RC.ret)))
def cloneB (k bytes : Nat) : RFunc := RFunc.mk 8 [.tmp 2] (
  RC.seq (RC.region 1 [
    ⟨(some 2), .move (.c (.s (.slice none 0 0 1))), none, 0, []⟩]) (RC.seq (RC.seq (RC.region 2 [
    ⟨(some 3), .move (.t 0), none, 0, []⟩,
    ⟨(some 4), .eqs .slice false (.t 3) (.c (.s (.slice none 0 0 1))), none, 1, []⟩]) (RC.cond (.t 4) (RC.seq (RC.region 1 [
    ⟨(some 2), .move (.c (.s (.slice none 0 0 1))), none, 0, []⟩]) (RC.ret)) (RC.skip))) (RC.seq (RC.region 4 [
    ⟨(some 5), .buildSlice k 0 [] [], none, 0, []⟩,
    ⟨(some 6), .move (.t 0), none, 1, []⟩,
    ⟨(some 7), .append k bytes (.t 5) (.t 6), none, 2, []⟩,
    ⟨(some 2), .move (.t 7), none, 3, []⟩]) (RC.ret))))
def indexL (k : Nat) : RC :=
  RC.seq (RC.region 1 [
    ⟨(some 9), .bin .lss (.t 8) (.t 7), none, 0, []⟩]) (RC.seq (RC.cond (.t 9) (RC.skip) (RC.exit 0)) (RC.seq (RC.block 1 (RC.seq (RC.region 2 [
    ⟨(some 10), .move (.t 8), none, 0, []⟩,
    ⟨(some 5), .move (.t 10), none, 1, []⟩]) (RC.seq (RC.region 6 [
    ⟨(some 11), .move (.t 1), none, 0, []⟩,
    ⟨(some 12), .move (.t 0), none, 1, []⟩,
    ⟨(some 13), .move (.t 5), none, 2, []⟩,
    ⟨(some 14), .indexSl k (.t 12) (.t 13), none, 3, []⟩,
    ⟨(some 15), .load (some k) (.t 14), none, 4, []⟩,
    ⟨(some 16), .callv (.t 11) [(.t 15)], none, 5, []⟩]) (RC.cond (.t 16) (RC.seq (RC.region 2 [
    ⟨(some 17), .move (.t 5), none, 0, []⟩,
    ⟨(some 4), .move (.t 17), none, 1, []⟩]) (RC.ret)) (RC.skip))))) (RC.region 2 [
    ⟨(some 18), .bin .add (.t 8) (.c (.s (.int .i64 1))), none, 0, []⟩,
    ⟨(some 8), .move (.t 18), none, 1, []⟩])))
def indexB (k : Nat) : RFunc := RFunc.mk 19 [.tmp 4] (
  RC.seq (RC.region 1 [
    ⟨(some 4), .move (.c (.s (.int .i64 0))), none, 0, []⟩]) (RC.seq (RC.seq (RC.region 3 [
    ⟨(some 6), .move (.t 0), none, 0, []⟩,
    ⟨(some 7), .len (.t 6), none, 1, []⟩,
    ⟨(some 8), .move (.c (.s (.int .i64 0))), none, 2, []⟩]) (RC.block 0 (RC.loop (indexL k)))) (RC.seq (RC.region 1 [
    ⟨(some 4), .move (.c (.s (.int .i64 (-1)))), none, 0, []⟩]) (RC.ret))))
def deleteB (k bytes : Nat) (z : List SV) : RFunc := RFunc.mk 33 [.tmp 6] (
  RC.seq (RC.region 1 [
    ⟨(some 6), .move (.c (.s (.slice none 0 0 1))), none, 0, []⟩]) (RC.seq (RC.region 6 [
    ⟨(some 8), .move (.t 0), none, 0, []⟩,
    ⟨(some 9), .move (.t 1), none, 1, []⟩,
    ⟨(some 10), .move (.t 2), none, 2, []⟩,
    ⟨(some 11), .move (.t 0), none, 3, []⟩,
    ⟨(some 12), .len (.t 11), none, 4, []⟩,
    ⟨(some 13), .slSl k (.t 8) (some (.t 9)) (some (.t 10)) (some (.t 12)), none, 5, []⟩]) (RC.seq (RC.seq (RC.region 3 [
    ⟨(some 14), .move (.t 1), none, 0, []⟩,
    ⟨(some 15), .move (.t 2), none, 1, []⟩,
    ⟨(some 16), .bin .eql (.t 14) (.t 15), none, 2, []⟩]) (RC.cond (.t 16) (RC.seq (RC.region 2 [
    ⟨(some 17), .move (.t 0), none, 0, []⟩,
    ⟨(some 6), .move (.t 17), none, 1, []⟩]) (RC.ret)) (RC.skip))) (RC.seq (RC.region 3 [
    ⟨(some 18), .move (.t 0), none, 0, []⟩,
    ⟨(some 19), .len (.t 18), none, 1, []⟩,
    ⟨(some 7), .move (.t 19), none, 2, []⟩]) (RC.seq (RC.region 8 [
    ⟨(some 20), .move (.t 0), none, 0, []⟩,
    ⟨(some 21), .move (.t 1), none, 1, []⟩,
    ⟨(some 22), .slSl k (.t 20) none (some (.t 21)) none, none, 2, []⟩,
    ⟨(some 23), .move (.t 0), none, 3, []⟩,
    ⟨(some 24), .move (.t 2), none, 4, []⟩,
    ⟨(some 25), .slSl k (.t 23) (some (.t 24)) none none, none, 5, []⟩,
    ⟨(some 26), .append k bytes (.t 22) (.t 25), none, 6, []⟩,
    ⟨(some 0), .move (.t 26), none, 7, []⟩]) (RC.seq (RC.region 6 [
    ⟨(some 27), .move (.t 0), none, 0, []⟩,
    ⟨(some 28), .move (.t 0), none, 1, []⟩,
    ⟨(some 29), .len (.t 28), none, 2, []⟩,
    ⟨(some 30), .move (.t 7), none, 3, []⟩,
    ⟨(some 31), .slSl k (.t 27) (some (.t 29)) (some (.t 30)) none, none, 4, []⟩,
    ⟨none, .clear k z (.t 31), none, 5, []⟩]) (RC.seq (RC.region 2 [
    ⟨(some 32), .move (.t 0), none, 0, []⟩,
    ⟨(some 6), .move (.t 32), none, 1, []⟩]) (RC.ret))))))))
section
variable {tab : Nat → Option RFunc} {ext : Nat → List AV → AH → Option (AV × AH)} {α : Type} {enc : α → List SV} {k bytes f : Nat}
theorem gClip (ht : tab f = some (clipB k)) (hk : ∀ e, (enc e).length = k) (s : SV) (r : List α) : Tri tab ext f [.s s] [Row enc k s r] fun v P' => ∃ s', v = .s s' ∧ P' = [Row enc k s' r] := by
  refine Tri.go ht rfl ?_
  refine TC.rw .h (fun e hs hr => ?_) fun b cp j hs h1 h2 => ?_
  · subst hs; subst hr
    refine RUN ?_
    refine rt_r rfl ⟨_, rfl, rfl⟩ ?_
    exact row_nil _ _
  · subst hs
    refine RUN ?_
    have h3 : (r.length : Int) ≤ cp := by omega
    refine RP.sc (l := 0) (h := r.length) (m := r.length) rfl rfl rfl rfl (bds (bA (by omega)) (bA (by omega)) rfl) rfl ?_
    refine RUN ?_
    refine rt_r rfl ⟨_, rfl, rfl⟩ ?_
    have e : 0 + 0 * k = 0 := by omega
    rw [e]
    exact row_again (cp := r.length) (by simp [flat_len hk]) (Nat.le_refl _)
theorem gClone (ht : tab f = some (cloneB k bytes)) (hk : ∀ e, (enc e).length = k) (s : SV) (r : List α) (hr : r.length * bytes ≤ 70368744177664) : Tri tab ext f [.s s] [Row enc k s r] fun v P' => ∃ s', v = .s s' ∧ P' = [Row enc k s' r, Row enc k s r] := by
  refine Tri.go ht rfl ?_
  refine TC.rw .h (fun e hs hr => ?_) fun b cp j hs h1 h2 => ?_
  · subst hs; subst hr
    refine RUN ?_
    refine rt_r rfl ⟨_, rfl, rfl⟩ ?_
    exact (row_nil _ _).trans (row_nil _ _)
  · subst hs
    refine TC.ent (row_again h1 h2) ?_
    refine RUN ?_
    refine RP.bs rfl rfl rfl fun b' => ?_
    refine RP.ent (row_empty (enc := enc) (k := k)) ?_
    refine RUN ?_
    refine RP.ap rfl rfl rfl (ap_row hk (.c .h (.c .h .e)) (by simpa using hr)) fun s' => ?_
    refine RUN ?_
    refine rt_r rfl ⟨_, rfl, rfl⟩ ?_
    exact LEnt.refl _
theorem ins_tail {A : Asr} : ∀ C : List Asr, Ins C (A :: C) [A]
  | [] => .e
  | _ :: C => .c (.n .h) (ins_tail C)
theorem LEnt.turn {A : Asr} {C : List Asr} : LEnt (C ++ [A]) (A :: C) := fun ρ H R hs => by
  refine hs.perm ?_
  rw [List.append_assoc]
  exact List.perm_middle
theorem row_made' {b c m : Nat} {l : List SV} {r : List α} {L : List Asr} (h1 : l.take (m * k) = flat enc r) (hm : r.length = m) (h2 : c * k ≤ l.length) (h3 : m ≤ c) : LEnt (Cel b l :: L) (Row enc k (.slice (some (b, 0)) m c k) r :: L) := by
  subst hm
  exact row_made h1.symm h2 h3
def plc : Option Nat → Int
  | some i => i
  | none => -1
theorem gIndex (ht : tab f = some (indexB k)) (hk : ∀ e, (enc e).length = k) (s : SV) (r : List α) (hr : r.length ≤ 1000000) (g : Nat) (caps : List (Nat × Nat)) (p : α → Bool) (C : List Asr) (hf : ∀ w, Tri tab ext g ([.agg (enc w)] ++ caps.map fun a => .s (.ptr (some a))) C fun v P' => v = bl (p w) ∧ P' = C) :
    Tri tab ext f [.s s, .s (.fn g caps)] (Row enc k s r :: C) fun v P' => v = i64 (plc (r.findIdx? p)) ∧ P' = Row enc k s r :: C := by
  refine Tri.go ht rfl ?_
  refine RUN ?_
  refine TC.loop (fun a : Nat => r.length - a) (fun i => i ≤ r.length ∧ ∀ j, j < i → ∀ w, r[j]? = some w → p w = false) (fun a => [(0, .s s), (1, .s (.fn g caps)), (7, i64 r.length), (8, i64 a)]) (fun _ => Row enc k s r :: C) 0 ⟨Nat.zero_le _, fun _ h => absurd h (Nat.not_lt_zero _)⟩ ⟨rfl, rfl, rfl, rfl, trivial⟩ (LEnt.refl _) ?_
  rintro i ⟨hi, hx⟩
  refine RUN ?_
  refine TC.cP rfl (fun h => ?_) fun h => ?_
  · have hlt : i < r.length := by omega
    obtain ⟨y, hy⟩ : ∃ y, r[i]? = some y := ⟨_, List.getElem?_eq_getElem hlt⟩
    refine RUN ?_
    refine RP.ln rfl (Ldn.w hk hy) rfl ?_
    refine RUN ?_
    refine RP.cv rfl rfl (hf y) (ins_tail C) rfl ?_
    rintro v P' ⟨rfl, rfl⟩
    refine RUN ?_
    refine TC.cB rfl (fun h2 => ?_) fun h2 => ?_
    · refine RUN ?_
      refine rt_r rfl ⟨?_, rfl⟩ LEnt.turn
      rw [List.findIdx?_eq_some_iff_getElem.2 ⟨hlt, ?_, fun j hj => ?_⟩]
      · rfl
      · obtain ⟨_, rfl⟩ := List.getElem?_eq_some_iff.1 hy
        exact h2
      · rw [hx j hj _ (List.getElem?_eq_getElem _)]; simp
    · refine RUN ?_
      refine lp_n (i + 1) ⟨hlt, fun j hj w hw => ?_⟩ (by omega) ⟨rfl, rfl, rfl, rfl, trivial⟩ LEnt.turn
      rcases Nat.lt_or_ge j i with h3 | h3
      · exact hx j h3 w hw
      · obtain rfl : j = i := by omega
        rw [hy] at hw
        cases hw
        exact h2
  · refine RUN ?_
    have : i = r.length := by omega
    subst this
    refine rt_r rfl ⟨?_, rfl⟩ (LEnt.refl _)
    rw [List.findIdx?_eq_none_iff.2 fun w hw => by
      obtain ⟨j, hj, rfl⟩ := List.getElem_of_mem hw
      exact hx j hj _ (List.getElem?_eq_getElem hj)]
    rfl
theorem gclear_part {b o m c : Nat} {z l : List SV} {L : List Asr} (hz : z.length = k) (h : o + m * k ≤ l.length) : ∀ (ρ : HF) (H : AH) (X : List Asr), Sat ρ H ((Cel b l :: L) ++ X) → ∃ H', clearA k z (.s (.slice (some (b, o)) m c k)) H = some H' ∧ Sat ρ H' ((Cel b (splice l o (repCells z m)) :: L) ++ X) := by
  intro ρ H X hs
  have hs : Sat ρ H (Cel b l :: (L ++ X)) := hs
  have hl : (repCells z m).length = m * k := by rw [rep_length, hz]
  by_cases hm : m = 0
  · subst hm
    refine ⟨H, by simp [clearA], ?_⟩
    have : splice l o (repCells z 0) = l := by simp [repCells, splice]
    rw [this]; exact hs
  · refine ⟨_, ?_, Sat.set hs _⟩
    simp only [clearA, if_neg hm, hz, and_self, if_true]
    rw [stn_of H hs.cel (by rw [hl]; exact h)]
theorem gsplice_del (hk : ∀ e, (enc e).length = k) (r : List α) (j : List SV) (i : Nat) (hi : i < r.length) : splice (flat enc r ++ j) (i * k) (flat enc (r.drop (i + 1))) = flat enc (r.take i ++ r.drop (i + 1)) ++ (flat enc r ++ j).drop ((r.length - 1) * k) := by
  unfold splice
  have e1 : (flat enc (r.drop (i + 1))).length = (r.length - (i + 1)) * k := by rw [flat_len hk, List.length_drop]
  have e3 : i * k + (r.length - (i + 1)) * k = (r.length - 1) * k := by rw [← Nat.add_mul]; congr 1; omega
  have e4 : (flat enc (r.take i)).length = i * k := by rw [flat_len hk, List.length_take, Nat.min_eq_left (by omega)]
  have e2 : (flat enc r ++ j).take (i * k) = flat enc (r.take i) := by
    have : flat enc r ++ j = flat enc (r.take i) ++ (flat enc (r.drop i) ++ j) := by rw [← List.append_assoc, ← flat_append, List.take_append_drop]
    rw [this, List.take_append_of_le_length (by omega)]
    exact List.take_of_length_le (by omega)
  rw [e1, e2, flat_append, e3, List.append_assoc]
theorem gap_cut (hk : ∀ e, (enc e).length = k) {b cp i c' : Nat} {r : List α} {j : List SV} {L : List Asr} (hb : r.length * bytes ≤ 70368744177664) (hi : i < r.length) (hc : r.length ≤ cp) : ∀ (ρ : HF) (H : AH) (id : Nat) (X : List Asr), Sat ρ H (Fre id :: ((Cel b (flat enc r ++ j) :: L) ++ X)) →
    ∃ (_ : PUnit) (H' : AH), appendA k bytes id (.s (.slice (some (b, 0)) i cp k)) (.s (.slice (some (b, (i + 1) * k)) (r.length - (i + 1)) c' k)) H = some (.s (.slice (some (b, 0)) (r.length - 1) cp k), H') ∧ Sat ρ H' ((Cel b (flat enc (r.take i ++ r.drop (i + 1)) ++ (flat enc r ++ j).drop ((r.length - 1) * k)) :: L) ++ X) := by
  intro ρ H id X hs
  have hs : Sat ρ H (Cel b (flat enc r ++ j) :: (L ++ X)) := hs.drop
  have efl : (flat enc r).length = r.length * k := flat_len hk r
  have e1 : (flat enc (r.drop (i + 1))).length = (r.length - (i + 1)) * k := by rw [flat_len hk, List.length_drop]
  have e3 : i * k + (r.length - (i + 1)) * k = (r.length - 1) * k := by rw [← Nat.add_mul]; congr 1; omega
  have e5 : (r.length - 1) * k ≤ r.length * k := Nat.mul_le_mul_right k (by omega)
  have hp : sliceCells k (.s (.slice (some (b, (i + 1) * k)) (r.length - (i + 1)) c' k)) (r.length - (i + 1)) H = some (flat enc (r.drop (i + 1))) := by
    have h0 : Sat ρ H (Row enc k (.slice (some (b, 0)) r.length r.length k) r :: (L ++ X)) := Sat.mkRow hs (by rw [List.length_append, efl]; omega) (Nat.le_refl _)
    have := h0.partSrc hk (o := (i + 1) * k) (l := i + 1) (n := r.length - (i + 1)) (c' := c') (by omega) (by omega)
    rwa [List.take_of_length_le (by rw [List.length_drop]; exact Nat.le_refl _)] at this
  refine ⟨⟨⟩, H.set b (.cells false (splice (flat enc r ++ j) (i * k) (flat enc (r.drop (i + 1))))), ?_, ?_⟩
  · simp only [appendA]
    rw [show slLen (.s (.slice (some (b, (i + 1) * k)) (r.length - (i + 1)) c' k)) = some (r.length - (i + 1)) from rfl, Option.bind_some, hp, Option.bind_some, if_pos ⟨trivial, by rw [show i + (r.length - (i + 1)) = r.length - 1 by omega]; exact Nat.le_trans (Nat.mul_le_mul_right bytes (by omega)) hb⟩, if_pos (by omega), Nat.zero_add, stn_of H hs.cel (by rw [e1, List.length_append, efl]; omega), Option.map_some, show i + (r.length - (i + 1)) = r.length - 1 by omega]
  · rw [← gsplice_del hk r j i hi]
    exact Sat.set hs _
theorem gDelete {z : List SV} (ht : tab f = some (deleteB k bytes z)) (hk : ∀ e, (enc e).length = k) (hz : z.length = k) (s : SV) (r : List α) (i : Nat) (hr : r.length ≤ 1000000) (hb : r.length * bytes ≤ 70368744177664) (hi : i < r.length) : Tri tab ext f [.s s, i64 i, i64 ((i + 1 : Nat) : Int)] [Row enc k s r] fun v P' => ∃ s', v = .s s' ∧ P' = [Row enc k s' (r.take i ++ r.drop (i + 1))] := by
  refine Tri.go ht rfl ?_
  refine TC.rw .h (fun e hs hr => by subst hr; simp at hi) fun b cp j hs h1 h2 => ?_
  subst hs
  refine RUN ?_
  refine RP.sc (l := i) (h := i + 1) (m := r.length) rfl rfl rfl rfl (bds (bA (by omega)) (bA (by omega)) (bA (by omega))) rfl ?_
  refine RUN ?_
  refine TC.cP rfl (fun h => by omega) fun _ => ?_
  refine RUN ?_
  refine RP.sc (l := 0) (h := i) (m := cp) rfl rfl rfl rfl (bds rfl (bA (by omega)) rfl) rfl ?_
  refine RUN ?_
  refine RP.sc (l := i + 1) (h := r.length) (m := cp) rfl rfl rfl rfl (bds rfl rfl (bA (by omega))) rfl ?_
  refine RUN ?_
  simp only [Nat.add_zero, Nat.zero_add, Nat.sub_zero, Nat.zero_mul]
  refine RP.ap rfl rfl rfl (gap_cut hk hb hi h2) fun _ => ?_
  refine RUN ?_
  refine RP.sc (l := r.length - 1) (h := r.length) (m := cp) rfl rfl rfl rfl (bds rfl (bA (by omega)) (bA (by omega))) rfl ?_
  refine RUN ?_
  have e0 : (r.take i ++ r.drop (i + 1)).length = r.length - 1 := by rw [List.length_append, List.length_take, List.length_drop]; omega
  have e5 : (r.length - 1) * k + k = r.length * k := by
    have : r.length = (r.length - 1) + 1 := by omega
    conv => rhs; rw [this, Nat.add_mul, Nat.one_mul]
  have e6 : r.length * k ≤ cp * k := Nat.mul_le_mul_right k h2
  rw [List.length_append, flat_len hk] at h1
  have e7 : (flat enc (r.take i ++ r.drop (i + 1))).length = (r.length - 1) * k := by rw [flat_len hk, e0]
  have e8 : r.length - (r.length - 1) = 1 := by omega
  refine RP.cl rfl (gclear_part hz (by rw [e8]; simp only [List.length_append, e7, List.length_drop, flat_len hk]; omega)) ?_
  refine RUN ?_
  refine rt_r rfl ⟨_, rfl, rfl⟩ ?_
  rw [e8]
  refine row_made' ?_ e0 ?_ (by omega)
  · unfold splice
    rw [Nat.zero_add, List.take_append_of_le_length (by simp only [List.length_take, List.length_append, e7, List.length_drop, flat_len hk]; omega), List.take_take, Nat.min_self, List.take_append_of_le_length (by omega), List.take_of_length_le (by omega)]
  · simp only [splice, List.length_append, List.length_take, List.length_drop, rep_length, flat_len hk, e0, hz]
    omega
end
end Go.AM

/-
  slices.Insert of one element, of any number of cells: what the model's call gives.
-/
namespace Go.AM
open Go.Proofs Go.Shelf Go.RowKit Go.Lib
variable {P : Program}
structure InsLay (P : Program) (ρ : Ren) (nm : String) (tg : Array TypeId) (k bytes : Nat) (z : Value) : Prop where
  mixed : P.follows .mixedOrders = true
  nmOk : (nm == "runtime.NumGoroutine") = false
  f22 : P.funcs[ρ.f 22]? = some { Body2.n22 ρ with name := nm, targs := tg }
  ov : ∀ args w, (callFunc (ρ.f 29) args).run P w = ((Extern.SlicesOverlaps.overlaps #[ρ.t 24, ρ.t 24] #[ρ.t 4] args).run P w).andThen fun v w' => .ok (.value v) w'
  t0 : P.underlying (ρ.t 0) = some (TypeDesc.tuple #[])
  a0 : ∀ w, (isAgg (ρ.t 0)).run P w = .ok false w
  z0 : ∀ w, (Go.sizeOf (ρ.t 0)).run P w = .ok 1 w
  v0 : ∀ w, (zeroValue (ρ.t 0)).run P w = .ok (Value.tuple #[]) w
  t3 : P.underlying (ρ.t 3) = some (TypeDesc.int IntKind.i64)
  a3 : ∀ w, (isAgg (ρ.t 3)).run P w = .ok false w
  z3 : ∀ w, (Go.sizeOf (ρ.t 3)).run P w = .ok 1 w
  v3 : ∀ w, (zeroValue (ρ.t 3)).run P w = .ok (Value.int IntKind.i64 0) w
  t4 : P.underlying (ρ.t 4) = some (TypeDesc.bool)
  a4 : ∀ w, (isAgg (ρ.t 4)).run P w = .ok false w
  z4 : ∀ w, (Go.sizeOf (ρ.t 4)).run P w = .ok 1 w
  v4 : ∀ w, (zeroValue (ρ.t 4)).run P w = .ok (Value.bool false) w
  z9 : ∀ w, (Go.sizeOf (ρ.t 9)).run P w = .ok k w
  i9 : (P.info? (ρ.t 9)).map (fun i => (i.zero, i.size, i.bytes)) = some (some z, k, bytes)
  t24 : P.underlying (ρ.t 24) = some (TypeDesc.slice (ρ.t 9))
  a24 : ∀ w, (isAgg (ρ.t 24)).run P w = .ok false w
  z24 : ∀ w, (Go.sizeOf (ρ.t 24)).run P w = .ok 1 w
  v24 : ∀ w, (zeroValue (ρ.t 24)).run P w = .ok (Value.slice none 0 0) w
theorem copyK (w : World) (dT sT ty elem : TypeId) (k b o dLen dCap : Nat) (a : Addr) (sLen sCap : Nat) (cs : List Value)
    (hu : P.underlying dT = some (.slice elem)) (hs : (P.info? elem).map (·.size) = some k) (hn : cs.length = Nat.min sLen dLen * k)
    (hsrc : ∀ j v, cs[j]? = some v → w.cell? (a.add j) = some v) (hc : ∀ j, j < cs.length → (w.cell? ⟨b, o + j, none⟩).isSome = true) (hf : ∀ j, j < cs.length → w.frozen? ⟨b, o + j, none⟩ = false) (h1 : ∀ v ∈ cs, v.oneCell' = true) :
    (Builtin.copy_ #[dT, sT] ty #[.slice (some ⟨b, o, none⟩) dLen dCap, .slice (some a) sLen sCap]).run P w = .ok (goInt (Nat.min sLen dLen)) (w.setCells b o cs) := by
  have hl := run_firstCells_some (P := P) w k (Nat.min sLen dLen) a sLen sCap cs hn hsrc
  have hst := run_storeCells_cells (P := P) b o cs 0 w (by simpa using hc) (by simpa using hf) h1
  cases hq : P.info? elem with
  | none => simp [hq] at hs
  | some i =>
    have hi : i.size = k := by simpa [hq] using hs
    simp [Builtin.copy_, run_underlying hu, Builtin.lenOf, sizeOf, typeInfo, hq, hi, hl, hst]
section
variable {ρ : Ren} {nm : String} {tg : Array TypeId} {k bytes : Nat} {z : Value}
set_option maxHeartbeats 4000000 in
set_option maxRecDepth 100000 in
theorem ins_shift (L : InsLay P ρ nm tg k bytes z) (b off n c i vb voff vc : Nat) (cs vs : List Value) (w : World) (hi : i < n) (hroom : n + 1 ≤ c) (hc63 : c ≤ 9223372036854775807) (hvb : vb ≠ b)
    (hcl : cs.length = n * k) (hvl : vs.length = k)
    (hcs : ∀ j v, cs[j]? = some v → w.cell? ⟨b, off + j, none⟩ = some v) (hsp : ∀ j, j < (n + 1) * k → (w.cell? ⟨b, off + j, none⟩).isSome = true) (hfz : ∀ j, j < (n + 1) * k → w.frozen? ⟨b, off + j, none⟩ = false)
    (hvs : ∀ j v, vs[j]? = some v → w.cell? ⟨vb, voff + j, none⟩ = some v) (h1c : ∀ v ∈ cs, v.oneCell' = true) (h1v : ∀ v ∈ vs, v.oneCell' = true)
    (tA tB : TypeId) (kA kB : Nat) (hsa : w.shape? vb = some (tA, kA)) (hsb : w.shape? b = some (tB, kB)) (hkB : kB ≠ 0) (hfa : w.frozen? ⟨vb, voff, none⟩ = false) (hfe : w.frozen? ⟨vb, kA, none⟩ = false) :
    Calls P (ρ.f 22) #[.slice (some ⟨b, off, none⟩) n c, .int .i64 i, .slice (some ⟨vb, voff, none⟩) 1 vc] w fun e w' =>
      e = .returned (.slice (some ⟨b, off, none⟩) (n + 1) c) ∧ w' = (w.drew.setCells b (off + (i * k + k)) (cs.drop (i * k))).setCells b (off + i * k) vs := by
  have t0 := L.t0; have a0 := L.a0; have z0 := L.z0; have v0 := L.v0; have t3 := L.t3; have a3 := L.a3; have z3 := L.z3; have v3 := L.v3; have t4 := L.t4; have a4 := L.a4; have z4 := L.z4; have v4 := L.v4; have z9 := L.z9; have t24 := L.t24; have a24 := L.a24; have z24 := L.z24; have v24 := L.v24
  have u0 := run_underlying L.t0; have u3 := run_underlying L.t3; have u4 := run_underlying L.t4; have u24 := run_underlying L.t24
  have hz1 : ¬ (((1 : Nat) : Int) = 0) := by omega
  have hz2 : ¬ ((i : Int) = (n : Int)) := by omega
  have hsz : (P.info? (ρ.t 9)).map (·.size) = some k := by
    obtain ⟨i0, hi0, h0, h1, h2⟩ := info_parts L.i9
    rw [hi0]; simp [h1]
  have hov : ∀ lb cb, (callFunc (ρ.f 29) #[.slice (some ⟨vb, voff, none⟩) 1 vc, .slice (some ⟨b, off + (i * k + k), none⟩) lb cb]).run P w = .ok (.value (.bool false)) w := fun lb cb => by
    rw [L.ov, Lib.run_overlaps_apart w (ρ.t 24) (ρ.t 4) (ρ.t 9) L.t24 k L.z9 ⟨vb, voff, none⟩ ⟨b, off + (i * k + k), none⟩ 1 vc lb cb hvb tA tB kA kB hsa hsb hkB hfa hfe]
    rfl
  have e1 : (n - i) * k + i * k = n * k := by rw [← Nat.add_mul]; congr 1; omega
  have e2 : (n - i) * k + (i + 1) * k = (n + 1) * k := by rw [← Nat.add_mul]; congr 1; omega
  have e3 : (i + 1) * k = i * k + k := by rw [Nat.add_mul, Nat.one_mul]
  have hdl : (cs.drop (i * k)).length = (n - i) * k := by rw [List.length_drop, hcl]; omega
  have mixed := L.mixed
  have hw1 : IntKind.i64.wrap ((i : Int) + 1) = (i : Int) + 1 := by rw [IntKind.wrap_i64]; omega
  have hb1 : (0 : Int) ≤ (i : Int) + 1 := by omega
  have hin : i ≤ n := by omega
  have htn : ((i : Int) + 1).toNat = i + 1 := by omega
  have hb2 : ¬ (c = i + 1) := by omega
  have hb3 : (i : Int) ≤ (n : Int) + 1 := by omega
  have hb4 : ¬ (c = i) := by omega
  have hm1 : Nat.min (n + 1 - i) (n - i) = n - i := by simp only [Nat.min_def]; split <;> omega
  have hm2 : Nat.min 1 (n + 1 - i) = 1 := by simp only [Nat.min_def]; split <;> omega
  have hcp1 : ∀ ty dc sc, (Builtin.copy_ #[(ρ.t 24), (ρ.t 24)] ty #[.slice (some ⟨b, off + (i * k + k), none⟩) (n - i) dc, .slice (some ⟨b, off + i * k, none⟩) (n + 1 - i) sc]).run P w.drew = .ok (goInt (n - i : Nat)) (w.drew.setCells b (off + (i * k + k)) (cs.drop (i * k))) := fun ty dc sc => by
    have h := copyK (P := P) w.drew (ρ.t 24) (ρ.t 24) ty (ρ.t 9) k b (off + (i * k + k)) (n - i) dc ⟨b, off + i * k, none⟩ (n + 1 - i) sc (cs.drop (i * k)) L.t24 hsz (by rw [hdl, hm1])
      (fun j v hj => by rw [Addr.add_lit, Nat.add_assoc]; exact hcs (i * k + j) v (by rwa [List.getElem?_drop] at hj))
      (fun j hj => by rw [Nat.add_assoc]; exact hsp _ (by omega)) (fun j hj => by rw [Nat.add_assoc]; exact hfz _ (by omega)) (fun v hv => h1c v (List.mem_of_mem_drop hv))
    rw [hm1] at h
    exact h
  obtain ⟨W1, hW1⟩ : ∃ W1, W1 = w.drew.setCells b (off + (i * k + k)) (cs.drop (i * k)) := ⟨_, rfl⟩
  have hsp1 : ∀ j, j < (n + 1) * k → (W1.cell? ⟨b, off + j, none⟩).isSome = true := fun j hj => by
    rw [hW1]
    exact isSome_setCells b _ _ _ (fun j hj => by rw [Nat.add_assoc]; exact hsp _ (by omega)) _ (hsp j hj)
  have hcp2 : ∀ (W : World), (∀ x, W.cell? x = W1.cell? x) → (∀ x, W.frozen? x = W1.frozen? x) → ∀ ty dc, (Builtin.copy_ #[(ρ.t 24), (ρ.t 24)] ty #[.slice (some ⟨b, off + i * k, none⟩) (n + 1 - i) dc, .slice (some ⟨vb, voff, none⟩) 1 vc]).run P W = .ok (goInt (1 : Nat)) (W.setCells b (off + i * k) vs) := fun W hWc hWf ty dc => by
    have h := copyK (P := P) W (ρ.t 24) (ρ.t 24) ty (ρ.t 9) k b (off + i * k) (n + 1 - i) dc ⟨vb, voff, none⟩ 1 vc vs L.t24 hsz (by rw [hvl, hm2, Nat.one_mul])
      (fun j v hj => by
        rw [Addr.add_lit, hWc, hW1, World.cell?_setCells_out b _ _ _ _ (fun h _ => absurd h hvb)]
        exact hvs j v hj)
      (fun j hj => by rw [hWc, Nat.add_assoc]; exact hsp1 _ (by omega)) (fun j hj => by rw [hWf, hW1, World.frozen?_setCells, Nat.add_assoc]; exact hfz _ (by omega)) h1v
    rw [hm2] at h
    exact h
  rw [← hW1] at hcp1
  clear hsp1
  refine calls_of_wp L.f22 rfl ?_
  simp only [Body2.n22_ntmps ρ, List.size_toArray, List.length_cons, List.length_nil, Nat.reduceAdd, Nat.reduceSub, Array.replicate_succ, Array.replicate_zero, List.push_toArray, List.append_toArray, List.nil_append, List.cons_append]
  go_wp2_with (simp only [hov])
  go_region_law_o (refine step_copy_runI rfl _ _ (ρ.t 24) (ρ.t 24) rfl _ _ (by simp [Act.eval, Act.put]) (by simp [Act.eval, Act.put]) (hcp1 _ _ _) ?_)
  go_wp2_with (at_builtin; refine wpList_copy_runI _ rfl _ _ (ρ.t 24) (ρ.t 24) rfl _ _ rfl rfl (hcp2 _ (fun _ => rfl) (fun _ => rfl) _ _) ?_)
  go_ret
  first | exact ⟨rfl, rfl⟩ | exact ⟨rfl, by rw [hW1]⟩
set_option maxHeartbeats 4000000 in
set_option maxRecDepth 100000 in
theorem ins_room (L : InsLay P ρ nm tg k bytes z) (b off n c vb voff vc : Nat) (vs : List Value) (w : World) (hroom : n + 1 ≤ c) (hc63 : c ≤ 9223372036854775807)
    (hvl : vs.length = k) (hsp : ∀ j, j < k → (w.cell? ⟨b, off + n * k + j, none⟩).isSome = true) (hfz : ∀ j, j < k → w.frozen? ⟨b, off + n * k + j, none⟩ = false)
    (hvs : ∀ j v, vs[j]? = some v → w.cell? ⟨vb, voff + j, none⟩ = some v) (h1v : ∀ v ∈ vs, v.oneCell' = true) :
    Calls P (ρ.f 22) #[.slice (some ⟨b, off, none⟩) n c, .int .i64 n, .slice (some ⟨vb, voff, none⟩) 1 vc] w fun e w' =>
      e = .returned (.slice (some ⟨b, off, none⟩) (n + 1) c) ∧ w' = w.setCells b (off + n * k) vs := by
  have t0 := L.t0; have a0 := L.a0; have z0 := L.z0; have v0 := L.v0; have t3 := L.t3; have a3 := L.a3; have z3 := L.z3; have v3 := L.v3; have t4 := L.t4; have a4 := L.a4; have z4 := L.z4; have v4 := L.v4; have z9 := L.z9; have t24 := L.t24; have a24 := L.a24; have z24 := L.z24; have v24 := L.v24
  have u0 := run_underlying L.t0; have u3 := run_underlying L.t3; have u4 := run_underlying L.t4; have u24 := run_underlying L.t24
  have mixed := L.mixed
  obtain ⟨i0, hi0, hz0, hzs, hzb⟩ := info_parts L.i9
  have hsrc : Src P i0.size (ρ.t 24) (.slice (some ⟨vb, voff, none⟩) 1 vc) 1 vs w := Src.ofSlice w L.t24 ⟨vb, voff, none⟩ 1 vc vs (by rw [hvl, hzs, Nat.one_mul]) (fun j u hj => by rw [Addr.add_lit]; exact hvs j u hj) h1v
  refine calls_of_wp L.f22 rfl ?_
  simp only [Body2.n22_ntmps ρ, List.size_toArray, List.length_cons, List.length_nil, Nat.reduceAdd, Nat.reduceSub, Array.replicate_succ, Array.replicate_zero, List.push_toArray, List.append_toArray, List.nil_append, List.cons_append]
  go_wp2_with (at_builtin; refine wpList_append_room_src _ rfl _ _ (ρ.t 24) (ρ.t 24) rfl (ρ.t 9) i0 L.t24 hi0 b off n c rfl _ rfl 1 vs hsrc hroom (by rw [hvl, hzs]; exact hsp) (by rw [hvl, hzs]; exact hfz) ?_)
  go_ret
  exact ⟨rfl, rfl⟩
set_option maxHeartbeats 4000000 in
set_option maxRecDepth 100000 in
theorem ins_new (L : InsLay P ρ nm tg k bytes z) (base : Option Addr) (n c vb voff vc : Nat) (cs vs : List Value) (w : World) (hnc : n ≤ c) (hroom : c < n + 1) (hbig : (n + 1) * bytes ≤ 140737488355328) (h63 : n + 1 ≤ 9223372036854775807)
    (hcl : cs.length = n * k) (hvl : vs.length = k) (hnil : base = none → n = 0)
    (hcs : ∀ a, base = some a → ∀ j v, cs[j]? = some v → w.cell? (a.add j) = some v)
    (hvs : ∀ j v, vs[j]? = some v → w.cell? ⟨vb, voff + j, none⟩ = some v) (h1v : ∀ v ∈ vs, v.oneCell' = true) :
    Calls P (ρ.f 22) #[.slice base n c, .int .i64 n, .slice (some ⟨vb, voff, none⟩) 1 vc] w fun e w' =>
      e = .returned (.slice (some ⟨w.heap.size, 0, none⟩) (n + 1) (grownCap w (n + 1) c (ρ.t 9))) ∧
      w' = w.drew.alloc (.cells ((cs ++ vs).toArray ++ Builtin.zeroCells z.cells (grownCap w (n + 1) c (ρ.t 9) - (n + 1))) (ρ.t 9)) := by
  have t0 := L.t0; have a0 := L.a0; have z0 := L.z0; have v0 := L.v0; have t3 := L.t3; have a3 := L.a3; have z3 := L.z3; have v3 := L.v3; have t4 := L.t4; have a4 := L.a4; have z4 := L.z4; have v4 := L.v4; have z9 := L.z9; have t24 := L.t24; have a24 := L.a24; have z24 := L.z24; have v24 := L.v24
  have u0 := run_underlying L.t0; have u3 := run_underlying L.t3; have u4 := run_underlying L.t4; have u24 := run_underlying L.t24
  have mixed := L.mixed
  obtain ⟨i0, hi0, hz0, hzs, hzb⟩ := info_parts L.i9
  have hsrc : Src P i0.size (ρ.t 24) (.slice (some ⟨vb, voff, none⟩) 1 vc) 1 vs w := Src.ofSlice w L.t24 ⟨vb, voff, none⟩ 1 vc vs (by rw [hvl, hzs, Nat.one_mul]) (fun j u hj => by rw [Addr.add_lit]; exact hvs j u hj) h1v
  have hold : (Builtin.firstCells i0.size n (.slice base n c)).run P w.drew = .ok cs.toArray w.drew := by
    rw [hzs]
    cases base with
    | none =>
      have h0 := hnil rfl
      subst h0
      rw [show cs = [] from List.length_eq_zero_iff.1 (by rw [hcl, Nat.zero_mul])]
      exact run_firstCells_none w.drew k 0 0 c
    | some a => exact run_firstCells_some w.drew k n a n c cs hcl (fun j v hj => hcs a rfl j v hj)
  have hrun : ∀ ty, (Builtin.append_ #[(ρ.t 24), (ρ.t 24)] ty #[.slice base n c, .slice (some ⟨vb, voff, none⟩) 1 vc]).run P w = _ := fun ty =>
    run_append_grow_src w (ρ.t 24) (ρ.t 24) ty (ρ.t 9) i0 _ L.t24 hi0 hz0 base n c cs hold _ 1 vs hsrc hroom (by omega) (by rw [hzb]; exact growslice_fits hroom hbig)
  obtain ⟨ROW, hROW⟩ : ∃ ROW : Array Value, ROW = (cs ++ vs).toArray ++ Builtin.zeroCells z.cells (grownCap w (n + 1) c (ρ.t 9) - (n + 1)) := ⟨_, rfl⟩
  rw [← hROW] at hrun ⊢
  clear hROW hold hsrc hi0 hz0 hzs hzb
  refine calls_of_wp L.f22 rfl ?_
  simp only [Body2.n22_ntmps ρ, List.size_toArray, List.length_cons, List.length_nil, Nat.reduceAdd, Nat.reduceSub, Array.replicate_succ, Array.replicate_zero, List.push_toArray, List.append_toArray, List.nil_append, List.cons_append]
  cases base with
  | none =>
    have h0 := hnil rfl
    subst h0
    go_wp2_with (at_builtin; refine Lib.wpList_append_run _ rfl _ _ _ _ rfl _ _ rfl rfl _ _ (hrun _) ?_)
    go_ret
    exact ⟨rfl, rfl⟩
  | some a =>
    obtain ⟨ab, ao, asp⟩ := a
    go_wp2_with (at_builtin; refine Lib.wpList_append_run _ rfl _ _ _ _ rfl _ _ rfl rfl _ _ (hrun _) ?_)
    all_goals (go_ret; exact ⟨rfl, rfl⟩)
set_option maxHeartbeats 4000000 in
set_option maxRecDepth 100000 in
theorem ins_grow (L : InsLay P ρ nm tg k bytes z) (hk : 0 < k) (hzc : z.cells.size = k) (b off n c i vb voff vc : Nat) (cs vs : List Value) (w : World) (hi : i < n) (hnc : n ≤ c) (hroom : c < n + 1) (hbig : (n + 1) * bytes ≤ 140737488355328) (h63 : n + 1 ≤ 9223372036854775807)
    (hcl : cs.length = n * k) (hvl : vs.length = k)
    (hcs : ∀ j v, cs[j]? = some v → w.cell? ⟨b, off + j, none⟩ = some v)
    (hvs : ∀ j v, vs[j]? = some v → w.cell? ⟨vb, voff + j, none⟩ = some v) (h1c : ∀ v ∈ cs, v.oneCell' = true) (h1v : ∀ v ∈ vs, v.oneCell' = true) :
    Calls P (ρ.f 22) #[.slice (some ⟨b, off, none⟩) n c, .int .i64 i, .slice (some ⟨vb, voff, none⟩) 1 vc] w fun e w' =>
      ∃ ROW : Array Value, ROW.size = grownCap w (n + 1) c (ρ.t 9) * k ∧ (∀ j, j < i * k → ROW[j]? = cs[j]?) ∧ e = .returned (.slice (some ⟨w.heap.size, 0, none⟩) (n + 1) (grownCap w (n + 1) c (ρ.t 9))) ∧
      w' = (((w.alloc (.cells ROW (ρ.t 9))).drew.setCells w.heap.size (i * k) vs).drew).setCells w.heap.size ((i + 1) * k) (cs.drop (i * k)) := by
  have t0 := L.t0; have a0 := L.a0; have z0 := L.z0; have v0 := L.v0; have t3 := L.t3; have a3 := L.a3; have z3 := L.z3; have v3 := L.v3; have t4 := L.t4; have a4 := L.a4; have z4 := L.z4; have v4 := L.v4; have z9 := L.z9; have t24 := L.t24; have a24 := L.a24; have z24 := L.z24; have v24 := L.v24
  have u0 := run_underlying L.t0; have u3 := run_underlying L.t3; have u4 := run_underlying L.t4; have u24 := run_underlying L.t24
  have mixed := L.mixed
  obtain ⟨i0, hi0, hz0, hzs, hzb⟩ := info_parts L.i9
  have hz1 : ¬ (((1 : Nat) : Int) = 0) := by omega
  have hz2 : ¬ ((i : Int) = (n : Int)) := by omega
  have hz3 : (c : Int) < (n : Int) + 1 := by omega
  have hsz : (P.info? (ρ.t 9)).map (·.size) = some k := by rw [hi0]; simp [hzs]
  have e1 : (n - i) * k + i * k = n * k := by rw [← Nat.add_mul]; congr 1; omega
  have e2 : (n + 1 - i) * k + i * k = (n + 1) * k := by rw [← Nat.add_mul]; congr 1; omega
  have e4 : (n + 1) * k = n * k + k := by rw [Nat.add_mul, Nat.one_mul]
  have e5 : i * k + k ≤ n * k := by
    have := Nat.mul_le_mul_right k (show i + 1 ≤ n by omega)
    rwa [Nat.add_mul, Nat.one_mul] at this
  have hbw : b < w.heap.size := block_lt_of_cell (hcs 0 _ (List.getElem?_eq_getElem (by omega)))
  have hvw : vb < w.heap.size := block_lt_of_cell (hvs 0 _ (List.getElem?_eq_getElem (by omega)))
  have hkk : (n : Int) + 1 - (i : Int) = ((n + 1 - i : Nat) : Int) := by omega
  have hik : i + (n + 1 - i) = n + 1 := by omega
  have hold : (Builtin.firstCells i0.size i (.slice (some ⟨b, off, none⟩) i c)).run P w.drew = .ok (cs.take (i * k)).toArray w.drew := by
    rw [hzs]
    exact run_firstCells_some w.drew k i ⟨b, off, none⟩ i c (cs.take (i * k)) (by rw [List.length_take]; omega) (fun j v hj => by
      rw [Addr.add_lit]
      rw [List.getElem?_take] at hj
      split at hj
      · exact hcs j v hj
      · cases hj)
  obtain ⟨G, hG⟩ : ∃ G, G = grownCap w (n + 1) c (ρ.t 9) := ⟨_, rfl⟩
  have hGn : n + 1 ≤ G := by rw [hG]; exact grownCap_ge w _ _ _
  have hG63 : G ≤ 9223372036854775807 := by
    have := grownCap_le_maxLen w (n + 1) c (ρ.t 9) (by unfold maxLen; omega)
    rw [← hG] at this
    unfold maxLen at this
    omega
  obtain ⟨ROW, hROW⟩ : ∃ ROW : Array Value, ROW = (cs.take (i * k)).toArray ++ Builtin.zeroCells z.cells (n + 1 - i) ++ Builtin.zeroCells z.cells (G - (n + 1)) := ⟨_, rfl⟩
  have hrz : ∀ ty, (Builtin.append_ #[(ρ.t 24), (ρ.t 3)] ty #[.slice (some ⟨b, off, none⟩) i c, .int .i64 ((n : Int) + 1 - (i : Int))]).run P w =
      .ok (.slice (some ⟨w.heap.size, 0, none⟩) (n + 1) G) (w.drew.alloc (.cells ROW (ρ.t 9))) := fun ty => by
    have h := Lib.run_append_grow_zeros w (ρ.t 24) (ρ.t 3) ty (ρ.t 9) i0 _ .i64 .i64 L.t24 L.t3 hi0 hz0 (some ⟨b, off, none⟩) i c (cs.take (i * k)) hold (n + 1 - i) (by omega) (by omega) (by omega) (by omega)
      (by have := Nat.mul_le_mul_right bytes (show n + 1 - i ≤ n + 1 by omega); rw [hzb]; omega) (by rw [hzb, hik]; exact growslice_fits hroom hbig)
    rw [hik, ← hG, ← hROW] at h
    rw [hkk]
    exact h
  have zc : ∀ q, (Builtin.zeroCells z.cells q).size = q * k := by intro q; simp [Builtin.zeroCells, hzc]
  have hRs : ROW.size = G * k := by
    rw [hROW]
    simp only [Array.size_append, List.size_toArray, List.length_take, hcl, zc]
    have := Nat.sub_mul G (n + 1) k
    have := Nat.mul_le_mul_right k hGn
    omega
  have hRg : ∀ j, j < i * k → ROW[j]? = cs[j]? := by
    intro j hj
    rw [hROW, Array.append_assoc, Array.getElem?_append_left (by rw [List.size_toArray, List.length_take]; omega)]
    simp [hj]
  have hRl : (n + 1) * k ≤ ROW.size := by rw [hRs]; exact Nat.mul_le_mul_right k hGn
  obtain ⟨W1, hW1⟩ : ∃ W1, W1 = w.drew.alloc (.cells ROW (ρ.t 9)) := ⟨_, rfl⟩
  rw [← hW1] at hrz
  have hN : ∀ j, j < (n + 1) * k → (W1.cell? ⟨w.heap.size, j, none⟩).isSome = true := fun j hj => by
    rw [hW1, World.cell?_alloc_at (w := w.drew) ROW _ w.heap.size j rfl, Array.getElem?_eq_getElem (by omega)]; rfl
  have hNf : ∀ j, W1.frozen? ⟨w.heap.size, j, none⟩ = false := fun j => by rw [hW1]; exact World.frozen?_alloc_at (w := w.drew) ROW _ w.heap.size j rfl
  have hOb : ∀ j v, w.cell? ⟨b, j, none⟩ = some v → W1.cell? ⟨b, j, none⟩ = some v := fun j v h => by rw [hW1, World.cell?_alloc_past (w := w.drew) _ b j hbw]; exact h
  have hOv : ∀ j v, w.cell? ⟨vb, j, none⟩ = some v → W1.cell? ⟨vb, j, none⟩ = some v := fun j v h => by rw [hW1, World.cell?_alloc_past (w := w.drew) _ vb j hvw]; exact h
  have hm1 : Nat.min 1 (n + 1 - i) = 1 := by simp only [Nat.min_def]; split <;> omega
  have hm2 : Nat.min (n - i) (n - i) = n - i := by simp only [Nat.min_def]; split <;> omega
  have e3 : (i + 1) * k = i * k + k := by rw [Nat.add_mul, Nat.one_mul]
  have hdl : (cs.drop (i * k)).length = (n - i) * k := by rw [List.length_drop, hcl]; omega
  have hcpA : ∀ (W : World), (∀ x, W.cell? x = W1.cell? x) → (∀ x, W.frozen? x = W1.frozen? x) → ∀ ty dc, (Builtin.copy_ #[(ρ.t 24), (ρ.t 24)] ty #[.slice (some ⟨w.heap.size, i * k, none⟩) (n + 1 - i) dc, .slice (some ⟨vb, voff, none⟩) 1 vc]).run P W = .ok (goInt (1 : Nat)) (W.setCells w.heap.size (i * k) vs) := fun W hWc hWf ty dc => by
    have h := copyK (P := P) W (ρ.t 24) (ρ.t 24) ty (ρ.t 9) k w.heap.size (i * k) (n + 1 - i) dc ⟨vb, voff, none⟩ 1 vc vs L.t24 hsz (by rw [hvl, hm1, Nat.one_mul])
      (fun j v hj => by rw [Addr.add_lit, hWc]; exact hOv _ v (hvs j v hj))
      (fun j hj => by rw [hWc]; exact hN _ (by omega)) (fun j hj => by rw [hWf]; exact hNf _) h1v
    rw [hm1] at h
    exact h
  have hGi : ¬ (G = i) := by omega
  have hGim : ¬ (G = i + 1) := by omega
  have hci : ¬ (c = i) := by omega
  have hbN : b ≠ w.heap.size := by omega
  have hcpB : ∀ (W : World), (∀ x, W.cell? x = (W1.setCells w.heap.size (i * k) vs).cell? x) → (∀ x, W.frozen? x = (W1.setCells w.heap.size (i * k) vs).frozen? x) → ∀ ty dc sc, (Builtin.copy_ #[(ρ.t 24), (ρ.t 24)] ty #[.slice (some ⟨w.heap.size, (i + 1) * k, none⟩) (n - i) dc, .slice (some ⟨b, off + i * k, none⟩) (n - i) sc]).run P W = .ok (goInt (n - i : Nat)) (W.setCells w.heap.size ((i + 1) * k) (cs.drop (i * k))) := fun W hWc hWf ty dc sc => by
    have h := copyK (P := P) W (ρ.t 24) (ρ.t 24) ty (ρ.t 9) k w.heap.size ((i + 1) * k) (n - i) dc ⟨b, off + i * k, none⟩ (n - i) sc (cs.drop (i * k)) L.t24 hsz (by rw [hdl, hm2])
      (fun j v hj => by
        rw [Addr.add_lit, hWc, World.cell?_setCells_out _ _ _ _ _ (fun h _ => absurd h hbN), Nat.add_assoc]
        exact hOb _ v (hcs (i * k + j) v (by rwa [List.getElem?_drop] at hj)))
      (fun j hj => by rw [hWc]; exact isSome_setCells _ _ _ _ (fun t ht => hN _ (by omega)) _ (hN _ (by omega)))
      (fun j hj => by rw [hWf, World.frozen?_setCells]; exact hNf _) (fun v hv => h1c v (List.mem_of_mem_drop hv))
    rw [hm2] at h
    exact h
  subst hW1
  have hE1 : ∀ x, ((w.alloc (.cells ROW (ρ.t 9))).drew).cell? x = (w.drew.alloc (.cells ROW (ρ.t 9))).cell? x := fun x => rfl
  have hE2 : ∀ x, ((w.alloc (.cells ROW (ρ.t 9))).drew).frozen? x = (w.drew.alloc (.cells ROW (ρ.t 9))).frozen? x := fun x => rfl
  have hw1 : IntKind.i64.wrap ((i : Int) + 1) = (i : Int) + 1 := by rw [IntKind.wrap_i64]; omega
  have hb1 : (0 : Int) ≤ (i : Int) + 1 := by omega
  have hin : i ≤ n := by omega
  have htn : ((i : Int) + 1).toNat = i + 1 := by omega
  have hb3 : (i : Int) ≤ (n : Int) := by omega
  rw [← hG]
  clear hkk hik hold hROW hG hRl e1 e2 e3 e4 e5 zc hi0 hz0 hzs hzb hzc
  refine calls_of_wp L.f22 rfl ?_
  simp only [Body2.n22_ntmps ρ, List.size_toArray, List.length_cons, List.length_nil, Nat.reduceAdd, Nat.reduceSub, Array.replicate_succ, Array.replicate_zero, List.push_toArray, List.append_toArray, List.nil_append, List.cons_append]
  go_wp2_with (first
    | (at_builtin; refine Lib.wpList_append_run _ rfl _ _ _ _ rfl _ _ rfl rfl _ _ (hrz _) ?_)
    | (at_builtin; refine wpList_copy_runI _ rfl _ _ (ρ.t 24) (ρ.t 24) rfl _ _ rfl rfl (hcpA _ hE1 hE2 _ _) ?_)
    | (at_builtin; refine wpList_copy_runI _ rfl _ _ (ρ.t 24) (ρ.t 24) rfl _ _ rfl rfl (hcpB _ (fun _ => rfl) (fun _ => rfl) _ _ _) ?_))
  go_region_law_o (refine step_copy_runI rfl _ _ (ρ.t 24) (ρ.t 24) rfl (.slice (some ⟨w.heap.size, (i + 1) * k, none⟩) (n - i) (G - (i + 1))) (.slice (some ⟨b, off + i * k, none⟩) (n - i) (c - i)) (by simp [Act.eval, Act.put]) (by simp [Act.eval, Act.put]) (hcpB ((w.alloc (.cells ROW (ρ.t 9))).drew.setCells w.heap.size (i * k) vs).drew (fun _ => rfl) (fun _ => rfl) _ _ _) ?_)
  go_wp2
  go_ret
  exact ⟨ROW, hRs, hRg, rfl, rfl⟩
end
end Go.AM

/-
  slices.Insert of one element: what the abstract machine takes it for is what the model's does.
-/
namespace Go.AM
open Go.Proofs Go.Shelf Go.RowKit
def insA (k bytes : Nat) (args : List AV) (H : AH) : Option (AV × AH) :=
  match args with
  | [.s (.slice a len _ e), .s (.int .i64 i), .s (.slice (some (xb, xo)) 1 _ e2)] =>
    match H.blk xb with
    | some (.cells false lx) =>
      if e2 = k ∧ xo + k ≤ lx.length then
        match a with
        | none => if i = 0 then ((H.bump 1).new H.next (.cells false ((lx.drop xo).take k))).map fun H' => (.s (.slice (some (H.next, 0)) 1 1 k), H') else none
        | some (b, o) =>
          match H.blk b with
          | some (.cells false l) =>
            if xb ≠ b ∧ e = k ∧ 0 ≤ i ∧ i ≤ (len : Int) ∧ o + len * k ≤ l.length ∧ (len + 1) * bytes ≤ 70368744177664 ∧ len + 1 ≤ 70368744177664 then
              (((H.bump 1).set b .dead).new H.next (.cells false ((l.drop o).take (i.toNat * k) ++ ((lx.drop xo).take k ++ ((l.drop o).take (len * k)).drop (i.toNat * k))))).map fun H' => (.s (.slice (some (H.next, 0)) (len + 1) (len + 1) k), H')
            else none
          | _ => none
      else none
    | _ => none
  | _ => none
def insExt : List (Nat × Nat × Nat) → Nat → List AV → AH → Option (AV × AH)
  | [], _, _, _ => none
  | (g, k, b) :: l, f, args, H => if f = g then insA k b args H else insExt l f args H
variable {P : Program} {G : List Nat} {B : Nat} {w0 : World} {φ : Phi} {H H' : AH} {w : World}
theorem HRel.row (hH : HRel B w0 φ H w) {b id : Nat} {l new : List SV} (hb : H.blk b = some (.cells false l)) {cb sh cs : Nat} (hφ : φ b = some (cb, sh, cs)) (hid : id < H.next)
    (hn : (H.set b .dead).new id (.cells false new) = some H') {o : Nat} {w' : World} {c2 : Array Value} {e2 : TypeId} (h2 : w'.heap[cb]? = some (.cells c2 e2 (0, 0))) (hs : c2.size = cs) (hfit : sh + o + new.length ≤ cs)
    (hr : ∀ (i : Nat) (x : SV), new[i]? = some x → ∃ v, c2[sh + o + i]? = some v ∧ SVRel φ x v) (hget : ∀ x, x ≠ cb → w'.heap[x]? = w.heap[x]?) (hsz : w'.heap.size = w.heap.size) (hos : w'.os = w.os) (hout : w'.output = w.output) :
    ∃ φ', Ext φ φ' ∧ φ' id = some (cb, sh + o, cs) ∧ HRel B w0 φ' H' w' := by
  obtain ⟨cb', sh', cs', c, e, fr, h1, _, _, _, _, h6⟩ := hH.cells b false l hb
  rw [hφ] at h1
  cases h1
  obtain ⟨_, hB⟩ := h6 rfl
  have hk := hH.kill (b := b) (by rw [hb]; simp)
  unfold AH.new at hn
  split at hn
  · rename_i hidn
    cases hn
    have hφid : φ id = none := hk.dom id hidn
    have hne : id ≠ b := by intro hc; subst hc; rw [hφ] at hφid; cases hφid
    have hext : Ext φ (fun x => if x = id then some (cb, sh + o, cs) else φ x) := by
      intro x y hx
      by_cases hxi : x = id
      · subst hxi; rw [hφid] at hx; cases hx
      · simp [hxi, hx]
    refine ⟨fun x => if x = id then some (cb, sh + o, cs) else φ x, hext, by simp, ?_⟩
    have hoth : ∀ b', b' ≠ b → H.blk b' ≠ some .dead → ∀ x, φ b' = some x → x.1 ≠ cb := by
      intro b' hne' hd x hx heq
      rcases hH.inj b' b x _ hx hφ hd (by rw [hb]; simp) heq with h | ⟨_, _, _, hy⟩
      · exact hne' h
      · rw [hb] at hy; cases hy
    refine { dom := ?_, lt := ?_, cells := ?_, maps := ?_, inj := ?_, old := ?_, bound := by rw [hsz]; exact hH.bound, os := hos.trans hH.os, out := hout.trans hH.out, nf := ?_ }
    · intro b' hb'
      simp only [AH.set, upd] at hb'
      split at hb'
      · cases hb'
      · rename_i hne'
        split at hb'
        · cases hb'
        · simp [hne', hH.dom b' hb']
    · intro b' hb'
      simp only [AH.set, upd] at hb' ⊢
      rw [if_neg (by omega)]
      split
      · rename_i hc; subst hc; rw [hH.lt _ hb'] at hb; cases hb
      · exact hH.lt b' hb'
    · intro b' ro' l'' hb'
      simp only [AH.set, upd] at hb'
      split at hb'
      · rename_i heq
        cases hb'
        exact ⟨cb, sh + o, cs, c2, e2, (0, 0), by simp [heq], h2, hs, hfit, fun i x hx => by obtain ⟨v, hv, hrv⟩ := hr i x hx; exact ⟨v, hv, hrv.mono hext⟩, fun _ => ⟨rfl, hB⟩⟩
      · rename_i hne'
        split at hb'
        · cases hb'
        · rename_i hneb
          obtain ⟨cb', sh', cs', c', e', fr', g1, g2, g3, g4, g5, g6⟩ := hH.cells b' ro' l'' hb'
          have hcb : cb' ≠ cb := hoth b' hneb (by rw [hb']; simp) _ g1
          exact ⟨cb', sh', cs', c', e', fr', by simp [hne', g1], by rw [hget _ hcb]; exact g2, g3, g4, fun i x hx => by obtain ⟨v, hv, hrv⟩ := g5 i x hx; exact ⟨v, hv, hrv.mono hext⟩, g6⟩
    · intro b' es hb'
      simp only [AH.set, upd] at hb'
      split at hb'
      · cases hb'
      · rename_i hne'
        split at hb'
        · cases hb'
        · rename_i hneb
          obtain ⟨cb', sh', cs', ces, clk, g1, g2, g3, g4⟩ := hH.maps b' es hb'
          have hcb : cb' ≠ cb := hoth b' hneb (by rw [hb']; simp) _ g1
          exact ⟨cb', sh', cs', ces, clk, by simp [hne', g1], by rw [hget _ hcb]; exact g2, R2.mono (fun _ _ hp => ⟨hp.1.mono hext, hp.2.mono hext⟩) g3, g4⟩
    · intro b1 b2 x1 x2 hx1 hx2 hd1 hd2 hxe
      simp only [AH.set, upd] at hd1 hd2 ⊢
      by_cases e1 : b1 = id
      · by_cases e2 : b2 = id
        · exact .inl (e1.trans e2.symm)
        · simp only [e1, if_true] at hx1
          simp only [e2, if_false] at hx2
          cases hx1
          exfalso
          rw [if_neg e2] at hd2
          split at hd2
          · exact hd2 rfl
          · rename_i hneb
            exact hoth b2 hneb hd2 _ hx2 hxe.symm
      · by_cases e2 : b2 = id
        · simp only [e2, if_true] at hx2
          simp only [e1, if_false] at hx1
          cases hx2
          exfalso
          rw [if_neg e1] at hd1
          split at hd1
          · exact hd1 rfl
          · rename_i hneb
            exact hoth b1 hneb hd1 _ hx1 hxe
        · simp only [e1, e2, if_false] at hx1 hx2 hd1 hd2 ⊢
          split at hd1
          · exact absurd rfl hd1
          · rename_i n1
            split at hd2
            · exact absurd rfl hd2
            · rename_i n2
              simp only [if_neg n1, if_neg n2]
              exact hH.inj b1 b2 x1 x2 hx1 hx2 hd1 hd2 hxe
    · intro c' hc'
      rw [hget _ (by omega)]
      exact hH.old c' hc'
    · exact fun _ _ _ _ _ _ => rfl
  · cases hn
def setN (c : Array Value) : Nat → List Value → Array Value
  | _, [] => c
  | o, v :: vs => setN (c.setIfInBounds o v) (o + 1) vs
theorem setN_size : ∀ (vs : List Value) (o : Nat) (c : Array Value), (setN c o vs).size = c.size
  | [], _, _ => rfl
  | v :: vs, o, c => by rw [setN, setN_size vs]; simp
theorem setN_get : ∀ (vs : List Value) (o : Nat) (c : Array Value) (j : Nat), o + vs.length ≤ c.size → (setN c o vs)[j]? = if o ≤ j ∧ j < o + vs.length then vs[j - o]? else c[j]?
  | [], o, c, j, _ => by rw [setN, if_neg (by simp)]
  | v :: vs, o, c, j, h => by
    rw [List.length_cons] at h
    rw [setN, setN_get vs (o + 1) _ j (by simp; omega), Array.getElem?_setIfInBounds]
    by_cases h1 : o + 1 ≤ j ∧ j < o + 1 + vs.length
    · rw [if_pos h1, if_pos (by rw [List.length_cons]; omega), show j - o = (j - (o + 1)) + 1 by omega, List.getElem?_cons_succ]
    · rw [if_neg h1]
      by_cases h2 : o = j
      · subst h2
        rw [if_pos rfl, if_pos (by omega), if_pos (by rw [List.length_cons]; omega), Nat.sub_self]; rfl
      · rw [if_neg h2, if_neg (by rw [List.length_cons]; omega)]
theorem setCells_heap (b : Nat) {e : TypeId} {fr : Nat × Nat} : ∀ (vs : List Value) (o : Nat) (w : World) (c : Array Value), w.heap[b]? = some (.cells c e fr) →
    (w.setCells b o vs).heap[b]? = some (.cells (setN c o vs) e fr) ∧ (∀ x, x ≠ b → (w.setCells b o vs).heap[x]? = w.heap[x]?) ∧ (w.setCells b o vs).heap.size = w.heap.size ∧ (w.setCells b o vs).os = w.os ∧ (w.setCells b o vs).output = w.output
  | [], o, w, c, h => ⟨h, fun _ _ => rfl, rfl, rfl, rfl⟩
  | v :: vs, o, w, c, h => by
    have h1 : (w.setCell ⟨b, o, none⟩ v).heap[b]? = some (.cells (c.setIfInBounds o v) e fr) := by
      simp [World.setCell, Array.getElem?_modify, h]
    obtain ⟨g1, g2, g3, g4, g5⟩ := setCells_heap b vs (o + 1) (w.setCell ⟨b, o, none⟩ v) _ h1
    refine ⟨g1, fun x hx => ?_, ?_, g4, g5⟩
    · rw [World.setCells, g2 x hx]
      simp [World.setCell, Array.getElem?_modify, Ne.symm hx]
    · rw [World.setCells, g3]
      simp [World.setCell]
theorem setXY {H : AH} {x y : Nat} (h : x ≠ y) (X Y : Blk) : (H.set x X).set y Y = (H.set y Y).set x X := by
  unfold AH.set
  congr 1
  funext c
  simp only [upd]
  by_cases h1 : c = y
  · rw [if_pos h1, if_neg (fun hc => h (hc.symm.trans h1)), if_pos h1]
  · rw [if_neg h1]
    by_cases h2 : c = x
    · rw [if_pos h2, if_pos h2]
    · rw [if_neg h2, if_neg h2, if_neg h1]
theorem insA_cases {k bytes : Nat} {args : List AV} {v : AV} (h : insA k bytes args H = some (v, H')) : ∃ a len c e i xb xo xc lx, args = [.s (.slice a len c e), .s (.int .i64 i), .s (.slice (some (xb, xo)) 1 xc k)] ∧ H.blk xb = some (.cells false lx) ∧ xo + k ≤ lx.length ∧
    ((a = none ∧ i = 0 ∧ v = .s (.slice (some (H.next, 0)) 1 1 k) ∧ (H.bump 1).new H.next (.cells false ((lx.drop xo).take k)) = some H') ∨
     ∃ b o l, a = some (b, o) ∧ H.blk b = some (.cells false l) ∧ (xb ≠ b ∧ e = k ∧ 0 ≤ i ∧ i ≤ (len : Int) ∧ o + len * k ≤ l.length ∧ (len + 1) * bytes ≤ 70368744177664 ∧ len + 1 ≤ 70368744177664) ∧ v = .s (.slice (some (H.next, 0)) (len + 1) (len + 1) k) ∧
       ((H.bump 1).set b .dead).new H.next (.cells false ((l.drop o).take (i.toNat * k) ++ ((lx.drop xo).take k ++ ((l.drop o).take (len * k)).drop (i.toNat * k)))) = some H') := by
  unfold insA at h
  split at h
  · rename_i a len c e i xb xo xc e2
    split at h
    · rename_i lx hx
      split at h
      · rename_i hxo
        obtain ⟨rfl, hxo⟩ := hxo
        refine ⟨a, len, c, e, i, xb, xo, xc, lx, rfl, hx, hxo, ?_⟩
        split at h
        · split at h
          · rename_i h0
            simp only [Option.map_eq_some_iff, Prod.mk.injEq] at h
            obtain ⟨H1, h1, rfl, rfl⟩ := h
            exact .inl ⟨rfl, h0, rfl, h1⟩
          · cases h
        · rename_i b o
          split at h
          · rename_i l hb
            split at h
            · rename_i hc
              simp only [Option.map_eq_some_iff, Prod.mk.injEq] at h
              obtain ⟨H1, h1, rfl, rfl⟩ := h
              exact .inr ⟨b, o, l, rfl, hb, hc, rfl, h1⟩
            · cases h
          · cases h
      · cases h
    · cases h
  · cases h
theorem new_set {id x : Nat} {X Y : Blk} (hne : id ≠ x) (h : H.new id Y = some H') : (H.set x X).new id Y = some (H'.set x X) := by
  unfold AH.new at *
  split at h
  · rename_i hn
    cases h
    have : (H.set x X).blk id = none := by rw [set_blk, if_neg hne]; exact hn
    rw [this]
    exact congrArg some (setXY (Ne.symm hne) X Y)
  · cases h
section
variable {k bytes : Nat}
theorem insA_next {args : List AV} {v : AV} (h : insA k bytes args H = some (v, H')) : H.next ≤ H'.next := by
  obtain ⟨a, len, c, e, i, xb, xo, xc, lx, rfl, hx, hxo, h⟩ := insA_cases h
  rcases h with ⟨_, _, _, h⟩ | ⟨b, o, l, _, _, _, _, h⟩
  · rw [new_next h]; simp
  · rw [new_next h]; simp
theorem insA_frame {args : List AV} {v : AV} {y : Nat} {X : Blk} (h : insA k bytes args H = some (v, H')) (hy : H.blk y = none) (hlt : y < H.next) : insA k bytes args (H.set y X) = some (v, H'.set y X) ∧ H'.blk y = none := by
  obtain ⟨a, len, c, e, i, xb, xo, xc, lx, rfl, hx, hxo, hq⟩ := insA_cases h
  have hxy : xb ≠ y := fun hc => by rw [hc, hy] at hx; cases hx
  have hx' : (H.set y X).blk xb = some (.cells false lx) := by rw [set_blk, if_neg hxy]; exact hx
  have hnid : H.next ≠ y := by omega
  clear h
  rcases hq with ⟨rfl, h0, rfl, h⟩ | ⟨b, o, l, rfl, hb, hc, rfl, h⟩
  · have h2 := new_set (X := X) hnid h
    refine ⟨?_, ?_⟩
    · simp only [insA, hx']
      rw [if_pos ⟨trivial, hxo⟩, if_pos h0]
      show Option.map _ (((H.bump 1).set y X).new H.next _) = _
      rw [h2]; rfl
    · unfold AH.new at h
      split at h
      · cases h; simp only [set_blk]; rw [if_neg (Ne.symm hnid)]; exact hy
      · cases h
  · have hby : b ≠ y := fun hc => by rw [hc, hy] at hb; cases hb
    have hb' : (H.set y X).blk b = some (.cells false l) := by rw [set_blk, if_neg hby]; exact hb
    have h2 := new_set (X := X) hnid h
    refine ⟨?_, ?_⟩
    · simp only [insA, hx', hb']
      rw [if_pos ⟨trivial, hxo⟩, if_pos hc]
      show Option.map _ ((((H.bump 1).set y X).set b .dead).new H.next _) = _
      rw [setXY (Ne.symm hby) X .dead, h2]; rfl
    · unfold AH.new at h
      split at h
      · cases h; simp only [set_blk]; rw [if_neg (Ne.symm hnid), if_neg (Ne.symm hby)]; exact hy
      · cases h
end
theorem insExt_of {Q : Option (AV × AH) → Prop} (h0 : Q none) {args : List AV} (h1 : ∀ k b, Q (insA k b args H)) {f : Nat} : ∀ l, Q (insExt l f args H)
  | [] => h0
  | (g, k, b) :: l => by
    unfold insExt
    split
    · exact h1 k b
    · exact insExt_of h0 h1 l
theorem insExt_next (l : List (Nat × Nat × Nat)) : NextOk (insExt l) := fun f args H v H' h =>
  insExt_of (Q := fun o => ∀ v H', o = some (v, H') → H.next ≤ H'.next) (fun _ _ h => by cases h) (fun _ _ _ _ h => insA_next h) l v H' h
theorem insExt_frame : ∀ l : List (Nat × Nat × Nat), FrmOk (insExt l)
  | [] => fun _ _ _ _ _ _ _ h => by cases h
  | (g, k, b) :: l => fun f args H v H' y X h hy hlt => by
    unfold insExt at *
    split at h
    · rename_i hf
      rw [if_pos hf]
      exact insA_frame h hy hlt
    · rename_i hf
      rw [if_neg hf]
      exact insExt_frame l f args H v H' y X h hy hlt
theorem cellAt {b : Nat} {l : List SV} {ro : Bool} (hH : HRel B w0 φ H w) (hb : H.blk b = some (.cells ro l)) : ∃ cb sh cs c e fr, φ b = some (cb, sh, cs) ∧ w.heap[cb]? = some (.cells c e fr) ∧ c.size = cs ∧ sh + l.length ≤ cs ∧ (∀ i x, l[i]? = some x → ∃ v, c[sh + i]? = some v ∧ SVRel φ x v) ∧ (ro = false → fr = (0, 0) ∧ B ≤ cb) := hH.cells b ro l hb
theorem frozenAt {cb i : Nat} {c : Array Value} {e : TypeId} (h : w.heap[cb]? = some (.cells c e (0, 0))) : w.frozen? ⟨cb, i, none⟩ = false := by
  unfold World.frozen?; rw [h]; simp
end Go.AM

/-
  slices.Insert of one element: what the abstract machine takes it for is what the model's does.
-/
namespace Go.AM
open Go.Proofs Go.Shelf Go.RowKit
variable {P : Program} {G : List Nat} {B : Nat} {w0 : World} {φ : Phi} {H H' : AH} {w : World}
theorem cellsAt {ρ : Phi} {c : Array Value} {sh o n : Nat} {l : List SV} (h : ∀ i x, l[i]? = some x → ∃ v, c[sh + i]? = some v ∧ SVRel ρ x v) (hl : o + n ≤ l.length) (hc : sh + l.length ≤ c.size) :
    ∃ vs : List Value, vs.length = n ∧ R2 (SVRel ρ) ((l.drop o).take n) vs ∧ ∀ j, j < n → vs[j]? = c[sh + o + j]? := by
  refine ⟨(c.toList.drop (sh + o)).take n, by simp; omega, R2.of_get (by simp; omega) fun j y u hy hu => ?_, fun j hj => by rw [List.getElem?_take, if_pos hj, List.getElem?_drop, Array.getElem?_toList]⟩
  have hj : j < n := by have := (List.getElem?_eq_some_iff.1 hu).1; simp at this; omega
  rw [List.getElem?_take, if_pos hj, List.getElem?_drop] at hy hu
  rw [Array.getElem?_toList] at hu
  obtain ⟨u', g1, g2⟩ := h (o + j) y hy
  rw [Nat.add_assoc, g1] at hu
  cases hu; exact g2
set_option maxHeartbeats 2000000 in
theorem insA_calls {ρ : Ren} {nm : String} {tg : Array TypeId} {k bytes : Nat} {z : Value} (L : InsLay P ρ nm tg k bytes z) (hk : 0 < k) (hzc : z.cells.size = k) (hbs : 0 < bytes) (hbb : bytes ≤ 1000000) {args : List AV} {v : AV} (h : insA k bytes args H = some (v, H')) {cargs : Array Value} (hH : HRel B w0 φ H w) (hargs : R2 (AVRel φ) args cargs.toList) :
    Calls P (ρ.f 22) cargs w fun e w' => ∃ φ' cv, e = .returned cv ∧ Ext φ φ' ∧ HRel B w0 φ' H' w' ∧ AVRel φ' v cv := by
  obtain ⟨a, len, c, e, i, xb, xo, xc, lx, rfl, hx, hxo, hq⟩ := insA_cases h
  clear h
  match hl : cargs.toList, hargs with
  | [v0, v1, v2], hargs =>
    have hcargs : cargs = #[v0, v1, v2] := by apply Array.ext'; simpa using hl
    subst hcargs
    obtain ⟨h0, h1, h2, _⟩ := hargs
    have h1 : v1 = .int .i64 i := h1
    subst h1
    obtain ⟨_, hxc, xcb, xsh, xcs, z2, c2, k1, k2, k3, k4⟩ := h2
    obtain ⟨xcb', xsh', xcs', cx, ex, frx, j1, j2, j3, j4, j5, j6⟩ := cellAt hH hx
    rw [k1] at j1
    cases j1
    obtain ⟨hfrx, hBx⟩ := j6 rfl
    subst hfrx
    obtain ⟨hz2, hfit2, _⟩ := k4 (by omega)
    have hz2 : z2 = ⟨xcb, xsh + xo, none⟩ := hz2
    subst hz2
    subst k3
    obtain ⟨vs, hvl, hvR, hvg⟩ := cellsAt j5 hxo (by omega)
    have hvs : ∀ j u, vs[j]? = some u → w.cell? ⟨xcb, xsh + xo + j, none⟩ = some u := by
      intro j u hj
      have hj' : j < k := by have := (List.getElem?_eq_some_iff.1 hj).1; omega
      rw [cell?_of j2, ← hvg j hj']; exact hj
    have h1v := hvR.oneCell
    have zc : ∀ n, (Builtin.zeroCells z.cells n).size = n * k := by intro n; simp [Builtin.zeroCells, hzc]
    have hge : ∀ n c, n ≤ grownCap w n c (ρ.t 9) := fun n c => grownCap_ge w n c _
    have hle : ∀ n c, n ≤ 70368744177664 → grownCap w n c (ρ.t 9) ≤ 9223372036854775807 := fun n c hn => by
      have := grownCap_le_maxLen w n c (ρ.t 9) (by simp only [maxLen]; omega)
      simpa [maxLen] using this
    rcases hq with ⟨rfl, rfl, rfl, hnew⟩ | ⟨b, o, l, rfl, hb, ⟨hne, rfl, hi0, hil, hol, hbig, hbig2⟩, rfl, hnew⟩
    · obtain ⟨rfl, rfl, rfl⟩ := slice_none h0
      have hcall := ins_new L none 0 0 xcb (xsh + xo) c2 [] vs w (by omega) (by omega) (by omega) (by omega) (by simp) hvl (fun _ => rfl) (fun a ha => by cases ha) hvs h1v
      refine hcall.mono ?_
      rintro e' w' ⟨rfl, rfl⟩
      have hg := hge (0 + 1) 0
      have hgk := Nat.mul_le_mul_right k hg
      obtain ⟨CC, hCC⟩ : ∃ CC : Array Value, CC = ([] ++ vs).toArray ++ Builtin.zeroCells z.cells (grownCap w (0 + 1) 0 (ρ.t 9) - (0 + 1)) := ⟨_, rfl⟩
      have hCs : CC.size = grownCap w (0 + 1) 0 (ρ.t 9) * k := by
        rw [hCC]
        simp only [Array.size_append, List.size_toArray, zc, List.nil_append, hvl, Nat.sub_mul]
        omega
      obtain ⟨φ', g1, g2, g3⟩ := (hH.bump 1).new hnew (by simp) (c := CC) (by rw [hvR.length, hvl, hCs]; omega)
        (fun j y hy => by
          obtain ⟨u, q1, q2⟩ := hvR.get j y hy
          have hj : j < vs.length := (List.getElem?_eq_some_iff.1 q1).1
          exact ⟨u, by rw [hCC, Array.getElem?_append_left (by simpa using hj)]; simpa using q1, q2⟩) (ρ.t 9) (w.drew.alloc (.cells CC (ρ.t 9))) rfl rfl rfl
      rw [← hCC]
      refine ⟨φ', _, rfl, g1, g3, ⟨hk, Nat.le_refl _, w.heap.size, 0, _, _, _, g2, by omega, rfl, fun _ => ⟨rfl, ?_, hle _ _ (by omega)⟩⟩⟩
      rw [hCs]; omega
    · obtain ⟨_, hlc, cb, sh, cs, z', c', q3, q4, q5, q6⟩ := slice_of h0
      subst q5
      obtain ⟨cb', sh', cs', c0, e0, fr0, p1, p2, p3, p4, p5, p6⟩ := cellAt hH hb
      rw [q3] at p1
      cases p1
      obtain ⟨hfr0, hB0⟩ := p6 rfl
      subst hfr0
      obtain ⟨n, rfl⟩ : ∃ n : Nat, i = n := ⟨i.toNat, by omega⟩
      have hn : n ≤ len := by omega
      rw [Int.toNat_natCast] at hnew
      obtain ⟨csl, hcl, hR, hcg⟩ := cellsAt p5 hol (by omega)
      have h1c := hR.oneCell
      have hnk : n * e ≤ len * e := Nat.mul_le_mul_right e hn
      have hN : R2 (SVRel φ) ((l.drop o).take (n * e) ++ ((lx.drop xo).take e ++ ((l.drop o).take (len * e)).drop (n * e))) (csl.take (n * e) ++ (vs ++ csl.drop (n * e))) := by
        have h3 := R2.take (n * e) hR
        rw [List.take_take, Nat.min_eq_left hnk] at h3
        exact R2.append h3 (R2.append hvR (R2.drop (n * e) hR))
      have e1k : (len + 1) * e = len * e + e := by rw [Nat.add_mul, Nat.one_mul]
      have hNl : ((l.drop o).take (n * e) ++ ((lx.drop xo).take e ++ ((l.drop o).take (len * e)).drop (n * e))).length = (len + 1) * e := by
        rw [hN.length]; simp only [List.length_append, List.length_take, List.length_drop, hcl, hvl]; omega
      have hvals : ∀ j, (csl.take (n * e) ++ (vs ++ csl.drop (n * e)))[j]? = if j < n * e then csl[j]? else if j < n * e + e then vs[j - n * e]? else csl[j - e]? := by
        intro j
        rw [List.getElem?_append, List.length_take, Nat.min_eq_left (by omega)]
        split
        · rename_i h3; rw [List.getElem?_take, if_pos h3]
        · rename_i h3
          rw [List.getElem?_append, hvl]
          split
          · rename_i h4; rw [if_pos (by omega)]
          · rename_i h4
            rw [if_neg (by omega), List.getElem?_drop]
            congr 1; omega
      have hneb : xcb ≠ cb := by
        intro hc
        rcases hH.inj xb b _ _ k1 q3 (by rw [hx]; simp) (by rw [hb]; simp) hc with h3 | ⟨_, _, h3, _⟩
        · exact hne h3
        · rw [hx] at h3; cases h3
      by_cases room : len + 1 ≤ c'
      · obtain ⟨hz, hfit, hcm⟩ := q6 (by omega)
        subst hz
        have hrk := Nat.mul_le_mul_right e room
        have fin : ∀ (w' : World) (c3 : Array Value), w'.heap[cb]? = some (.cells c3 e0 (0, 0)) → c3.size = c0.size → (∀ j, j < (len + 1) * e → c3[sh + o + j]? = (csl.take (n * e) ++ (vs ++ csl.drop (n * e)))[j]?) → (∀ y, y ≠ cb → w'.heap[y]? = w.heap[y]?) → w'.heap.size = w.heap.size → w'.os = w.os → w'.output = w.output →
            ∃ φ' cv, Ending.returned (Value.slice (some ⟨cb, sh + o, none⟩) (len + 1) c') = .returned cv ∧ Ext φ φ' ∧ HRel B w0 φ' H' w' ∧ AVRel φ' (.s (.slice (some (H.next, 0)) (len + 1) (len + 1) e)) cv := by
          intro w' c3 r1 r2 r3 r4 r5 r6 r7
          obtain ⟨φ', g1, g2, g3⟩ := (hH.bump 1).row (id := H.next) hb q3 (by simp) hnew (o := o) r1 (by rw [r2, p3]) (by rw [hNl]; omega) (fun j y hy => by
            have hj : j < (len + 1) * e := by have := (List.getElem?_eq_some_iff.1 hy).1; omega
            obtain ⟨u, g1, g2⟩ := hN.get j y hy
            exact ⟨u, by rw [r3 j hj]; exact g1, g2⟩) r4 r5 r6 r7
          exact ⟨φ', _, rfl, g1, g3, hk, Nat.le_refl _, cb, sh + o, cs, _, c', g2, room, rfl, fun _ => ⟨rfl, by omega, hcm⟩⟩
        by_cases hkl : n < len
        · have hcall := ins_shift L cb (sh + o) len c' n xcb (xsh + xo) c2 csl vs w hkl room hcm hneb hcl hvl
            (fun j u hj => by
              have hj' : j < len * e := by have := (List.getElem?_eq_some_iff.1 hj).1; omega
              rw [cell?_of p2, ← hcg j hj']; exact hj)
            (fun j hj => by rw [cell?_of p2, Array.getElem?_eq_getElem (by omega)]; rfl) (fun j hj => frozenAt p2) hvs h1c h1v ex e0 cx.size c0.size
            (by unfold World.shape?; rw [j2]) (by unfold World.shape?; rw [p2]) (by omega) (frozenAt j2) (frozenAt j2)
          refine hcall.mono ?_
          rintro e' w' ⟨rfl, rfl⟩
          obtain ⟨a1, a2, a3, a4, a5⟩ := setCells_heap cb (csl.drop (n * e)) (sh + o + (n * e + e)) w.drew c0 p2
          obtain ⟨b1, b2, b3, b4, b5⟩ := setCells_heap cb vs (sh + o + n * e) _ _ a1
          refine fin _ _ b1 (by rw [setN_size, setN_size]) (fun j hj => ?_) (fun y hy => (b2 y hy).trans (a2 y hy)) (b3.trans a3) (b4.trans a4) (b5.trans a5)
          have hdl : (csl.drop (n * e)).length = len * e - n * e := by rw [List.length_drop, hcl]
          rw [setN_get _ _ _ _ (by rw [setN_size, hvl]; omega), setN_get _ _ _ _ (by rw [hdl]; omega), hvals j]
          by_cases g1 : j < n * e
          · rw [if_neg (by rw [hvl]; omega), if_neg (by rw [hdl]; omega), if_pos g1, hcg j (by omega)]
          · rw [if_neg g1]
            by_cases g2 : j < n * e + e
            · rw [if_pos (by rw [hvl]; omega), if_pos g2]
              congr 1; omega
            · rw [if_neg (by rw [hvl]; omega), if_neg g2, if_pos (by rw [hdl]; omega), List.getElem?_drop]
              congr 1; omega
        · have hke : n = len := by omega
          subst hke
          have hcall := ins_room L cb (sh + o) n c' xcb (xsh + xo) c2 vs w room hcm hvl
            (fun j hj => by rw [cell?_of p2, Array.getElem?_eq_getElem (by omega)]; rfl) (fun j hj => frozenAt p2) hvs h1v
          refine hcall.mono ?_
          rintro e' w' ⟨rfl, rfl⟩
          obtain ⟨b1, b2, b3, b4, b5⟩ := setCells_heap cb vs (sh + o + n * e) w c0 p2
          refine fin _ _ b1 (by rw [setN_size]) (fun j hj => ?_) b2 b3 b4 b5
          rw [setN_get _ _ _ _ (by rw [hvl]; omega), hvals j]
          by_cases g1 : j < n * e
          · rw [if_neg (by rw [hvl]; omega), if_pos g1, hcg j g1]
          · rw [if_neg g1, if_pos (by rw [hvl]; omega), if_pos (by omega)]
            congr 1; omega
      · have hcl' : c' = len := by omega
        subst hcl'
        have hk2 := (hH.kill (b := b) (by rw [hb]; simp)).bump 1
        have hnew' : ((H.set b .dead).bump 1).new H.next (.cells false ((l.drop o).take (n * e) ++ ((lx.drop xo).take e ++ ((l.drop o).take (c' * e)).drop (n * e)))) = some H' := hnew
        have fin : ∀ (w' : World) (gc : Nat) (c3 : Array Value) (e3 : TypeId), w'.heap = w.heap.push (.cells c3 e3 (0, 0)) → c3.size = gc * e → c' + 1 ≤ gc → gc ≤ 9223372036854775807 → (∀ j, j < (c' + 1) * e → c3[j]? = (csl.take (n * e) ++ (vs ++ csl.drop (n * e)))[j]?) → w'.os = w.os → w'.output = w.output →
            ∃ φ' cv, Ending.returned (Value.slice (some ⟨w.heap.size, 0, none⟩) (c' + 1) gc) = .returned cv ∧ Ext φ φ' ∧ HRel B w0 φ' H' w' ∧ AVRel φ' (.s (.slice (some (H.next, 0)) (c' + 1) (c' + 1) e)) cv := by
          intro w' gc c3 e3 r1 r2 r3 r4 r5 r6 r7
          have hgk := Nat.mul_le_mul_right e r3
          obtain ⟨φ', g1, g2, g3⟩ := hk2.new hnew' (by simp [AH.set]) (c := c3) (by rw [hNl]; omega) (fun j y hy => by
            have hj : j < (c' + 1) * e := by have := (List.getElem?_eq_some_iff.1 hy).1; omega
            obtain ⟨u, g1, g2⟩ := hN.get j y hy
            exact ⟨u, by rw [r5 j hj]; exact g1, g2⟩) e3 w' r1 r6 r7
          exact ⟨φ', _, rfl, g1, g3, hk, Nat.le_refl _, w.heap.size, 0, _, _, gc, g2, r3, rfl, fun _ => ⟨rfl, by omega, r4⟩⟩
        have hg := hge (c' + 1) c'
        have hl2 := hle (c' + 1) c' (by omega)
        by_cases hkl : n < c'
        · obtain ⟨hz, hfit, hcm⟩ := q6 (by omega)
          subst hz
          have hcall := ins_grow L hk hzc cb (sh + o) c' c' n xcb (xsh + xo) c2 csl vs w hkl (Nat.le_refl _) (by omega) (by omega) (by omega) hcl hvl
            (fun j u hj => by
              have hj' : j < c' * e := by have := (List.getElem?_eq_some_iff.1 hj).1; omega
              rw [cell?_of p2, ← hcg j hj']; exact hj) hvs h1c h1v
          refine hcall.mono ?_
          rintro e' w' ⟨A, hAs, hAg, rfl, rfl⟩
          have hgk := Nat.mul_le_mul_right e hg
          have hW : (w.alloc (.cells A (ρ.t 9))).drew.heap[w.heap.size]? = some (.cells A (ρ.t 9) (0, 0)) := by
            show (w.heap.push _)[w.heap.size]? = _
            simp
          obtain ⟨a1, a2, a3, a4, a5⟩ := setCells_heap w.heap.size vs (n * e) _ _ hW
          obtain ⟨b1, b2, b3, b4, b5⟩ := setCells_heap w.heap.size (csl.drop (n * e)) ((n + 1) * e) ((w.alloc (.cells A (ρ.t 9))).drew.setCells w.heap.size (n * e) vs).drew _ a1
          have hdl : (csl.drop (n * e)).length = c' * e - n * e := by rw [List.length_drop, hcl]
          have e3k : (n + 1) * e = n * e + e := by rw [Nat.add_mul, Nat.one_mul]
          refine fin _ _ (setN (setN A (n * e) vs) ((n + 1) * e) (csl.drop (n * e))) (ρ.t 9) ?_ (by rw [setN_size, setN_size, hAs]) hg hl2 (fun j hj => ?_) (b4.trans a4) (b5.trans a5)
          · apply Array.ext_getElem?
            intro y
            by_cases h3 : y = w.heap.size
            · subst h3
              rw [b1]; simp
            · rw [b2 y h3]
              have e9 := a2 y h3
              show ((w.alloc (.cells A (ρ.t 9))).drew.setCells w.heap.size (n * e) vs).heap[y]? = _
              rw [e9]
              show (w.heap.push _)[y]? = _
              rw [Array.getElem?_push, Array.getElem?_push, if_neg h3, if_neg h3]
          · rw [setN_get _ _ _ _ (by rw [setN_size, hdl, hAs]; omega), setN_get _ _ _ _ (by rw [hAs, hvl]; omega), hvals j]
            by_cases g1 : j < n * e
            · rw [if_neg (by omega), if_neg (by omega), if_pos g1, hAg j g1]
            · rw [if_neg g1]
              by_cases g2 : j < n * e + e
              · rw [if_neg (by omega), if_pos (by rw [hvl]; omega), if_pos g2]
              · rw [if_neg g2, if_pos (by rw [hdl]; omega), List.getElem?_drop]
                congr 1; omega
        · have hke : n = c' := by omega
          subst hke
          have hcall := ins_new L (some z') n n xcb (xsh + xo) c2 csl vs w (Nat.le_refl _) (by omega) (by omega) (by omega) hcl hvl (fun hc => by cases hc)
            (fun a ha j u hj => by
              cases ha
              have hj' : j < n * e := by have := (List.getElem?_eq_some_iff.1 hj).1; omega
              have hn0 : n ≠ 0 := by rintro rfl; simp at hj'
              obtain ⟨hz, _, _⟩ := q6 hn0
              rw [hz, add_eq, cell?_of p2, ← Nat.add_assoc, ← hcg j hj']; exact hj) hvs h1v
          refine hcall.mono ?_
          rintro e' w' ⟨rfl, rfl⟩
          have hgk := Nat.mul_le_mul_right e hg
          refine fin _ _ ((csl ++ vs).toArray ++ Builtin.zeroCells z.cells (grownCap w (n + 1) n (ρ.t 9) - (n + 1))) (ρ.t 9) rfl ?_ hg hl2 (fun j hj => ?_) rfl rfl
          · simp only [Array.size_append, List.size_toArray, List.length_append, hcl, hvl, zc, Nat.sub_mul]; omega
          · rw [Array.getElem?_append_left (by simp [hcl, hvl]; omega), List.take_of_length_le (by omega), List.drop_eq_nil_of_le (by omega)]
            simp
  | [], hargs => exact hargs.elim
  | [_], hargs => exact hargs.2.elim
  | [_, _], hargs => exact hargs.2.2.elim
  | _ :: _ :: _ :: _ :: _, hargs => exact hargs.2.2.2.elim
def InsOk (P : Program) (q : Nat × Nat × Nat) : Prop := ∃ ρ nm tg z, InsLay P ρ nm tg q.2.1 q.2.2 z ∧ ρ.f 22 = q.1 ∧ 0 < q.2.1 ∧ z.cells.size = q.2.1 ∧ 0 < q.2.2 ∧ q.2.2 ≤ 1000000
theorem insExt_calls : ∀ {l : List (Nat × Nat × Nat)}, (∀ q ∈ l, InsOk P q) → CallsOk P G B w0 (insExt l)
  | [], _ => fun _ _ _ _ _ h => by cases h
  | (g, k, b) :: l, hl => by
    intro f args H v H' h φ w cargs hH hG hargs
    unfold insExt at h
    split at h
    · rename_i hf
      subst hf
      obtain ⟨ρ, nm, tg, z, L, hρ, hk, hzc, hb0, hbb⟩ := hl _ List.mem_cons_self
      have hρ : ρ.f 22 = f := hρ
      refine ⟨⟨_, hρ ▸ L.f22, by kernel_rfl, L.nmOk⟩, ?_⟩
      have := insA_calls L hk hzc hb0 hbb h hH hargs
      rw [hρ] at this
      exact this
    · exact insExt_calls (fun q hq => hl q (List.mem_cons_of_mem _ hq)) f args H v H' h φ w cargs hH hG hargs
end Go.AM

/-
  slices.Insert of one element, in walks; contracts that need no outer function hold with any.
-/
namespace Go.AM
theorem CallP_ext {tab : Nat → Option RFunc} {ext : Nat → List AV → AH → Option (AV × AH)} {f : Nat} {args : List AV} {H H' : AH} {v : AV} {K : AV → AH → Prop} (hf : tab f = none) (h : ext f args H = some (v, H')) (hK : K v H') : CallP tab ext f args H K := ⟨1, v, H', by simp [run, hf, h], hK⟩
section
variable {tab : Nat → Option RFunc} {ext : Nat → List AV → AH → Option (AV × AH)}
theorem run_any : ∀ n, Le (run tab noExt n) (run tab ext n)
  | 0 => fun _ _ _ _ h => by simp [run] at h
  | n + 1 => fun f args H x h => by
    simp only [run] at h ⊢
    split at h
    · cases h
    · simp only [Option.bind_eq_some_iff] at h ⊢
      obtain ⟨r, h1, h2⟩ := h
      exact ⟨r, rcA_mono (run_any n) (Nat.le_refl n) _ h1, h2⟩
theorem Tri.any {f : Nat} {args : List AV} {P : List Asr} {Q : AV → List Asr → Prop} (h : Tri tab noExt f args P Q) : Tri tab ext f args P Q := fun ρ H R hs => by
  obtain ⟨n, v, H', h1, h2⟩ := h ρ H R hs
  exact ⟨n, v, H', run_any n _ _ _ _ h1, h2⟩
theorem ins_tri {α : Type} {enc : α → List SV} {k bytes f : Nat} (ht : tab f = none) (he : ∀ args H, ext f args H = insA k bytes args H) (hk : ∀ e, (enc e).length = k) (hk0 : 0 < k) (s : SV) (r : List α) (i : Nat) (x : α) (xb c : Nat) (hi : i ≤ r.length) (hr : (r.length + 1) * bytes ≤ 70368744177664) (hr2 : r.length + 1 ≤ 70368744177664) :
    Tri tab ext f [.s s, i64 i, .s (.slice (some (xb, 0)) 1 c k)] [Row enc k s r, Cel xb (enc x)] fun v P' => ∃ s', v = .s s' ∧ P' = [Row enc k s' (r.take i ++ x :: r.drop i)] := by
  intro ρ H R hs
  have hs : Sat ρ H (Row enc k s r :: Cel xb (enc x) :: R) := hs
  have hx := (hs.front 1 (by simp)).cel
  have ex : ((enc x).drop 0).take k = enc x := by rw [List.drop_zero, ← hk x, List.take_length]
  have exl : 0 + k ≤ (enc x).length := by rw [hk]; omega
  rcases hs.rowInv with ⟨e, rfl, rfl, h1⟩ | ⟨b, cp, j, rfl, h1, h2, h3⟩
  · have hi0 : i = 0 := by simpa using hi
    subst hi0
    have h4 := Sat.free h1 1 0 (by omega)
    refine CallP_ext ht (by
      rw [he]; simp only [insA, hx]
      rw [if_pos ⟨trivial, exl⟩, if_pos (by rfl), ex, new_of _ (show (H.bump 1).blk H.next = none from h4.fre)]; rfl) ?_
    refine ⟨_, ⟨_, rfl, rfl⟩, ?_⟩
    have h5 := Sat.mk h4 (enc x)
    have h6 : Sat ρ ((H.bump 1).set H.next (.cells false (enc x))) (Cel H.next (flat enc [x] ++ []) :: Cel xb (enc x) :: R) := by rw [flat_one, List.append_nil]; exact h5
    have h7 := ((h6.mkRow (k := k) (c := 1) (by rw [List.append_nil, flat_len hk]; simp) (by simp)).perm (List.Perm.swap _ _ _)).drop
    exact h7
  · have hb := h1.cel
    have hne : xb ≠ b := by
      rintro rfl
      obtain ⟨_, S, k1, _⟩ := h1
      obtain ⟨S1, S2, _, ⟨rfl, _⟩, k2, k3⟩ := SatL.cons_inv k1
      obtain ⟨T1, T2, rfl, ⟨rfl, _⟩, _, _⟩ := SatL.cons_inv k2
      exact k3 xb (by simp) (by simp)
    have h4 := (Sat.free h1 1 0 (by omega)).perm (List.Perm.swap _ _ _)
    have h5 := Sat.kill h4
    have efl : (flat enc r).length = r.length * k := flat_len hk r
    have hik : i * k ≤ r.length * k := Nat.mul_le_mul_right k hi
    have e1 : ((flat enc r ++ j).drop 0).take (i * k) = flat enc (r.take i) := by
      have := flat_part hk r j 0 i (by omega)
      simpa using this
    have e2 : (((flat enc r ++ j).drop 0).take (r.length * k)).drop (i * k) = flat enc (r.drop i) := by
      rw [List.drop_zero, ← efl, List.take_left]
      have := flat_part hk r [] i (r.length - i) (by omega)
      rw [List.append_nil, List.take_of_length_le (by rw [List.length_drop, efl, Nat.sub_mul]; exact Nat.le_refl _), List.take_of_length_le (by rw [List.length_drop]; exact Nat.le_refl _)] at this
      exact this
    refine CallP_ext ht (by
      rw [he]; simp only [insA, hx, hb]
      rw [if_pos ⟨trivial, exl⟩, if_pos ⟨hne, trivial, by omega, by omega, by rw [List.length_append, efl]; omega, hr, hr2⟩, Int.toNat_natCast, e1, e2, ex, new_of _ (show ((H.bump 1).set b .dead).blk H.next = none from h5.fre)]
      rfl) ?_
    refine ⟨_, ⟨_, rfl, rfl⟩, ?_⟩
    have e3 : flat enc (r.take i) ++ (enc x ++ flat enc (r.drop i)) = flat enc (r.take i ++ x :: r.drop i) ++ [] := by simp [flat]
    have e4 : (r.take i ++ x :: r.drop i).length = r.length + 1 := by simp; omega
    have h6 := Sat.mk h5 (flat enc (r.take i) ++ (enc x ++ flat enc (r.drop i)))
    rw [e3] at h6
    have h7 : Sat ρ _ (Cel H.next (flat enc (r.take i ++ x :: r.drop i) ++ []) :: Cel xb (enc x) :: R) := h6
    have h8 := h7.mkRow (k := k) (c := r.length + 1) (by rw [List.length_append, flat_len hk, e4]; simp) (by omega)
    rw [e4, ← e3] at h8
    exact (h8.perm (List.Perm.swap _ _ _)).drop
end
end Go.AM

/-
  The numbers of the functions in this translation.
-/
namespace Go.AM.F
abbrev detenttop_TopServers : Nat := 6
abbrev detenttop_known : Nat := 8
abbrev por_New : Nat := 32
abbrev por_Port_Call : Nat := 33
abbrev por_Port_Accept : Nat := 34
abbrev por_Port_Reply : Nat := 35
abbrev por_Port_Callers : Nat := 36
abbrev por_Port_Open : Nat := 37
abbrev detenttop_tasks : Nat := 9
abbrev detenttop_open : Nat := 10
abbrev detenttop_do : Nat := 13
abbrev kern_Kernel_Tick : Nat := 18
abbrev kern_Kernel_Running : Nat := 23
abbrev detenttop_state : Nat := 24
abbrev order_New : Nat := 46
abbrev por_right : Nat := 76
abbrev por_Port_in : Nat := 77
abbrev slices_Clip__byte_byte : Nat := 78
abbrev slices_Clone__byte_byte : Nat := 79
abbrev por_line_meet : Nat := 80
abbrev por_Port_begin : Nat := 81
abbrev por_line_wait : Nat := 82
abbrev por_Port_find : Nat := 83
abbrev por_Port_end : Nat := 84
abbrev por_line_ids : Nat := 85
abbrev slices_Clip__int_int : Nat := 86
abbrev kern_New : Nat := 44
abbrev kern_Kernel_Do : Nat := 16
abbrev calls_Make : Nat := 17
abbrev kern_Kernel_choose : Nat := 63
abbrev cyc_Hands_Pass : Nat := 64
abbrev kern_Kernel_leave : Nat := 65
abbrev kern_Kernel_wake : Nat := 66
abbrev kern_Kernel_settle : Nat := 67
abbrev kern_Kernel_Task : Nat := 15
abbrev order_Line_Has : Nat := 176
abbrev slices_ContainsFunc__por_open_por_open : Nat := 177
abbrev por_Port_in_1 : Nat := 178
abbrev order_Line_Row : Nat := 172
abbrev por_line_drop : Nat := 179
abbrev order_Queue_Add : Nat := 180
abbrev slices_IndexFunc__por_open_por_open : Nat := 181
abbrev por_Port_find_1 : Nat := 182
abbrev slices_Delete__por_open_por_open : Nat := 183
abbrev conf_Check : Nat := 97
abbrev ctx_New : Nat := 98
abbrev ready_New : Nat := 99
abbrev kern_objects_build : Nat := 100
abbrev cyc_NewHands : Nat := 101
abbrev cyc_Hands_Cyclic : Nat := 102
abbrev cyc_Hands_Alarm : Nat := 103
abbrev mtx_All_SetBase : Nat := 104
abbrev tcb_New : Nat := 105
abbrev kern_Kernel_act : Nat := 106
abbrev calls_Known : Nat := 51
abbrev kern_say : Nat := 52
abbrev ctx_Place_May : Nat := 53
abbrev calls_Kind : Nat := 54
abbrev kern_Kernel_tasks : Nat := 55
abbrev kern_Kernel_sem : Nat := 56
abbrev kern_Kernel_flag : Nat := 57
abbrev kern_Kernel_data : Nat := 58
abbrev kern_Kernel_mutex : Nat := 59
abbrev kern_Kernel_block : Nat := 60
abbrev kern_Kernel_time : Nat := 61
abbrev kern_Kernel_state : Nat := 62
abbrev ctx_state_Dispatch : Nat := 156
abbrev ready_Queue_First : Nat := 157
abbrev clock_Clock_Tick : Nat := 158
abbrev clock_Clock_Up : Nat := 159
abbrev slices_SortStableFunc__cyc_Fired_cyc_Fired : Nat := 160
abbrev cyc_order : Nat := 161
abbrev slices_Clip__cyc_Fired_cyc_Fired : Nat := 162
abbrev order_Line_Remove : Nat := 163
abbrev flag_Flag_Drop : Nat := 164
abbrev dtq_Queue_Drop : Nat := 165
abbrev mtx_All_Drop : Nat := 166
abbrev tcb_Task_Release : Nat := 167
abbrev kern_Kernel_told : Nat := 168
abbrev mtx_All_Pri : Nat := 49
abbrev ready_Queue_Change : Nat := 169
abbrev order_Queue_Change : Nat := 170
abbrev dtq_Queue_Change : Nat := 171
abbrev mtx_All_Base : Nat := 50
abbrev order_Line_at : Nat := 248
abbrev slices_Clip__order_Item_order_Item : Nat := 256
abbrev slices_Clone__order_Item_order_Item : Nat := 257
abbrev order_may : Nat := 254
abbrev order_Queue_put : Nat := 255
abbrev conf_first : Nat := 195
abbrev conf_Check_1 : Nat := 196
abbrev conf_objects : Nat := 197
abbrev conf_Check_2 : Nat := 198
abbrev conf_fine : Nat := 200
abbrev conf_Check_3 : Nat := 201
abbrev conf_Check_4 : Nat := 203
abbrev conf_Check_5 : Nat := 205
abbrev conf_Check_6 : Nat := 207
abbrev sem_NewSem : Nat := 199
abbrev dtq_New : Nat := 202
abbrev mtx_New : Nat := 204
abbrev mpf_NewPool : Nat := 206
abbrev flag_NewFlag : Nat := 208
abbrev conf_Layout : Nat := 209
abbrev clock_NewClock : Nat := 210
abbrev nums_Rel : Nat := 121
abbrev mtx_is : Nat := 111
abbrev mtx_may : Nat := 211
abbrev mtx_All_settle : Nat := 212
abbrev tcb_Task_Act : Nat := 213
abbrev kern_Kernel_enter : Nat := 214
abbrev calls_of : Nat := 112
abbrev ctx_state_may : Nat := 113
abbrev kern_Kernel_named : Nat := 114
abbrev ctx_Place_Lock : Nat := 115
abbrev ctx_Place_Disable : Nat := 116
abbrev kern_Kernel_over : Nat := 117
abbrev kern_Kernel_rotate : Nat := 118
abbrev kern_Kernel_sleep : Nat := 119
abbrev kern_late : Nat := 120
abbrev kern_Kernel_stay : Nat := 122
abbrev kern_Kernel_change : Nat := 123
abbrev kern_Kernel_one : Nat := 124
abbrev kern_at__sem_Sem : Nat := 68
abbrev kern_timeout : Nat := 125
abbrev sem_Sem_Signal : Nat := 126
abbrev kern_Kernel_woken : Nat := 127
abbrev sem_Sem_Poll : Nat := 128
abbrev sem_Sem_Wait : Nat := 129
abbrev kern_at__flag_Flag : Nat := 130
abbrev flag_Flag_Raise : Nat := 131
abbrev flag_Flag_Lower : Nat := 132
abbrev flag_Flag_Poll : Nat := 133
abbrev flag_Flag_Wait : Nat := 134
abbrev kern_at__dtq_Queue : Nat := 135
abbrev dtq_Queue_Force : Nat := 136
abbrev dtq_Queue_TrySend : Nat := 137
abbrev dtq_Queue_Send : Nat := 138
abbrev dtq_Queue_TryRecv : Nat := 139
abbrev dtq_Queue_Recv : Nat := 140
abbrev mtx_All_Unlock : Nat := 141
abbrev mtx_All_Lock : Nat := 142
abbrev mtx_All_TryLock : Nat := 143
abbrev kern_at__mpf_Pool : Nat := 70
abbrev mpf_Pool_Put : Nat := 144
abbrev mpf_Pool_Poll : Nat := 145
abbrev mpf_Pool_Get : Nat := 146
abbrev clock_Clock_Now : Nat := 74
abbrev clock_Clock_Set : Nat := 147
abbrev cyc_Hands_Start : Nat := 148
abbrev cyc_Hands_Stop : Nat := 149
abbrev cyc_Hands_Set : Nat := 150
abbrev cyc_Hands_Clear : Nat := 151
abbrev kern_truth : Nat := 152
abbrev ctx_state_In : Nat := 153
abbrev ctx_state_Locked : Nat := 154
abbrev ctx_state_Disabled : Nat := 155
abbrev bits_Map_First : Nat := 243
abbrev heap_Timers_Due : Nat := 244
abbrev slices_stableCmpFunc_cyc_Fired : Nat := 245
abbrev cmp_Compare_uint64 : Nat := 246
abbrev cmp_Compare_int : Nat := 247
abbrev slices_Delete__order_Item_order_Item : Nat := 249
abbrev slices_DeleteFunc__int_int : Nat := 250
abbrev mtx_All_Drop_1 : Nat := 251
abbrev kern_Kernel_forget : Nat := 218
abbrev ready_Queue_Remove : Nat := 219
abbrev ready_may : Nat := 252
abbrev ready_Queue_put : Nat := 253
abbrev slices_IndexFunc__order_Item_order_Item : Nat := 288
abbrev order_Line_at_1 : Nat := 289
abbrev slices_Insert__order_Item_order_Item : Nat := 292
abbrev conf_next : Nat := 45
abbrev mtx_Kind_right : Nat := 263
abbrev nums_Align : Nat := 107
abbrev heap_New : Nat := 264
abbrev slices_Clone__int_int : Nat := 174
abbrev mtx_All_reckon : Nat := 265
abbrev mtx_All_leave : Nat := 266
abbrev mtx_All_rejoin : Nat := 267
abbrev tcb_Task_Is : Nat := 226
abbrev ready_Queue_Add : Nat := 268
abbrev calls_table : Nat := 217
abbrev mtx_All_Free : Nat := 220
abbrev tcb_Task_Kill : Nat := 221
abbrev ready_Queue_Rotate : Nat := 222
abbrev tcb_Task_Sleep : Nat := 223
abbrev tcb_Task_Stay : Nat := 224
abbrev cyc_Hands_Wait : Nat := 225
abbrev tcb_Task_CanAct : Nat := 227
abbrev tcb_Task_Wake : Nat := 228
abbrev tcb_Task_CanWake : Nat := 229
abbrev tcb_Task_Suspend : Nat := 230
abbrev tcb_Task_Resume : Nat := 231
abbrev calls_Arity : Nat := 232
abbrev order_Queue_Take : Nat := 90
abbrev flag_wish_met : Nat := 233
abbrev slices_Clip__flag_Woken_flag_Woken : Nat := 234
abbrev order_Line_Len : Nat := 92
abbrev dtq_Queue_next : Nat := 235
abbrev mtx_All_in : Nat := 173
abbrev slices_Delete__int_int : Nat := 236
abbrev mtx_All_over : Nat := 237
abbrev mtx_All_stand : Nat := 238
abbrev slices_BinarySearch__int_int : Nat := 239
abbrev slices_Insert__int_int : Nat := 240
abbrev nums_Add : Nat := 175
abbrev cyc_Hands_cyc : Nat := 241
abbrev cyc_Hands_alarm : Nat := 242
abbrev bits_Map_After : Nat := 282
abbrev heap_Timers_remove : Nat := 283
abbrev slices_insertionSortCmpFunc_cyc_Fired : Nat := 284
abbrev slices_symMergeCmpFunc_cyc_Fired : Nat := 285
abbrev cmp_isNaN_uint64 : Nat := 286
abbrev cmp_isNaN_int : Nat := 287
abbrev slices_IndexFunc__int_int : Nat := 290
abbrev heap_Timers_Cancel : Nat := 270
abbrev ready_task : Nat := 271
abbrev slices_Index__int_int : Nat := 272
abbrev bits_Map_Clear : Nat := 273
abbrev bits_Map_Set : Nat := 291
abbrev slices_overlaps_order_Item : Nat := 306
abbrev slices_rotateRight_order_Item : Nat := 307
abbrev mtx_All_leave_1 : Nat := 296
abbrev slices_Contains__int_int : Nat := 277
abbrev mtx_All_Held : Nat := 274
abbrev tcb_Task_end : Nat := 275
abbrev clock_Clock_After : Nat := 276
abbrev order_Line_First : Nat := 186
abbrev cmp_Less_int : Nat := 278
abbrev slices_isNaN_int : Nat := 279
abbrev slices_overlaps_int : Nat := 280
abbrev slices_rotateRight_int : Nat := 281
abbrev math_bits_TrailingZeros64 : Nat := 302
abbrev heap_row_up : Nat := 303
abbrev heap_row_down : Nat := 304
abbrev slices_rotateCmpFunc_cyc_Fired : Nat := 305
abbrev heap_Timers_find : Nat := 298
abbrev bits_place : Nat := 299
abbrev slices_rotateLeft_order_Item : Nat := 314
abbrev heap_Timers_Insert : Nat := 300
abbrev slices_rotateLeft_int : Nat := 301
abbrev heap_row_ahead : Nat := 312
abbrev slices_swapRangeCmpFunc_cyc_Fired : Nat := 313
abbrev slices_IndexFunc_heap_row_heap_entry : Nat := 309
abbrev heap_Timers_find_1 : Nat := 310
abbrev slices_Reverse__order_Item_order_Item : Nat := 315
abbrev slices_Reverse__int_int : Nat := 311
end Go.AM.F
