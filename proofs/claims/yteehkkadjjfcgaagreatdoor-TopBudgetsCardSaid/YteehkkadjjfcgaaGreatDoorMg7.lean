/-
  WALKS: the rules.
-/
import Derived.Test.YteehkkadjjfcgaaGreatDoorMg6
import Derived.Test.YteehkkadjjfcgaaGreatDoorMg1
namespace Go.AM
section
variable {tab : Nat → Option RFunc} {ext : Nat → List AV → AH → Option (AV × AH)} {n : Nat} {E : Env} {L : List Asr} {K : Pst}
theorem wpO_mono {ρ : Opd → AV} {id : Nat} {H : AH} {o : ROp} {K K' : AV → AH → Prop} (hk : ∀ v H', K v H' → K' v H') (h : wpO tab ext ρ id H o K) : wpO tab ext ρ id H o K' := by
  cases o with
  | call f args => exact CallP.mono h hk
  | callv x args =>
    simp only [wpO, callvP] at h ⊢
    split at h
    · exact CallP.mono h hk
    · exact CallP.mono h hk
    · exact h
  | move x => exact hk _ _ h
  | box x => obtain ⟨l, h0, H', h1, h2⟩ := h; exact ⟨l, h0, H', h1, hk _ _ h2⟩
  | buildSlice esz len z ps => obtain ⟨l, h0, H', h1, h2⟩ := h; exact ⟨l, h0, H', h1, hk _ _ h2⟩
  | makeSlice esz bytes z l c => obtain ⟨l, h0, H', h1, h2⟩ := h; exact ⟨l, h0, H', h1, hk _ _ h2⟩
  | _ => obtain ⟨l, h0, h2⟩ := h; exact ⟨l, h0, hk _ _ h2⟩
theorem gP_mono {c : Bool} {H : AH} {P P' : (AV → AH → Prop) → Prop} {K K' : AV → AH → Prop} (hP : (∀ v H', K v H' → K' v H') → P K → P' K') (hk : ∀ v H', K v H' → K' v H') (h : gP c H P K) : gP c H P' K' := by
  unfold gP at *
  cases c with
  | true => exact hP hk h
  | false => exact hk _ _ h
theorem watchP_mono {T : List AV} {H : AH} {P P' : Prop} (hp : P → P') : ∀ {ws : List Watch}, watchP T H ws P → watchP T H ws P'
  | [], h => hp h
  | _ :: _, h => ⟨h.1, watchP_mono hp h.2⟩
theorem wpR_mono {base : Nat} {K K' : List AV → AH → Prop} (hk : ∀ T H, K T H → K' T H) : ∀ {l : List ROper} {T : List AV} {H : AH}, wpR tab ext base l T H K → wpR tab ext base l T H K'
  | [], _, _, h => hk _ _ h
  | o :: l, T, H, h => by
    simp only [wpR] at h ⊢
    split at h
    · exact wpO_mono (fun v H' => watchP_mono (wpR_mono hk)) h
    · exact gP_mono (fun hk' => wpO_mono hk') (fun v H' => watchP_mono (wpR_mono hk)) h
theorem wpC_mono : ∀ {c : RC} {T : List AV} {H : AH} {K K' : Ex → List AV → AH → Prop}, (∀ e T H, K e T H → K' e T H) → wpC tab ext c T H K → wpC tab ext c T H K'
  | .skip, _, _, _, _, hk, h => hk _ _ _ h
  | .ret, _, _, _, _, hk, h => hk _ _ _ h
  | .exit _, _, _, _, _, hk, h => hk _ _ _ h
  | .region _ _, _, _, _, _, hk, h => wpR_mono (hk .norm) h
  | .seq a b, T, H, K, K', hk, h => wpC_mono (c := a) (fun e T H h => by
      cases e with
      | norm => exact wpC_mono (c := b) hk h
      | ret => exact hk _ _ _ h
      | out id => exact hk _ _ _ h) h
  | .cond c a b, T, H, K, K', hk, h => by
    simp only [wpC, condP] at h ⊢
    split at h
    · exact wpC_mono (c := a) hk h
    · exact wpC_mono (c := b) hk h
    · exact h.elim
  | .block id a, T, H, K, K', hk, h => wpC_mono (c := a) (fun e T H h => by
      cases e with
      | norm => exact hk _ _ _ h
      | ret => exact hk _ _ _ h
      | out i =>
        simp only [blockK] at h ⊢
        split
        · rename_i he; rw [if_pos he] at h; exact hk _ _ _ h
        · rename_i he; rw [if_neg he] at h; exact hk _ _ _ h) h
  | .loop a, T, H, K, K', hk, ⟨k, e, T', H', h1, h2⟩ => ⟨k, e, T', H', h1, hk _ _ _ h2⟩
theorem wpO_pure {ρ : Opd → AV} {id : Nat} {H : AH} {o : ROp} {v : AV} {K : AV → AH → Prop} (h : pureA ρ o = some v) (hk : o.kind = .pure) (hK : K v H) : wpO tab ext ρ id H o K := by
  cases o <;> simp only [ROp.kind, reduceCtorEq] at hk
  case move x => simp only [pureA, Option.some.injEq] at h; subst h; exact hK
  case stuck => simp [pureA] at h
  all_goals exact ⟨v, h, hK⟩
theorem WK.watch {E0 : Env} {os : List ROper} {K : Env → List Asr → Prop} {ρ : HF} {Rs : List Asr} {base : Nat} {T0 T : List AV} {H : AH} (hT : T.length = n) (hl0 : LvE T0 E0) : ∀ {ws : List Watch}, WK tab ext n ws E0 E L os K → LvE T E → Sat ρ H (fres base os ++ (L ++ Rs)) →
    watchP T0 H ws (wpR tab ext base os T H (fun T H => ∃ E L, K E L ∧ T.length = n ∧ LvE T E ∧ Sat ρ H (L ++ Rs)))
  | [], h, hl, hs => h ρ Rs base T H hT hl hs
  | w :: ws, ⟨⟨h1, h0⟩, h2⟩, hl, hs => by
    refine ⟨?_, WK.watch hT hl0 h2 hl hs⟩
    have key : (∀ p, w.guard = some p → gd (T0.getD p.1 undef) p.2 = true) → loadA w.m (ev T0 w.a) H = some (T0.getD w.dst undef) := by
      intro hg
      have : ∃ g, (match w.guard with | none => some (AV.s (.bool true)) | some p => look E0 p.1) = some g ∧ (∀ p, w.guard = some p → gd g p.2 = true) := by
        cases hw : w.guard with
        | none => exact ⟨_, rfl, fun _ h => by cases h⟩
        | some p =>
          have h3 := h0 p hw
          obtain ⟨g, hgE⟩ := Option.isSome_iff_exists.1 h3
          refine ⟨g, hgE, fun q hq => ?_⟩
          cases hq
          have h4 := hg p hw
          have h5 : T0.getD p.1 undef = g := hl0 _ _ hgE
          rw [h5] at h4; exact h4
      obtain ⟨g, g1, g2⟩ := this
      obtain ⟨b, o, v, e1, e2, e3⟩ := h1 g g1 g2
      rw [evo_ok hl0 e1]
      have e4 : T0.getD w.dst undef = v := hl0 _ _ e2
      rw [e4]
      rcases e3 with ⟨e5, x, rfl, e6⟩ | ⟨m, l, e5, rfl, e6⟩
      · rw [e5]; show (H.ld b o).map AV.s = _; rw [e6.of ρ H _ hs.mid]; rfl
      · rw [e5]; show (H.ldn b o m).map AV.agg = _; rw [e6.of ρ H _ hs.mid]; rfl
    cases hw : w.guard with
    | none => exact key (fun _ h => by rw [hw] at h; cases h)
    | some p => obtain ⟨t, b⟩ := p; exact fun hg => key (fun q hq => by rw [hw] at hq; cases hq; exact hg)
variable {os : List ROper} {Kr : Env → List Asr → Prop} {d i : Nat} {ws : List Watch}
theorem RP.gen {o : ROper} (hg : o.guard = none) (h : ∀ (ρ : HF) (Rs : List Asr) (base : Nat) (T : List AV) (H : AH), T.length = n → LvE T E → Sat ρ H (Fre (base + o.idx) :: (fres base os ++ (L ++ Rs))) →
    wpO tab ext (ev T) (base + o.idx) H o.op fun v H' => ∃ E' L', WK tab ext n o.watch E E' L' os Kr ∧ LvE (put T o.dst v) E' ∧ Sat ρ H' (fres base os ++ (L' ++ Rs))) : RP tab ext n E L (o :: os) Kr := by
  intro ρ Rs base T H hT hl hs
  simp only [wpR, hg]
  refine wpO_mono ?_ (h ρ Rs base T H hT hl hs)
  rintro v H' ⟨E', L', h1, h2, h3⟩
  exact WK.watch (put_len hT _ _) hl h1 h2 h3
theorem RP.done (h : Kr E L) : RP tab ext n E L [] Kr := fun _ _ _ _ _ hT hl hs => ⟨E, L, h, hT, hl, hs⟩
theorem WK.z {E0 : Env} (h : RP tab ext n E L os Kr) : WK tab ext n [] E0 E L os Kr := h
theorem RP.p {op : ROp} {v : AV} (h : pureE E op = some v) (hd : Nat.blt d n = true) (k : RP tab ext n ((d, v) :: E) L os Kr) : RP tab ext n E L (⟨some d, op, none, i, []⟩ :: os) Kr :=
  RP.gen rfl fun _ _ _ _ _ hT hl hs => let h1 := pureE_ok hl h; wpO_pure h1.1 h1.2 ⟨_, L, k, hl.put hT hd v, hs.drop⟩
theorem RP.pn {op : ROp} {v : AV} (h : pureE E op = some v) (k : RP tab ext n E L os Kr) : RP tab ext n E L (⟨none, op, none, i, []⟩ :: os) Kr :=
  RP.gen rfl fun _ _ _ _ _ _ hl hs => let h1 := pureE_ok hl h; wpO_pure h1.1 h1.2 ⟨_, L, k, hl, hs.drop⟩
theorem RP.l {a : Opd} {b o : Nat} {x : SV} (ha : evo E a = some (.s (.ptr (some (b, o))))) (hl : Ld L b o x) (hd : Nat.blt d n = true) (k : RP tab ext n ((d, .s x) :: E) L os Kr) : RP tab ext n E L (⟨some d, .load none a, none, i, []⟩ :: os) Kr :=
  RP.gen rfl fun ρ Rs base T H hT hv hs => by
    refine ⟨.s x, ?_, _, L, k, hv.put hT hd _, hs.drop⟩
    simp only [evo_ok hv ha]
    show (H.ld b o).map AV.s = _
    rw [hl.of ρ H _ hs.drop.mid]; rfl
theorem RP.ln {a : Opd} {b o m : Nat} {l : List SV} (ha : evo E a = some (.s (.ptr (some (b, o))))) (hl : Ldn L b o m l) (hd : Nat.blt d n = true) (k : RP tab ext n ((d, .agg l) :: E) L os Kr) : RP tab ext n E L (⟨some d, .load (some m) a, none, i, []⟩ :: os) Kr :=
  RP.gen rfl fun ρ Rs base T H hT hv hs => by
    refine ⟨.agg l, ?_, _, L, k, hv.put hT hd _, hs.drop⟩
    simp only [evo_ok hv ha]
    show (H.ldn b o m).map AV.agg = _
    rw [hl.of ρ H _ hs.drop.mid]; rfl
theorem RP.s {a v : Opd} {b o m : Nat} {u : AV} {vs : List SV} {L' : List Asr} (ha : evo E a = some (.s (.ptr (some (b, o))))) (hv : evo E v = some u) (hc : u.cells? = some vs) (hm : Nat.beq vs.length m = true) (hst : Stw L b o vs L') (k : WK tab ext n ws E E L' os Kr) : RP tab ext n E L (⟨none, .store m a v, none, i, ws⟩ :: os) Kr :=
  RP.gen rfl fun ρ Rs base T H hT hl hs => by
    obtain ⟨H', h1, h2⟩ := hst.of ρ H _ hs.drop.mid
    refine ⟨H', ?_, _, L', k, hl, h2.mid⟩
    rw [evo_ok hl ha, evo_ok hl hv]
    show (match u.cells? with | some l => if l.length = m then H.stn b o l else none | none => none) = _
    rw [hc]
    simp only
    rw [if_pos (Nat.eq_of_beq_eq_true hm), h1]
theorem RP.bx {x : Opd} {u : AV} {l : List SV} (hx : evo E x = some u) (hc : u.cells? = some l) (hd : Nat.blt d n = true) (k : ∀ b, RP tab ext n ((d, .s (.ptr (some (b, 0)))) :: E) (Cel b l :: L) os Kr) : RP tab ext n E L (⟨some d, .box x, none, i, []⟩ :: os) Kr :=
  RP.gen rfl fun ρ Rs base T H hT hl hs => by
    have h1 := Sat.mk hs l
    refine ⟨l, by rw [evo_ok hl hx, hc], _, new_of H hs.fre, _, _, k _, hl.put hT hd _, ?_⟩
    exact h1.perm (List.perm_middle.symm)
theorem RP.bs {esz len : Nat} {z : List SV} {ps : List (Nat × Nat × Opd)} {us : List (Nat × Nat × AV)} {l : List SV} (hp : evp E ps = some us) (hf : fillA z us = some l) (hd : Nat.blt d n = true) (k : ∀ b, RP tab ext n ((d, .s (.slice (some (b, 0)) len len esz)) :: E) (Cel b l :: L) os Kr) : RP tab ext n E L (⟨some d, .buildSlice esz len z ps, none, i, []⟩ :: os) Kr :=
  RP.gen rfl fun ρ Rs base T H hT hl hs => by
    have h1 := Sat.mk hs l
    refine ⟨l, by rw [evp_ok hl hp, hf], _, new_of H hs.fre, _, _, k _, hl.put hT hd _, ?_⟩
    exact h1.perm (List.perm_middle.symm)
theorem RP.mk {esz bytes : Nat} {z l : List SV} {a c : Opd} {ua uc : AV} {na nc : Nat} (ha : evo E a = some ua) (hc : evo E c = some uc) (hm : makeA esz bytes z ua uc = some (l, na, nc)) (hd : Nat.blt d n = true) (k : ∀ b, RP tab ext n ((d, .s (.slice (some (b, 0)) na nc esz)) :: E) (Cel b l :: L) os Kr) : RP tab ext n E L (⟨some d, .makeSlice esz bytes z a c, none, i, []⟩ :: os) Kr :=
  RP.gen rfl fun ρ Rs base T H hT hl hs => by
    have h1 := Sat.mk hs l
    refine ⟨_, by rw [evo_ok hl ha, evo_ok hl hc, hm], _, new_of H hs.fre, _, _, k _, hl.put hT hd _, ?_⟩
    exact h1.perm (List.perm_middle.symm)
theorem RP.c {f : Nat} {args : List Opd} {vs : List AV} {P R : List Asr} {Q : AV → List Asr → Prop} (ha : evl E args = some vs) (t : Tri tab ext f vs P Q) (hin : Ins P L R) (hd : Nat.blt d n = true)
    (k : ∀ v P', Q v P' → WK tab ext n ws E ((d, v) :: E) (P' ++ R) os Kr) : RP tab ext n E L (⟨some d, .call f args, none, i, ws⟩ :: os) Kr :=
  RP.gen rfl fun ρ Rs base T H hT hl hs => by
    show CallP tab ext f (args.map (ev T)) H _
    rw [evl_ok hl ha]
    refine t.use (R := R ++ (fres base os ++ Rs)) (hin.sat hs.drop.mid) ?_
    intro v H' P' hq hs'
    refine ⟨_, _, k v P' hq, hl.put hT hd _, ?_⟩
    rw [← List.append_assoc] at hs'
    exact hs'.mid
theorem RP.cn {f : Nat} {args : List Opd} {vs : List AV} {P R : List Asr} {Q : AV → List Asr → Prop} (ha : evl E args = some vs) (t : Tri tab ext f vs P Q) (hin : Ins P L R)
    (k : ∀ v P', Q v P' → WK tab ext n ws E E (P' ++ R) os Kr) : RP tab ext n E L (⟨none, .call f args, none, i, ws⟩ :: os) Kr :=
  RP.gen rfl fun ρ Rs base T H hT hl hs => by
    show CallP tab ext f (args.map (ev T)) H _
    rw [evl_ok hl ha]
    refine t.use (R := R ++ (fres base os ++ Rs)) (hin.sat hs.drop.mid) ?_
    intro v H' P' hq hs'
    refine ⟨_, _, k v P' hq, hl, ?_⟩
    rw [← List.append_assoc] at hs'
    exact hs'.mid
theorem RP.cv {x : Opd} {f : Nat} {caps : List (Nat × Nat)} {args : List Opd} {vs : List AV} {P R : List Asr} {Q : AV → List Asr → Prop} (hx : evo E x = some (.s (.fn f caps))) (ha : evl E args = some vs) (t : Tri tab ext f (vs ++ caps.map fun a => .s (.ptr (some a))) P Q) (hin : Ins P L R) (hd : Nat.blt d n = true)
    (k : ∀ v P', Q v P' → WK tab ext n ws E ((d, v) :: E) (P' ++ R) os Kr) : RP tab ext n E L (⟨some d, .callv x args, none, i, ws⟩ :: os) Kr :=
  RP.gen rfl fun ρ Rs base T H hT hl hs => by
    show callvP tab ext (ev T x) (args.map (ev T)) H _
    rw [evl_ok hl ha, evo_ok hl hx]
    refine t.use (R := R ++ (fres base os ++ Rs)) (hin.sat hs.drop.mid) ?_
    intro v H' P' hq hs'
    refine ⟨_, _, k v P' hq, hl.put hT hd _, ?_⟩
    rw [← List.append_assoc] at hs'
    exact hs'.mid
theorem RP.g {t : Nat} {b c : Bool} {dst : Option Nat} {op : ROp} (ht : look E t = some (.s (.bool c)))
    (h1 : c = b → RP tab ext n ((t, .s (.bool b)) :: E) L (⟨dst, op, none, i, ws⟩ :: os) Kr) (h2 : c = !b → RP tab ext n ((t, .s (.bool !b)) :: E) L (⟨dst, .move (.c undef), none, i, ws⟩ :: os) Kr) : RP tab ext n E L (⟨dst, op, some (t, b), i, ws⟩ :: os) Kr := by
  intro ρ Rs base T H hT hl hs
  have e : T.getD t undef = .s (.bool c) := hl _ _ ht
  have hl2 : LvE T ((t, .s (.bool c)) :: E) := fun j v hv => by
    simp only [look] at hv
    cases hb : Nat.beq t j with
    | true => rw [hb, cond_true] at hv; cases hv; have := Nat.eq_of_beq_eq_true hb; subst this; exact e
    | false => rw [hb, cond_false] at hv; exact hl _ _ hv
  simp only [wpR, e, gd_bool]
  by_cases hc : c = b
  · subst hc
    rw [show (c == c) = true by simp]
    have := h1 rfl ρ Rs base T H hT hl2 hs
    simpa only [wpR, gP_true] using this
  · have hc' : c = !b := by cases c <;> cases b <;> simp_all
    subst hc'
    rw [show ((!b) == b) = false by cases b <;> rfl]
    have := h2 rfl ρ Rs base T H hT hl2 hs
    simpa only [wpR, wpO, ev, gP_false] using this
theorem RP.gt {t : Nat} {b : Bool} {dst : Option Nat} {op : ROp} (ht : look E t = some (.s (.bool b))) (h1 : RP tab ext n E L (⟨dst, op, none, i, ws⟩ :: os) Kr) : RP tab ext n E L (⟨dst, op, some (t, b), i, ws⟩ :: os) Kr := by
  intro ρ Rs base T H hT hl hs
  have e : T.getD t undef = .s (.bool b) := hl _ _ ht
  simp only [wpR, e, gd_bool]
  rw [show (b == b) = true by simp]
  have := h1 ρ Rs base T H hT hl hs
  simpa only [wpR, gP_true] using this
theorem RP.gf {t : Nat} {b : Bool} {dst : Option Nat} {op : ROp} (ht : look E t = some (.s (.bool !b))) (h1 : RP tab ext n E L (⟨dst, .move (.c undef), none, i, ws⟩ :: os) Kr) : RP tab ext n E L (⟨dst, op, some (t, b), i, ws⟩ :: os) Kr := by
  intro ρ Rs base T H hT hl hs
  have e : T.getD t undef = .s (.bool !b) := hl _ _ ht
  simp only [wpR, e, gd_bool]
  rw [show ((!b) == b) = false by cases b <;> rfl]
  have := h1 ρ Rs base T H hT hl hs
  simpa only [wpR, wpO, ev, gP_false] using this
theorem RP.gu {t : Nat} {b : Bool} {dst : Option Nat} {op : ROp} {l : List Part} (ht : look E t = some (.tup l)) (h1 : RP tab ext n E L (⟨dst, .move (.c undef), none, i, ws⟩ :: os) Kr) : RP tab ext n E L (⟨dst, op, some (t, b), i, ws⟩ :: os) Kr := by
  intro ρ Rs base T H hT hl hs
  have e : T.getD t undef = .tup l := hl _ _ ht
  simp only [wpR, e, gd_tup]
  have := h1 ρ Rs base T H hT hl hs
  simpa only [wpR, wpO, ev, gP_false] using this
theorem RP.fact {p : Prop} (h : ∀ (ρ : HF) (H : AH) (R : List Asr), Sat ρ H (L ++ R) → p) (k : p → RP tab ext n E L os Kr) : RP tab ext n E L os Kr :=
  fun ρ Rs base T H hT hl hs => k (h ρ H _ hs.mid) ρ Rs base T H hT hl hs
theorem RP.imp {α : Type} {L' : α → List Asr} (h : ∀ (ρ : HF) (H : AH) (R : List Asr), Sat ρ H (L ++ R) → ∃ a, Sat ρ H (L' a ++ R)) (k : ∀ a, RP tab ext n E (L' a) os Kr) : RP tab ext n E L os Kr :=
  fun ρ Rs base T H hT hl hs => let ⟨a, h1⟩ := h ρ H _ hs.mid; k a ρ Rs base T H hT hl h1.mid
theorem RP.ent {L' : List Asr} (h : LEnt L L') (k : RP tab ext n E L' os Kr) : RP tab ext n E L os Kr :=
  fun ρ Rs base T H hT hl hs => k ρ Rs base T H hT hl (h ρ H _ hs.mid).mid
theorem RP.env {E' : Env} (h : ELe E' E) (k : RP tab ext n E' L os Kr) : RP tab ext n E L os Kr :=
  fun ρ Rs base T H hT hl hs => k ρ Rs base T H hT (h.lv hl) hs
theorem RP.pw {op : BinOp} {x y : Opd} {a b v : AV} (hx : evo E x = some a) (hy : evo E y = some b) (h : binA op a b = some v) (hd : Nat.blt d n = true) (k : RP tab ext n ((d, v) :: E) L os Kr) : RP tab ext n E L (⟨some d, .bin op x y, none, i, []⟩ :: os) Kr :=
  RP.gen rfl fun ρ Rs base T H hT hl hs => wpO_pure (o := .bin op x y) (by simp only [pureA, evo_ok hl hx, evo_ok hl hy, h]) rfl ⟨_, L, k, hl.put hT hd v, hs.drop⟩
theorem RP.ad {x y : Opd} {a b : Int} (hx : evo E x = some (i64 a)) (hy : evo E y = some (i64 b)) (h : -9223372036854775808 ≤ a + b ∧ a + b < 9223372036854775808) (hd : Nat.blt d n = true) (k : RP tab ext n ((d, i64 (a + b)) :: E) L os Kr) : RP tab ext n E L (⟨some d, .bin .add x y, none, i, []⟩ :: os) Kr :=
  RP.pw hx hy (by simp [wrap_i64 h.1 h.2]) hd k
theorem RP.su {x y : Opd} {a b : Int} (hx : evo E x = some (i64 a)) (hy : evo E y = some (i64 b)) (h : -9223372036854775808 ≤ a - b ∧ a - b < 9223372036854775808) (hd : Nat.blt d n = true) (k : RP tab ext n ((d, i64 (a - b)) :: E) L os Kr) : RP tab ext n E L (⟨some d, .bin .sub x y, none, i, []⟩ :: os) Kr :=
  RP.pw hx hy (by simp [wrap_i64 h.1 h.2]) hd k
theorem RP.inc {x y : Opd} {a : Nat} (hx : evo E x = some (i64 a)) (hy : evo E y = some (i64 1)) (h : a < 4611686018427387904) (hd : Nat.blt d n = true) (k : RP tab ext n ((d, i64 ((a + 1 : Nat) : Int)) :: E) L os Kr) : RP tab ext n E L (⟨some d, .bin .add x y, none, i, []⟩ :: os) Kr :=
  RP.pw hx hy (by simp; rw [wrap_i64 (by omega) (by omega)]) hd k
theorem RP.dec {x y : Opd} {a : Nat} (hx : evo E x = some (i64 ((a + 1 : Nat) : Int))) (hy : evo E y = some (i64 1)) (h : a < 4611686018427387904) (hd : Nat.blt d n = true) (k : RP tab ext n ((d, i64 a) :: E) L os Kr) : RP tab ext n E L (⟨some d, .bin .sub x y, none, i, []⟩ :: os) Kr :=
  RP.pw hx hy (by simp; exact wrap_i64 (by omega) (by omega)) hd k
theorem RP.ix {α : Type} {k : Nat} {s : SV} {r : List α} {x y : Opd} {kd : IntKind} {a : Int} (hx : evo E x = some (.s s)) (hy : evo E y = some (.s (.int kd a))) (hr : RdIn L k s r) (h : 0 ≤ a ∧ a < r.length) (hd : Nat.blt d n = true) (kk : RP tab ext n ((d, .s (.ptr (some (sb s, Go.AM.ix 0 a.toNat k 0)))) :: E) L os Kr) : RP tab ext n E L (⟨some d, .indexSl k x y, none, i, []⟩ :: os) Kr :=
  RP.fact (p := indexSlA k (.s s) (.s (.int kd a)) = some (.s (.ptr (some (sb s, Go.AM.ix 0 a.toNat k 0))))) (fun ρ H X hs => by
    obtain ⟨c, e⟩ := (hr.of ρ H X hs).2 (by omega)
    rw [e]
    simp [Go.AM.sb, Go.AM.ix, h.1, h.2]) fun hp => RP.p (by simp only [pureE, hx, hy, Option.bind_some, hp]) hd kk
theorem RP.ixn {α : Type} {k : Nat} {s : SV} {r : List α} {x y : Opd} {kd : IntKind} {a : Nat} (hx : evo E x = some (.s s)) (hy : evo E y = some (.s (.int kd a))) (hr : RdIn L k s r) (h : a < r.length) (hd : Nat.blt d n = true) (kk : RP tab ext n ((d, .s (.ptr (some (sb s, Go.AM.ix 0 a k 0)))) :: E) L os Kr) : RP tab ext n E L (⟨some d, .indexSl k x y, none, i, []⟩ :: os) Kr :=
  RP.ix hx hy hr ⟨by omega, by omega⟩ hd (by simpa using kk)
theorem RP.ixs {k b o len c e : Nat} {x y : Opd} {kd : IntKind} {a : Int} (hx : evo E x = some (.s (.slice (some (b, o)) len c e))) (hy : evo E y = some (.s (.int kd a))) (h : 0 ≤ a ∧ a < (len : Int)) (hd : Nat.blt d n = true) (kk : RP tab ext n ((d, .s (.ptr (some (b, Go.AM.ix o a.toNat k 0)))) :: E) L os Kr) : RP tab ext n E L (⟨some d, .indexSl k x y, none, i, []⟩ :: os) Kr :=
  RP.p (by simp [pureE, hx, hy, h.1, h.2, Go.AM.ix]) hd kk
theorem RP.ia {k b o len : Nat} {x y : Opd} {kd : IntKind} {a : Int} (hx : evo E x = some (.s (.ptr (some (b, o))))) (hy : evo E y = some (.s (.int kd a))) (h : 0 ≤ a ∧ a < (len : Int)) (hd : Nat.blt d n = true) (kk : RP tab ext n ((d, .s (.ptr (some (b, Go.AM.ix o a.toNat k 0)))) :: E) L os Kr) : RP tab ext n E L (⟨some d, .indexArr len k x y, none, i, []⟩ :: os) Kr :=
  RP.p (by simp [pureE, hx, hy, h.1, h.2, Go.AM.ix]) hd kk
theorem RP.ian {k b o len : Nat} {x y : Opd} {kd : IntKind} {a : Nat} (hx : evo E x = some (.s (.ptr (some (b, o))))) (hy : evo E y = some (.s (.int kd a))) (h : a < len) (hd : Nat.blt d n = true) (kk : RP tab ext n ((d, .s (.ptr (some (b, Go.AM.ix o a k 0)))) :: E) L os Kr) : RP tab ext n E L (⟨some d, .indexArr len k x y, none, i, []⟩ :: os) Kr :=
  RP.ia hx hy ⟨by omega, by omega⟩ hd (by simpa using kk)
theorem RP.ixp {k b l len c e : Nat} {x y : Opd} {kd : IntKind} {a : Nat} (hx : evo E x = some (.s (.slice (some (b, l * k)) len c e))) (hy : evo E y = some (.s (.int kd a))) (h : a < len) (hd : Nat.blt d n = true) (kk : RP tab ext n ((d, .s (.ptr (some (b, Go.AM.ix 0 (l + a) k 0)))) :: E) L os Kr) : RP tab ext n E L (⟨some d, .indexSl k x y, none, i, []⟩ :: os) Kr :=
  RP.ixs hx hy ⟨by omega, by omega⟩ hd (by simpa [Go.AM.ix, Nat.add_mul] using kk)
theorem RP.pt {α : Type} {enc : α → List SV} {k : Nat} {s : SV} {r : List α} {x : Opd} {lo hi mx : Option Opd} {lo' hi' mx' : Option AV} {l h m : Nat} (hx : evo E x = some (.s s)) (hr : RowIn L enc k s r) (h0 : 0 < r.length) (h1 : evm E lo = some lo') (h2 : evm E hi = some hi') (h3 : evm E mx = some mx') (hb : r.length ≤ sc s → boundsA r.length (sc s) lo' hi' mx' = some (l, h, m)) (hd : Nat.blt d n = true)
    (kk : RP tab ext n ((d, .s (.slice (some (sb s, l * k)) (h - l) (m - l) k)) :: E) L os Kr) : RP tab ext n E L (⟨some d, .slSl k x lo hi mx, none, i, []⟩ :: os) Kr :=
  RP.fact (p := ∃ c, s = .slice (some (sb s, 0)) r.length c k ∧ c = sc s ∧ r.length ≤ c) (fun ρ H X hs => by
    obtain ⟨R', hs1⟩ := hr.of ρ H X hs
    obtain ⟨b, c, j, rfl, _, _, h5⟩ := Sat.rowBlk hs1 h0
    exact ⟨c, rfl, rfl, h5⟩) fun ⟨c, hp, hc, hcl⟩ => RP.p (v := .s (.slice (some (sb s, l * k)) (h - l) (m - l) k)) (by
      subst hc
      have hb := hb hcl
      simp only [pureE, hx, h1, h2, h3, Option.bind_some]
      rw [hp]
      simp only [slSlA, if_true]
      rw [← hp, hb]
      simp) hd kk
theorem RP.ln1 {α : Type} {k : Nat} {s : SV} {r : List α} {x : Opd} (hx : evo E x = some (.s s)) (hr : RdIn L k s r) (hd : Nat.blt d n = true) (kk : RP tab ext n ((d, i64 r.length) :: E) L os Kr) : RP tab ext n E L (⟨some d, .len x, none, i, []⟩ :: os) Kr :=
  RP.fact (p := lenA (.s s) = some (i64 r.length)) (fun ρ H X hs => (hr.of ρ H X hs).1) fun hp => RP.p (by simp only [pureE, hx, Option.bind_some, hp]) hd kk
theorem RP.fa {x : Opd} {b o off : Nat} (hx : evo E x = some (.s (.ptr (some (b, o))))) (hd : Nat.blt d n = true) (kk : RP tab ext n ((d, .s (.ptr (some (b, o + off)))) :: E) L os Kr) : RP tab ext n E L (⟨some d, .fieldAddr off x, none, i, []⟩ :: os) Kr :=
  RP.p (by simp [pureE, hx]) hd kk
theorem RP.fx {x : Opd} {b c a k d1 off : Nat} (hx : evo E x = some (.s (.ptr (some (b, Go.AM.ix c a k d1))))) (hd : Nat.blt d n = true) (kk : RP tab ext n ((d, .s (.ptr (some (b, Go.AM.ix c a k (d1 + off))))) :: E) L os Kr) : RP tab ext n E L (⟨some d, .fieldAddr off x, none, i, []⟩ :: os) Kr :=
  RP.p (by simp [pureE, hx, Nat.add_assoc, Go.AM.ix]) hd kk
theorem RP.cl {esz : Nat} {z : List SV} {x : Opd} {xv : AV} {L' : List Asr} (hx : evo E x = some xv)
    (h : ∀ (ρ : HF) (H : AH) (X : List Asr), Sat ρ H (L ++ X) → ∃ H', clearA esz z xv H = some H' ∧ Sat ρ H' (L' ++ X))
    (k : WK tab ext n ws E E L' os Kr) : RP tab ext n E L (⟨none, .clear esz z x, none, i, ws⟩ :: os) Kr :=
  RP.gen rfl fun ρ Rs base T H hT hl hq => by
    obtain ⟨H', h1, h2⟩ := h ρ H _ hq.drop.mid
    refine ⟨_, by rw [evo_ok hl hx]; exact h1, _, L', k, hl, h2.mid⟩
theorem RP.cy {esz : Nat} {s x : Opd} {sv xv : AV} {dst : Option Nat} {v' : AV} {L' : List Asr} {E' : Env} (hs : evo E s = some sv) (hx : evo E x = some xv)
    (h : ∀ (ρ : HF) (H : AH) (X : List Asr), Sat ρ H (L ++ X) → ∃ H', copyA esz sv xv H = some (v', H') ∧ Sat ρ H' (L' ++ X)) (he : ∀ T : List AV, T.length = n → LvE T E → LvE (put T dst v') E')
    (k : WK tab ext n ws E E' L' os Kr) : RP tab ext n E L (⟨dst, .copy esz s x, none, i, ws⟩ :: os) Kr :=
  RP.gen rfl fun ρ Rs base T H hT hl hq => by
    obtain ⟨H', h1, h2⟩ := h ρ H _ hq.drop.mid
    refine ⟨_, by rw [evo_ok hl hs, evo_ok hl hx]; exact h1, _, L', k, he T hT hl, h2.mid⟩
theorem is_rp {ops : List ROper} (h : RP tab ext n E L ops Kr) : RP tab ext n E L ops Kr := h
theorem is_tc {c : RC} (h : TC tab ext n E L c K) : TC tab ext n E L c K := h
theorem is_l {dst : Option Nat} {m : Option Nat} {a : Opd} (h : RP tab ext n E L (⟨dst, .load m a, none, i, ws⟩ :: os) Kr) : RP tab ext n E L (⟨dst, .load m a, none, i, ws⟩ :: os) Kr := h
theorem is_b {dst : Option Nat} {op : BinOp} {x y : Opd} (h : RP tab ext n E L (⟨dst, .bin op x y, none, i, ws⟩ :: os) Kr) : RP tab ext n E L (⟨dst, .bin op x y, none, i, ws⟩ :: os) Kr := h
theorem is_x {dst : Option Nat} {k : Nat} {x y : Opd} (h : RP tab ext n E L (⟨dst, .indexSl k x y, none, i, ws⟩ :: os) Kr) : RP tab ext n E L (⟨dst, .indexSl k x y, none, i, ws⟩ :: os) Kr := h
theorem is_s {dst : Option Nat} {k : Nat} {x y : Opd} (h : RP tab ext n E L (⟨dst, .store k x y, none, i, ws⟩ :: os) Kr) : RP tab ext n E L (⟨dst, .store k x y, none, i, ws⟩ :: os) Kr := h
def okIdx (k : Nat) : List ROper → Bool
  | [] => true
  | o :: os => Nat.blt o.idx k && (os.all fun p => !(Nat.beq p.idx o.idx)) && okIdx k os
theorem okIdx_ok {k : Nat} : ∀ {ops : List ROper}, okIdx k ops = true → (ops.map (·.idx)).Nodup ∧ ∀ i ∈ ops.map (·.idx), i < k
  | [], _ => ⟨List.nodup_nil, by simp⟩
  | o :: os, h => by
    simp only [okIdx, Bool.and_eq_true, List.all_eq_true, Bool.not_eq_true', Nat.blt_eq] at h
    obtain ⟨⟨h1, h2⟩, h3⟩ := h
    obtain ⟨g1, g2⟩ := okIdx_ok h3
    refine ⟨?_, ?_⟩
    · rw [List.map_cons, List.nodup_cons]
      refine ⟨?_, g1⟩
      intro hm
      obtain ⟨p, hp, he⟩ := List.mem_map.1 hm
      have := h2 p hp
      rw [he, Nat.beq_refl] at this; cases this
    · intro i hi
      rw [List.map_cons] at hi
      rcases List.mem_cons.1 hi with rfl | hi
      · exact h1
      · exact g2 i hi
theorem TC.reg {k : Nat} {ops : List ROper} (hk : okIdx k ops = true) (h : RP tab ext n E L ops (K .norm)) : TC tab ext n E L (.region k ops) K := by
  intro ρ Rs T H hT hl hs
  obtain ⟨h1, h2⟩ := okIdx_ok hk
  have h3 := Sat.frees hs k (ops.map (·.idx)) h2 h1
  rw [List.map_map] at h3
  exact h ρ Rs H.next T (H.bump k) hT hl h3
theorem TC.seq {a b : RC} (h : TC tab ext n E L a (sq tab ext n b K)) : TC tab ext n E L (.seq a b) K := by
  intro ρ Rs T H hT hl hs
  show wpC tab ext a T H _
  refine wpC_mono ?_ (h ρ Rs T H hT hl hs)
  rintro e T' H' ⟨E', L', h1, h2, h3, h4⟩
  cases e with
  | norm => exact h1 ρ Rs T' H' h2 h3 h4
  | ret => exact ⟨E', L', h1, h2, h3, h4⟩
  | out id => exact ⟨E', L', h1, h2, h3, h4⟩
theorem TC.blk {id : Nat} {a : RC} (h : TC tab ext n E L a (bk id K)) : TC tab ext n E L (.block id a) K := by
  intro ρ Rs T H hT hl hs
  show wpC tab ext a T H _
  refine wpC_mono ?_ (h ρ Rs T H hT hl hs)
  rintro e T' H' ⟨E', L', h1, h2, h3, h4⟩
  cases e with
  | norm => exact ⟨E', L', h1, h2, h3, h4⟩
  | ret => exact ⟨E', L', h1, h2, h3, h4⟩
  | out i =>
    simp only [bk] at h1
    simp only [blockK]
    by_cases e : i = id
    · subst e; rw [if_pos rfl]; rw [Nat.beq_refl, cond_true] at h1; exact ⟨E', L', h1, h2, h3, h4⟩
    · rw [if_neg e]
      have : Nat.beq i id = false := by cases hb : Nat.beq i id with
        | false => rfl
        | true => exact absurd (Nat.eq_of_beq_eq_true hb) e
      rw [this, cond_false] at h1; exact ⟨E', L', h1, h2, h3, h4⟩
theorem TC.skip (h : K .norm E L) : TC tab ext n E L .skip K := fun _ _ _ _ hT hl hs => ⟨E, L, h, hT, hl, hs⟩
theorem TC.ret (h : K .ret E L) : TC tab ext n E L .ret K := fun _ _ _ _ hT hl hs => ⟨E, L, h, hT, hl, hs⟩
theorem TC.exit {id : Nat} (h : K (.out id) E L) : TC tab ext n E L (.exit id) K := fun _ _ _ _ hT hl hs => ⟨E, L, h, hT, hl, hs⟩
theorem TC.cT {c : Opd} {a b : RC} (hc : evo E c = some (.s (.bool true))) (h : TC tab ext n E L a K) : TC tab ext n E L (.cond c a b) K := fun ρ Rs T H hT hl hs => by
  simp only [wpC, evo_ok hl hc]; exact h ρ Rs T H hT hl hs
theorem TC.cF {c : Opd} {a b : RC} (hc : evo E c = some (.s (.bool false))) (h : TC tab ext n E L b K) : TC tab ext n E L (.cond c a b) K := fun ρ Rs T H hT hl hs => by
  simp only [wpC, evo_ok hl hc]; exact h ρ Rs T H hT hl hs
theorem TC.cP {c : Opd} {a b : RC} {p : Prop} [Decidable p] (hc : evo E c = some (.s (.bool (decide p)))) (h1 : p → TC tab ext n E L a K) (h2 : ¬ p → TC tab ext n E L b K) : TC tab ext n E L (.cond c a b) K := fun ρ Rs T H hT hl hs => by
  simp only [wpC, evo_ok hl hc]
  by_cases hp : p
  · rw [decide_eq_true hp]; exact h1 hp ρ Rs T H hT hl hs
  · rw [decide_eq_false hp]; exact h2 hp ρ Rs T H hT hl hs
theorem TC.fact {c : RC} {p : Prop} (h : ∀ (ρ : HF) (H : AH) (R : List Asr), Sat ρ H (L ++ R) → p) (k : p → TC tab ext n E L c K) : TC tab ext n E L c K :=
  fun ρ Rs T H hT hl hs => k (h ρ H _ hs) ρ Rs T H hT hl hs
theorem TC.imp {c : RC} {α : Type} {L' : α → List Asr} (h : ∀ (ρ : HF) (H : AH) (R : List Asr), Sat ρ H (L ++ R) → ∃ a, Sat ρ H (L' a ++ R)) (k : ∀ a, TC tab ext n E (L' a) c K) : TC tab ext n E L c K :=
  fun ρ Rs T H hT hl hs => let ⟨a, h1⟩ := h ρ H _ hs; k a ρ Rs T H hT hl h1
theorem TC.ent {c : RC} {L' : List Asr} (h : LEnt L L') (k : TC tab ext n E L' c K) : TC tab ext n E L c K :=
  fun ρ Rs T H hT hl hs => k ρ Rs T H hT hl (h ρ H _ hs)
theorem TC.env {c : RC} {E' : Env} (h : ELe E' E) (k : TC tab ext n E' L c K) : TC tab ext n E L c K :=
  fun ρ Rs T H hT hl hs => k ρ Rs T H hT (h.lv hl) hs
theorem TC.mono {c : RC} {K' : Pst} (h : TC tab ext n E L c K) (hk : ∀ e E L, K e E L → K' e E L) : TC tab ext n E L c K' := fun ρ Rs T H hT hl hs =>
  wpC_mono (fun _ _ _ ⟨E', L', h1, h2⟩ => ⟨E', L', hk _ _ _ h1, h2⟩) (h ρ Rs T H hT hl hs)
theorem TC.loop {c : RC} {α : Type} (m : α → Nat) (I : α → Prop) (Ei : α → Env) (Li : α → List Asr) (a0 : α) (h0 : I a0) (hE : ELe (Ei a0) E) (hL : LEnt L (Li a0)) (step : ∀ a, I a → TC tab ext n (Ei a) (Li a) c (lpK m I Ei Li a K)) : TC tab ext n E L (.loop c) K := by
  intro ρ Rs T H hT hl hs
  refine loopP_inv (I := fun k T H => T.length = n ∧ ∃ a, I a ∧ m a = k ∧ LvE T (Ei a) ∧ Sat ρ H (Li a ++ Rs)) ?_ (m a0) T H ⟨hT, a0, h0, rfl, hE.lv hl, hL _ _ _ hs⟩
  rintro k T H ⟨hT, a, hI, rfl, hl, hs⟩
  refine wpC_mono ?_ (step a hI ρ Rs T H hT hl hs)
  rintro e T' H' ⟨E', L', h1, h2, h3, h4⟩
  cases e with
  | norm =>
    obtain ⟨a', g0, g1, g2, g3⟩ := h1
    exact ⟨m a', g1, h2, a', g0, rfl, g2.lv h3, g3 _ _ _ h4⟩
  | ret => exact ⟨E', L', h1, h2, h3, h4⟩
  | out id => exact ⟨E', L', h1, h2, h3, h4⟩
theorem TC.mid {α : Type} (I : α → Prop) (Ei : α → Env) (Li : α → List Asr) {c b : RC} (h : TC tab ext n E L c (mdx I Ei Li K)) (k : ∀ p, I p → TC tab ext n (Ei p) (Li p) b K) : TC tab ext n E L c (sq tab ext n b K) :=
  h.mono fun e E' L' hk => by
    cases e with
    | norm => obtain ⟨p, h1, h2, h3⟩ := hk; exact TC.env h2 (TC.ent h3 (k p h1))
    | ret => exact hk
    | out i => exact hk
section
variable {α : Type} {I : α → Prop} {Ei : α → Env} {Li : α → List Asr}
theorem md_r (h : K .ret E L) : mdx I Ei Li K .ret E L := h
theorem md_o {i : Nat} (h : K (.out i) E L) : mdx I Ei Li K (.out i) E L := h
end
theorem sq_n {b : RC} (h : TC tab ext n E L b K) : sq tab ext n b K .norm E L := h
theorem sq_r {b : RC} (h : K .ret E L) : sq tab ext n b K .ret E L := h
theorem sq_o {b : RC} {i : Nat} (h : K (.out i) E L) : sq tab ext n b K (.out i) E L := h
theorem bk_n {id : Nat} (h : K .norm E L) : bk id K .norm E L := h
theorem bk_r {id : Nat} (h : K .ret E L) : bk id K .ret E L := h
theorem bk_e {id : Nat} (h : K .norm E L) : bk id K (.out id) E L := by simp only [bk]; rw [Nat.beq_refl, cond_true]; exact h
theorem bk_o {id i : Nat} (hi : Nat.beq i id = false) (h : K (.out i) E L) : bk id K (.out i) E L := by simp only [bk]; rw [hi, cond_false]; exact h
section
variable {α : Type} {m : α → Nat} {I : α → Prop} {Ei : α → Env} {Li : α → List Asr} {a : α}
theorem lp_r (h : K .ret E L) : lpK m I Ei Li a K .ret E L := h
theorem lp_o {i : Nat} (h : K (.out i) E L) : lpK m I Ei Li a K (.out i) E L := h
theorem lp_n (a' : α) (h0 : I a') (h1 : m a' < m a) (h2 : ELe (Ei a') E) (h3 : LEnt L (Li a')) : lpK m I Ei Li a K .norm E L := ⟨a', h0, h1, h2, h3⟩
end
theorem rt_r {rs : List RRes} {Q : AV → List Asr → Prop} {v : AV} {P' : List Asr} (h1 : resE E L rs v) (h2 : Q v P') (h3 : LEnt L P') : rt rs Q .ret E L := ⟨v, P', h1, h2, h3⟩
def env0 : Nat → List AV → Env
  | _, [] => []
  | i, v :: vs => (i, v) :: env0 (i + 1) vs
theorem env0_lv : ∀ (vs : List AV) (i : Nat) (T : List AV), (∀ j v, vs[j]? = some v → sl T (i + j) = v) → LvE T (env0 i vs)
  | [], i, T, _ => fun j v h => by simp [env0, look] at h
  | v :: vs, i, T, h => fun j u hu => by
    simp only [env0, look] at hu
    cases hb : Nat.beq i j with
    | true =>
      rw [hb, cond_true] at hu
      cases hu
      have := Nat.eq_of_beq_eq_true hb
      subst this
      simpa using h 0 v (by simp)
    | false =>
      rw [hb, cond_false] at hu
      exact env0_lv vs (i + 1) T (fun k w hw => by rw [show i + 1 + k = i + (k + 1) by omega]; exact h (k + 1) w (by simpa using hw)) j u hu
theorem resE_ok {ρ : HF} {H : AH} {R : List Asr} {T : List AV} (hl : LvE T E) (hs : Sat ρ H (L ++ R)) {rs : List RRes} {v : AV} (h : resE E L rs v) : resA rs T H = some v := by
  have one : ∀ {t : Nat} {u : AV}, look E t = some u → T.getD t undef = u := fun h => hl _ _ h
  have many : ∀ {rs : List RRes} {ps : List Part}, resE.resL E L rs ps → ∃ vs, rs.mapM (resA1 T H) = some vs ∧ partsA vs = some ps := by
    intro rs
    induction rs with
    | nil => intro ps h; cases ps with
      | nil => exact ⟨[], rfl, rfl⟩
      | cons => simp [resE.resL] at h
    | cons r rs ih =>
      intro ps h
      cases ps with
      | nil => cases r <;> simp [resE.resL] at h
      | cons p ps =>
        cases r with
        | tmp t =>
          obtain ⟨h1, h2⟩ := h
          obtain ⟨vs, g1, g2⟩ := ih h2
          have e0 : resA1 T H (.tmp t) = some p.av := congrArg some (one h1)
          refine ⟨p.av :: vs, by simp [List.mapM_cons, e0, g1], ?_⟩
          simp only [partsA, g2]
          cases p <;> rfl
        | cell t m =>
          obtain ⟨⟨b, o, h1, h3⟩, h2⟩ := h
          obtain ⟨vs, g1, g2⟩ := ih h2
          have : resA1 T H (.cell t m) = some p.av := by
            simp only [resA1, one h1]
            rcases h3 with ⟨rfl, x, rfl, h4⟩ | ⟨k, l, rfl, rfl, h4⟩
            · show (H.ld b o).map AV.s = _; rw [h4.of ρ H R hs]; rfl
            · show (H.ldn b o k).map AV.agg = _; rw [h4.of ρ H R hs]; rfl
          refine ⟨p.av :: vs, by simp [List.mapM_cons, this, g1], ?_⟩
          simp only [partsA, g2]
          cases p <;> rfl
  unfold resE at h
  unfold resA
  split at h
  · exact congrArg some (one h)
  · obtain ⟨b, o, h1, h3⟩ := h
    simp only [resA1, one h1]
    rcases h3 with ⟨rfl, x, rfl, h4⟩ | ⟨k, l, rfl, rfl, h4⟩
    · show (H.ld b o).map AV.s = _; rw [h4.of ρ H R hs]; rfl
    · show (H.ldn b o k).map AV.agg = _; rw [h4.of ρ H R hs]; rfl
  · rename_i h1 h2
    obtain ⟨ps, rfl, h3⟩ := h
    obtain ⟨vs, g1, g2⟩ := many h3
    split
    · rename_i r
      cases r with
      | tmp t => exact absurd rfl (h1 t)
      | cell t m => exact absurd rfl (h2 t m)
    · simp [g1, g2]
theorem Tri.go {f : Nat} {rf : RFunc} {args : List AV} {P : List Asr} {Q : AV → List Asr → Prop} (hf : tab f = some rf) (ha : Nat.ble args.length rf.ntmps = true) (h : TC tab ext rf.ntmps (env0 0 args) P rf.body (rt rf.results Q)) : Tri tab ext f args P Q := by
  intro ρ H R hs
  refine CallP_of hf (wpC_mono ?_ (h ρ R _ H ?_ (env0_lv args 0 _ fun j v hv => ?_) hs))
  · rintro e T' H' ⟨E', L', h1, h2, h3, h4⟩
    have key : (∃ v P', resE E' L' rf.results v ∧ Q v P' ∧ LEnt L' P') → andThen (resA rf.results T' H') fun v => ∃ P', Q v P' ∧ Sat ρ H' (P' ++ R) := by
      rintro ⟨v, P', g1, g2, g3⟩
      exact ⟨v, resE_ok h3 h4 g1, P', g2, g3 _ _ _ h4⟩
    cases e with
    | norm => exact key h1
    | ret => exact key h1
    | out id => exact h1.elim
  · simp; have := Nat.le_of_ble_eq_true ha; omega
  · have hj := (List.getElem?_eq_some_iff.1 hv).1
    simp only [sl, Nat.zero_add, List.getD_eq_getElem?_getD]
    rw [List.getElem?_append_left hj, hv]; rfl
end
end Go.AM

/-
  WALKS: rows of rows; rows that are copied, clipped, cut.
-/
namespace Go.AM
def ArgS (a : Ty) (xs : List a.den) (s : SV) : Asr := ⟨fun ρ _ S => S = [] ∧ At ρ (.slice a) xs [s], fun _ h => h⟩
theorem Sat.arg {ρ : HF} {H : AH} {R : List Asr} {a : Ty} {xs : List a.den} {s : SV} (h : Sat ρ H (ArgS a xs s :: R)) : At ρ (.slice a) xs [s] := by
  obtain ⟨_, S, h1, _⟩ := h
  obtain ⟨S1, S2, rfl, ⟨_, k⟩, _⟩ := SatL.cons_inv h1
  exact k
theorem RdIn.a {a : Ty} {xs : List a.den} {s : SV} {L : List Asr} : RdIn (ArgS a xs s :: L) a.size s xs := ⟨fun ρ H R hs => by
  have h := Sat.arg hs
  refine ⟨At.slLen h, fun h0 => ?_⟩
  obtain ⟨b, c, l, x, li, rfl, _⟩ := At.slGet h h0
  exact ⟨c, rfl⟩⟩
theorem Ld.g {kd : IntKind} {xs : List (Ty.int kd).den} {s : SV} {L : List Asr} {i : Nat} {x : Int} (hx : xs[i]? = some x) : Ld (ArgS (.int kd) xs s :: L) (sb s) (ix 0 i 1 0) (.int kd x) := ⟨fun ρ H R hs => by
  have h := Sat.arg hs
  have hlt := (List.getElem?_eq_some_iff.1 hx).1
  obtain ⟨b, c, l, y, li, rfl, hb, h1, h2, h3, h4⟩ := At.slGet h hlt
  have hy : y = x := by rw [hx] at h1; cases h1; rfl
  subst hy
  have hb' := hs.roOf b l hb
  obtain ⟨rfl, _⟩ := h2
  show H.ld b _ = _
  rw [ld_of H hb', ix]
  have := congrArg (fun l => l[0]?) h3
  simpa [Ty.size] using this⟩
def encI (x : Int) : List SV := [.int .i64 x]
def rowsL (rs : List SV) (rows : List (List Int)) : List Asr := List.zipWith (Row encI 1) rs rows
def RowsA (rs : List SV) (rows : List (List Int)) : Asr := Asr.all (rowsL rs rows)
def RowsBut (i : Nat) (rs : List SV) (rows : List (List Int)) : Asr := Asr.all ((rowsL rs rows).eraseIdx i)
section
variable {tab : Nat → Option RFunc} {ext : Nat → List AV → AH → Option (AV × AH)} {α : Type} {enc : α → List SV} {k : Nat}
theorem row_cases {s : SV} {r : List α} {L R : List Asr} (hin : In1 (Row enc k s r) L R) : ∀ (ρ : HF) (H : AH) (X : List Asr), Sat ρ H (L ++ X) → (∃ e, s = .slice none 0 0 e ∧ r = [] ∧ Sat ρ H (R ++ X)) ∨ ∃ b c j, s = .slice (some (b, 0)) r.length c k ∧ Sat ρ H ((Cel b (flat enc r ++ j) :: R) ++ X) ∧ c * k ≤ (flat enc r ++ j).length ∧ r.length ≤ c := by
  intro ρ H X hs
  exact Sat.rowInv (R := R ++ X) (hs.perm (hin.perm.append_right X))
theorem TC.rw {n : Nat} {E : Env} {K : Pst} {c : RC} {s : SV} {r : List α} {L R : List Asr} (hin : In1 (Row enc k s r) L R) (h0 : ∀ e, s = .slice none 0 0 e → r = [] → TC tab ext n E R c K)
    (h1 : ∀ (b cp : Nat) (j : List SV), s = .slice (some (b, 0)) r.length cp k → cp * k ≤ (flat enc r ++ j).length → r.length ≤ cp → TC tab ext n E (Cel b (flat enc r ++ j) :: R) c K) : TC tab ext n E L c K := by
  intro ρ Rs T H hT hl hs
  rcases row_cases hin ρ H Rs hs with ⟨e, h2, h3, h4⟩ | ⟨b, cp, j, h2, h3, h4, h5⟩
  · exact h0 e h2 h3 ρ Rs T H hT hl h4
  · exact h1 b cp j h2 h4 h5 ρ Rs T H hT hl h3
theorem RP.rw {n : Nat} {E : Env} {os : List ROper} {K : Env → List Asr → Prop} {s : SV} {r : List α} {L R : List Asr} (hin : In1 (Row enc k s r) L R) (h0 : ∀ e, s = .slice none 0 0 e → r = [] → RP tab ext n E R os K)
    (h1 : ∀ (b cp : Nat) (j : List SV), s = .slice (some (b, 0)) r.length cp k → cp * k ≤ (flat enc r ++ j).length → r.length ≤ cp → RP tab ext n E (Cel b (flat enc r ++ j) :: R) os K) : RP tab ext n E L os K := by
  intro ρ Rs base T H hT hl hs
  rcases row_cases hin ρ H (fres base os ++ Rs) hs.mid with ⟨e, h2, h3, h4⟩ | ⟨b, cp, j, h2, h3, h4, h5⟩
  · exact h0 e h2 h3 ρ Rs base T H hT hl h4.mid
  · exact h1 b cp j h2 h4 h5 ρ Rs base T H hT hl h3.mid
theorem RP.sc {n d i : Nat} {E : Env} {L : List Asr} {os : List ROper} {K : Env → List Asr → Prop} {x : Opd} {lo hi mx : Option Opd} {lo' hi' mx' : Option AV} {b o len cap l h m : Nat} (hx : evo E x = some (.s (.slice (some (b, o)) len cap k))) (h1 : evm E lo = some lo') (h2 : evm E hi = some hi') (h3 : evm E mx = some mx') (hb : boundsA len cap lo' hi' mx' = some (l, h, m)) (hd : Nat.blt d n = true)
    (kk : RP tab ext n ((d, .s (.slice (some (b, o + l * k)) (h - l) (m - l) k)) :: E) L os K) : RP tab ext n E L (⟨some d, .slSl k x lo hi mx, none, i, []⟩ :: os) K :=
  RP.p (by simp [pureE, hx, h1, h2, h3, slSlA, hb]) hd kk
end
structure Hid (P : Prop) : Prop where
  h : P
theorem RUN {P Q : Prop} (h : P) (hf : Hid P → Q := by intro hp; (repeat (first | (refine is_rp ?_; first | refine RP.fx rfl rfl ?_ | refine RP.p rfl rfl ?_ | refine RP.done ?_ | (refine is_l ?_; first | refine RP.l rfl (by ((repeat (first | exact Ld.c rfl | exact Ld.r rfl | exact Ld.g (by assumption) | exact Ld.w (fun _ => by rfl) (by assumption) (by rfl) | exact Ld.a (by rfl) (fun _ => by rfl) (by assumption) (by rfl) | apply Ld.n)); fail_if_success refine ?_)) rfl ?_ | refine RP.ln rfl (by ((repeat (first | exact Ldn.cb (by rfl) rfl | exact Ldn.rb (by rfl) rfl | exact Ldn.w (fun _ => by rfl) (by assumption) | apply Ldn.n)); fail_if_success refine ?_)) rfl ?_) | refine RP.gt rfl ?_ | refine RP.gf rfl ?_ | refine RP.gu rfl ?_ | (refine is_b ?_; first | refine RP.inc rfl rfl (by omega) rfl ?_ | refine RP.ad rfl rfl (by omega) rfl ?_ | refine RP.dec rfl rfl (by omega) rfl ?_ | refine RP.su rfl rfl (by omega) rfl ?_) | (refine is_x ?_; first | refine RP.ixn rfl rfl (by ((repeat (first | exact RdIn.h | exact RdIn.a | apply RdIn.n)); fail_if_success refine ?_)) (by omega) rfl ?_ | refine RP.ix rfl rfl (by ((repeat (first | exact RdIn.h | exact RdIn.a | apply RdIn.n)); fail_if_success refine ?_)) (by omega) rfl ?_ | refine RP.ixp rfl rfl (by omega) rfl ?_ | refine RP.ixs rfl rfl (by omega) rfl ?_) | refine RP.ian rfl rfl (by omega) rfl ?_ | refine RP.ia rfl rfl (by omega) rfl ?_ | refine RP.ln1 rfl (by ((repeat (first | exact RdIn.h | exact RdIn.a | apply RdIn.n)); fail_if_success refine ?_)) rfl ?_ | (refine is_s ?_; refine RP.s rfl rfl rfl rfl (by ((repeat (first | exact Stw.c1 (by rfl) rfl | exact Stw.cb (by rfl) rfl | apply Stw.n)); fail_if_success refine ?_)) ?_) | refine RP.pn rfl ?_) | refine sq_n ?_ | (refine is_tc ?_; first | refine TC.seq ?_ | refine TC.reg (by kernel_rfl) ?_ | refine TC.cT rfl ?_ | refine TC.cF rfl ?_ | refine TC.blk ?_ | refine TC.skip ?_ | refine TC.ret ?_ | refine TC.exit ?_) | refine WK.z ?_ | refine sq_r ?_ | refine sq_o ?_ | refine bk_n ?_ | refine bk_r ?_ | refine bk_e ?_ | refine bk_o rfl ?_ | refine lp_r ?_ | refine lp_o ?_ | refine md_r ?_ | refine md_o ?_)); exact hp.h) : Q := hf ⟨h⟩
end Go.AM

/-
  Small heaps in walks.
-/
namespace Go.AM
abbrev BL := List (Nat × Blk)
def lkB : BL → Nat → Option Blk
  | [], _ => none
  | (k, x) :: l, b => if b = k then some x else lkB l b
def ImgB (π : Nat → Nat) (B : BL) : Asr := Img π (lkB B) (B.map (·.1))
noncomputable def evL (ρ : Nat → Int) (St : XL) : BL := St.map fun e => (e.1, e.2.ev ρ)
theorem lkB_ev (ρ : Nat → Int) : ∀ (St : XL) (b : Nat), lkB (evL ρ St) b = (lkX St b).map (XBlk.ev ρ)
  | [], _ => rfl
  | (k, x) :: l, b => by
    have ih := lkB_ev ρ l b
    show (if b = k then some (x.ev ρ) else lkB (evL ρ l) b) = (cond (Nat.beq b k) (some x) (lkX l b)).map _
    by_cases e : b = k
    · rw [if_pos e, beq_tt e]; rfl
    · rw [if_neg e, beq_ff e, ih]; rfl
theorem ImgX_B (π : Nat → Nat) (St : XL) (ρ : Nat → Int) : ImgX π St ρ = ImgB π (evL ρ St) := by
  unfold ImgX ImgB
  have e : (evL ρ St).map (·.1) = St.map (·.1) := by unfold evL; rw [List.map_map]; rfl
  rw [e]
  exact Img.congr fun b _ => (lkB_ev ρ St b).symm
def GXz : XL := [(0, .cells true tzX)]
noncomputable abbrev GZ : Asr := Glb (gOf GXz)
theorem tab_nn : TabNN 1 tab := by
  have h : tabL.all (fun o => match o with | none => true | some rf => rf.body.nn 1) = true := by kernel_rfl
  intro f rf hf
  have hf : (tabL[f]?).join = some rf := hf
  cases hx : tabL[f]? with
  | none => rw [hx] at hf; cases hf
  | some o =>
    rw [hx] at hf
    have hf : o = some rf := hf
    subst hf
    exact List.all_eq_true.1 h _ (List.mem_of_getElem? hx)
theorem Tri.re {f : Nat} {args args' : List AV} {P P' : List Asr} {Q Q' : AV → List Asr → Prop} (h : Tri tab noExt f args P Q) (ha : args = args') (hP : P = P') (hQ : ∀ v L, Q v L → Q' v L) : Tri tab noExt f args' P' Q' := by
  subst ha; subst hP
  exact fun ρ H R hs => (h ρ H R hs).mono fun v H' ⟨L, h1, h2⟩ => ⟨L, hQ v L h1, h2⟩
theorem sxz {n0 fuel f : Nat} {xs : List XAV} {St es : XL} {keep : List Nat} {s : List (Nat × Nat)} {v2 : XAV} {facts : List Fact}
    (hs : (startOk 1 n0 GXz St keep xs && (trL (GXz ++ St)).isSome && nodupN (es.map (·.1))) = true)
    (hrun : runX tab fuel f xs ⟨heapX GXz St, n0, facts, 0, 0⟩ (isoK 1 keep es s v2) = true) {ρ : Nat → Int} (hρ : FactsOk ρ facts) {π : Nat → Nat} (hπ : π 0 = 0) :
    Tri tab noExt f ((xs.map (XAV.ev ρ)).map (AV.ren π)) [GZ, ImgB π (evL ρ St)] fun v P' => ∃ π', (∀ b ∈ keep, π' b = π b) ∧ π' 0 = 0 ∧ v = (v2.ev ρ).ren π' ∧ P' = [GZ, ImgB π' (evL ρ es)] := by
  have h := sx_tri tab_nn tab_wf hs hrun hρ (π := π) (fun b hb => by
    have e : b = 0 := by omega
    rw [e]; exact hπ)
  rw [ImgX_B] at h
  intro ρ' H R hs'
  refine (h ρ' H R hs').mono fun v H' ⟨P', ⟨π', h1, h2, h3, h4⟩, h5⟩ => ⟨P', ⟨π', h1, h2 0 (by decide), h3, ?_⟩, h5⟩
  rw [← ImgX_B]; exact h4
section
variable {ρ : HF} {H : AH} {R : List Asr} {π : Nat → Nat}
theorem Sat.imgNil (h : Sat ρ H R) : Sat ρ H (ImgB π [] :: R) := by
  obtain ⟨hw, S, h1, h2⟩ := h
  exact ⟨hw, _, .cons (A := ImgB π []) (S := []) ⟨rfl, List.nodup_nil, fun b hb => nomatch hb⟩ h1 (by simp), h2⟩
theorem lkB_ne {n : Nat} {x : Blk} {B : BL} {b : Nat} (hn : n ∉ B.map (·.1)) (hb : b ∈ B.map (·.1)) : lkB ((n, x) :: B) b = lkB B b := by
  show (if b = n then some x else lkB B b) = _
  rw [if_neg]
  rintro rfl
  exact hn hb
theorem Sat.imgOut {n : Nat} {l : List SV} {B : BL} (hn : n ∉ B.map (·.1)) (h : Sat ρ H (ImgB π ((n, .cells false l) :: B) :: R)) : Sat ρ H (Cel (π n) (renL π l) :: ImgB π B :: R) := by
  obtain ⟨hw, S, h1, h2⟩ := h
  obtain ⟨S1, S2, rfl, ⟨rfl, hnd, hal⟩, k2, k3⟩ := SatL.cons_inv h1
  obtain ⟨q1, q2⟩ := List.nodup_cons.1 (show (π n :: (B.map (·.1)).map π).Nodup from hnd)
  have hal : ∀ b ∈ n :: B.map (·.1), ∃ x, lkB ((n, .cells false l) :: B) b = some x ∧ H.blk (π b) = some (x.ren π) := hal
  have k3 : ∀ b ∈ π n :: (B.map (·.1)).map π, b ∉ S2 := k3
  have h2 : ∀ b ∈ (π n :: (B.map (·.1)).map π) ++ S2, b < H.next := h2
  refine ⟨hw, [π n] ++ ((B.map (·.1)).map π ++ S2), .cons (A := Cel (π n) (renL π l)) ⟨rfl, ?_⟩ (.cons (A := ImgB π B) ⟨rfl, q2, fun b hb => ?_⟩ k2 fun b hb => k3 b (List.mem_cons_of_mem _ hb)) ?_, fun b hb => h2 b ?_⟩
  · obtain ⟨x, e1, e2⟩ := hal n List.mem_cons_self
    have e1 : (if n = n then some (Blk.cells false l) else lkB B n) = some x := e1
    rw [if_pos rfl] at e1
    cases e1
    exact e2
  · obtain ⟨x, e1, e2⟩ := hal b (List.mem_cons_of_mem _ hb)
    rw [lkB_ne hn hb] at e1
    exact ⟨x, e1, e2⟩
  · intro b hb hc
    obtain rfl : b = π n := by simpa using hb
    rcases List.mem_append.1 hc with hc | hc
    · exact q1 hc
    · exact k3 _ List.mem_cons_self hc
  · simpa using hb
theorem Sat.imgIn {n : Nat} {l : List SV} {B : BL} (hn : n ∉ B.map (·.1)) (h : Sat ρ H (Cel (π n) (renL π l) :: ImgB π B :: R)) : Sat ρ H (ImgB π ((n, .cells false l) :: B) :: R) := by
  obtain ⟨hw, S, h1, h2⟩ := h
  obtain ⟨S1, S2, rfl, ⟨rfl, e0⟩, k2, k3⟩ := SatL.cons_inv h1
  obtain ⟨S3, S4, rfl, ⟨rfl, hnd, hal⟩, k5, k6⟩ := SatL.cons_inv k2
  have k7 := k3 (π n) (by simp)
  rw [List.mem_append, not_or] at k7
  refine ⟨hw, (π n :: (B.map (·.1)).map π) ++ S4, .cons (A := ImgB π ((n, .cells false l) :: B)) ⟨rfl, List.nodup_cons.2 ⟨k7.1, hnd⟩, fun b hb => ?_⟩ k5 fun b hb => ?_, fun b hb => h2 b ?_⟩
  · rcases List.mem_cons.1 hb with rfl | hb
    · exact ⟨_, if_pos rfl, e0⟩
    · obtain ⟨x, e1, e2⟩ := hal b hb
      exact ⟨x, by rw [lkB_ne hn hb]; exact e1, e2⟩
  · rcases List.mem_cons.1 hb with rfl | hb
    · exact k7.2
    · exact k6 b hb
  · simpa using hb
end
theorem LEnt.img1 {π : Nat → Nat} {n : Nat} {l : List SV} {L : List Asr} : LEnt (Cel (π n) (renL π l) :: L) (ImgB π [(n, .cells false l)] :: L) := fun _ _ _ hs => Sat.imgIn (by simp) ((Sat.imgNil (π := π) hs).perm (List.Perm.swap _ _ _))
theorem LEnt.out1 {π : Nat → Nat} {n : Nat} {l : List SV} {L : List Asr} : LEnt (ImgB π [(n, .cells false l)] :: L) (Cel (π n) (renL π l) :: L) := fun _ _ _ hs => ((Sat.imgOut (by simp) hs).perm (List.Perm.swap _ _ _)).drop
theorem LEnt.nilB {π : Nat → Nat} {A : Asr} {L : List Asr} : LEnt (A :: L) (A :: ImgB π [] :: L) := fun _ _ _ hs => (Sat.imgNil (π := π) hs).perm (List.Perm.swap _ _ _)
def pb (b : Nat) (n : Nat) : Nat := if n = 0 then 0 else b
def pb2 (a b : Nat) (n : Nat) : Nat := if n = 0 then 0 else if n = 1 then a else b
theorem LEnt.img2 {π : Nat → Nat} {n m : Nat} {l k : List SV} {L : List Asr} (h : n ≠ m) : LEnt (Cel (π n) (renL π l) :: Cel (π m) (renL π k) :: L) (ImgB π [(n, .cells false l), (m, .cells false k)] :: L) := fun ρ H R hs => by
  have h1 := (hs.perm (List.Perm.swap _ _ _))
  have h2 := LEnt.img1 (π := π) (n := m) (l := k) (L := Cel (π n) (renL π l) :: L) ρ H R h1
  exact Sat.imgIn (by simpa using h) (h2.perm (List.Perm.swap _ _ _))
noncomputable def chgX (l u : XL) : XL := u ++ l.filter fun e => !(u.any fun d => Nat.beq d.1 e.1)
end Go.AM

/-
  TopBudgets: what each call does (printed by wip/mktb.py).
-/
namespace Go.AM
set_option maxRecDepth 100000 in
theorem known_c {π : Nat → Nat} (hπ : π 0 = 0) : Tri tab noExt F.detenttop_known [] [GZ, ImgB π ([])] fun v P' => ∃ π' : Nat → Nat, π' 0 = 0 ∧ v = .s (.bool true) ∧ P' = [GZ, ImgB π' ([])] := by
  have h := sxz (n0 := 1) (fuel := 100) (f := F.detenttop_known) (xs := []) (St := []) (es := []) (keep := []) (s := []) (v2 := .s (.s (.bool true))) (facts := []) (by kernel_rfl) (by kernel_rfl) (ρ := vals []) FactsOk.nil hπ
  refine h.re ?_ ?_ ?_
  · rfl
  · rfl
  · rintro v L ⟨π', k, k0, rfl, rfl⟩
    exact ⟨π', k0, rfl, rfl⟩
noncomputable def WbAx : XL := [(1, .cells false [.s (.slice (some (2, 0)) 1 1 2)]),
  (2, .cells false [.s (.bool false), .s (.int .i64 0)])]
def WbA : BL := [(1, .cells false [.slice (some (2, 0)) 1 1 2]),
  (2, .cells false [.bool false, .int .i64 0])]
theorem WbA_ev (ρ : Nat → Int) : evL ρ (WbAx) = WbA := rfl
set_option maxRecDepth 100000 in
theorem ovrNew_c {π : Nat → Nat} (hπ : π 0 = 0) : Tri tab noExt F.ovr_New [.s (.int .i64 1)] [GZ, ImgB π ([])] fun v P' => ∃ π' : Nat → Nat, π' 0 = 0 ∧ v = .tup [.s (.ptr (some (π' 1, 0))), .s (.int .i64 0)] ∧ P' = [GZ, ImgB π' WbA] := by
  have h := sxz (n0 := 1) (fuel := 100) (f := F.ovr_New) (xs := [.s (.s (.int .i64 1))]) (St := []) (es := WbAx) (keep := []) (s := [(1, 12), (2, 10)]) (v2 := .tup [.s (.s (.ptr (some (1, 0)))), .s (.s (.int .i64 0))]) (facts := []) (by kernel_rfl) (by kernel_rfl) (ρ := vals []) FactsOk.nil hπ
  refine h.re ?_ ?_ ?_
  · rfl
  · rfl
  · rintro v L ⟨π', k, k0, rfl, rfl⟩
    exact ⟨π', k0, rfl, by rw [WbA_ev]⟩
noncomputable def P2x : XL := [(1, .cells false [.s (.int .i64 2)])]
def P2 : BL := [(1, .cells false [.int .i64 2])]
theorem P2_ev (ρ : Nat → Int) : evL ρ (P2x) = P2 := rfl
noncomputable def CfAx : XL := [(1, .cells false [.s (.int .i64 2), .s (.bool true)])]
def CfA : BL := [(1, .cells false [.int .i64 2, .bool true])]
theorem CfA_ev (ρ : Nat → Int) : evL ρ (CfAx) = CfA := rfl
set_option maxRecDepth 100000 in
theorem tasks_c {π : Nat → Nat} (hπ : π 0 = 0) : Tri tab noExt F.detenttop_tasks [.s (.slice (some (π 1, 0)) 1 1 1)] [GZ, ImgB π P2] fun v P' => ∃ π' : Nat → Nat, π' 0 = 0 ∧ v = .agg [.int .i64 1, .slice (some (π' 1, 0)) 1 1 2, .slice none 0 0 1, .slice none 0 0 1, .slice none 0 0 1, .slice none 0 0 1, .slice none 0 0 1, .slice none 0 0 1, .int .i64 0] ∧ P' = [GZ, ImgB π' CfA] := by
  have h := sxz (n0 := 2) (fuel := 100) (f := F.detenttop_tasks) (xs := [.s (.s (.slice (some (1, 0)) 1 1 1))]) (St := P2x) (es := CfAx) (keep := []) (s := [(1, 19)]) (v2 := .agg [.s (.int .i64 1), .s (.slice (some (1, 0)) 1 1 2), .s (.slice none 0 0 1), .s (.slice none 0 0 1), .s (.slice none 0 0 1), .s (.slice none 0 0 1), .s (.slice none 0 0 1), .s (.slice none 0 0 1), .s (.int .i64 0)]) (facts := []) (by kernel_rfl) (by kernel_rfl) (ρ := vals []) FactsOk.nil hπ
  refine h.re ?_ ?_ ?_
  · rfl
  · rw [P2_ev]
  · rintro v L ⟨π', k, k0, rfl, rfl⟩
    exact ⟨π', k0, rfl, by rw [CfA_ev]⟩
noncomputable def KbSx : XL := [(1, .cells false [.s (.slice none 0 0 1), .s (.slice none 0 0 1), .s (.slice none 0 0 1), .s (.slice none 0 0 1), .s (.int .i64 0), .s (.ptr (some (2, 0))), .s (.ptr (some (3, 0))), .s (.ptr (some (4, 0))), .s (.ptr (some (5, 0))), .s (.slice (some (6, 0)) 2 2 1), .s (.int .i64 0), .s (.int .i64 0), .s (.int .i64 1)]),
  (2, .cells false [.s (.slice (some (7, 0)) 1 1 4), .s (.int .i64 16), .s (.int .i64 16), .s (.int .i64 0), .s (.int .i64 2), .s (.int .i64 2), .s (.int .i64 0), .s (.int .i64 16), .s (.int .i64 16), .s (.int .i64 0), .s (.int .i64 16), .s (.int .i64 16), .s (.int .i64 0), .s (.int .i64 16), .s (.int .i64 16), .s (.int .i64 0), .s (.int .i64 16), .s (.int .i64 16), .s (.int .i64 0), .s (.int .i64 16), .s (.int .i64 16), .s (.int .i64 0), .s (.int .i64 16), .s (.int .i64 16), .s (.int .i64 0), .s (.int .i64 16), .s (.int .i64 16), .s (.int .i64 0), .s (.int .i64 16), .s (.int .i64 16), .s (.int .i64 0), .s (.int .i64 16), .s (.int .i64 16), .s (.int .i64 0), .s (.int .i64 16), .s (.int .i64 16), .s (.int .i64 0), .s (.int .i64 16), .s (.int .i64 16), .s (.int .i64 0), .s (.int .i64 16), .s (.int .i64 16), .s (.int .i64 0), .s (.int .i64 16), .s (.int .i64 16), .s (.int .i64 0), .s (.int .i64 16), .s (.int .i64 16), .s (.int .i64 0), .s (.int .i64 16), .s (.int .i64 16), .s (.int .i64 0)]),
  (3, .cells false [.s (.slice none 0 0 1), .s (.bool false), .s (.bool false)]),
  (4, .cells false [.s (.ptr (some (8, 0))), .s (.int .u64 1), .s (.slice none 0 0 1), .s (.slice none 0 0 1)]),
  (5, .cells false [.s (.int .u64 2), .s (.int .u64 0), .s (.int .u64 0), .s (.int .u64 0), .s (.slice none 0 0 1), .s (.slice none 0 0 1), .s (.slice (some (9, 0)) 1 1 1), .s (.slice none 0 0 1), .s (.slice none 0 0 1), .s (.slice none 0 0 1), .s (.slice none 0 0 1), .s (.slice none 0 0 1), .s (.slice none 0 0 1), .s (.slice none 0 0 1), .s (.slice none 0 0 1), .s (.slice none 0 0 1), .s (.slice none 0 0 1), .s (.slice none 0 0 1), .s (.slice none 0 0 1), .s (.slice none 0 0 1), .s (.slice none 0 0 1), .s (.int .i64 0), .s (.int .i64 2), .s (.int .i64 0), .s (.int .i64 0), .s (.int .i64 0), .s (.int .i64 0), .s (.int .i64 0), .s (.int .i64 0), .s (.int .i64 0), .s (.int .i64 0), .s (.int .i64 0), .s (.int .i64 0), .s (.int .i64 0), .s (.int .i64 0), .s (.int .i64 0), .s (.int .i64 0), .s (.int .i64 0)]),
  (6, .cells false [.s (.ptr none), .s (.ptr (some (10, 0)))]),
  (7, .cells false [.s (.int .i64 0), .s (.int .i64 0), .s (.int .i64 0), .s (.slice none 0 0 1)]),
  (8, .cells false [.s (.ptr (some (11, 0))), .s (.int .u64 1), .s (.int .u64 0), .s (.int .u64 0)]),
  (9, .cells false [.s (.int .i64 1)]),
  (10, .cells false [.s (.ptr (some (12, 0))), .s (.int .i64 2), .s (.int .i64 2), .s (.int .i64 0), .s (.int .i64 0), .s (.int .i64 0), .s (.int .i64 0), .s (.int .i64 0)]),
  (11, .cells false [.s (.slice none 0 0 1), .s (.int .i64 0)]),
  (12, .cells false [.s (.int .i64 0), .s (.int .i64 0), .s (.int .i64 0), .s (.int .i64 2), .s (.bool false)])]
def KbS : BL := [(1, .cells false [.slice none 0 0 1, .slice none 0 0 1, .slice none 0 0 1, .slice none 0 0 1, .int .i64 0, .ptr (some (2, 0)), .ptr (some (3, 0)), .ptr (some (4, 0)), .ptr (some (5, 0)), .slice (some (6, 0)) 2 2 1, .int .i64 0, .int .i64 0, .int .i64 1]),
  (2, .cells false [.slice (some (7, 0)) 1 1 4, .int .i64 16, .int .i64 16, .int .i64 0, .int .i64 2, .int .i64 2, .int .i64 0, .int .i64 16, .int .i64 16, .int .i64 0, .int .i64 16, .int .i64 16, .int .i64 0, .int .i64 16, .int .i64 16, .int .i64 0, .int .i64 16, .int .i64 16, .int .i64 0, .int .i64 16, .int .i64 16, .int .i64 0, .int .i64 16, .int .i64 16, .int .i64 0, .int .i64 16, .int .i64 16, .int .i64 0, .int .i64 16, .int .i64 16, .int .i64 0, .int .i64 16, .int .i64 16, .int .i64 0, .int .i64 16, .int .i64 16, .int .i64 0, .int .i64 16, .int .i64 16, .int .i64 0, .int .i64 16, .int .i64 16, .int .i64 0, .int .i64 16, .int .i64 16, .int .i64 0, .int .i64 16, .int .i64 16, .int .i64 0, .int .i64 16, .int .i64 16, .int .i64 0]),
  (3, .cells false [.slice none 0 0 1, .bool false, .bool false]),
  (4, .cells false [.ptr (some (8, 0)), .int .u64 1, .slice none 0 0 1, .slice none 0 0 1]),
  (5, .cells false [.int .u64 2, .int .u64 0, .int .u64 0, .int .u64 0, .slice none 0 0 1, .slice none 0 0 1, .slice (some (9, 0)) 1 1 1, .slice none 0 0 1, .slice none 0 0 1, .slice none 0 0 1, .slice none 0 0 1, .slice none 0 0 1, .slice none 0 0 1, .slice none 0 0 1, .slice none 0 0 1, .slice none 0 0 1, .slice none 0 0 1, .slice none 0 0 1, .slice none 0 0 1, .slice none 0 0 1, .slice none 0 0 1, .int .i64 0, .int .i64 2, .int .i64 0, .int .i64 0, .int .i64 0, .int .i64 0, .int .i64 0, .int .i64 0, .int .i64 0, .int .i64 0, .int .i64 0, .int .i64 0, .int .i64 0, .int .i64 0, .int .i64 0, .int .i64 0, .int .i64 0]),
  (6, .cells false [.ptr none, .ptr (some (10, 0))]),
  (7, .cells false [.int .i64 0, .int .i64 0, .int .i64 0, .slice none 0 0 1]),
  (8, .cells false [.ptr (some (11, 0)), .int .u64 1, .int .u64 0, .int .u64 0]),
  (9, .cells false [.int .i64 1]),
  (10, .cells false [.ptr (some (12, 0)), .int .i64 2, .int .i64 2, .int .i64 0, .int .i64 0, .int .i64 0, .int .i64 0, .int .i64 0]),
  (11, .cells false [.slice none 0 0 1, .int .i64 0]),
  (12, .cells false [.int .i64 0, .int .i64 0, .int .i64 0, .int .i64 2, .bool false])]
theorem KbS_ev (ρ : Nat → Int) : evL ρ (KbSx) = KbS := rfl
set_option maxRecDepth 100000 in
theorem open_c {π : Nat → Nat} (hπ : π 0 = 0) : Tri tab noExt F.detenttop_open [.agg [.int .i64 1, .slice (some (π 1, 0)) 1 1 2, .slice none 0 0 1, .slice none 0 0 1, .slice none 0 0 1, .slice none 0 0 1, .slice none 0 0 1, .slice none 0 0 1, .int .i64 0]] [GZ, ImgB π CfA] fun v P' => ∃ π' : Nat → Nat, π' 0 = 0 ∧ v = .s (.ptr (some (π' 1, 0))) ∧ P' = [GZ, ImgB π' KbS] := by
  have h := sxz (n0 := 2) (fuel := 100) (f := F.detenttop_open) (xs := [.agg [.s (.int .i64 1), .s (.slice (some (1, 0)) 1 1 2), .s (.slice none 0 0 1), .s (.slice none 0 0 1), .s (.slice none 0 0 1), .s (.slice none 0 0 1), .s (.slice none 0 0 1), .s (.slice none 0 0 1), .s (.int .i64 0)]]) (St := CfAx) (es := KbSx) (keep := []) (s := [(1, 403), (2, 439), (3, 407), (4, 736), (5, 411), (6, 1561), (7, 437), (8, 723), (9, 1794), (10, 1559), (11, 728), (12, 1567)]) (v2 := .s (.s (.ptr (some (1, 0))))) (facts := []) (by kernel_rfl) (by kernel_rfl) (ρ := vals []) FactsOk.nil hπ
  refine h.re ?_ ?_ ?_
  · rfl
  · rw [CfA_ev]
  · rintro v L ⟨π', k, k0, rfl, rfl⟩
    exact ⟨π', k0, rfl, by rw [KbS_ev]⟩
noncomputable def Kbx (n0 : XV) : XL := [(1, .cells false [.s (.slice none 0 0 1), .s (.slice none 0 0 1), .s (.slice none 0 0 1), .s (.slice none 0 0 1), .s (.int .i64 0), .s (.ptr (some (2, 0))), .s (.ptr (some (3, 0))), .s (.ptr (some (4, 0))), .s (.ptr (some (5, 0))), .s (.slice (some (6, 0)) 2 2 1), .s (.int .i64 0), .s (.int .i64 0), .s (.int .i64 1)]),
  (2, .cells false [.s (.slice (some (7, 0)) 1 1 4), .s (.int .i64 16), .s (.int .i64 16), .s (.int .i64 0), .s (.int .i64 2), .s (.int .i64 2), .s (.int .i64 0), .s (.int .i64 16), .s (.int .i64 16), .s (.int .i64 0), .s (.int .i64 16), .s (.int .i64 16), .s (.int .i64 0), .s (.int .i64 16), .s (.int .i64 16), .s (.int .i64 0), .s (.int .i64 16), .s (.int .i64 16), .s (.int .i64 0), .s (.int .i64 16), .s (.int .i64 16), .s (.int .i64 0), .s (.int .i64 16), .s (.int .i64 16), .s (.int .i64 0), .s (.int .i64 16), .s (.int .i64 16), .s (.int .i64 0), .s (.int .i64 16), .s (.int .i64 16), .s (.int .i64 0), .s (.int .i64 16), .s (.int .i64 16), .s (.int .i64 0), .s (.int .i64 16), .s (.int .i64 16), .s (.int .i64 0), .s (.int .i64 16), .s (.int .i64 16), .s (.int .i64 0), .s (.int .i64 16), .s (.int .i64 16), .s (.int .i64 0), .s (.int .i64 16), .s (.int .i64 16), .s (.int .i64 0), .s (.int .i64 16), .s (.int .i64 16), .s (.int .i64 0), .s (.int .i64 16), .s (.int .i64 16), .s (.int .i64 0)]),
  (3, .cells false [.s (.slice none 0 0 1), .s (.bool false), .s (.bool false)]),
  (4, .cells false [.s (.ptr (some (8, 0))), .s (.int .u64 1), .s (.slice none 0 0 1), .s (.slice none 0 0 1)]),
  (5, .cells false [.s (.int .u64 2), .s (.int .u64 0), .s (.int .u64 0), .s (.int .u64 0), .s (.slice none 0 0 1), .s (.slice none 0 0 1), .s (.slice (some (9, 0)) 1 1 1), .s (.slice none 0 0 1), .s (.slice none 0 0 1), .s (.slice none 0 0 1), .s (.slice none 0 0 1), .s (.slice none 0 0 1), .s (.slice none 0 0 1), .s (.slice none 0 0 1), .s (.slice none 0 0 1), .s (.slice none 0 0 1), .s (.slice none 0 0 1), .s (.slice none 0 0 1), .s (.slice none 0 0 1), .s (.slice none 0 0 1), .s (.slice none 0 0 1), .s (.int .i64 0), .s (.int .i64 2), .s (.int .i64 0), .s (.int .i64 0), .s (.int .i64 0), .s (.int .i64 0), .s (.int .i64 0), .s (.int .i64 0), .s (.int .i64 0), .s (.int .i64 0), .s (.int .i64 0), .s (.int .i64 0), .s (.int .i64 0), .s (.int .i64 0), .s (.int .i64 0), .s (.int .i64 0), .s (.int .i64 0)]),
  (6, .cells false [.s (.ptr none), .s (.ptr (some (10, 0)))]),
  (7, .cells false [.s (.int .i64 0), .s (.int .i64 0), .s (.int .i64 0), .s (.slice none 0 0 1)]),
  (8, .cells false [.s (.ptr (some (11, 0))), .s (.int .u64 1), n0, .s (.int .u64 0)]),
  (9, .cells false [.s (.int .i64 1)]),
  (10, .cells false [.s (.ptr (some (12, 0))), .s (.int .i64 2), .s (.int .i64 2), .s (.int .i64 0), .s (.int .i64 0), .s (.int .i64 0), .s (.int .i64 0), .s (.int .i64 0)]),
  (11, .cells false [.s (.slice none 0 0 1), .s (.int .i64 0)]),
  (12, .cells false [.s (.int .i64 0), .s (.int .i64 0), .s (.int .i64 0), .s (.int .i64 2), .s (.bool false)])]
def Kb (t0 : Int) : BL := [(1, .cells false [.slice none 0 0 1, .slice none 0 0 1, .slice none 0 0 1, .slice none 0 0 1, .int .i64 0, .ptr (some (2, 0)), .ptr (some (3, 0)), .ptr (some (4, 0)), .ptr (some (5, 0)), .slice (some (6, 0)) 2 2 1, .int .i64 0, .int .i64 0, .int .i64 1]),
  (2, .cells false [.slice (some (7, 0)) 1 1 4, .int .i64 16, .int .i64 16, .int .i64 0, .int .i64 2, .int .i64 2, .int .i64 0, .int .i64 16, .int .i64 16, .int .i64 0, .int .i64 16, .int .i64 16, .int .i64 0, .int .i64 16, .int .i64 16, .int .i64 0, .int .i64 16, .int .i64 16, .int .i64 0, .int .i64 16, .int .i64 16, .int .i64 0, .int .i64 16, .int .i64 16, .int .i64 0, .int .i64 16, .int .i64 16, .int .i64 0, .int .i64 16, .int .i64 16, .int .i64 0, .int .i64 16, .int .i64 16, .int .i64 0, .int .i64 16, .int .i64 16, .int .i64 0, .int .i64 16, .int .i64 16, .int .i64 0, .int .i64 16, .int .i64 16, .int .i64 0, .int .i64 16, .int .i64 16, .int .i64 0, .int .i64 16, .int .i64 16, .int .i64 0, .int .i64 16, .int .i64 16, .int .i64 0]),
  (3, .cells false [.slice none 0 0 1, .bool false, .bool false]),
  (4, .cells false [.ptr (some (8, 0)), .int .u64 1, .slice none 0 0 1, .slice none 0 0 1]),
  (5, .cells false [.int .u64 2, .int .u64 0, .int .u64 0, .int .u64 0, .slice none 0 0 1, .slice none 0 0 1, .slice (some (9, 0)) 1 1 1, .slice none 0 0 1, .slice none 0 0 1, .slice none 0 0 1, .slice none 0 0 1, .slice none 0 0 1, .slice none 0 0 1, .slice none 0 0 1, .slice none 0 0 1, .slice none 0 0 1, .slice none 0 0 1, .slice none 0 0 1, .slice none 0 0 1, .slice none 0 0 1, .slice none 0 0 1, .int .i64 0, .int .i64 2, .int .i64 0, .int .i64 0, .int .i64 0, .int .i64 0, .int .i64 0, .int .i64 0, .int .i64 0, .int .i64 0, .int .i64 0, .int .i64 0, .int .i64 0, .int .i64 0, .int .i64 0, .int .i64 0, .int .i64 0]),
  (6, .cells false [.ptr none, .ptr (some (10, 0))]),
  (7, .cells false [.int .i64 0, .int .i64 0, .int .i64 0, .slice none 0 0 1]),
  (8, .cells false [.ptr (some (11, 0)), .int .u64 1, .int .u64 t0, .int .u64 0]),
  (9, .cells false [.int .i64 1]),
  (10, .cells false [.ptr (some (12, 0)), .int .i64 2, .int .i64 2, .int .i64 0, .int .i64 0, .int .i64 0, .int .i64 0, .int .i64 0]),
  (11, .cells false [.slice none 0 0 1, .int .i64 0]),
  (12, .cells false [.int .i64 0, .int .i64 0, .int .i64 0, .int .i64 2, .bool false])]
theorem Kb_ev (ρ : Nat → Int) (n0 : SI) : evL ρ (Kbx (.y .u64 n0)) = Kb (n0.ev ρ) := rfl
theorem Kb_0 : KbS = Kb 0 := rfl
set_option maxRecDepth 100000 in
theorem tick_c {t0 : Int} (h0 : 0 ≤ t0 ∧ t0 ≤ 1000) {π : Nat → Nat} (hπ : π 0 = 0) : Tri tab noExt F.kern_Kernel_Tick [.s (.ptr (some (π 1, 0)))] [GZ, ImgB π (Kb t0)] fun v P' => ∃ π' : Nat → Nat, π' 1 = π 1 ∧ π' 0 = 0 ∧ v = .s (.slice none 0 0 3) ∧ P' = [GZ, ImgB π' (Kb (t0 + 1))] := by
  have h := sxz (n0 := 13) (fuel := 100) (f := F.kern_Kernel_Tick) (xs := [.s (.s (.ptr (some (1, 0))))]) (St := (Kbx (.y .u64 ⟨0, [(.v 0, 1)]⟩))) (es := (Kbx (.y .u64 ⟨1, [(.v 0, 1)]⟩))) (keep := [1]) (s := []) (v2 := .s (.s (.slice none 0 0 3))) (facts := [bFact 0 0 1000]) (by kernel_rfl) (by kernel_rfl) (ρ := vals [t0]) (.cons (bFact_ok h0.1 h0.2) FactsOk.nil) hπ
  have e0 : (SI.mk 0 [(.v 0, 1)]).ev (vals [t0]) = t0 := by
    show 0 + ((1 * t0 + 0)) = _
    omega
  have e1 : (SI.mk 1 [(.v 0, 1)]).ev (vals [t0]) = t0 + 1 := by
    show 1 + ((1 * t0 + 0)) = _
    omega
  refine h.re ?_ ?_ ?_
  · rfl
  · rw [Kb_ev, e0]
  · rintro v L ⟨π', k, k0, rfl, rfl⟩
    exact ⟨π', k 1 (by decide), k0, rfl, by rw [Kb_ev, e1]⟩
set_option maxRecDepth 100000 in
theorem running_c {t0 : Int} (h0 : 0 ≤ t0 ∧ t0 ≤ 1000) {π : Nat → Nat} (hπ : π 0 = 0) : Tri tab noExt F.kern_Kernel_Running [.s (.ptr (some (π 1, 0)))] [GZ, ImgB π (Kb t0)] fun v P' => ∃ π' : Nat → Nat, π' 1 = π 1 ∧ π' 0 = 0 ∧ v = .s (.int .i64 1) ∧ P' = [GZ, ImgB π' (Kb t0)] := by
  have h := sxz (n0 := 13) (fuel := 100) (f := F.kern_Kernel_Running) (xs := [.s (.s (.ptr (some (1, 0))))]) (St := (Kbx (.y .u64 ⟨0, [(.v 0, 1)]⟩))) (es := (Kbx (.y .u64 ⟨0, [(.v 0, 1)]⟩))) (keep := [1]) (s := []) (v2 := .s (.s (.int .i64 1))) (facts := [bFact 0 0 1000]) (by kernel_rfl) (by kernel_rfl) (ρ := vals [t0]) (.cons (bFact_ok h0.1 h0.2) FactsOk.nil) hπ
  have e0 : (SI.mk 0 [(.v 0, 1)]).ev (vals [t0]) = t0 := by
    show 0 + ((1 * t0 + 0)) = _
    omega
  refine h.re ?_ ?_ ?_
  · rfl
  · rw [Kb_ev, e0]
  · rintro v L ⟨π', k, k0, rfl, rfl⟩
    exact ⟨π', k 1 (by decide), k0, rfl, by rw [Kb_ev, e0]⟩
noncomputable def Wbx (n0 : XV) : XL := [(1, .cells false [.s (.slice (some (2, 0)) 1 1 2)]),
  (2, .cells false [.s (.bool true), n0])]
def Wb (t0 : Int) : BL := [(1, .cells false [.slice (some (2, 0)) 1 1 2]),
  (2, .cells false [.bool true, .int .i64 t0])]
theorem Wb_ev (ρ : Nat → Int) (n0 : SI) : evL ρ (Wbx (.y .i64 n0)) = Wb (n0.ev ρ) := rfl
theorem Wb_evc (ρ : Nat → Int) (n0 : Int) : evL ρ (Wbx (.s (.int .i64 n0))) = Wb n0 := rfl
noncomputable def Wzx : XL := [(1, .cells false [.s (.slice (some (2, 0)) 1 1 2)]),
  (2, .cells false [.s (.bool false), .s (.int .i64 0)])]
def Wz : BL := [(1, .cells false [.slice (some (2, 0)) 1 1 2]),
  (2, .cells false [.bool false, .int .i64 0])]
theorem Wz_ev (ρ : Nat → Int) : evL ρ (Wzx) = Wz := rfl
set_option maxRecDepth 100000 in
theorem start_c {t0 : Int} (h0 : 1 ≤ t0 ∧ t0 ≤ 1000) {π : Nat → Nat} (hπ : π 0 = 0) : Tri tab noExt F.ovr_Watch_Start [.s (.ptr (some (π 1, 0))), .s (.int .i64 1), .s (.int .i64 t0)] [GZ, ImgB π WbA] fun v P' => ∃ π' : Nat → Nat, π' 1 = π 1 ∧ π' 0 = 0 ∧ v = .s (.int .i64 0) ∧ P' = [GZ, ImgB π' (Wb t0)] := by
  have h := sxz (n0 := 3) (fuel := 100) (f := F.ovr_Watch_Start) (xs := [.s (.s (.ptr (some (1, 0)))), .s (.s (.int .i64 1)), .s (.y .i64 ⟨0, [(.v 0, 1)]⟩)]) (St := WbAx) (es := (Wbx (.y .i64 ⟨0, [(.v 0, 1)]⟩))) (keep := [1]) (s := []) (v2 := .s (.s (.int .i64 0))) (facts := [bFact 0 1 1000]) (by kernel_rfl) (by kernel_rfl) (ρ := vals [t0]) (.cons (bFact_ok h0.1 h0.2) FactsOk.nil) hπ
  have e0 : (SI.mk 0 [(.v 0, 1)]).ev (vals [t0]) = t0 := by
    show 0 + ((1 * t0 + 0)) = _
    omega
  refine h.re ?_ ?_ ?_
  · show ([.s (.ptr (some (π 1, 0))), .s (.int .i64 1), .s (.int .i64 ((SI.mk 0 [(.v 0, 1)]).ev (vals [t0])))] : List AV) = _
    rw [e0]
  · rw [WbA_ev]
  · rintro v L ⟨π', k, k0, rfl, rfl⟩
    exact ⟨π', k 1 (by decide), k0, rfl, by rw [Wb_ev, e0]⟩
set_option maxRecDepth 100000 in
theorem ran_c {t0 : Int} (h0 : 2 ≤ t0 ∧ t0 ≤ 1000) {π : Nat → Nat} (hπ : π 0 = 0) : Tri tab noExt F.ovr_Watch_Ran [.s (.ptr (some (π 1, 0))), .s (.int .i64 1), .s (.int .i64 1)] [GZ, ImgB π (Wb t0)] fun v P' => ∃ π' : Nat → Nat, π' 1 = π 1 ∧ π' 0 = 0 ∧ v = .tup [.s (.bool false), .s (.int .i64 0)] ∧ P' = [GZ, ImgB π' (Wb (t0 - 1))] := by
  have h := sxz (n0 := 3) (fuel := 100) (f := F.ovr_Watch_Ran) (xs := [.s (.s (.ptr (some (1, 0)))), .s (.s (.int .i64 1)), .s (.s (.int .i64 1))]) (St := (Wbx (.y .i64 ⟨0, [(.v 0, 1)]⟩))) (es := (Wbx (.y .i64 ⟨-1, [(.v 0, 1)]⟩))) (keep := [1]) (s := []) (v2 := .tup [.s (.s (.bool false)), .s (.s (.int .i64 0))]) (facts := [bFact 0 2 1000]) (by kernel_rfl) (by kernel_rfl) (ρ := vals [t0]) (.cons (bFact_ok h0.1 h0.2) FactsOk.nil) hπ
  have e0 : (SI.mk 0 [(.v 0, 1)]).ev (vals [t0]) = t0 := by
    show 0 + ((1 * t0 + 0)) = _
    omega
  have e1 : (SI.mk (-1) [(.v 0, 1)]).ev (vals [t0]) = t0 - 1 := by
    show (-1) + ((1 * t0 + 0)) = _
    omega
  refine h.re ?_ ?_ ?_
  · rfl
  · rw [Wb_ev, e0]
  · rintro v L ⟨π', k, k0, rfl, rfl⟩
    exact ⟨π', k 1 (by decide), k0, rfl, by rw [Wb_ev, e1]⟩
set_option maxRecDepth 100000 in
theorem ran1_c {π : Nat → Nat} (hπ : π 0 = 0) : Tri tab noExt F.ovr_Watch_Ran [.s (.ptr (some (π 1, 0))), .s (.int .i64 1), .s (.int .i64 1)] [GZ, ImgB π (Wb 1)] fun v P' => ∃ π' : Nat → Nat, π' 1 = π 1 ∧ π' 0 = 0 ∧ v = .tup [.s (.bool true), .s (.int .i64 0)] ∧ P' = [GZ, ImgB π' Wz] := by
  have h := sxz (n0 := 3) (fuel := 100) (f := F.ovr_Watch_Ran) (xs := [.s (.s (.ptr (some (1, 0)))), .s (.s (.int .i64 1)), .s (.s (.int .i64 1))]) (St := (Wbx (.s (.int .i64 1)))) (es := Wzx) (keep := [1]) (s := []) (v2 := .tup [.s (.s (.bool true)), .s (.s (.int .i64 0))]) (facts := []) (by kernel_rfl) (by kernel_rfl) (ρ := vals []) FactsOk.nil hπ
  refine h.re ?_ ?_ ?_
  · rfl
  · rw [Wb_evc]
  · rintro v L ⟨π', k, k0, rfl, rfl⟩
    exact ⟨π', k 1 (by decide), k0, rfl, by rw [Wz_ev]⟩
set_option maxRecDepth 100000 in
theorem ran0_c {π : Nat → Nat} (hπ : π 0 = 0) : Tri tab noExt F.ovr_Watch_Ran [.s (.ptr (some (π 1, 0))), .s (.int .i64 1), .s (.int .i64 1)] [GZ, ImgB π Wz] fun v P' => ∃ π' : Nat → Nat, π' 1 = π 1 ∧ π' 0 = 0 ∧ v = .tup [.s (.bool false), .s (.int .i64 0)] ∧ P' = [GZ, ImgB π' Wz] := by
  have h := sxz (n0 := 3) (fuel := 100) (f := F.ovr_Watch_Ran) (xs := [.s (.s (.ptr (some (1, 0)))), .s (.s (.int .i64 1)), .s (.s (.int .i64 1))]) (St := Wzx) (es := Wzx) (keep := [1]) (s := []) (v2 := .tup [.s (.s (.bool false)), .s (.s (.int .i64 0))]) (facts := []) (by kernel_rfl) (by kernel_rfl) (ρ := vals []) FactsOk.nil hπ
  refine h.re ?_ ?_ ?_
  · rfl
  · rw [Wz_ev]
  · rintro v L ⟨π', k, k0, rfl, rfl⟩
    exact ⟨π', k 1 (by decide), k0, rfl, by rw [Wz_ev]⟩
noncomputable def X00x : XL := [(1, .cells false [.s (.int .u32 0), .s (.bool false), .s (.int .i64 0)])]
def X00 : BL := [(1, .cells false [.int .u32 0, .bool false, .int .i64 0])]
theorem X00_ev (ρ : Nat → Int) : evL ρ (X00x) = X00 := rfl
noncomputable def X0x : XL := [(1, .cells false [.s (.int .u32 0), .s (.bool true), .s (.int .i64 0)])]
def X0 : BL := [(1, .cells false [.int .u32 0, .bool true, .int .i64 0])]
theorem X0_ev (ρ : Nat → Int) : evL ρ (X0x) = X0 := rfl
noncomputable def X1x : XL := [(1, .cells false [.s (.int .u32 1), .s (.bool true), .s (.int .i64 0)])]
def X1 : BL := [(1, .cells false [.int .u32 1, .bool true, .int .i64 0])]
theorem X1_ev (ρ : Nat → Int) : evL ρ (X1x) = X1 := rfl
noncomputable def X2x : XL := [(1, .cells false [.s (.int .u32 0), .s (.bool false), .s (.int .i64 1)])]
def X2 : BL := [(1, .cells false [.int .u32 0, .bool false, .int .i64 1])]
theorem X2_ev (ρ : Nat → Int) : evL ρ (X2x) = X2 := rfl
noncomputable def X0rx : XL := [(1, .cells false [.s (.int .u32 0), .s (.bool true), .s (.int .i64 0)]),
  (2, .cells false [.s (.int .u32 1)])]
def X0r : BL := [(1, .cells false [.int .u32 0, .bool true, .int .i64 0]),
  (2, .cells false [.int .u32 1])]
theorem X0r_ev (ρ : Nat → Int) : evL ρ (X0rx) = X0r := rfl
set_option maxRecDepth 100000 in
theorem enable_c {π : Nat → Nat} (hπ : π 0 = 0) : Tri tab noExt F.tex_Task_Enable [.s (.ptr (some (π 1, 0)))] [GZ, ImgB π X00] fun v P' => ∃ π' : Nat → Nat, π' 1 = π 1 ∧ π' 0 = 0 ∧ v = .tup [] ∧ P' = [GZ, ImgB π' X0] := by
  have h := sxz (n0 := 2) (fuel := 100) (f := F.tex_Task_Enable) (xs := [.s (.s (.ptr (some (1, 0))))]) (St := X00x) (es := X0x) (keep := [1]) (s := []) (v2 := .tup []) (facts := []) (by kernel_rfl) (by kernel_rfl) (ρ := vals []) FactsOk.nil hπ
  refine h.re ?_ ?_ ?_
  · rfl
  · rw [X00_ev]
  · rintro v L ⟨π', k, k0, rfl, rfl⟩
    exact ⟨π', k 1 (by decide), k0, rfl, by rw [X0_ev]⟩
set_option maxRecDepth 100000 in
theorem raise_c {π : Nat → Nat} (hπ : π 0 = 0) : Tri tab noExt F.tex_Task_Raise [.s (.ptr (some (π 1, 0))), .s (.slice (some (π 2, 0)) 1 1 1)] [GZ, ImgB π X0r] fun v P' => ∃ π' : Nat → Nat, π' 1 = π 1 ∧ π' 0 = 0 ∧ v = .s (.int .i64 0) ∧ P' = [GZ, ImgB π' X1] := by
  have h := sxz (n0 := 3) (fuel := 100) (f := F.tex_Task_Raise) (xs := [.s (.s (.ptr (some (1, 0)))), .s (.s (.slice (some (2, 0)) 1 1 1))]) (St := X0rx) (es := X1x) (keep := [1]) (s := []) (v2 := .s (.s (.int .i64 0))) (facts := []) (by kernel_rfl) (by kernel_rfl) (ρ := vals []) FactsOk.nil hπ
  refine h.re ?_ ?_ ?_
  · rfl
  · rw [X0r_ev]
  · rintro v L ⟨π', k, k0, rfl, rfl⟩
    exact ⟨π', k 1 (by decide), k0, rfl, by rw [X1_ev]⟩
set_option maxRecDepth 100000 in
theorem take0_c {π : Nat → Nat} (hπ : π 0 = 0) : Tri tab noExt F.tex_Task_Take [.s (.ptr (some (π 1, 0)))] [GZ, ImgB π X0] fun v P' => ∃ π' : Nat → Nat, π' 1 = π 1 ∧ π' 0 = 0 ∧ v = .tup [.s (.int .u32 0), .s (.bool false)] ∧ P' = [GZ, ImgB π' X0] := by
  have h := sxz (n0 := 2) (fuel := 100) (f := F.tex_Task_Take) (xs := [.s (.s (.ptr (some (1, 0))))]) (St := X0x) (es := X0x) (keep := [1]) (s := []) (v2 := .tup [.s (.s (.int .u32 0)), .s (.s (.bool false))]) (facts := []) (by kernel_rfl) (by kernel_rfl) (ρ := vals []) FactsOk.nil hπ
  refine h.re ?_ ?_ ?_
  · rfl
  · rw [X0_ev]
  · rintro v L ⟨π', k, k0, rfl, rfl⟩
    exact ⟨π', k 1 (by decide), k0, rfl, by rw [X0_ev]⟩
set_option maxRecDepth 100000 in
theorem take1_c {π : Nat → Nat} (hπ : π 0 = 0) : Tri tab noExt F.tex_Task_Take [.s (.ptr (some (π 1, 0)))] [GZ, ImgB π X1] fun v P' => ∃ π' : Nat → Nat, π' 1 = π 1 ∧ π' 0 = 0 ∧ v = .tup [.s (.int .u32 1), .s (.bool true)] ∧ P' = [GZ, ImgB π' X2] := by
  have h := sxz (n0 := 2) (fuel := 100) (f := F.tex_Task_Take) (xs := [.s (.s (.ptr (some (1, 0))))]) (St := X1x) (es := X2x) (keep := [1]) (s := []) (v2 := .tup [.s (.s (.int .u32 1)), .s (.s (.bool true))]) (facts := []) (by kernel_rfl) (by kernel_rfl) (ρ := vals []) FactsOk.nil hπ
  refine h.re ?_ ?_ ?_
  · rfl
  · rw [X1_ev]
  · rintro v L ⟨π', k, k0, rfl, rfl⟩
    exact ⟨π', k 1 (by decide), k0, rfl, by rw [X2_ev]⟩
set_option maxRecDepth 100000 in
theorem take2_c {π : Nat → Nat} (hπ : π 0 = 0) : Tri tab noExt F.tex_Task_Take [.s (.ptr (some (π 1, 0)))] [GZ, ImgB π X2] fun v P' => ∃ π' : Nat → Nat, π' 1 = π 1 ∧ π' 0 = 0 ∧ v = .tup [.s (.int .u32 0), .s (.bool false)] ∧ P' = [GZ, ImgB π' X2] := by
  have h := sxz (n0 := 2) (fuel := 100) (f := F.tex_Task_Take) (xs := [.s (.s (.ptr (some (1, 0))))]) (St := X2x) (es := X2x) (keep := [1]) (s := []) (v2 := .tup [.s (.s (.int .u32 0)), .s (.s (.bool false))]) (facts := []) (by kernel_rfl) (by kernel_rfl) (ρ := vals []) FactsOk.nil hπ
  refine h.re ?_ ?_ ?_
  · rfl
  · rw [X2_ev]
  · rintro v L ⟨π', k, k0, rfl, rfl⟩
    exact ⟨π', k 1 (by decide), k0, rfl, by rw [X2_ev]⟩
end Go.AM

/-
  TopBudgets: the walk.
-/
namespace Go.AM
set_option maxHeartbeats 8000000
attribute [local irreducible] sq bk lpK mdx rt TC RP WK Cel Ro Row Fre RowsA RowsBut
structure TbQ where
  i : Nat
  k : Nat → Nat
  w : Nat → Nat
  x : Nat → Nat
theorem X0_eq : X0 = [(1, .cells false [.int .u32 0, .bool true, .int .i64 0])] := rfl
attribute [local irreducible] KbS Kb WbA Wb Wz CfA X0 X1 X2
theorem TopBudgets_tri (bu ti : Int) (hb : 0 ≤ bu ∧ bu ≤ 255) (ht : 0 ≤ ti ∧ ti ≤ 255) : Tri tab noExt F.detenttop_TopBudgets [.s (.int .u8 bu), .s (.int .u8 ti)] [GZ] fun v _ => v = bl true := by
  refine Tri.go tab_detenttop_TopBudgets rfl ?_
  refine RUN ?_
  refine RP.ent (LEnt.nilB (π := id)) ?_
  refine RP.c rfl (known_c (π := id) rfl) (.c .h (.c .h .e)) rfl ?_
  rintro v P' ⟨π1, z1, rfl, rfl⟩
  refine RUN ?_
  have hwb : IntKind.i64.wrap bu = bu := by rw [IntKind.wrap_i64]; omega
  have hwt : IntKind.i64.wrap ti = ti := by rw [IntKind.wrap_i64]; omega
  rw [hwb]
  refine RUN ?_
  refine RP.c rfl (ovrNew_c z1) (.c .h (.c .h .e)) rfl ?_
  rintro v P' ⟨π2, z2, rfl, rfl⟩
  refine RUN ?_
  refine RP.bx rfl rfl rfl fun px => ?_
  refine RUN ?_
  refine RP.ent (LEnt.img1 (π := pb px) (n := 1) (l := [.int .u32 0, .bool false, .int .i64 0])) ?_
  refine RP.c rfl (enable_c (π := pb px) rfl) (.c (.n .h) (.c .h .e)) rfl ?_
  rintro v P' ⟨π3, x3, z3, rfl, rfl⟩
  have x3 : π3 1 = px := x3
  rw [← x3]
  refine RUN ?_
  refine RP.bs rfl rfl rfl fun pt => ?_
  refine RP.ent (LEnt.img1 (π := pb pt) (n := 1) (l := [.int .i64 2])) ?_
  refine RP.c rfl (tasks_c (π := pb pt) rfl) (.c (.n .h) (.c .h .e)) rfl ?_
  rintro v P' ⟨π4, z4, rfl, rfl⟩
  refine RUN ?_
  refine RP.c rfl (open_c z4) (.c .h (.c .h .e)) rfl ?_
  rintro v P' ⟨π5, z5, rfl, rfl⟩
  rw [Kb_0]
  refine RUN ?_
  refine RP.c rfl (start_c (t0 := 1 + bu) (by omega) z2) (.c .h (.c (.n (.n .h)) .e)) rfl ?_
  rintro v P' ⟨π6, x6, z6, rfl, rfl⟩
  rw [← x6]
  refine RUN ?_
  refine TC.loop (fun a : TbQ => ti.toNat + 1 - a.i) (fun a => a.i ≤ ti.toNat ∧ a.k 0 = 0 ∧ a.w 0 = 0 ∧ a.x 0 = 0) (fun a => [(1, .s (.int .u8 ti)), (5, i64 (1 + bu)), (6, .s (.ptr (some (a.w 1, 0)))), (8, .s (.ptr (some (a.x 1, 0)))), (9, .s (.ptr (some (a.k 1, 0)))), (10, i64 (if (a.i : Int) < 1 + bu then 0 else 1)), (11, i64 ((a.i : Int) + 1))])
    (fun a => [GZ, ImgB a.k (Kb a.i), ImgB a.w (if (a.i : Int) < 1 + bu then Wb (1 + bu - a.i) else Wz), ImgB a.x (if (a.i : Int) < 1 + bu then X0 else X2)]) ⟨0, π5, π6, π3⟩ ⟨Nat.zero_le _, z5, z6, z3⟩ ⟨rfl, rfl, rfl, rfl, rfl, by rw [if_pos (by dsimp only; omega)]; rfl, rfl, trivial⟩ ?_ ?_
  · rw [if_pos (by dsimp only; omega), if_pos (by dsimp only; omega)]
    dsimp only
    rw [show (1 + bu - ((0 : Nat) : Int)) = 1 + bu by omega]
    exact LEnt.of (.c .h (.c (.n .h) (.c .h (.c .h .e))))
  rintro ⟨i, πk, πw, πx⟩ ⟨hi, zk, zw, zx⟩
  dsimp only at hi zk zw zx ⊢
  refine RUN ?_
  rw [hwt]
  refine RUN ?_
  refine TC.cP rfl (fun h1 => ?_) fun h1 => ?_
  · refine RUN ?_
    refine RP.c rfl (tick_c (t0 := i) (by omega) zk) (.c .h (.c .h .e)) rfl ?_
    rintro v P' ⟨π7, x7, z7, rfl, rfl⟩
    rw [← x7]
    refine RUN ?_
    refine RP.c rfl (running_c (t0 := i + 1) (by omega) z7) (.c .h (.c .h .e)) rfl ?_
    rintro v P' ⟨π8, x8, z8, rfl, rfl⟩
    rw [← x8]
    refine RUN ?_
    by_cases hA : (i : Int) + 1 < 1 + bu
    · rw [if_pos (by omega), if_pos (by omega), if_pos (by omega)]
      refine RP.c rfl (ran_c (t0 := 1 + bu - i) (by omega) zw) (.c .h (.c (.n .h) .e)) rfl ?_
      rintro v P' ⟨π9, x9, z9, rfl, rfl⟩
      rw [← x9]
      refine RUN ?_
      rw [decide_eq_false (show ¬ (i : Int) + 1 = 1 + bu by omega)]
      refine RUN ?_
      refine RP.c rfl (take0_c zx) (.c .h (.c (.n (.n .h)) .e)) rfl ?_
      rintro v P' ⟨π10, x10, z10, rfl, rfl⟩
      rw [← x10]
      refine RUN ?_
      refine lp_n (⟨i + 1, π8, π9, π10⟩ : TbQ) ⟨by dsimp only; omega, z8, z9, z10⟩ (by dsimp only; omega) ⟨rfl, rfl, rfl, rfl, rfl, by dsimp only; rw [if_pos (by omega)]; rfl, rfl, trivial⟩ ?_
      dsimp only
      rw [if_pos (by omega), if_pos (by omega), show (((i + 1 : Nat) : Int)) = (i : Int) + 1 from rfl, show (1 + bu - ((i : Int) + 1)) = 1 + bu - i - 1 by omega]
      exact LEnt.of (.c .h (.c (.n (.n .h)) (.c (.n .h) (.c .h .e))))
    · by_cases hB : (i : Int) + 1 = 1 + bu
      · rw [if_pos (by omega), if_pos (by omega), if_pos (by omega), show (1 + bu - (i : Int)) = 1 by omega]
        refine RP.c rfl (ran1_c zw) (.c .h (.c (.n .h) .e)) rfl ?_
        rintro v P' ⟨π9, x9, z9, rfl, rfl⟩
        rw [← x9]
        refine RUN ?_
        rw [decide_eq_true hB]
        refine RUN ?_
        refine RP.bs rfl rfl rfl fun pr => ?_
        refine RP.ent (L' := Cel (πx 1) [.int .u32 0, .bool true, .int .i64 0] :: Cel pr [.int .u32 1] :: [GZ, ImgB π9 Wz, ImgB π8 (Kb ((i : Int) + 1))]) ?_ ?_
        · intro ρ H R hs
          have h1 := (LEnt.of (P := [ImgB πx X0, Cel pr [.int .u32 1], GZ, ImgB π9 Wz, ImgB π8 (Kb ((i : Int) + 1))]) (.c (.n (.n (.n (.n .h)))) (.c .h (.c .h (.c .h (.c .h .e)))))) ρ H R hs
          rw [X0_eq] at h1
          exact LEnt.out1 (π := πx) (n := 1) (l := [.int .u32 0, .bool true, .int .i64 0]) ρ H R h1
        refine RP.ent (LEnt.img2 (π := pb2 (πx 1) pr) (n := 1) (m := 2) (l := [.int .u32 0, .bool true, .int .i64 0]) (k := [.int .u32 1]) (by decide)) ?_
        refine RP.c rfl (raise_c (π := pb2 (πx 1) pr) rfl) (.c (.n .h) (.c .h .e)) rfl ?_
        rintro v P' ⟨π10, x10, z10, rfl, rfl⟩
        have x10 : π10 1 = πx 1 := x10
        rw [← x10]
        refine RUN ?_
        refine RP.c rfl (take1_c z10) (.c .h (.c .h .e)) rfl ?_
        rintro v P' ⟨π11, x11, z11, rfl, rfl⟩
        rw [← x11]
        refine RUN ?_
        refine lp_n (⟨i + 1, π8, π9, π11⟩ : TbQ) ⟨by dsimp only; omega, z8, z9, z11⟩ (by dsimp only; omega) ⟨rfl, rfl, rfl, rfl, rfl, by dsimp only; rw [if_neg (by omega)]; rfl, rfl, trivial⟩ ?_
        dsimp only
        rw [if_neg (by omega), if_neg (by omega), show (((i + 1 : Nat) : Int)) = (i : Int) + 1 from rfl]
        exact LEnt.of (.c .h (.c (.n (.n .h)) (.c (.n .h) (.c .h .e))))
      · rw [if_neg (by omega), if_neg (by omega), if_neg (by omega)]
        refine RP.c rfl (ran0_c zw) (.c .h (.c (.n .h) .e)) rfl ?_
        rintro v P' ⟨π9, x9, z9, rfl, rfl⟩
        rw [← x9]
        refine RUN ?_
        rw [decide_eq_false hB]
        refine RUN ?_
        refine RP.c rfl (take2_c zx) (.c .h (.c (.n (.n .h)) .e)) rfl ?_
        rintro v P' ⟨π10, x10, z10, rfl, rfl⟩
        rw [← x10]
        refine RUN ?_
        refine lp_n (⟨i + 1, π8, π9, π10⟩ : TbQ) ⟨by dsimp only; omega, z8, z9, z10⟩ (by dsimp only; omega) ⟨rfl, rfl, rfl, rfl, rfl, by dsimp only; rw [if_neg (by omega)]; rfl, rfl, trivial⟩ ?_
        dsimp only
        rw [if_neg (by omega), if_neg (by omega), show (((i + 1 : Nat) : Int)) = (i : Int) + 1 from rfl]
        exact LEnt.of (.c .h (.c (.n (.n .h)) (.c (.n .h) (.c .h .e))))
  · have hit : (i : Int) = ti := by omega
    refine RUN ?_
    rw [hwt]
    by_cases hA : (i : Int) < 1 + bu
    · rw [if_pos hA]
      refine RUN ?_
      rw [show decide (ti ≥ 1 + bu) = false from decide_eq_false (by omega)]
      refine RUN ?_
      exact rt_r rfl rfl (LEnt.of .e)
    · rw [if_neg hA]
      refine RUN ?_
      rw [show decide (ti ≥ 1 + bu) = true from decide_eq_true (by omega)]
      refine RUN ?_
      exact rt_r rfl rfl (LEnt.of .e)
end Go.AM

/-
  TopBudgets in the abstract machine.
-/
namespace Go.AM
theorem glz {H : AH} (h0 : H.blk 0 = some (.cells true tzL)) : ∀ e ∈ gOf GXz, H.blk e.1 = some (.cells true e.2) := by
  intro e he
  obtain rfl : e = (0, tzL) := by
    have : gOf GXz = [(0, tzL)] := by kernel_rfl
    rw [this] at he
    simpa using he
  exact h0
theorem TopBudgets_abs (H : AH) (hw : WF H) (_hn : H.next = 1) (h0 : H.blk 0 = some (.cells true tzL)) (avs : List AV) (ha : ArgsAt H.blk [.int .u8, .int .u8] avs) : CallP tab noExt F.detenttop_TopBudgets avs H fun v _ => v = bl true := by
  obtain ⟨a, vs, rfl, ha1, ha⟩ := ha.int'
  obtain ⟨b, vs, rfl, hb1, hb⟩ := ha.int'
  obtain rfl := hb.nil'
  have h1 := lit_bounds ha1
  have h2 := lit_bounds hb1
  exact (TopBudgets_tri a b h1 h2).use (ρ := H.blk) (R := []) (Sat.mkGlb (glz h0) (Sat.nil hw fun _ _ h => h)) fun v H' P' h _ => h
end Go.AM
