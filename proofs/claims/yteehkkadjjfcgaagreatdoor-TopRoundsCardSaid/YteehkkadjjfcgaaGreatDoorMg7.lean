/-
  WALKS: the rules.
-/
import Derived.Test.YteehkkadjjfcgaaGreatDoorMg6
import Derived.Test.YteehkkadjjfcgaaGreatDoorMg1
namespace Go.AM
section
variable {tab : Nat → Option RFunc} {ext : Nat → List AV → AH → Option (AV × AH)} {n : Nat} {E : Env} {L : List Asr} {K : Pst}
theorem wpO_mono {ρ : Opd → AV} {id : Nat} {H : AH} {o : ROp} {K K' : AV → AH → Prop} (hk : ∀ v H', K v H' → K' v H') (h : wpO tab ext ρ id H o K) : wpO tab ext ρ id H o K' := by
  cases o with
  | call f args => exact CallP.mono h hk
  | callv x args =>
    simp only [wpO, callvP] at h ⊢
    split at h
    · exact CallP.mono h hk
    · exact CallP.mono h hk
    · exact h
  | move x => exact hk _ _ h
  | box x => obtain ⟨l, h0, H', h1, h2⟩ := h; exact ⟨l, h0, H', h1, hk _ _ h2⟩
  | buildSlice esz len z ps => obtain ⟨l, h0, H', h1, h2⟩ := h; exact ⟨l, h0, H', h1, hk _ _ h2⟩
  | makeSlice esz bytes z l c => obtain ⟨l, h0, H', h1, h2⟩ := h; exact ⟨l, h0, H', h1, hk _ _ h2⟩
  | _ => obtain ⟨l, h0, h2⟩ := h; exact ⟨l, h0, hk _ _ h2⟩
theorem gP_mono {c : Bool} {H : AH} {P P' : (AV → AH → Prop) → Prop} {K K' : AV → AH → Prop} (hP : (∀ v H', K v H' → K' v H') → P K → P' K') (hk : ∀ v H', K v H' → K' v H') (h : gP c H P K) : gP c H P' K' := by
  unfold gP at *
  cases c with
  | true => exact hP hk h
  | false => exact hk _ _ h
theorem watchP_mono {T : List AV} {H : AH} {P P' : Prop} (hp : P → P') : ∀ {ws : List Watch}, watchP T H ws P → watchP T H ws P'
  | [], h => hp h
  | _ :: _, h => ⟨h.1, watchP_mono hp h.2⟩
theorem wpR_mono {base : Nat} {K K' : List AV → AH → Prop} (hk : ∀ T H, K T H → K' T H) : ∀ {l : List ROper} {T : List AV} {H : AH}, wpR tab ext base l T H K → wpR tab ext base l T H K'
  | [], _, _, h => hk _ _ h
  | o :: l, T, H, h => by
    simp only [wpR] at h ⊢
    split at h
    · exact wpO_mono (fun v H' => watchP_mono (wpR_mono hk)) h
    · exact gP_mono (fun hk' => wpO_mono hk') (fun v H' => watchP_mono (wpR_mono hk)) h
theorem wpC_mono : ∀ {c : RC} {T : List AV} {H : AH} {K K' : Ex → List AV → AH → Prop}, (∀ e T H, K e T H → K' e T H) → wpC tab ext c T H K → wpC tab ext c T H K'
  | .skip, _, _, _, _, hk, h => hk _ _ _ h
  | .ret, _, _, _, _, hk, h => hk _ _ _ h
  | .exit _, _, _, _, _, hk, h => hk _ _ _ h
  | .region _ _, _, _, _, _, hk, h => wpR_mono (hk .norm) h
  | .seq a b, T, H, K, K', hk, h => wpC_mono (c := a) (fun e T H h => by
      cases e with
      | norm => exact wpC_mono (c := b) hk h
      | ret => exact hk _ _ _ h
      | out id => exact hk _ _ _ h) h
  | .cond c a b, T, H, K, K', hk, h => by
    simp only [wpC, condP] at h ⊢
    split at h
    · exact wpC_mono (c := a) hk h
    · exact wpC_mono (c := b) hk h
    · exact h.elim
  | .block id a, T, H, K, K', hk, h => wpC_mono (c := a) (fun e T H h => by
      cases e with
      | norm => exact hk _ _ _ h
      | ret => exact hk _ _ _ h
      | out i =>
        simp only [blockK] at h ⊢
        split
        · rename_i he; rw [if_pos he] at h; exact hk _ _ _ h
        · rename_i he; rw [if_neg he] at h; exact hk _ _ _ h) h
  | .loop a, T, H, K, K', hk, ⟨k, e, T', H', h1, h2⟩ => ⟨k, e, T', H', h1, hk _ _ _ h2⟩
theorem wpO_pure {ρ : Opd → AV} {id : Nat} {H : AH} {o : ROp} {v : AV} {K : AV → AH → Prop} (h : pureA ρ o = some v) (hk : o.kind = .pure) (hK : K v H) : wpO tab ext ρ id H o K := by
  cases o <;> simp only [ROp.kind, reduceCtorEq] at hk
  case move x => simp only [pureA, Option.some.injEq] at h; subst h; exact hK
  case stuck => simp [pureA] at h
  all_goals exact ⟨v, h, hK⟩
theorem WK.watch {E0 : Env} {os : List ROper} {K : Env → List Asr → Prop} {ρ : HF} {Rs : List Asr} {base : Nat} {T0 T : List AV} {H : AH} (hT : T.length = n) (hl0 : LvE T0 E0) : ∀ {ws : List Watch}, WK tab ext n ws E0 E L os K → LvE T E → Sat ρ H (fres base os ++ (L ++ Rs)) →
    watchP T0 H ws (wpR tab ext base os T H (fun T H => ∃ E L, K E L ∧ T.length = n ∧ LvE T E ∧ Sat ρ H (L ++ Rs)))
  | [], h, hl, hs => h ρ Rs base T H hT hl hs
  | w :: ws, ⟨⟨h1, h0⟩, h2⟩, hl, hs => by
    refine ⟨?_, WK.watch hT hl0 h2 hl hs⟩
    have key : (∀ p, w.guard = some p → gd (T0.getD p.1 undef) p.2 = true) → loadA w.m (ev T0 w.a) H = some (T0.getD w.dst undef) := by
      intro hg
      have : ∃ g, (match w.guard with | none => some (AV.s (.bool true)) | some p => look E0 p.1) = some g ∧ (∀ p, w.guard = some p → gd g p.2 = true) := by
        cases hw : w.guard with
        | none => exact ⟨_, rfl, fun _ h => by cases h⟩
        | some p =>
          have h3 := h0 p hw
          obtain ⟨g, hgE⟩ := Option.isSome_iff_exists.1 h3
          refine ⟨g, hgE, fun q hq => ?_⟩
          cases hq
          have h4 := hg p hw
          have h5 : T0.getD p.1 undef = g := hl0 _ _ hgE
          rw [h5] at h4; exact h4
      obtain ⟨g, g1, g2⟩ := this
      obtain ⟨b, o, v, e1, e2, e3⟩ := h1 g g1 g2
      rw [evo_ok hl0 e1]
      have e4 : T0.getD w.dst undef = v := hl0 _ _ e2
      rw [e4]
      rcases e3 with ⟨e5, x, rfl, e6⟩ | ⟨m, l, e5, rfl, e6⟩
      · rw [e5]; show (H.ld b o).map AV.s = _; rw [e6.of ρ H _ hs.mid]; rfl
      · rw [e5]; show (H.ldn b o m).map AV.agg = _; rw [e6.of ρ H _ hs.mid]; rfl
    cases hw : w.guard with
    | none => exact key (fun _ h => by rw [hw] at h; cases h)
    | some p => obtain ⟨t, b⟩ := p; exact fun hg => key (fun q hq => by rw [hw] at hq; cases hq; exact hg)
variable {os : List ROper} {Kr : Env → List Asr → Prop} {d i : Nat} {ws : List Watch}
theorem RP.gen {o : ROper} (hg : o.guard = none) (h : ∀ (ρ : HF) (Rs : List Asr) (base : Nat) (T : List AV) (H : AH), T.length = n → LvE T E → Sat ρ H (Fre (base + o.idx) :: (fres base os ++ (L ++ Rs))) →
    wpO tab ext (ev T) (base + o.idx) H o.op fun v H' => ∃ E' L', WK tab ext n o.watch E E' L' os Kr ∧ LvE (put T o.dst v) E' ∧ Sat ρ H' (fres base os ++ (L' ++ Rs))) : RP tab ext n E L (o :: os) Kr := by
  intro ρ Rs base T H hT hl hs
  simp only [wpR, hg]
  refine wpO_mono ?_ (h ρ Rs base T H hT hl hs)
  rintro v H' ⟨E', L', h1, h2, h3⟩
  exact WK.watch (put_len hT _ _) hl h1 h2 h3
theorem RP.done (h : Kr E L) : RP tab ext n E L [] Kr := fun _ _ _ _ _ hT hl hs => ⟨E, L, h, hT, hl, hs⟩
theorem WK.z {E0 : Env} (h : RP tab ext n E L os Kr) : WK tab ext n [] E0 E L os Kr := h
theorem RP.p {op : ROp} {v : AV} (h : pureE E op = some v) (hd : Nat.blt d n = true) (k : RP tab ext n ((d, v) :: E) L os Kr) : RP tab ext n E L (⟨some d, op, none, i, []⟩ :: os) Kr :=
  RP.gen rfl fun _ _ _ _ _ hT hl hs => let h1 := pureE_ok hl h; wpO_pure h1.1 h1.2 ⟨_, L, k, hl.put hT hd v, hs.drop⟩
theorem RP.pn {op : ROp} {v : AV} (h : pureE E op = some v) (k : RP tab ext n E L os Kr) : RP tab ext n E L (⟨none, op, none, i, []⟩ :: os) Kr :=
  RP.gen rfl fun _ _ _ _ _ _ hl hs => let h1 := pureE_ok hl h; wpO_pure h1.1 h1.2 ⟨_, L, k, hl, hs.drop⟩
theorem RP.l {a : Opd} {b o : Nat} {x : SV} (ha : evo E a = some (.s (.ptr (some (b, o))))) (hl : Ld L b o x) (hd : Nat.blt d n = true) (k : RP tab ext n ((d, .s x) :: E) L os Kr) : RP tab ext n E L (⟨some d, .load none a, none, i, []⟩ :: os) Kr :=
  RP.gen rfl fun ρ Rs base T H hT hv hs => by
    refine ⟨.s x, ?_, _, L, k, hv.put hT hd _, hs.drop⟩
    simp only [evo_ok hv ha]
    show (H.ld b o).map AV.s = _
    rw [hl.of ρ H _ hs.drop.mid]; rfl
theorem RP.ln {a : Opd} {b o m : Nat} {l : List SV} (ha : evo E a = some (.s (.ptr (some (b, o))))) (hl : Ldn L b o m l) (hd : Nat.blt d n = true) (k : RP tab ext n ((d, .agg l) :: E) L os Kr) : RP tab ext n E L (⟨some d, .load (some m) a, none, i, []⟩ :: os) Kr :=
  RP.gen rfl fun ρ Rs base T H hT hv hs => by
    refine ⟨.agg l, ?_, _, L, k, hv.put hT hd _, hs.drop⟩
    simp only [evo_ok hv ha]
    show (H.ldn b o m).map AV.agg = _
    rw [hl.of ρ H _ hs.drop.mid]; rfl
theorem RP.s {a v : Opd} {b o m : Nat} {u : AV} {vs : List SV} {L' : List Asr} (ha : evo E a = some (.s (.ptr (some (b, o))))) (hv : evo E v = some u) (hc : u.cells? = some vs) (hm : Nat.beq vs.length m = true) (hst : Stw L b o vs L') (k : WK tab ext n ws E E L' os Kr) : RP tab ext n E L (⟨none, .store m a v, none, i, ws⟩ :: os) Kr :=
  RP.gen rfl fun ρ Rs base T H hT hl hs => by
    obtain ⟨H', h1, h2⟩ := hst.of ρ H _ hs.drop.mid
    refine ⟨H', ?_, _, L', k, hl, h2.mid⟩
    rw [evo_ok hl ha, evo_ok hl hv]
    show (match u.cells? with | some l => if l.length = m then H.stn b o l else none | none => none) = _
    rw [hc]
    simp only
    rw [if_pos (Nat.eq_of_beq_eq_true hm), h1]
theorem RP.nw {l : List SV} (hd : Nat.blt d n = true) (k : ∀ b, RP tab ext n ((d, .s (.ptr (some (b, 0)))) :: E) (Cel b l :: L) os Kr) : RP tab ext n E L (⟨some d, .newc l, none, i, []⟩ :: os) Kr :=
  RP.gen rfl fun ρ Rs base T H hT hl hs => by
    have h1 := Sat.mk hs l
    refine ⟨_, new_of H hs.fre, _, _, k _, hl.put hT hd _, ?_⟩
    exact h1.perm (List.perm_middle.symm)
theorem RP.bs {esz len : Nat} {z : List SV} {ps : List (Nat × Nat × Opd)} {us : List (Nat × Nat × AV)} {l : List SV} (hp : evp E ps = some us) (hf : fillA z us = some l) (hd : Nat.blt d n = true) (k : ∀ b, RP tab ext n ((d, .s (.slice (some (b, 0)) len len esz)) :: E) (Cel b l :: L) os Kr) : RP tab ext n E L (⟨some d, .buildSlice esz len z ps, none, i, []⟩ :: os) Kr :=
  RP.gen rfl fun ρ Rs base T H hT hl hs => by
    have h1 := Sat.mk hs l
    refine ⟨l, by rw [evp_ok hl hp, hf], _, new_of H hs.fre, _, _, k _, hl.put hT hd _, ?_⟩
    exact h1.perm (List.perm_middle.symm)
theorem RP.mk {esz bytes : Nat} {z l : List SV} {a c : Opd} {ua uc : AV} {na nc : Nat} (ha : evo E a = some ua) (hc : evo E c = some uc) (hm : makeA esz bytes z ua uc = some (l, na, nc)) (hd : Nat.blt d n = true) (k : ∀ b, RP tab ext n ((d, .s (.slice (some (b, 0)) na nc esz)) :: E) (Cel b l :: L) os Kr) : RP tab ext n E L (⟨some d, .makeSlice esz bytes z a c, none, i, []⟩ :: os) Kr :=
  RP.gen rfl fun ρ Rs base T H hT hl hs => by
    have h1 := Sat.mk hs l
    refine ⟨_, by rw [evo_ok hl ha, evo_ok hl hc, hm], _, new_of H hs.fre, _, _, k _, hl.put hT hd _, ?_⟩
    exact h1.perm (List.perm_middle.symm)
theorem RP.c {f : Nat} {args : List Opd} {vs : List AV} {P R : List Asr} {Q : AV → List Asr → Prop} (ha : evl E args = some vs) (t : Tri tab ext f vs P Q) (hin : Ins P L R) (hd : Nat.blt d n = true)
    (k : ∀ v P', Q v P' → WK tab ext n ws E ((d, v) :: E) (P' ++ R) os Kr) : RP tab ext n E L (⟨some d, .call f args, none, i, ws⟩ :: os) Kr :=
  RP.gen rfl fun ρ Rs base T H hT hl hs => by
    show CallP tab ext f (args.map (ev T)) H _
    rw [evl_ok hl ha]
    refine t.use (R := R ++ (fres base os ++ Rs)) (hin.sat hs.drop.mid) ?_
    intro v H' P' hq hs'
    refine ⟨_, _, k v P' hq, hl.put hT hd _, ?_⟩
    rw [← List.append_assoc] at hs'
    exact hs'.mid
theorem RP.cn {f : Nat} {args : List Opd} {vs : List AV} {P R : List Asr} {Q : AV → List Asr → Prop} (ha : evl E args = some vs) (t : Tri tab ext f vs P Q) (hin : Ins P L R)
    (k : ∀ v P', Q v P' → WK tab ext n ws E E (P' ++ R) os Kr) : RP tab ext n E L (⟨none, .call f args, none, i, ws⟩ :: os) Kr :=
  RP.gen rfl fun ρ Rs base T H hT hl hs => by
    show CallP tab ext f (args.map (ev T)) H _
    rw [evl_ok hl ha]
    refine t.use (R := R ++ (fres base os ++ Rs)) (hin.sat hs.drop.mid) ?_
    intro v H' P' hq hs'
    refine ⟨_, _, k v P' hq, hl, ?_⟩
    rw [← List.append_assoc] at hs'
    exact hs'.mid
theorem RP.cv {x : Opd} {f : Nat} {caps : List (Nat × Nat)} {args : List Opd} {vs : List AV} {P R : List Asr} {Q : AV → List Asr → Prop} (hx : evo E x = some (.s (.fn f caps))) (ha : evl E args = some vs) (t : Tri tab ext f (vs ++ caps.map fun a => .s (.ptr (some a))) P Q) (hin : Ins P L R) (hd : Nat.blt d n = true)
    (k : ∀ v P', Q v P' → WK tab ext n ws E ((d, v) :: E) (P' ++ R) os Kr) : RP tab ext n E L (⟨some d, .callv x args, none, i, ws⟩ :: os) Kr :=
  RP.gen rfl fun ρ Rs base T H hT hl hs => by
    show callvP tab ext (ev T x) (args.map (ev T)) H _
    rw [evl_ok hl ha, evo_ok hl hx]
    refine t.use (R := R ++ (fres base os ++ Rs)) (hin.sat hs.drop.mid) ?_
    intro v H' P' hq hs'
    refine ⟨_, _, k v P' hq, hl.put hT hd _, ?_⟩
    rw [← List.append_assoc] at hs'
    exact hs'.mid
theorem RP.g {t : Nat} {b c : Bool} {dst : Option Nat} {op : ROp} (ht : look E t = some (.s (.bool c)))
    (h1 : c = b → RP tab ext n ((t, .s (.bool b)) :: E) L (⟨dst, op, none, i, ws⟩ :: os) Kr) (h2 : c = !b → RP tab ext n ((t, .s (.bool !b)) :: E) L (⟨dst, .move (.c undef), none, i, ws⟩ :: os) Kr) : RP tab ext n E L (⟨dst, op, some (t, b), i, ws⟩ :: os) Kr := by
  intro ρ Rs base T H hT hl hs
  have e : T.getD t undef = .s (.bool c) := hl _ _ ht
  have hl2 : LvE T ((t, .s (.bool c)) :: E) := fun j v hv => by
    simp only [look] at hv
    cases hb : Nat.beq t j with
    | true => rw [hb, cond_true] at hv; cases hv; have := Nat.eq_of_beq_eq_true hb; subst this; exact e
    | false => rw [hb, cond_false] at hv; exact hl _ _ hv
  simp only [wpR, e, gd_bool]
  by_cases hc : c = b
  · subst hc
    rw [show (c == c) = true by simp]
    have := h1 rfl ρ Rs base T H hT hl2 hs
    simpa only [wpR, gP_true] using this
  · have hc' : c = !b := by cases c <;> cases b <;> simp_all
    subst hc'
    rw [show ((!b) == b) = false by cases b <;> rfl]
    have := h2 rfl ρ Rs base T H hT hl2 hs
    simpa only [wpR, wpO, ev, gP_false] using this
theorem RP.gt {t : Nat} {b : Bool} {dst : Option Nat} {op : ROp} (ht : look E t = some (.s (.bool b))) (h1 : RP tab ext n E L (⟨dst, op, none, i, ws⟩ :: os) Kr) : RP tab ext n E L (⟨dst, op, some (t, b), i, ws⟩ :: os) Kr := by
  intro ρ Rs base T H hT hl hs
  have e : T.getD t undef = .s (.bool b) := hl _ _ ht
  simp only [wpR, e, gd_bool]
  rw [show (b == b) = true by simp]
  have := h1 ρ Rs base T H hT hl hs
  simpa only [wpR, gP_true] using this
theorem RP.gf {t : Nat} {b : Bool} {dst : Option Nat} {op : ROp} (ht : look E t = some (.s (.bool !b))) (h1 : RP tab ext n E L (⟨dst, .move (.c undef), none, i, ws⟩ :: os) Kr) : RP tab ext n E L (⟨dst, op, some (t, b), i, ws⟩ :: os) Kr := by
  intro ρ Rs base T H hT hl hs
  have e : T.getD t undef = .s (.bool !b) := hl _ _ ht
  simp only [wpR, e, gd_bool]
  rw [show ((!b) == b) = false by cases b <;> rfl]
  have := h1 ρ Rs base T H hT hl hs
  simpa only [wpR, wpO, ev, gP_false] using this
theorem RP.gu {t : Nat} {b : Bool} {dst : Option Nat} {op : ROp} {l : List Part} (ht : look E t = some (.tup l)) (h1 : RP tab ext n E L (⟨dst, .move (.c undef), none, i, ws⟩ :: os) Kr) : RP tab ext n E L (⟨dst, op, some (t, b), i, ws⟩ :: os) Kr := by
  intro ρ Rs base T H hT hl hs
  have e : T.getD t undef = .tup l := hl _ _ ht
  simp only [wpR, e, gd_tup]
  have := h1 ρ Rs base T H hT hl hs
  simpa only [wpR, wpO, ev, gP_false] using this
theorem RP.fact {p : Prop} (h : ∀ (ρ : HF) (H : AH) (R : List Asr), Sat ρ H (L ++ R) → p) (k : p → RP tab ext n E L os Kr) : RP tab ext n E L os Kr :=
  fun ρ Rs base T H hT hl hs => k (h ρ H _ hs.mid) ρ Rs base T H hT hl hs
theorem RP.imp {α : Type} {L' : α → List Asr} (h : ∀ (ρ : HF) (H : AH) (R : List Asr), Sat ρ H (L ++ R) → ∃ a, Sat ρ H (L' a ++ R)) (k : ∀ a, RP tab ext n E (L' a) os Kr) : RP tab ext n E L os Kr :=
  fun ρ Rs base T H hT hl hs => let ⟨a, h1⟩ := h ρ H _ hs.mid; k a ρ Rs base T H hT hl h1.mid
theorem RP.ent {L' : List Asr} (h : LEnt L L') (k : RP tab ext n E L' os Kr) : RP tab ext n E L os Kr :=
  fun ρ Rs base T H hT hl hs => k ρ Rs base T H hT hl (h ρ H _ hs.mid).mid
theorem RP.env {E' : Env} (h : ELe E' E) (k : RP tab ext n E' L os Kr) : RP tab ext n E L os Kr :=
  fun ρ Rs base T H hT hl hs => k ρ Rs base T H hT (h.lv hl) hs
theorem RP.pw {op : BinOp} {x y : Opd} {a b v : AV} (hx : evo E x = some a) (hy : evo E y = some b) (h : binA op a b = some v) (hd : Nat.blt d n = true) (k : RP tab ext n ((d, v) :: E) L os Kr) : RP tab ext n E L (⟨some d, .bin op x y, none, i, []⟩ :: os) Kr :=
  RP.gen rfl fun ρ Rs base T H hT hl hs => wpO_pure (o := .bin op x y) (by simp only [pureA, evo_ok hl hx, evo_ok hl hy, h]) rfl ⟨_, L, k, hl.put hT hd v, hs.drop⟩
theorem RP.ad {x y : Opd} {a b : Int} (hx : evo E x = some (i64 a)) (hy : evo E y = some (i64 b)) (h : -9223372036854775808 ≤ a + b ∧ a + b < 9223372036854775808) (hd : Nat.blt d n = true) (k : RP tab ext n ((d, i64 (a + b)) :: E) L os Kr) : RP tab ext n E L (⟨some d, .bin .add x y, none, i, []⟩ :: os) Kr :=
  RP.pw hx hy (by simp [wrap_i64 h.1 h.2]) hd k
theorem RP.su {x y : Opd} {a b : Int} (hx : evo E x = some (i64 a)) (hy : evo E y = some (i64 b)) (h : -9223372036854775808 ≤ a - b ∧ a - b < 9223372036854775808) (hd : Nat.blt d n = true) (k : RP tab ext n ((d, i64 (a - b)) :: E) L os Kr) : RP tab ext n E L (⟨some d, .bin .sub x y, none, i, []⟩ :: os) Kr :=
  RP.pw hx hy (by simp [wrap_i64 h.1 h.2]) hd k
theorem RP.inc {x y : Opd} {a : Nat} (hx : evo E x = some (i64 a)) (hy : evo E y = some (i64 1)) (h : a < 4611686018427387904) (hd : Nat.blt d n = true) (k : RP tab ext n ((d, i64 ((a + 1 : Nat) : Int)) :: E) L os Kr) : RP tab ext n E L (⟨some d, .bin .add x y, none, i, []⟩ :: os) Kr :=
  RP.pw hx hy (by simp; rw [wrap_i64 (by omega) (by omega)]) hd k
theorem RP.dec {x y : Opd} {a : Nat} (hx : evo E x = some (i64 ((a + 1 : Nat) : Int))) (hy : evo E y = some (i64 1)) (h : a < 4611686018427387904) (hd : Nat.blt d n = true) (k : RP tab ext n ((d, i64 a) :: E) L os Kr) : RP tab ext n E L (⟨some d, .bin .sub x y, none, i, []⟩ :: os) Kr :=
  RP.pw hx hy (by simp; exact wrap_i64 (by omega) (by omega)) hd k
theorem RP.ix {α : Type} {k : Nat} {s : SV} {r : List α} {x y : Opd} {kd : IntKind} {a : Int} (hx : evo E x = some (.s s)) (hy : evo E y = some (.s (.int kd a))) (hr : RdIn L k s r) (h : 0 ≤ a ∧ a < r.length) (hd : Nat.blt d n = true) (kk : RP tab ext n ((d, .s (.ptr (some (sb s, Go.AM.ix 0 a.toNat k 0)))) :: E) L os Kr) : RP tab ext n E L (⟨some d, .indexSl k x y, none, i, []⟩ :: os) Kr :=
  RP.fact (p := indexSlA k (.s s) (.s (.int kd a)) = some (.s (.ptr (some (sb s, Go.AM.ix 0 a.toNat k 0))))) (fun ρ H X hs => by
    obtain ⟨c, e⟩ := (hr.of ρ H X hs).2 (by omega)
    rw [e]
    simp [Go.AM.sb, Go.AM.ix, h.1, h.2]) fun hp => RP.p (by simp only [pureE, hx, hy, Option.bind_some, hp]) hd kk
theorem RP.ixn {α : Type} {k : Nat} {s : SV} {r : List α} {x y : Opd} {kd : IntKind} {a : Nat} (hx : evo E x = some (.s s)) (hy : evo E y = some (.s (.int kd a))) (hr : RdIn L k s r) (h : a < r.length) (hd : Nat.blt d n = true) (kk : RP tab ext n ((d, .s (.ptr (some (sb s, Go.AM.ix 0 a k 0)))) :: E) L os Kr) : RP tab ext n E L (⟨some d, .indexSl k x y, none, i, []⟩ :: os) Kr :=
  RP.ix hx hy hr ⟨by omega, by omega⟩ hd (by simpa using kk)
theorem RP.ixs {k b o len c e : Nat} {x y : Opd} {kd : IntKind} {a : Int} (hx : evo E x = some (.s (.slice (some (b, o)) len c e))) (hy : evo E y = some (.s (.int kd a))) (h : 0 ≤ a ∧ a < (len : Int)) (hd : Nat.blt d n = true) (kk : RP tab ext n ((d, .s (.ptr (some (b, Go.AM.ix o a.toNat k 0)))) :: E) L os Kr) : RP tab ext n E L (⟨some d, .indexSl k x y, none, i, []⟩ :: os) Kr :=
  RP.p (by simp [pureE, hx, hy, h.1, h.2, Go.AM.ix]) hd kk
theorem RP.ia {k b o len : Nat} {x y : Opd} {kd : IntKind} {a : Int} (hx : evo E x = some (.s (.ptr (some (b, o))))) (hy : evo E y = some (.s (.int kd a))) (h : 0 ≤ a ∧ a < (len : Int)) (hd : Nat.blt d n = true) (kk : RP tab ext n ((d, .s (.ptr (some (b, Go.AM.ix o a.toNat k 0)))) :: E) L os Kr) : RP tab ext n E L (⟨some d, .indexArr len k x y, none, i, []⟩ :: os) Kr :=
  RP.p (by simp [pureE, hx, hy, h.1, h.2, Go.AM.ix]) hd kk
theorem RP.ian {k b o len : Nat} {x y : Opd} {kd : IntKind} {a : Nat} (hx : evo E x = some (.s (.ptr (some (b, o))))) (hy : evo E y = some (.s (.int kd a))) (h : a < len) (hd : Nat.blt d n = true) (kk : RP tab ext n ((d, .s (.ptr (some (b, Go.AM.ix o a k 0)))) :: E) L os Kr) : RP tab ext n E L (⟨some d, .indexArr len k x y, none, i, []⟩ :: os) Kr :=
  RP.ia hx hy ⟨by omega, by omega⟩ hd (by simpa using kk)
theorem RP.ixp {k b l len c e : Nat} {x y : Opd} {kd : IntKind} {a : Nat} (hx : evo E x = some (.s (.slice (some (b, l * k)) len c e))) (hy : evo E y = some (.s (.int kd a))) (h : a < len) (hd : Nat.blt d n = true) (kk : RP tab ext n ((d, .s (.ptr (some (b, Go.AM.ix 0 (l + a) k 0)))) :: E) L os Kr) : RP tab ext n E L (⟨some d, .indexSl k x y, none, i, []⟩ :: os) Kr :=
  RP.ixs hx hy ⟨by omega, by omega⟩ hd (by simpa [Go.AM.ix, Nat.add_mul] using kk)
theorem RP.pt {α : Type} {enc : α → List SV} {k : Nat} {s : SV} {r : List α} {x : Opd} {lo hi mx : Option Opd} {lo' hi' mx' : Option AV} {l h m : Nat} (hx : evo E x = some (.s s)) (hr : RowIn L enc k s r) (h0 : 0 < r.length) (h1 : evm E lo = some lo') (h2 : evm E hi = some hi') (h3 : evm E mx = some mx') (hb : r.length ≤ sc s → boundsA r.length (sc s) lo' hi' mx' = some (l, h, m)) (hd : Nat.blt d n = true)
    (kk : RP tab ext n ((d, .s (.slice (some (sb s, l * k)) (h - l) (m - l) k)) :: E) L os Kr) : RP tab ext n E L (⟨some d, .slSl k x lo hi mx, none, i, []⟩ :: os) Kr :=
  RP.fact (p := ∃ c, s = .slice (some (sb s, 0)) r.length c k ∧ c = sc s ∧ r.length ≤ c) (fun ρ H X hs => by
    obtain ⟨R', hs1⟩ := hr.of ρ H X hs
    obtain ⟨b, c, j, rfl, _, _, h5⟩ := Sat.rowBlk hs1 h0
    exact ⟨c, rfl, rfl, h5⟩) fun ⟨c, hp, hc, hcl⟩ => RP.p (v := .s (.slice (some (sb s, l * k)) (h - l) (m - l) k)) (by
      subst hc
      have hb := hb hcl
      simp only [pureE, hx, h1, h2, h3, Option.bind_some]
      rw [hp]
      simp only [slSlA, if_true]
      rw [← hp, hb]
      simp) hd kk
theorem RP.ln1 {α : Type} {k : Nat} {s : SV} {r : List α} {x : Opd} (hx : evo E x = some (.s s)) (hr : RdIn L k s r) (hd : Nat.blt d n = true) (kk : RP tab ext n ((d, i64 r.length) :: E) L os Kr) : RP tab ext n E L (⟨some d, .len x, none, i, []⟩ :: os) Kr :=
  RP.fact (p := lenA (.s s) = some (i64 r.length)) (fun ρ H X hs => (hr.of ρ H X hs).1) fun hp => RP.p (by simp only [pureE, hx, Option.bind_some, hp]) hd kk
theorem RP.fa {x : Opd} {b o off : Nat} (hx : evo E x = some (.s (.ptr (some (b, o))))) (hd : Nat.blt d n = true) (kk : RP tab ext n ((d, .s (.ptr (some (b, o + off)))) :: E) L os Kr) : RP tab ext n E L (⟨some d, .fieldAddr off x, none, i, []⟩ :: os) Kr :=
  RP.p (by simp [pureE, hx]) hd kk
theorem RP.fx {x : Opd} {b c a k d1 off : Nat} (hx : evo E x = some (.s (.ptr (some (b, Go.AM.ix c a k d1))))) (hd : Nat.blt d n = true) (kk : RP tab ext n ((d, .s (.ptr (some (b, Go.AM.ix c a k (d1 + off))))) :: E) L os Kr) : RP tab ext n E L (⟨some d, .fieldAddr off x, none, i, []⟩ :: os) Kr :=
  RP.p (by simp [pureE, hx, Nat.add_assoc, Go.AM.ix]) hd kk
theorem RP.cl {esz : Nat} {z : List SV} {x : Opd} {xv : AV} {L' : List Asr} (hx : evo E x = some xv)
    (h : ∀ (ρ : HF) (H : AH) (X : List Asr), Sat ρ H (L ++ X) → ∃ H', clearA esz z xv H = some H' ∧ Sat ρ H' (L' ++ X))
    (k : WK tab ext n ws E E L' os Kr) : RP tab ext n E L (⟨none, .clear esz z x, none, i, ws⟩ :: os) Kr :=
  RP.gen rfl fun ρ Rs base T H hT hl hq => by
    obtain ⟨H', h1, h2⟩ := h ρ H _ hq.drop.mid
    refine ⟨_, by rw [evo_ok hl hx]; exact h1, _, L', k, hl, h2.mid⟩
theorem RP.cy {esz : Nat} {s x : Opd} {sv xv : AV} {dst : Option Nat} {v' : AV} {L' : List Asr} {E' : Env} (hs : evo E s = some sv) (hx : evo E x = some xv)
    (h : ∀ (ρ : HF) (H : AH) (X : List Asr), Sat ρ H (L ++ X) → ∃ H', copyA esz sv xv H = some (v', H') ∧ Sat ρ H' (L' ++ X)) (he : ∀ T : List AV, T.length = n → LvE T E → LvE (put T dst v') E')
    (k : WK tab ext n ws E E' L' os Kr) : RP tab ext n E L (⟨dst, .copy esz s x, none, i, ws⟩ :: os) Kr :=
  RP.gen rfl fun ρ Rs base T H hT hl hq => by
    obtain ⟨H', h1, h2⟩ := h ρ H _ hq.drop.mid
    refine ⟨_, by rw [evo_ok hl hs, evo_ok hl hx]; exact h1, _, L', k, he T hT hl, h2.mid⟩
theorem is_rp {ops : List ROper} (h : RP tab ext n E L ops Kr) : RP tab ext n E L ops Kr := h
theorem is_tc {c : RC} (h : TC tab ext n E L c K) : TC tab ext n E L c K := h
theorem is_l {dst : Option Nat} {m : Option Nat} {a : Opd} (h : RP tab ext n E L (⟨dst, .load m a, none, i, ws⟩ :: os) Kr) : RP tab ext n E L (⟨dst, .load m a, none, i, ws⟩ :: os) Kr := h
theorem is_b {dst : Option Nat} {op : BinOp} {x y : Opd} (h : RP tab ext n E L (⟨dst, .bin op x y, none, i, ws⟩ :: os) Kr) : RP tab ext n E L (⟨dst, .bin op x y, none, i, ws⟩ :: os) Kr := h
theorem is_x {dst : Option Nat} {k : Nat} {x y : Opd} (h : RP tab ext n E L (⟨dst, .indexSl k x y, none, i, ws⟩ :: os) Kr) : RP tab ext n E L (⟨dst, .indexSl k x y, none, i, ws⟩ :: os) Kr := h
theorem is_s {dst : Option Nat} {k : Nat} {x y : Opd} (h : RP tab ext n E L (⟨dst, .store k x y, none, i, ws⟩ :: os) Kr) : RP tab ext n E L (⟨dst, .store k x y, none, i, ws⟩ :: os) Kr := h
def okIdx (k : Nat) : List ROper → Bool
  | [] => true
  | o :: os => Nat.blt o.idx k && (os.all fun p => !(Nat.beq p.idx o.idx)) && okIdx k os
theorem okIdx_ok {k : Nat} : ∀ {ops : List ROper}, okIdx k ops = true → (ops.map (·.idx)).Nodup ∧ ∀ i ∈ ops.map (·.idx), i < k
  | [], _ => ⟨List.nodup_nil, by simp⟩
  | o :: os, h => by
    simp only [okIdx, Bool.and_eq_true, List.all_eq_true, Bool.not_eq_true', Nat.blt_eq] at h
    obtain ⟨⟨h1, h2⟩, h3⟩ := h
    obtain ⟨g1, g2⟩ := okIdx_ok h3
    refine ⟨?_, ?_⟩
    · rw [List.map_cons, List.nodup_cons]
      refine ⟨?_, g1⟩
      intro hm
      obtain ⟨p, hp, he⟩ := List.mem_map.1 hm
      have := h2 p hp
      rw [he, Nat.beq_refl] at this; cases this
    · intro i hi
      rw [List.map_cons] at hi
      rcases List.mem_cons.1 hi with rfl | hi
      · exact h1
      · exact g2 i hi
theorem TC.reg {k : Nat} {ops : List ROper} (hk : okIdx k ops = true) (h : RP tab ext n E L ops (K .norm)) : TC tab ext n E L (.region k ops) K := by
  intro ρ Rs T H hT hl hs
  obtain ⟨h1, h2⟩ := okIdx_ok hk
  have h3 := Sat.frees hs k (ops.map (·.idx)) h2 h1
  rw [List.map_map] at h3
  exact h ρ Rs H.next T (H.bump k) hT hl h3
theorem TC.seq {a b : RC} (h : TC tab ext n E L a (sq tab ext n b K)) : TC tab ext n E L (.seq a b) K := by
  intro ρ Rs T H hT hl hs
  show wpC tab ext a T H _
  refine wpC_mono ?_ (h ρ Rs T H hT hl hs)
  rintro e T' H' ⟨E', L', h1, h2, h3, h4⟩
  cases e with
  | norm => exact h1 ρ Rs T' H' h2 h3 h4
  | ret => exact ⟨E', L', h1, h2, h3, h4⟩
  | out id => exact ⟨E', L', h1, h2, h3, h4⟩
theorem TC.blk {id : Nat} {a : RC} (h : TC tab ext n E L a (bk id K)) : TC tab ext n E L (.block id a) K := by
  intro ρ Rs T H hT hl hs
  show wpC tab ext a T H _
  refine wpC_mono ?_ (h ρ Rs T H hT hl hs)
  rintro e T' H' ⟨E', L', h1, h2, h3, h4⟩
  cases e with
  | norm => exact ⟨E', L', h1, h2, h3, h4⟩
  | ret => exact ⟨E', L', h1, h2, h3, h4⟩
  | out i =>
    simp only [bk] at h1
    simp only [blockK]
    by_cases e : i = id
    · subst e; rw [if_pos rfl]; rw [Nat.beq_refl, cond_true] at h1; exact ⟨E', L', h1, h2, h3, h4⟩
    · rw [if_neg e]
      have : Nat.beq i id = false := by cases hb : Nat.beq i id with
        | false => rfl
        | true => exact absurd (Nat.eq_of_beq_eq_true hb) e
      rw [this, cond_false] at h1; exact ⟨E', L', h1, h2, h3, h4⟩
theorem TC.skip (h : K .norm E L) : TC tab ext n E L .skip K := fun _ _ _ _ hT hl hs => ⟨E, L, h, hT, hl, hs⟩
theorem TC.ret (h : K .ret E L) : TC tab ext n E L .ret K := fun _ _ _ _ hT hl hs => ⟨E, L, h, hT, hl, hs⟩
theorem TC.exit {id : Nat} (h : K (.out id) E L) : TC tab ext n E L (.exit id) K := fun _ _ _ _ hT hl hs => ⟨E, L, h, hT, hl, hs⟩
theorem TC.cT {c : Opd} {a b : RC} (hc : evo E c = some (.s (.bool true))) (h : TC tab ext n E L a K) : TC tab ext n E L (.cond c a b) K := fun ρ Rs T H hT hl hs => by
  simp only [wpC, evo_ok hl hc]; exact h ρ Rs T H hT hl hs
theorem TC.cF {c : Opd} {a b : RC} (hc : evo E c = some (.s (.bool false))) (h : TC tab ext n E L b K) : TC tab ext n E L (.cond c a b) K := fun ρ Rs T H hT hl hs => by
  simp only [wpC, evo_ok hl hc]; exact h ρ Rs T H hT hl hs
theorem TC.cP {c : Opd} {a b : RC} {p : Prop} [Decidable p] (hc : evo E c = some (.s (.bool (decide p)))) (h1 : p → TC tab ext n E L a K) (h2 : ¬ p → TC tab ext n E L b K) : TC tab ext n E L (.cond c a b) K := fun ρ Rs T H hT hl hs => by
  simp only [wpC, evo_ok hl hc]
  by_cases hp : p
  · rw [decide_eq_true hp]; exact h1 hp ρ Rs T H hT hl hs
  · rw [decide_eq_false hp]; exact h2 hp ρ Rs T H hT hl hs
theorem TC.fact {c : RC} {p : Prop} (h : ∀ (ρ : HF) (H : AH) (R : List Asr), Sat ρ H (L ++ R) → p) (k : p → TC tab ext n E L c K) : TC tab ext n E L c K :=
  fun ρ Rs T H hT hl hs => k (h ρ H _ hs) ρ Rs T H hT hl hs
theorem TC.imp {c : RC} {α : Type} {L' : α → List Asr} (h : ∀ (ρ : HF) (H : AH) (R : List Asr), Sat ρ H (L ++ R) → ∃ a, Sat ρ H (L' a ++ R)) (k : ∀ a, TC tab ext n E (L' a) c K) : TC tab ext n E L c K :=
  fun ρ Rs T H hT hl hs => let ⟨a, h1⟩ := h ρ H _ hs; k a ρ Rs T H hT hl h1
theorem TC.ent {c : RC} {L' : List Asr} (h : LEnt L L') (k : TC tab ext n E L' c K) : TC tab ext n E L c K :=
  fun ρ Rs T H hT hl hs => k ρ Rs T H hT hl (h ρ H _ hs)
theorem TC.env {c : RC} {E' : Env} (h : ELe E' E) (k : TC tab ext n E' L c K) : TC tab ext n E L c K :=
  fun ρ Rs T H hT hl hs => k ρ Rs T H hT (h.lv hl) hs
theorem TC.mono {c : RC} {K' : Pst} (h : TC tab ext n E L c K) (hk : ∀ e E L, K e E L → K' e E L) : TC tab ext n E L c K' := fun ρ Rs T H hT hl hs =>
  wpC_mono (fun _ _ _ ⟨E', L', h1, h2⟩ => ⟨E', L', hk _ _ _ h1, h2⟩) (h ρ Rs T H hT hl hs)
theorem TC.loop {c : RC} {α : Type} (m : α → Nat) (I : α → Prop) (Ei : α → Env) (Li : α → List Asr) (a0 : α) (h0 : I a0) (hE : ELe (Ei a0) E) (hL : LEnt L (Li a0)) (step : ∀ a, I a → TC tab ext n (Ei a) (Li a) c (lpK m I Ei Li a K)) : TC tab ext n E L (.loop c) K := by
  intro ρ Rs T H hT hl hs
  refine loopP_inv (I := fun k T H => T.length = n ∧ ∃ a, I a ∧ m a = k ∧ LvE T (Ei a) ∧ Sat ρ H (Li a ++ Rs)) ?_ (m a0) T H ⟨hT, a0, h0, rfl, hE.lv hl, hL _ _ _ hs⟩
  rintro k T H ⟨hT, a, hI, rfl, hl, hs⟩
  refine wpC_mono ?_ (step a hI ρ Rs T H hT hl hs)
  rintro e T' H' ⟨E', L', h1, h2, h3, h4⟩
  cases e with
  | norm =>
    obtain ⟨a', g0, g1, g2, g3⟩ := h1
    exact ⟨m a', g1, h2, a', g0, rfl, g2.lv h3, g3 _ _ _ h4⟩
  | ret => exact ⟨E', L', h1, h2, h3, h4⟩
  | out id => exact ⟨E', L', h1, h2, h3, h4⟩
theorem TC.mid {α : Type} (I : α → Prop) (Ei : α → Env) (Li : α → List Asr) {c b : RC} (h : TC tab ext n E L c (mdx I Ei Li K)) (k : ∀ p, I p → TC tab ext n (Ei p) (Li p) b K) : TC tab ext n E L c (sq tab ext n b K) :=
  h.mono fun e E' L' hk => by
    cases e with
    | norm => obtain ⟨p, h1, h2, h3⟩ := hk; exact TC.env h2 (TC.ent h3 (k p h1))
    | ret => exact hk
    | out i => exact hk
section
variable {α : Type} {I : α → Prop} {Ei : α → Env} {Li : α → List Asr}
theorem md_r (h : K .ret E L) : mdx I Ei Li K .ret E L := h
theorem md_o {i : Nat} (h : K (.out i) E L) : mdx I Ei Li K (.out i) E L := h
end
theorem sq_n {b : RC} (h : TC tab ext n E L b K) : sq tab ext n b K .norm E L := h
theorem sq_r {b : RC} (h : K .ret E L) : sq tab ext n b K .ret E L := h
theorem sq_o {b : RC} {i : Nat} (h : K (.out i) E L) : sq tab ext n b K (.out i) E L := h
theorem bk_n {id : Nat} (h : K .norm E L) : bk id K .norm E L := h
theorem bk_r {id : Nat} (h : K .ret E L) : bk id K .ret E L := h
theorem bk_e {id : Nat} (h : K .norm E L) : bk id K (.out id) E L := by simp only [bk]; rw [Nat.beq_refl, cond_true]; exact h
theorem bk_o {id i : Nat} (hi : Nat.beq i id = false) (h : K (.out i) E L) : bk id K (.out i) E L := by simp only [bk]; rw [hi, cond_false]; exact h
section
variable {α : Type} {m : α → Nat} {I : α → Prop} {Ei : α → Env} {Li : α → List Asr} {a : α}
theorem lp_r (h : K .ret E L) : lpK m I Ei Li a K .ret E L := h
theorem lp_o {i : Nat} (h : K (.out i) E L) : lpK m I Ei Li a K (.out i) E L := h
theorem lp_n (a' : α) (h0 : I a') (h1 : m a' < m a) (h2 : ELe (Ei a') E) (h3 : LEnt L (Li a')) : lpK m I Ei Li a K .norm E L := ⟨a', h0, h1, h2, h3⟩
end
theorem rt_r {rs : List RRes} {Q : AV → List Asr → Prop} {v : AV} {P' : List Asr} (h1 : resE E L rs v) (h2 : Q v P') (h3 : LEnt L P') : rt rs Q .ret E L := ⟨v, P', h1, h2, h3⟩
def env0 : Nat → List AV → Env
  | _, [] => []
  | i, v :: vs => (i, v) :: env0 (i + 1) vs
theorem env0_lv : ∀ (vs : List AV) (i : Nat) (T : List AV), (∀ j v, vs[j]? = some v → sl T (i + j) = v) → LvE T (env0 i vs)
  | [], i, T, _ => fun j v h => by simp [env0, look] at h
  | v :: vs, i, T, h => fun j u hu => by
    simp only [env0, look] at hu
    cases hb : Nat.beq i j with
    | true =>
      rw [hb, cond_true] at hu
      cases hu
      have := Nat.eq_of_beq_eq_true hb
      subst this
      simpa using h 0 v (by simp)
    | false =>
      rw [hb, cond_false] at hu
      exact env0_lv vs (i + 1) T (fun k w hw => by rw [show i + 1 + k = i + (k + 1) by omega]; exact h (k + 1) w (by simpa using hw)) j u hu
theorem resE_ok {ρ : HF} {H : AH} {R : List Asr} {T : List AV} (hl : LvE T E) (hs : Sat ρ H (L ++ R)) {rs : List RRes} {v : AV} (h : resE E L rs v) : resA rs T H = some v := by
  have one : ∀ {t : Nat} {u : AV}, look E t = some u → T.getD t undef = u := fun h => hl _ _ h
  have many : ∀ {rs : List RRes} {ps : List Part}, resE.resL E L rs ps → ∃ vs, rs.mapM (resA1 T H) = some vs ∧ partsA vs = some ps := by
    intro rs
    induction rs with
    | nil => intro ps h; cases ps with
      | nil => exact ⟨[], rfl, rfl⟩
      | cons => simp [resE.resL] at h
    | cons r rs ih =>
      intro ps h
      cases ps with
      | nil => cases r <;> simp [resE.resL] at h
      | cons p ps =>
        cases r with
        | tmp t =>
          obtain ⟨h1, h2⟩ := h
          obtain ⟨vs, g1, g2⟩ := ih h2
          have e0 : resA1 T H (.tmp t) = some p.av := congrArg some (one h1)
          refine ⟨p.av :: vs, by simp [List.mapM_cons, e0, g1], ?_⟩
          simp only [partsA, g2]
          cases p <;> rfl
        | cell t m =>
          obtain ⟨⟨b, o, h1, h3⟩, h2⟩ := h
          obtain ⟨vs, g1, g2⟩ := ih h2
          have : resA1 T H (.cell t m) = some p.av := by
            simp only [resA1, one h1]
            rcases h3 with ⟨rfl, x, rfl, h4⟩ | ⟨k, l, rfl, rfl, h4⟩
            · show (H.ld b o).map AV.s = _; rw [h4.of ρ H R hs]; rfl
            · show (H.ldn b o k).map AV.agg = _; rw [h4.of ρ H R hs]; rfl
          refine ⟨p.av :: vs, by simp [List.mapM_cons, this, g1], ?_⟩
          simp only [partsA, g2]
          cases p <;> rfl
  unfold resE at h
  unfold resA
  split at h
  · exact congrArg some (one h)
  · obtain ⟨b, o, h1, h3⟩ := h
    simp only [resA1, one h1]
    rcases h3 with ⟨rfl, x, rfl, h4⟩ | ⟨k, l, rfl, rfl, h4⟩
    · show (H.ld b o).map AV.s = _; rw [h4.of ρ H R hs]; rfl
    · show (H.ldn b o k).map AV.agg = _; rw [h4.of ρ H R hs]; rfl
  · rename_i h1 h2
    obtain ⟨ps, rfl, h3⟩ := h
    obtain ⟨vs, g1, g2⟩ := many h3
    split
    · rename_i r
      cases r with
      | tmp t => exact absurd rfl (h1 t)
      | cell t m => exact absurd rfl (h2 t m)
    · simp [g1, g2]
theorem Tri.go {f : Nat} {rf : RFunc} {args : List AV} {P : List Asr} {Q : AV → List Asr → Prop} (hf : tab f = some rf) (ha : Nat.ble args.length rf.ntmps = true) (h : TC tab ext rf.ntmps (env0 0 args) P rf.body (rt rf.results Q)) : Tri tab ext f args P Q := by
  intro ρ H R hs
  refine CallP_of hf (wpC_mono ?_ (h ρ R _ H ?_ (env0_lv args 0 _ fun j v hv => ?_) hs))
  · rintro e T' H' ⟨E', L', h1, h2, h3, h4⟩
    have key : (∃ v P', resE E' L' rf.results v ∧ Q v P' ∧ LEnt L' P') → andThen (resA rf.results T' H') fun v => ∃ P', Q v P' ∧ Sat ρ H' (P' ++ R) := by
      rintro ⟨v, P', g1, g2, g3⟩
      exact ⟨v, resE_ok h3 h4 g1, P', g2, g3 _ _ _ h4⟩
    cases e with
    | norm => exact key h1
    | ret => exact key h1
    | out id => exact h1.elim
  · simp; have := Nat.le_of_ble_eq_true ha; omega
  · have hj := (List.getElem?_eq_some_iff.1 hv).1
    simp only [sl, Nat.zero_add, List.getD_eq_getElem?_getD]
    rw [List.getElem?_append_left hj, hv]; rfl
end
end Go.AM

/-
  WALKS: rows of rows; rows that are copied, clipped, cut.
-/
namespace Go.AM
def ArgS (a : Ty) (xs : List a.den) (s : SV) : Asr := ⟨fun ρ _ S => S = [] ∧ At ρ (.slice a) xs [s], fun _ h => h⟩
theorem Sat.arg {ρ : HF} {H : AH} {R : List Asr} {a : Ty} {xs : List a.den} {s : SV} (h : Sat ρ H (ArgS a xs s :: R)) : At ρ (.slice a) xs [s] := by
  obtain ⟨_, S, h1, _⟩ := h
  obtain ⟨S1, S2, rfl, ⟨_, k⟩, _⟩ := SatL.cons_inv h1
  exact k
theorem RdIn.a {a : Ty} {xs : List a.den} {s : SV} {L : List Asr} : RdIn (ArgS a xs s :: L) a.size s xs := ⟨fun ρ H R hs => by
  have h := Sat.arg hs
  refine ⟨At.slLen h, fun h0 => ?_⟩
  obtain ⟨b, c, l, x, li, rfl, _⟩ := At.slGet h h0
  exact ⟨c, rfl⟩⟩
theorem Ld.g {kd : IntKind} {xs : List (Ty.int kd).den} {s : SV} {L : List Asr} {i : Nat} {x : Int} (hx : xs[i]? = some x) : Ld (ArgS (.int kd) xs s :: L) (sb s) (ix 0 i 1 0) (.int kd x) := ⟨fun ρ H R hs => by
  have h := Sat.arg hs
  have hlt := (List.getElem?_eq_some_iff.1 hx).1
  obtain ⟨b, c, l, y, li, rfl, hb, h1, h2, h3, h4⟩ := At.slGet h hlt
  have hy : y = x := by rw [hx] at h1; cases h1; rfl
  subst hy
  have hb' := hs.roOf b l hb
  obtain ⟨rfl, _⟩ := h2
  show H.ld b _ = _
  rw [ld_of H hb', ix]
  have := congrArg (fun l => l[0]?) h3
  simpa [Ty.size] using this⟩
def encI (x : Int) : List SV := [.int .i64 x]
def rowsL (rs : List SV) (rows : List (List Int)) : List Asr := List.zipWith (Row encI 1) rs rows
def RowsA (rs : List SV) (rows : List (List Int)) : Asr := Asr.all (rowsL rs rows)
def RowsBut (i : Nat) (rs : List SV) (rows : List (List Int)) : Asr := Asr.all ((rowsL rs rows).eraseIdx i)
section
variable {tab : Nat → Option RFunc} {ext : Nat → List AV → AH → Option (AV × AH)} {α : Type} {enc : α → List SV} {k : Nat}
theorem row_made {b c : Nat} {l : List SV} {r : List α} {L : List Asr} (h1 : flat enc r = l.take (r.length * k)) (h2 : c * k ≤ l.length) (h3 : r.length ≤ c) : LEnt (Cel b l :: L) (Row enc k (.slice (some (b, 0)) r.length c k) r :: L) := fun _ _ _ h => by
  have e : l = flat enc r ++ l.drop (r.length * k) := by rw [h1, List.take_append_drop]
  rw [e] at h
  exact Sat.mkRow h (by rw [← e]; exact h2) h3
theorem row_cases {s : SV} {r : List α} {L R : List Asr} (hin : In1 (Row enc k s r) L R) : ∀ (ρ : HF) (H : AH) (X : List Asr), Sat ρ H (L ++ X) → (∃ e, s = .slice none 0 0 e ∧ r = [] ∧ Sat ρ H (R ++ X)) ∨ ∃ b c j, s = .slice (some (b, 0)) r.length c k ∧ Sat ρ H ((Cel b (flat enc r ++ j) :: R) ++ X) ∧ c * k ≤ (flat enc r ++ j).length ∧ r.length ≤ c := by
  intro ρ H X hs
  exact Sat.rowInv (R := R ++ X) (hs.perm (hin.perm.append_right X))
theorem TC.rw {n : Nat} {E : Env} {K : Pst} {c : RC} {s : SV} {r : List α} {L R : List Asr} (hin : In1 (Row enc k s r) L R) (h0 : ∀ e, s = .slice none 0 0 e → r = [] → TC tab ext n E R c K)
    (h1 : ∀ (b cp : Nat) (j : List SV), s = .slice (some (b, 0)) r.length cp k → cp * k ≤ (flat enc r ++ j).length → r.length ≤ cp → TC tab ext n E (Cel b (flat enc r ++ j) :: R) c K) : TC tab ext n E L c K := by
  intro ρ Rs T H hT hl hs
  rcases row_cases hin ρ H Rs hs with ⟨e, h2, h3, h4⟩ | ⟨b, cp, j, h2, h3, h4, h5⟩
  · exact h0 e h2 h3 ρ Rs T H hT hl h4
  · exact h1 b cp j h2 h4 h5 ρ Rs T H hT hl h3
theorem RP.rw {n : Nat} {E : Env} {os : List ROper} {K : Env → List Asr → Prop} {s : SV} {r : List α} {L R : List Asr} (hin : In1 (Row enc k s r) L R) (h0 : ∀ e, s = .slice none 0 0 e → r = [] → RP tab ext n E R os K)
    (h1 : ∀ (b cp : Nat) (j : List SV), s = .slice (some (b, 0)) r.length cp k → cp * k ≤ (flat enc r ++ j).length → r.length ≤ cp → RP tab ext n E (Cel b (flat enc r ++ j) :: R) os K) : RP tab ext n E L os K := by
  intro ρ Rs base T H hT hl hs
  rcases row_cases hin ρ H (fres base os ++ Rs) hs.mid with ⟨e, h2, h3, h4⟩ | ⟨b, cp, j, h2, h3, h4, h5⟩
  · exact h0 e h2 h3 ρ Rs base T H hT hl h4.mid
  · exact h1 b cp j h2 h4 h5 ρ Rs base T H hT hl h3.mid
theorem RP.sc {n d i : Nat} {E : Env} {L : List Asr} {os : List ROper} {K : Env → List Asr → Prop} {x : Opd} {lo hi mx : Option Opd} {lo' hi' mx' : Option AV} {b o len cap l h m : Nat} (hx : evo E x = some (.s (.slice (some (b, o)) len cap k))) (h1 : evm E lo = some lo') (h2 : evm E hi = some hi') (h3 : evm E mx = some mx') (hb : boundsA len cap lo' hi' mx' = some (l, h, m)) (hd : Nat.blt d n = true)
    (kk : RP tab ext n ((d, .s (.slice (some (b, o + l * k)) (h - l) (m - l) k)) :: E) L os K) : RP tab ext n E L (⟨some d, .slSl k x lo hi mx, none, i, []⟩ :: os) K :=
  RP.p (by simp [pureE, hx, h1, h2, h3, slSlA, hb]) hd kk
end
structure Hid (P : Prop) : Prop where
  h : P
theorem RUN {P Q : Prop} (h : P) (hf : Hid P → Q := by intro hp; (repeat (first | (refine is_rp ?_; first | refine RP.fx rfl rfl ?_ | refine RP.p rfl rfl ?_ | refine RP.done ?_ | (refine is_l ?_; first | refine RP.l rfl (by ((repeat (first | exact Ld.c rfl | exact Ld.r rfl | exact Ld.g (by assumption) | exact Ld.w (fun _ => by rfl) (by assumption) (by rfl) | exact Ld.a (by rfl) (fun _ => by rfl) (by assumption) (by rfl) | apply Ld.n)); fail_if_success refine ?_)) rfl ?_ | refine RP.ln rfl (by ((repeat (first | exact Ldn.cb (by rfl) rfl | exact Ldn.rb (by rfl) rfl | exact Ldn.w (fun _ => by rfl) (by assumption) | apply Ldn.n)); fail_if_success refine ?_)) rfl ?_) | refine RP.gt rfl ?_ | refine RP.gf rfl ?_ | refine RP.gu rfl ?_ | (refine is_b ?_; first | refine RP.inc rfl rfl (by omega) rfl ?_ | refine RP.ad rfl rfl (by omega) rfl ?_ | refine RP.dec rfl rfl (by omega) rfl ?_ | refine RP.su rfl rfl (by omega) rfl ?_) | (refine is_x ?_; first | refine RP.ixn rfl rfl (by ((repeat (first | exact RdIn.h | exact RdIn.a | apply RdIn.n)); fail_if_success refine ?_)) (by omega) rfl ?_ | refine RP.ix rfl rfl (by ((repeat (first | exact RdIn.h | exact RdIn.a | apply RdIn.n)); fail_if_success refine ?_)) (by omega) rfl ?_ | refine RP.ixp rfl rfl (by omega) rfl ?_ | refine RP.ixs rfl rfl (by omega) rfl ?_) | refine RP.ian rfl rfl (by omega) rfl ?_ | refine RP.ia rfl rfl (by omega) rfl ?_ | refine RP.ln1 rfl (by ((repeat (first | exact RdIn.h | exact RdIn.a | apply RdIn.n)); fail_if_success refine ?_)) rfl ?_ | (refine is_s ?_; refine RP.s rfl rfl rfl rfl (by ((repeat (first | exact Stw.c1 (by rfl) rfl | exact Stw.cb (by rfl) rfl | apply Stw.n)); fail_if_success refine ?_)) ?_) | refine RP.pn rfl ?_) | refine sq_n ?_ | (refine is_tc ?_; first | refine TC.seq ?_ | refine TC.reg (by kernel_rfl) ?_ | refine TC.cT rfl ?_ | refine TC.cF rfl ?_ | refine TC.blk ?_ | refine TC.skip ?_ | refine TC.ret ?_ | refine TC.exit ?_) | refine WK.z ?_ | refine sq_r ?_ | refine sq_o ?_ | refine bk_n ?_ | refine bk_r ?_ | refine bk_e ?_ | refine bk_o rfl ?_ | refine lp_r ?_ | refine lp_o ?_ | refine md_r ?_ | refine md_o ?_)); exact hp.h) : Q := hf ⟨h⟩
end Go.AM

/-
  Small heaps in walks.
-/
namespace Go.AM
abbrev BL := List (Nat × Blk)
def lkB : BL → Nat → Option Blk
  | [], _ => none
  | (k, x) :: l, b => if b = k then some x else lkB l b
def ImgB (π : Nat → Nat) (B : BL) : Asr := Img π (lkB B) (B.map (·.1))
noncomputable def evL (ρ : Nat → Int) (St : XL) : BL := St.map fun e => (e.1, e.2.ev ρ)
theorem lkB_ev (ρ : Nat → Int) : ∀ (St : XL) (b : Nat), lkB (evL ρ St) b = (lkX St b).map (XBlk.ev ρ)
  | [], _ => rfl
  | (k, x) :: l, b => by
    have ih := lkB_ev ρ l b
    show (if b = k then some (x.ev ρ) else lkB (evL ρ l) b) = (cond (Nat.beq b k) (some x) (lkX l b)).map _
    by_cases e : b = k
    · rw [if_pos e, beq_tt e]; rfl
    · rw [if_neg e, beq_ff e, ih]; rfl
theorem ImgX_B (π : Nat → Nat) (St : XL) (ρ : Nat → Int) : ImgX π St ρ = ImgB π (evL ρ St) := by
  unfold ImgX ImgB
  have e : (evL ρ St).map (·.1) = St.map (·.1) := by unfold evL; rw [List.map_map]; rfl
  rw [e]
  exact Img.congr fun b _ => (lkB_ev ρ St b).symm
def GXz : XL := [(0, .cells true tzX)]
noncomputable abbrev GZ : Asr := Glb (gOf GXz)
theorem tab_nn : TabNN 1 tab := by
  have h : tabL.all (fun o => match o with | none => true | some rf => rf.body.nn 1) = true := by kernel_rfl
  intro f rf hf
  have hf : (tabL[f]?).join = some rf := hf
  cases hx : tabL[f]? with
  | none => rw [hx] at hf; cases hf
  | some o =>
    rw [hx] at hf
    have hf : o = some rf := hf
    subst hf
    exact List.all_eq_true.1 h _ (List.mem_of_getElem? hx)
theorem Tri.re {f : Nat} {args args' : List AV} {P P' : List Asr} {Q Q' : AV → List Asr → Prop} (h : Tri tab noExt f args P Q) (ha : args = args') (hP : P = P') (hQ : ∀ v L, Q v L → Q' v L) : Tri tab noExt f args' P' Q' := by
  subst ha; subst hP
  exact fun ρ H R hs => (h ρ H R hs).mono fun v H' ⟨L, h1, h2⟩ => ⟨L, hQ v L h1, h2⟩
theorem sxz {n0 fuel f : Nat} {xs : List XAV} {St es : XL} {keep : List Nat} {s : List (Nat × Nat)} {v2 : XAV} {facts : List Fact}
    (hs : (startOk 1 n0 GXz St keep xs && (trL (GXz ++ St)).isSome && nodupN (es.map (·.1))) = true)
    (hrun : runX tab fuel f xs ⟨heapX GXz St, n0, facts, 0, 0⟩ (isoK 1 keep es s v2) = true) {ρ : Nat → Int} (hρ : FactsOk ρ facts) {π : Nat → Nat} (hπ : π 0 = 0) :
    Tri tab noExt f ((xs.map (XAV.ev ρ)).map (AV.ren π)) [GZ, ImgB π (evL ρ St)] fun v P' => ∃ π', (∀ b ∈ keep, π' b = π b) ∧ π' 0 = 0 ∧ v = (v2.ev ρ).ren π' ∧ P' = [GZ, ImgB π' (evL ρ es)] := by
  have h := sx_tri tab_nn tab_wf hs hrun hρ (π := π) (fun b hb => by
    have e : b = 0 := by omega
    rw [e]; exact hπ)
  rw [ImgX_B] at h
  intro ρ' H R hs'
  refine (h ρ' H R hs').mono fun v H' ⟨P', ⟨π', h1, h2, h3, h4⟩, h5⟩ => ⟨P', ⟨π', h1, h2 0 (by decide), h3, ?_⟩, h5⟩
  rw [← ImgX_B]; exact h4
section
variable {ρ : HF} {H : AH} {R : List Asr} {π : Nat → Nat}
theorem Sat.imgNil (h : Sat ρ H R) : Sat ρ H (ImgB π [] :: R) := by
  obtain ⟨hw, S, h1, h2⟩ := h
  exact ⟨hw, _, .cons (A := ImgB π []) (S := []) ⟨rfl, List.nodup_nil, fun b hb => nomatch hb⟩ h1 (by simp), h2⟩
theorem lkB_ne {n : Nat} {x : Blk} {B : BL} {b : Nat} (hn : n ∉ B.map (·.1)) (hb : b ∈ B.map (·.1)) : lkB ((n, x) :: B) b = lkB B b := by
  show (if b = n then some x else lkB B b) = _
  rw [if_neg]
  rintro rfl
  exact hn hb
theorem Sat.imgOut {n : Nat} {l : List SV} {B : BL} (hn : n ∉ B.map (·.1)) (h : Sat ρ H (ImgB π ((n, .cells false l) :: B) :: R)) : Sat ρ H (Cel (π n) (renL π l) :: ImgB π B :: R) := by
  obtain ⟨hw, S, h1, h2⟩ := h
  obtain ⟨S1, S2, rfl, ⟨rfl, hnd, hal⟩, k2, k3⟩ := SatL.cons_inv h1
  obtain ⟨q1, q2⟩ := List.nodup_cons.1 (show (π n :: (B.map (·.1)).map π).Nodup from hnd)
  have hal : ∀ b ∈ n :: B.map (·.1), ∃ x, lkB ((n, .cells false l) :: B) b = some x ∧ H.blk (π b) = some (x.ren π) := hal
  have k3 : ∀ b ∈ π n :: (B.map (·.1)).map π, b ∉ S2 := k3
  have h2 : ∀ b ∈ (π n :: (B.map (·.1)).map π) ++ S2, b < H.next := h2
  refine ⟨hw, [π n] ++ ((B.map (·.1)).map π ++ S2), .cons (A := Cel (π n) (renL π l)) ⟨rfl, ?_⟩ (.cons (A := ImgB π B) ⟨rfl, q2, fun b hb => ?_⟩ k2 fun b hb => k3 b (List.mem_cons_of_mem _ hb)) ?_, fun b hb => h2 b ?_⟩
  · obtain ⟨x, e1, e2⟩ := hal n List.mem_cons_self
    have e1 : (if n = n then some (Blk.cells false l) else lkB B n) = some x := e1
    rw [if_pos rfl] at e1
    cases e1
    exact e2
  · obtain ⟨x, e1, e2⟩ := hal b (List.mem_cons_of_mem _ hb)
    rw [lkB_ne hn hb] at e1
    exact ⟨x, e1, e2⟩
  · intro b hb hc
    obtain rfl : b = π n := by simpa using hb
    rcases List.mem_append.1 hc with hc | hc
    · exact q1 hc
    · exact k3 _ List.mem_cons_self hc
  · simpa using hb
theorem Sat.imgIn {n : Nat} {l : List SV} {B : BL} (hn : n ∉ B.map (·.1)) (h : Sat ρ H (Cel (π n) (renL π l) :: ImgB π B :: R)) : Sat ρ H (ImgB π ((n, .cells false l) :: B) :: R) := by
  obtain ⟨hw, S, h1, h2⟩ := h
  obtain ⟨S1, S2, rfl, ⟨rfl, e0⟩, k2, k3⟩ := SatL.cons_inv h1
  obtain ⟨S3, S4, rfl, ⟨rfl, hnd, hal⟩, k5, k6⟩ := SatL.cons_inv k2
  have k7 := k3 (π n) (by simp)
  rw [List.mem_append, not_or] at k7
  refine ⟨hw, (π n :: (B.map (·.1)).map π) ++ S4, .cons (A := ImgB π ((n, .cells false l) :: B)) ⟨rfl, List.nodup_cons.2 ⟨k7.1, hnd⟩, fun b hb => ?_⟩ k5 fun b hb => ?_, fun b hb => h2 b ?_⟩
  · rcases List.mem_cons.1 hb with rfl | hb
    · exact ⟨_, if_pos rfl, e0⟩
    · obtain ⟨x, e1, e2⟩ := hal b hb
      exact ⟨x, by rw [lkB_ne hn hb]; exact e1, e2⟩
  · rcases List.mem_cons.1 hb with rfl | hb
    · exact k7.2
    · exact k6 b hb
  · simpa using hb
end
theorem LEnt.img1 {π : Nat → Nat} {n : Nat} {l : List SV} {L : List Asr} : LEnt (Cel (π n) (renL π l) :: L) (ImgB π [(n, .cells false l)] :: L) := fun _ _ _ hs => Sat.imgIn (by simp) ((Sat.imgNil (π := π) hs).perm (List.Perm.swap _ _ _))
theorem LEnt.out1 {π : Nat → Nat} {n : Nat} {l : List SV} {L : List Asr} : LEnt (ImgB π [(n, .cells false l)] :: L) (Cel (π n) (renL π l) :: L) := fun _ _ _ hs => ((Sat.imgOut (by simp) hs).perm (List.Perm.swap _ _ _)).drop
theorem LEnt.nilB {π : Nat → Nat} {A : Asr} {L : List Asr} : LEnt (A :: L) (A :: ImgB π [] :: L) := fun _ _ _ hs => (Sat.imgNil (π := π) hs).perm (List.Perm.swap _ _ _)
def pb (b : Nat) (n : Nat) : Nat := if n = 0 then 0 else b
def pb2 (a b : Nat) (n : Nat) : Nat := if n = 0 then 0 else if n = 1 then a else b
noncomputable def chgX (l u : XL) : XL := u ++ l.filter fun e => !(u.any fun d => Nat.beq d.1 e.1)
theorem LEnt.imgs {π : Nat → Nat} : ∀ {bs : List (Nat × List SV)} {L : List Asr}, nodupN (bs.map (·.1)) = true → LEnt (bs.map (fun e => Cel (π e.1) (renL π e.2)) ++ L) (ImgB π (bs.map fun e => (e.1, .cells false e.2)) :: L)
  | [], L, _ => fun _ _ _ hs => Sat.imgNil hs
  | e :: bs, L, h => fun ρ H R hs => by
    have hn := nodupN_ok h
    obtain ⟨h1, h2⟩ := List.nodup_cons.1 (show (e.1 :: bs.map (·.1)).Nodup from hn)
    simp only [List.map_cons, nodupN, Bool.and_eq_true] at h
    have k1 : Sat ρ H (bs.map (fun e => Cel (π e.1) (renL π e.2)) ++ (Cel (π e.1) (renL π e.2) :: L) ++ R) := hs.perm (by
      show ((Cel (π e.1) (renL π e.2)) :: (bs.map (fun e => Cel (π e.1) (renL π e.2)) ++ L) ++ R).Perm _
      rw [List.cons_append, List.append_assoc, List.append_assoc, List.cons_append]
      exact List.perm_middle.symm)
    have k2 := LEnt.imgs (π := π) (bs := bs) (L := Cel (π e.1) (renL π e.2) :: L) h.2 ρ H R k1
    have k3 : Sat ρ H (Cel (π e.1) (renL π e.2) :: ImgB π (bs.map fun e => (e.1, Blk.cells false e.2)) :: (L ++ R)) := k2.perm (List.Perm.swap _ _ _)
    refine Sat.imgIn (B := bs.map fun e => (e.1, Blk.cells false e.2)) ?_ k3
    rw [List.map_map]
    exact h1
end Go.AM

/-
  TopRounds: what each call does (printed by wip/mktr.py).
-/
namespace Go.AM
set_option maxRecDepth 100000 in
theorem known_c {π : Nat → Nat} (hπ : π 0 = 0) : Tri tab noExt F.detenttop_known [] [GZ, ImgB π ([])] fun v P' => ∃ π' : Nat → Nat, π' 0 = 0 ∧ v = .s (.bool true) ∧ P' = [GZ, ImgB π' ([])] := by
  have h := sxz (n0 := 1) (fuel := 100) (f := F.detenttop_known) (xs := []) (St := []) (es := []) (keep := []) (s := []) (v2 := .s (.s (.bool true))) (facts := []) (by kernel_rfl) (by kernel_rfl) (ρ := vals []) FactsOk.nil hπ
  refine h.re ?_ ?_ ?_
  · rfl
  · rfl
  · rintro v L ⟨π', k, k0, rfl, rfl⟩
    exact ⟨π', k0, rfl, rfl⟩
noncomputable def P2x : XL := [(1, .cells false [.s (.int .i64 5), .s (.int .i64 3)])]
def P2 : BL := [(1, .cells false [.int .i64 5, .int .i64 3])]
theorem P2_ev (ρ : Nat → Int) : evL ρ (P2x) = P2 := rfl
noncomputable def CfAx : XL := [(1, .cells false [.s (.int .i64 5), .s (.bool true), .s (.int .i64 3), .s (.bool true)])]
def CfA : BL := [(1, .cells false [.int .i64 5, .bool true, .int .i64 3, .bool true])]
theorem CfA_ev (ρ : Nat → Int) : evL ρ (CfAx) = CfA := rfl
set_option maxRecDepth 100000 in
theorem tasks_c {π : Nat → Nat} (hπ : π 0 = 0) : Tri tab noExt F.detenttop_tasks [.s (.slice (some (π 1, 0)) 2 2 1)] [GZ, ImgB π P2] fun v P' => ∃ π' : Nat → Nat, π' 0 = 0 ∧ v = .agg [.int .i64 1, .slice (some (π' 1, 0)) 2 2 2, .slice none 0 0 1, .slice none 0 0 1, .slice none 0 0 1, .slice none 0 0 1, .slice none 0 0 1, .slice none 0 0 1, .int .i64 0] ∧ P' = [GZ, ImgB π' CfA] := by
  have h := sxz (n0 := 2) (fuel := 100) (f := F.detenttop_tasks) (xs := [.s (.s (.slice (some (1, 0)) 2 2 1))]) (St := P2x) (es := CfAx) (keep := []) (s := [(1, 37)]) (v2 := .agg [.s (.int .i64 1), .s (.slice (some (1, 0)) 2 2 2), .s (.slice none 0 0 1), .s (.slice none 0 0 1), .s (.slice none 0 0 1), .s (.slice none 0 0 1), .s (.slice none 0 0 1), .s (.slice none 0 0 1), .s (.int .i64 0)]) (facts := []) (by kernel_rfl) (by kernel_rfl) (ρ := vals []) FactsOk.nil hπ
  refine h.re ?_ ?_ ?_
  · rfl
  · rw [P2_ev]
  · rintro v L ⟨π', k, k0, rfl, rfl⟩
    exact ⟨π', k0, rfl, by rw [CfA_ev]⟩
noncomputable def CfRx : XL := [(1, .cells false [.s (.int .i64 5), .s (.bool true), .s (.int .i64 3), .s (.bool false)]),
  (2, .cells false [.s (.bool false), .s (.int .i64 1), .s (.int .i64 1)]),
  (3, .cells false [.s (.int .i64 3), .s (.int .i64 1)]),
  (4, .cells false [.s (.bool false), .s (.int .i64 1), .s (.int .i64 4)])]
def CfR : BL := [(1, .cells false [.int .i64 5, .bool true, .int .i64 3, .bool false]),
  (2, .cells false [.bool false, .int .i64 1, .int .i64 1]),
  (3, .cells false [.int .i64 3, .int .i64 1]),
  (4, .cells false [.bool false, .int .i64 1, .int .i64 4])]
theorem CfR_ev (ρ : Nat → Int) : evL ρ (CfRx) = CfR := rfl
noncomputable def A0x : XL := [(1, .cells false [.s (.slice (some (2, 0)) 1 1 1), .s (.slice none 0 0 1), .s (.slice none 0 0 1), .s (.slice (some (3, 0)) 1 1 1), .s (.int .i64 1), .s (.ptr (some (4, 0))), .s (.ptr (some (5, 0))), .s (.ptr (some (6, 0))), .s (.ptr (some (7, 0))), .s (.slice (some (8, 0)) 3 3 1), .s (.int .i64 0), .s (.int .i64 0), .s (.int .i64 1)]),
  (2, .cells false [.s (.ptr (some (9, 0)))]),
  (3, .cells false [.s (.ptr (some (10, 0)))]),
  (4, .cells false [.s (.slice (some (11, 0)) 2 2 4), .s (.int .i64 16), .s (.int .i64 16), .s (.int .i64 0), .s (.int .i64 5), .s (.int .i64 5), .s (.int .i64 0), .s (.int .i64 3), .s (.int .i64 3), .s (.int .i64 0), .s (.int .i64 16), .s (.int .i64 16), .s (.int .i64 0), .s (.int .i64 16), .s (.int .i64 16), .s (.int .i64 0), .s (.int .i64 16), .s (.int .i64 16), .s (.int .i64 0), .s (.int .i64 16), .s (.int .i64 16), .s (.int .i64 0), .s (.int .i64 16), .s (.int .i64 16), .s (.int .i64 0), .s (.int .i64 16), .s (.int .i64 16), .s (.int .i64 0), .s (.int .i64 16), .s (.int .i64 16), .s (.int .i64 0), .s (.int .i64 16), .s (.int .i64 16), .s (.int .i64 0), .s (.int .i64 16), .s (.int .i64 16), .s (.int .i64 0), .s (.int .i64 16), .s (.int .i64 16), .s (.int .i64 0), .s (.int .i64 16), .s (.int .i64 16), .s (.int .i64 0), .s (.int .i64 16), .s (.int .i64 16), .s (.int .i64 0), .s (.int .i64 16), .s (.int .i64 16), .s (.int .i64 0), .s (.int .i64 16), .s (.int .i64 16), .s (.int .i64 0)]),
  (5, .cells false [.s (.slice none 0 0 1), .s (.bool false), .s (.bool false)]),
  (6, .cells false [.s (.ptr (some (12, 0))), .s (.int .u64 1), .s (.slice none 0 0 1), .s (.slice none 0 0 1)]),
  (7, .cells false [.s (.int .u64 16), .s (.int .u64 0), .s (.int .u64 0), .s (.int .u64 0), .s (.slice none 0 0 1), .s (.slice none 0 0 1), .s (.slice none 0 0 1), .s (.slice none 0 0 1), .s (.slice none 0 0 1), .s (.slice (some (13, 0)) 1 1 1), .s (.slice none 0 0 1), .s (.slice none 0 0 1), .s (.slice none 0 0 1), .s (.slice none 0 0 1), .s (.slice none 0 0 1), .s (.slice none 0 0 1), .s (.slice none 0 0 1), .s (.slice none 0 0 1), .s (.slice none 0 0 1), .s (.slice none 0 0 1), .s (.slice none 0 0 1), .s (.int .i64 0), .s (.int .i64 5), .s (.int .i64 0), .s (.int .i64 0), .s (.int .i64 0), .s (.int .i64 0), .s (.int .i64 0), .s (.int .i64 0), .s (.int .i64 0), .s (.int .i64 0), .s (.int .i64 0), .s (.int .i64 0), .s (.int .i64 0), .s (.int .i64 0), .s (.int .i64 0), .s (.int .i64 0), .s (.int .i64 0)]),
  (8, .cells false [.s (.ptr none), .s (.ptr (some (14, 0))), .s (.ptr (some (15, 0)))]),
  (9, .cells false [.s (.ptr (some (16, 0))), .s (.int .i64 1), .s (.int .i64 1)]),
  (10, .cells false [.s (.ptr (some (17, 0))), .s (.int .i64 0), .s (.int .i64 1), .s (.int .i64 4), .s (.int .i64 0), .s (.slice none 0 0 1), .s (.slice none 0 0 1)]),
  (11, .cells false [.s (.int .i64 0), .s (.int .i64 0), .s (.int .i64 0), .s (.slice none 0 0 1), .s (.int .i64 3), .s (.int .i64 1), .s (.int .i64 0), .s (.slice none 0 0 1)]),
  (12, .cells false [.s (.ptr (some (18, 0))), .s (.int .u64 1), .s (.int .u64 0), .s (.int .u64 0)]),
  (13, .cells false [.s (.int .i64 1)]),
  (14, .cells false [.s (.ptr (some (19, 0))), .s (.int .i64 5), .s (.int .i64 5), .s (.int .i64 0), .s (.int .i64 0), .s (.int .i64 0), .s (.int .i64 0), .s (.int .i64 0)]),
  (15, .cells false [.s (.ptr (some (20, 0))), .s (.int .i64 3), .s (.int .i64 3), .s (.int .i64 0), .s (.int .i64 0), .s (.int .i64 0), .s (.int .i64 0), .s (.int .i64 0)]),
  (16, .cells false [.s (.slice none 0 0 1), .s (.bool false)]),
  (17, .cells false [.s (.slice none 0 0 1), .s (.bool false)]),
  (18, .cells false [.s (.slice none 0 0 1), .s (.int .i64 0)]),
  (19, .cells false [.s (.int .i64 0), .s (.int .i64 0), .s (.int .i64 0), .s (.int .i64 2), .s (.bool false)]),
  (20, .cells false [.s (.int .i64 0), .s (.int .i64 0), .s (.int .i64 0), .s (.int .i64 16), .s (.bool false)])]
def A0 : BL := [(1, .cells false [.slice (some (2, 0)) 1 1 1, .slice none 0 0 1, .slice none 0 0 1, .slice (some (3, 0)) 1 1 1, .int .i64 1, .ptr (some (4, 0)), .ptr (some (5, 0)), .ptr (some (6, 0)), .ptr (some (7, 0)), .slice (some (8, 0)) 3 3 1, .int .i64 0, .int .i64 0, .int .i64 1]),
  (2, .cells false [.ptr (some (9, 0))]),
  (3, .cells false [.ptr (some (10, 0))]),
  (4, .cells false [.slice (some (11, 0)) 2 2 4, .int .i64 16, .int .i64 16, .int .i64 0, .int .i64 5, .int .i64 5, .int .i64 0, .int .i64 3, .int .i64 3, .int .i64 0, .int .i64 16, .int .i64 16, .int .i64 0, .int .i64 16, .int .i64 16, .int .i64 0, .int .i64 16, .int .i64 16, .int .i64 0, .int .i64 16, .int .i64 16, .int .i64 0, .int .i64 16, .int .i64 16, .int .i64 0, .int .i64 16, .int .i64 16, .int .i64 0, .int .i64 16, .int .i64 16, .int .i64 0, .int .i64 16, .int .i64 16, .int .i64 0, .int .i64 16, .int .i64 16, .int .i64 0, .int .i64 16, .int .i64 16, .int .i64 0, .int .i64 16, .int .i64 16, .int .i64 0, .int .i64 16, .int .i64 16, .int .i64 0, .int .i64 16, .int .i64 16, .int .i64 0, .int .i64 16, .int .i64 16, .int .i64 0]),
  (5, .cells false [.slice none 0 0 1, .bool false, .bool false]),
  (6, .cells false [.ptr (some (12, 0)), .int .u64 1, .slice none 0 0 1, .slice none 0 0 1]),
  (7, .cells false [.int .u64 16, .int .u64 0, .int .u64 0, .int .u64 0, .slice none 0 0 1, .slice none 0 0 1, .slice none 0 0 1, .slice none 0 0 1, .slice none 0 0 1, .slice (some (13, 0)) 1 1 1, .slice none 0 0 1, .slice none 0 0 1, .slice none 0 0 1, .slice none 0 0 1, .slice none 0 0 1, .slice none 0 0 1, .slice none 0 0 1, .slice none 0 0 1, .slice none 0 0 1, .slice none 0 0 1, .slice none 0 0 1, .int .i64 0, .int .i64 5, .int .i64 0, .int .i64 0, .int .i64 0, .int .i64 0, .int .i64 0, .int .i64 0, .int .i64 0, .int .i64 0, .int .i64 0, .int .i64 0, .int .i64 0, .int .i64 0, .int .i64 0, .int .i64 0, .int .i64 0]),
  (8, .cells false [.ptr none, .ptr (some (14, 0)), .ptr (some (15, 0))]),
  (9, .cells false [.ptr (some (16, 0)), .int .i64 1, .int .i64 1]),
  (10, .cells false [.ptr (some (17, 0)), .int .i64 0, .int .i64 1, .int .i64 4, .int .i64 0, .slice none 0 0 1, .slice none 0 0 1]),
  (11, .cells false [.int .i64 0, .int .i64 0, .int .i64 0, .slice none 0 0 1, .int .i64 3, .int .i64 1, .int .i64 0, .slice none 0 0 1]),
  (12, .cells false [.ptr (some (18, 0)), .int .u64 1, .int .u64 0, .int .u64 0]),
  (13, .cells false [.int .i64 1]),
  (14, .cells false [.ptr (some (19, 0)), .int .i64 5, .int .i64 5, .int .i64 0, .int .i64 0, .int .i64 0, .int .i64 0, .int .i64 0]),
  (15, .cells false [.ptr (some (20, 0)), .int .i64 3, .int .i64 3, .int .i64 0, .int .i64 0, .int .i64 0, .int .i64 0, .int .i64 0]),
  (16, .cells false [.slice none 0 0 1, .bool false]),
  (17, .cells false [.slice none 0 0 1, .bool false]),
  (18, .cells false [.slice none 0 0 1, .int .i64 0]),
  (19, .cells false [.int .i64 0, .int .i64 0, .int .i64 0, .int .i64 2, .bool false]),
  (20, .cells false [.int .i64 0, .int .i64 0, .int .i64 0, .int .i64 16, .bool false])]
theorem A0_ev (ρ : Nat → Int) : evL ρ (A0x) = A0 := rfl
set_option maxRecDepth 100000 in
theorem open_c {π : Nat → Nat} (hπ : π 0 = 0) : Tri tab noExt F.detenttop_open [.agg [.int .i64 1, .slice (some (π 1, 0)) 2 2 2, .slice (some (π 2, 0)) 1 1 3, .slice none 0 0 1, .slice none 0 0 1, .slice (some (π 3, 0)) 1 1 2, .slice (some (π 4, 0)) 1 1 3, .slice none 0 0 1, .int .i64 0]] [GZ, ImgB π CfR] fun v P' => ∃ π' : Nat → Nat, π' 0 = 0 ∧ v = .s (.ptr (some (π' 1, 0))) ∧ P' = [GZ, ImgB π' A0] := by
  have h := sxz (n0 := 5) (fuel := 100) (f := F.detenttop_open) (xs := [.agg [.s (.int .i64 1), .s (.slice (some (1, 0)) 2 2 2), .s (.slice (some (2, 0)) 1 1 3), .s (.slice none 0 0 1), .s (.slice none 0 0 1), .s (.slice (some (3, 0)) 1 1 2), .s (.slice (some (4, 0)) 1 1 3), .s (.slice none 0 0 1), .s (.int .i64 0)]]) (St := CfRx) (es := A0x) (keep := []) (s := [(1, 1013), (2, 1375), (3, 1621), (4, 1049), (5, 1017), (6, 1672), (7, 1021), (8, 3974), (9, 1360), (10, 1606), (11, 1047), (12, 1659), (13, 4207), (14, 2824), (15, 3972), (16, 1366), (17, 1612), (18, 1664), (19, 2832), (20, 3980)]) (v2 := .s (.s (.ptr (some (1, 0))))) (facts := []) (by kernel_rfl) (by kernel_rfl) (ρ := vals []) FactsOk.nil hπ
  refine h.re ?_ ?_ ?_
  · rfl
  · rw [CfR_ev]
  · rintro v L ⟨π', k, k0, rfl, rfl⟩
    exact ⟨π', k0, rfl, by rw [A0_ev]⟩
noncomputable def A1x : XL := chgX A0x [(10, .cells false [.s (.ptr (some (17, 0))), .s (.int .i64 0), .s (.int .i64 1), .s (.int .i64 4), .s (.int .i64 1), .s (.slice none 0 0 1), .s (.slice (some (21, 0)) 1 1 1)]),
  (21, .cells false [.s (.int .i64 0)])]
noncomputable def A1 : BL := evL (vals []) A1x
theorem A1_ev (ρ : Nat → Int) : evL ρ A1x = A1 := rfl
set_option maxRecDepth 100000 in
theorem doA0_c {π : Nat → Nat} (hπ : π 0 = 0) : Tri tab noExt F.kern_Kernel_Do [.s (.ptr (some (π 1, 0))), .agg [.int .i64 47, .int .i64 1, .int .i64 0, .int .i64 0, .int .i64 0]] [GZ, ImgB π A0] fun v P' => ∃ π' : Nat → Nat, π' 1 = π 1 ∧ π' 0 = 0 ∧ v = .agg [.int .i64 0, .int .i64 0] ∧ P' = [GZ, ImgB π' A1] := by
  have h := sxz (n0 := 21) (fuel := 100) (f := F.kern_Kernel_Do) (xs := [.s (.s (.ptr (some (1, 0)))), .agg [.s (.int .i64 47), .s (.int .i64 1), .s (.int .i64 0), .s (.int .i64 0), .s (.int .i64 0)]]) (St := A0x) (es := A1x) (keep := [1]) (s := [(21, 527)]) (v2 := .agg [.s (.int .i64 0), .s (.int .i64 0)]) (facts := []) (by kernel_rfl) (by kernel_rfl) (ρ := vals []) FactsOk.nil hπ
  refine h.re ?_ ?_ ?_
  · rfl
  · rw [A0_ev]
  · rintro v L ⟨π', k, k0, rfl, rfl⟩
    exact ⟨π', k 1 (by decide), k0, rfl, by rw [A1_ev]⟩
noncomputable def A2x : XL := chgX A1x [(9, .cells false [.s (.ptr (some (16, 0))), .s (.int .i64 0), .s (.int .i64 1)])]
noncomputable def A2 : BL := evL (vals []) A2x
theorem A2_ev (ρ : Nat → Int) : evL ρ A2x = A2 := rfl
set_option maxRecDepth 100000 in
theorem doA1_c {π : Nat → Nat} (hπ : π 0 = 0) : Tri tab noExt F.kern_Kernel_Do [.s (.ptr (some (π 1, 0))), .agg [.int .i64 25, .int .i64 1, .int .i64 0, .int .i64 0, .int .i64 0]] [GZ, ImgB π A1] fun v P' => ∃ π' : Nat → Nat, π' 1 = π 1 ∧ π' 0 = 0 ∧ v = .agg [.int .i64 0, .int .i64 0] ∧ P' = [GZ, ImgB π' A2] := by
  have h := sxz (n0 := 22) (fuel := 100) (f := F.kern_Kernel_Do) (xs := [.s (.s (.ptr (some (1, 0)))), .agg [.s (.int .i64 25), .s (.int .i64 1), .s (.int .i64 0), .s (.int .i64 0), .s (.int .i64 0)]]) (St := A1x) (es := A2x) (keep := [1]) (s := []) (v2 := .agg [.s (.int .i64 0), .s (.int .i64 0)]) (facts := []) (by kernel_rfl) (by kernel_rfl) (ρ := vals []) FactsOk.nil hπ
  refine h.re ?_ ?_ ?_
  · rfl
  · rw [A1_ev]
  · rintro v L ⟨π', k, k0, rfl, rfl⟩
    exact ⟨π', k 1 (by decide), k0, rfl, by rw [A2_ev]⟩
noncomputable def A3x : XL := chgX A2x [(4, .cells false [.s (.slice (some (11, 0)) 2 2 4), .s (.int .i64 16), .s (.int .i64 16), .s (.int .i64 0), .s (.int .i64 5), .s (.int .i64 1), .s (.int .i64 0), .s (.int .i64 3), .s (.int .i64 3), .s (.int .i64 0), .s (.int .i64 16), .s (.int .i64 16), .s (.int .i64 0), .s (.int .i64 16), .s (.int .i64 16), .s (.int .i64 0), .s (.int .i64 16), .s (.int .i64 16), .s (.int .i64 0), .s (.int .i64 16), .s (.int .i64 16), .s (.int .i64 0), .s (.int .i64 16), .s (.int .i64 16), .s (.int .i64 0), .s (.int .i64 16), .s (.int .i64 16), .s (.int .i64 0), .s (.int .i64 16), .s (.int .i64 16), .s (.int .i64 0), .s (.int .i64 16), .s (.int .i64 16), .s (.int .i64 0), .s (.int .i64 16), .s (.int .i64 16), .s (.int .i64 0), .s (.int .i64 16), .s (.int .i64 16), .s (.int .i64 0), .s (.int .i64 16), .s (.int .i64 16), .s (.int .i64 0), .s (.int .i64 16), .s (.int .i64 16), .s (.int .i64 0), .s (.int .i64 16), .s (.int .i64 16), .s (.int .i64 0), .s (.int .i64 16), .s (.int .i64 16), .s (.int .i64 0)]),
  (7, .cells false [.s (.int .u64 1), .s (.int .u64 0), .s (.int .u64 0), .s (.int .u64 0), .s (.slice none 0 0 1), .s (.slice (some (22, 0)) 1 1 1), .s (.slice none 0 0 1), .s (.slice none 0 0 1), .s (.slice none 0 0 1), .s (.slice (some (13, 0)) 0 1 1), .s (.slice none 0 0 1), .s (.slice none 0 0 1), .s (.slice none 0 0 1), .s (.slice none 0 0 1), .s (.slice none 0 0 1), .s (.slice none 0 0 1), .s (.slice none 0 0 1), .s (.slice none 0 0 1), .s (.slice none 0 0 1), .s (.slice none 0 0 1), .s (.slice none 0 0 1), .s (.int .i64 0), .s (.int .i64 1), .s (.int .i64 0), .s (.int .i64 0), .s (.int .i64 0), .s (.int .i64 0), .s (.int .i64 0), .s (.int .i64 0), .s (.int .i64 0), .s (.int .i64 0), .s (.int .i64 0), .s (.int .i64 0), .s (.int .i64 0), .s (.int .i64 0), .s (.int .i64 0), .s (.int .i64 0), .s (.int .i64 0)]),
  (11, .cells false [.s (.int .i64 0), .s (.int .i64 0), .s (.int .i64 0), .s (.slice none 0 0 1), .s (.int .i64 3), .s (.int .i64 1), .s (.int .i64 1), .s (.slice none 0 0 1)]),
  (13, .cells false [.s (.int .i64 0)]),
  (14, .cells false [.s (.ptr (some (19, 0))), .s (.int .i64 5), .s (.int .i64 1), .s (.int .i64 0), .s (.int .i64 0), .s (.int .i64 0), .s (.int .i64 0), .s (.int .i64 0)]),
  (22, .cells false [.s (.int .i64 1)])]
noncomputable def A3 : BL := evL (vals []) A3x
theorem A3_ev (ρ : Nat → Int) : evL ρ A3x = A3 := rfl
set_option maxRecDepth 100000 in
theorem doA2_c {π : Nat → Nat} (hπ : π 0 = 0) : Tri tab noExt F.kern_Kernel_Do [.s (.ptr (some (π 1, 0))), .agg [.int .i64 43, .int .i64 1, .int .i64 0, .int .i64 0, .int .i64 0]] [GZ, ImgB π A2] fun v P' => ∃ π' : Nat → Nat, π' 1 = π 1 ∧ π' 0 = 0 ∧ v = .agg [.int .i64 0, .int .i64 0] ∧ P' = [GZ, ImgB π' A3] := by
  have h := sxz (n0 := 22) (fuel := 100) (f := F.kern_Kernel_Do) (xs := [.s (.s (.ptr (some (1, 0)))), .agg [.s (.int .i64 43), .s (.int .i64 1), .s (.int .i64 0), .s (.int .i64 0), .s (.int .i64 0)]]) (St := A2x) (es := A3x) (keep := [1]) (s := [(22, 1782)]) (v2 := .agg [.s (.int .i64 0), .s (.int .i64 0)]) (facts := []) (by kernel_rfl) (by kernel_rfl) (ρ := vals []) FactsOk.nil hπ
  refine h.re ?_ ?_ ?_
  · rfl
  · rw [A2_ev]
  · rintro v L ⟨π', k, k0, rfl, rfl⟩
    exact ⟨π', k 1 (by decide), k0, rfl, by rw [A3_ev]⟩
noncomputable def A4x : XL := chgX A3x [(7, .cells false [.s (.int .u64 5), .s (.int .u64 0), .s (.int .u64 0), .s (.int .u64 0), .s (.slice none 0 0 1), .s (.slice (some (22, 0)) 1 1 1), .s (.slice none 0 0 1), .s (.slice (some (23, 0)) 1 1 1), .s (.slice none 0 0 1), .s (.slice (some (13, 0)) 0 1 1), .s (.slice none 0 0 1), .s (.slice none 0 0 1), .s (.slice none 0 0 1), .s (.slice none 0 0 1), .s (.slice none 0 0 1), .s (.slice none 0 0 1), .s (.slice none 0 0 1), .s (.slice none 0 0 1), .s (.slice none 0 0 1), .s (.slice none 0 0 1), .s (.slice none 0 0 1), .s (.int .i64 0), .s (.int .i64 1), .s (.int .i64 3), .s (.int .i64 0), .s (.int .i64 0), .s (.int .i64 0), .s (.int .i64 0), .s (.int .i64 0), .s (.int .i64 0), .s (.int .i64 0), .s (.int .i64 0), .s (.int .i64 0), .s (.int .i64 0), .s (.int .i64 0), .s (.int .i64 0), .s (.int .i64 0), .s (.int .i64 0)]),
  (20, .cells false [.s (.int .i64 0), .s (.int .i64 0), .s (.int .i64 0), .s (.int .i64 2), .s (.bool false)]),
  (23, .cells false [.s (.int .i64 2)])]
noncomputable def A4 : BL := evL (vals []) A4x
theorem A4_ev (ρ : Nat → Int) : evL ρ A4x = A4 := rfl
set_option maxRecDepth 100000 in
theorem doA3_c {π : Nat → Nat} (hπ : π 0 = 0) : Tri tab noExt F.kern_Kernel_Do [.s (.ptr (some (π 1, 0))), .agg [.int .i64 1, .int .i64 2, .int .i64 0, .int .i64 0, .int .i64 0]] [GZ, ImgB π A3] fun v P' => ∃ π' : Nat → Nat, π' 1 = π 1 ∧ π' 0 = 0 ∧ v = .agg [.int .i64 0, .int .i64 0] ∧ P' = [GZ, ImgB π' A4] := by
  have h := sxz (n0 := 23) (fuel := 100) (f := F.kern_Kernel_Do) (xs := [.s (.s (.ptr (some (1, 0)))), .agg [.s (.int .i64 1), .s (.int .i64 2), .s (.int .i64 0), .s (.int .i64 0), .s (.int .i64 0)]]) (St := A3x) (es := A4x) (keep := [1]) (s := [(23, 582)]) (v2 := .agg [.s (.int .i64 0), .s (.int .i64 0)]) (facts := []) (by kernel_rfl) (by kernel_rfl) (ρ := vals []) FactsOk.nil hπ
  refine h.re ?_ ?_ ?_
  · rfl
  · rw [A3_ev]
  · rintro v L ⟨π', k, k0, rfl, rfl⟩
    exact ⟨π', k 1 (by decide), k0, rfl, by rw [A4_ev]⟩
noncomputable def A5x : XL := chgX A4x [(1, .cells false [.s (.slice (some (2, 0)) 1 1 1), .s (.slice none 0 0 1), .s (.slice none 0 0 1), .s (.slice (some (3, 0)) 1 1 1), .s (.int .i64 1), .s (.ptr (some (4, 0))), .s (.ptr (some (5, 0))), .s (.ptr (some (6, 0))), .s (.ptr (some (7, 0))), .s (.slice (some (8, 0)) 3 3 1), .s (.int .i64 0), .s (.int .i64 0), .s (.int .i64 2)]),
  (4, .cells false [.s (.slice (some (11, 0)) 2 2 4), .s (.int .i64 16), .s (.int .i64 16), .s (.int .i64 0), .s (.int .i64 5), .s (.int .i64 5), .s (.int .i64 0), .s (.int .i64 3), .s (.int .i64 3), .s (.int .i64 0), .s (.int .i64 16), .s (.int .i64 16), .s (.int .i64 0), .s (.int .i64 16), .s (.int .i64 16), .s (.int .i64 0), .s (.int .i64 16), .s (.int .i64 16), .s (.int .i64 0), .s (.int .i64 16), .s (.int .i64 16), .s (.int .i64 0), .s (.int .i64 16), .s (.int .i64 16), .s (.int .i64 0), .s (.int .i64 16), .s (.int .i64 16), .s (.int .i64 0), .s (.int .i64 16), .s (.int .i64 16), .s (.int .i64 0), .s (.int .i64 16), .s (.int .i64 16), .s (.int .i64 0), .s (.int .i64 16), .s (.int .i64 16), .s (.int .i64 0), .s (.int .i64 16), .s (.int .i64 16), .s (.int .i64 0), .s (.int .i64 16), .s (.int .i64 16), .s (.int .i64 0), .s (.int .i64 16), .s (.int .i64 16), .s (.int .i64 0), .s (.int .i64 16), .s (.int .i64 16), .s (.int .i64 0), .s (.int .i64 16), .s (.int .i64 16), .s (.int .i64 0)]),
  (7, .cells false [.s (.int .u64 20), .s (.int .u64 0), .s (.int .u64 0), .s (.int .u64 0), .s (.slice none 0 0 1), .s (.slice (some (22, 0)) 0 1 1), .s (.slice none 0 0 1), .s (.slice (some (23, 0)) 1 1 1), .s (.slice none 0 0 1), .s (.slice (some (13, 0)) 1 1 1), .s (.slice none 0 0 1), .s (.slice none 0 0 1), .s (.slice none 0 0 1), .s (.slice none 0 0 1), .s (.slice none 0 0 1), .s (.slice none 0 0 1), .s (.slice none 0 0 1), .s (.slice none 0 0 1), .s (.slice none 0 0 1), .s (.slice none 0 0 1), .s (.slice none 0 0 1), .s (.int .i64 0), .s (.int .i64 5), .s (.int .i64 3), .s (.int .i64 0), .s (.int .i64 0), .s (.int .i64 0), .s (.int .i64 0), .s (.int .i64 0), .s (.int .i64 0), .s (.int .i64 0), .s (.int .i64 0), .s (.int .i64 0), .s (.int .i64 0), .s (.int .i64 0), .s (.int .i64 0), .s (.int .i64 0), .s (.int .i64 0)]),
  (11, .cells false [.s (.int .i64 0), .s (.int .i64 0), .s (.int .i64 0), .s (.slice none 0 0 1), .s (.int .i64 3), .s (.int .i64 1), .s (.int .i64 0), .s (.slice none 0 0 1)]),
  (13, .cells false [.s (.int .i64 1)]),
  (14, .cells false [.s (.ptr (some (19, 0))), .s (.int .i64 5), .s (.int .i64 5), .s (.int .i64 0), .s (.int .i64 0), .s (.int .i64 0), .s (.int .i64 0), .s (.int .i64 0)]),
  (22, .cells false [.s (.int .i64 0)])]
noncomputable def A5 : BL := evL (vals []) A5x
theorem A5_ev (ρ : Nat → Int) : evL ρ A5x = A5 := rfl
set_option maxRecDepth 100000 in
theorem doA4_c {π : Nat → Nat} (hπ : π 0 = 0) : Tri tab noExt F.kern_Kernel_Do [.s (.ptr (some (π 1, 0))), .agg [.int .i64 46, .int .i64 1, .int .i64 0, .int .i64 0, .int .i64 0]] [GZ, ImgB π A4] fun v P' => ∃ π' : Nat → Nat, π' 1 = π 1 ∧ π' 0 = 0 ∧ v = .agg [.int .i64 0, .int .i64 0] ∧ P' = [GZ, ImgB π' A5] := by
  have h := sxz (n0 := 24) (fuel := 100) (f := F.kern_Kernel_Do) (xs := [.s (.s (.ptr (some (1, 0)))), .agg [.s (.int .i64 46), .s (.int .i64 1), .s (.int .i64 0), .s (.int .i64 0), .s (.int .i64 0)]]) (St := A4x) (es := A5x) (keep := [1]) (s := []) (v2 := .agg [.s (.int .i64 0), .s (.int .i64 0)]) (facts := []) (by kernel_rfl) (by kernel_rfl) (ρ := vals []) FactsOk.nil hπ
  refine h.re ?_ ?_ ?_
  · rfl
  · rw [A4_ev]
  · rintro v L ⟨π', k, k0, rfl, rfl⟩
    exact ⟨π', k 1 (by decide), k0, rfl, by rw [A5_ev]⟩
noncomputable def A6x : XL := chgX A5x [(1, .cells false [.s (.slice (some (2, 0)) 1 1 1), .s (.slice none 0 0 1), .s (.slice none 0 0 1), .s (.slice (some (3, 0)) 1 1 1), .s (.int .i64 1), .s (.ptr (some (4, 0))), .s (.ptr (some (5, 0))), .s (.ptr (some (6, 0))), .s (.ptr (some (7, 0))), .s (.slice (some (8, 0)) 3 3 1), .s (.int .i64 0), .s (.int .i64 0), .s (.int .i64 1)]),
  (7, .cells false [.s (.int .u64 16), .s (.int .u64 0), .s (.int .u64 0), .s (.int .u64 0), .s (.slice none 0 0 1), .s (.slice (some (22, 0)) 0 1 1), .s (.slice none 0 0 1), .s (.slice (some (23, 0)) 0 1 1), .s (.slice none 0 0 1), .s (.slice (some (13, 0)) 1 1 1), .s (.slice none 0 0 1), .s (.slice none 0 0 1), .s (.slice none 0 0 1), .s (.slice none 0 0 1), .s (.slice none 0 0 1), .s (.slice none 0 0 1), .s (.slice none 0 0 1), .s (.slice none 0 0 1), .s (.slice none 0 0 1), .s (.slice none 0 0 1), .s (.slice none 0 0 1), .s (.int .i64 0), .s (.int .i64 5), .s (.int .i64 0), .s (.int .i64 0), .s (.int .i64 0), .s (.int .i64 0), .s (.int .i64 0), .s (.int .i64 0), .s (.int .i64 0), .s (.int .i64 0), .s (.int .i64 0), .s (.int .i64 0), .s (.int .i64 0), .s (.int .i64 0), .s (.int .i64 0), .s (.int .i64 0), .s (.int .i64 0)]),
  (20, .cells false [.s (.int .i64 0), .s (.int .i64 0), .s (.int .i64 0), .s (.int .i64 16), .s (.bool false)]),
  (23, .cells false [.s (.int .i64 0)])]
noncomputable def A6 : BL := evL (vals []) A6x
theorem A6_ev (ρ : Nat → Int) : evL ρ A6x = A6 := rfl
set_option maxRecDepth 100000 in
theorem doA5_c {π : Nat → Nat} (hπ : π 0 = 0) : Tri tab noExt F.kern_Kernel_Do [.s (.ptr (some (π 1, 0))), .agg [.int .i64 4, .int .i64 0, .int .i64 0, .int .i64 0, .int .i64 0]] [GZ, ImgB π A5] fun v P' => ∃ π' : Nat → Nat, π' 1 = π 1 ∧ π' 0 = 0 ∧ v = .agg [.int .i64 0, .int .i64 0] ∧ P' = [GZ, ImgB π' A6] := by
  have h := sxz (n0 := 24) (fuel := 100) (f := F.kern_Kernel_Do) (xs := [.s (.s (.ptr (some (1, 0)))), .agg [.s (.int .i64 4), .s (.int .i64 0), .s (.int .i64 0), .s (.int .i64 0), .s (.int .i64 0)]]) (St := A5x) (es := A6x) (keep := [1]) (s := []) (v2 := .agg [.s (.int .i64 0), .s (.int .i64 0)]) (facts := []) (by kernel_rfl) (by kernel_rfl) (ρ := vals []) FactsOk.nil hπ
  refine h.re ?_ ?_ ?_
  · rfl
  · rw [A5_ev]
  · rintro v L ⟨π', k, k0, rfl, rfl⟩
    exact ⟨π', k 1 (by decide), k0, rfl, by rw [A6_ev]⟩
noncomputable def A7x : XL := chgX A6x [(9, .cells false [.s (.ptr (some (16, 0))), .s (.int .i64 1), .s (.int .i64 1)])]
noncomputable def A7 : BL := evL (vals []) A7x
theorem A7_ev (ρ : Nat → Int) : evL ρ A7x = A7 := rfl
set_option maxRecDepth 100000 in
theorem doA6_c {π : Nat → Nat} (hπ : π 0 = 0) : Tri tab noExt F.kern_Kernel_Do [.s (.ptr (some (π 1, 0))), .agg [.int .i64 23, .int .i64 1, .int .i64 0, .int .i64 0, .int .i64 0]] [GZ, ImgB π A6] fun v P' => ∃ π' : Nat → Nat, π' 1 = π 1 ∧ π' 0 = 0 ∧ v = .agg [.int .i64 0, .int .i64 0] ∧ P' = [GZ, ImgB π' A7] := by
  have h := sxz (n0 := 24) (fuel := 100) (f := F.kern_Kernel_Do) (xs := [.s (.s (.ptr (some (1, 0)))), .agg [.s (.int .i64 23), .s (.int .i64 1), .s (.int .i64 0), .s (.int .i64 0), .s (.int .i64 0)]]) (St := A6x) (es := A7x) (keep := [1]) (s := []) (v2 := .agg [.s (.int .i64 0), .s (.int .i64 0)]) (facts := []) (by kernel_rfl) (by kernel_rfl) (ρ := vals []) FactsOk.nil hπ
  refine h.re ?_ ?_ ?_
  · rfl
  · rw [A6_ev]
  · rintro v L ⟨π', k, k0, rfl, rfl⟩
    exact ⟨π', k 1 (by decide), k0, rfl, by rw [A7_ev]⟩
noncomputable def A8x : XL := chgX A7x [(10, .cells false [.s (.ptr (some (17, 0))), .s (.int .i64 0), .s (.int .i64 1), .s (.int .i64 4), .s (.int .i64 1), .s (.slice (some (24, 0)) 1 1 1), .s (.slice (some (21, 0)) 0 1 1)]),
  (24, .cells false [.s (.int .i64 0)])]
noncomputable def A8 : BL := evL (vals []) A8x
theorem A8_ev (ρ : Nat → Int) : evL ρ A8x = A8 := rfl
set_option maxRecDepth 100000 in
theorem doA7_c {π : Nat → Nat} (hπ : π 0 = 0) : Tri tab noExt F.kern_Kernel_Do [.s (.ptr (some (π 1, 0))), .agg [.int .i64 50, .int .i64 1, .int .i64 0, .int .i64 0, .int .i64 0]] [GZ, ImgB π A7] fun v P' => ∃ π' : Nat → Nat, π' 1 = π 1 ∧ π' 0 = 0 ∧ v = .agg [.int .i64 0, .int .i64 0] ∧ P' = [GZ, ImgB π' A8] := by
  have h := sxz (n0 := 24) (fuel := 100) (f := F.kern_Kernel_Do) (xs := [.s (.s (.ptr (some (1, 0)))), .agg [.s (.int .i64 50), .s (.int .i64 1), .s (.int .i64 0), .s (.int .i64 0), .s (.int .i64 0)]]) (St := A7x) (es := A8x) (keep := [1]) (s := [(24, 554)]) (v2 := .agg [.s (.int .i64 0), .s (.int .i64 0)]) (facts := []) (by kernel_rfl) (by kernel_rfl) (ρ := vals []) FactsOk.nil hπ
  refine h.re ?_ ?_ ?_
  · rfl
  · rw [A7_ev]
  · rintro v L ⟨π', k, k0, rfl, rfl⟩
    exact ⟨π', k 1 (by decide), k0, rfl, by rw [A8_ev]⟩
noncomputable def S0x (n0 : XV) : XL := [(1, .cells false [.s (.slice (some (2, 0)) 1 1 1), .s (.slice none 0 0 1), .s (.slice none 0 0 1), .s (.slice (some (3, 0)) 1 1 1), .s (.int .i64 1), .s (.ptr (some (4, 0))), .s (.ptr (some (5, 0))), .s (.ptr (some (6, 0))), .s (.ptr (some (7, 0))), .s (.slice (some (8, 0)) 3 3 1), .s (.int .i64 0), .s (.int .i64 0), .s (.int .i64 1)]),
  (2, .cells false [.s (.ptr (some (9, 0)))]),
  (3, .cells false [.s (.ptr (some (10, 0)))]),
  (4, .cells false [.s (.slice (some (11, 0)) 2 2 4), .s (.int .i64 16), .s (.int .i64 16), .s (.int .i64 0), .s (.int .i64 5), .s (.int .i64 5), .s (.int .i64 0), .s (.int .i64 3), .s (.int .i64 3), .s (.int .i64 0), .s (.int .i64 16), .s (.int .i64 16), .s (.int .i64 0), .s (.int .i64 16), .s (.int .i64 16), .s (.int .i64 0), .s (.int .i64 16), .s (.int .i64 16), .s (.int .i64 0), .s (.int .i64 16), .s (.int .i64 16), .s (.int .i64 0), .s (.int .i64 16), .s (.int .i64 16), .s (.int .i64 0), .s (.int .i64 16), .s (.int .i64 16), .s (.int .i64 0), .s (.int .i64 16), .s (.int .i64 16), .s (.int .i64 0), .s (.int .i64 16), .s (.int .i64 16), .s (.int .i64 0), .s (.int .i64 16), .s (.int .i64 16), .s (.int .i64 0), .s (.int .i64 16), .s (.int .i64 16), .s (.int .i64 0), .s (.int .i64 16), .s (.int .i64 16), .s (.int .i64 0), .s (.int .i64 16), .s (.int .i64 16), .s (.int .i64 0), .s (.int .i64 16), .s (.int .i64 16), .s (.int .i64 0), .s (.int .i64 16), .s (.int .i64 16), .s (.int .i64 0)]),
  (5, .cells false [.s (.slice none 0 0 1), .s (.bool false), .s (.bool false)]),
  (6, .cells false [.s (.ptr (some (12, 0))), .s (.int .u64 1), .s (.slice none 0 0 1), .s (.slice none 0 0 1)]),
  (7, .cells false [.s (.int .u64 16), .s (.int .u64 0), .s (.int .u64 0), .s (.int .u64 0), .s (.slice none 0 0 1), .s (.slice (some (22, 0)) 0 1 1), .s (.slice none 0 0 1), .s (.slice (some (23, 0)) 0 1 1), .s (.slice none 0 0 1), .s (.slice (some (13, 0)) 1 1 1), .s (.slice none 0 0 1), .s (.slice none 0 0 1), .s (.slice none 0 0 1), .s (.slice none 0 0 1), .s (.slice none 0 0 1), .s (.slice none 0 0 1), .s (.slice none 0 0 1), .s (.slice none 0 0 1), .s (.slice none 0 0 1), .s (.slice none 0 0 1), .s (.slice none 0 0 1), .s (.int .i64 0), .s (.int .i64 5), .s (.int .i64 0), .s (.int .i64 0), .s (.int .i64 0), .s (.int .i64 0), .s (.int .i64 0), .s (.int .i64 0), .s (.int .i64 0), .s (.int .i64 0), .s (.int .i64 0), .s (.int .i64 0), .s (.int .i64 0), .s (.int .i64 0), .s (.int .i64 0), .s (.int .i64 0), .s (.int .i64 0)]),
  (8, .cells false [.s (.ptr none), .s (.ptr (some (14, 0))), .s (.ptr (some (15, 0)))]),
  (9, .cells false [.s (.ptr (some (16, 0))), .s (.int .i64 1), .s (.int .i64 1)]),
  (10, .cells false [.s (.ptr (some (17, 0))), .s (.int .i64 0), .s (.int .i64 1), .s (.int .i64 4), .s (.int .i64 1), .s (.slice (some (24, 0)) 1 1 1), .s (.slice (some (21, 0)) 0 1 1)]),
  (11, .cells false [.s (.int .i64 0), .s (.int .i64 0), .s (.int .i64 0), .s (.slice none 0 0 1), .s (.int .i64 3), .s (.int .i64 1), .s (.int .i64 0), .s (.slice none 0 0 1)]),
  (12, .cells false [.s (.ptr (some (18, 0))), .s (.int .u64 1), n0, .s (.int .u64 0)]),
  (13, .cells false [.s (.int .i64 1)]),
  (14, .cells false [.s (.ptr (some (19, 0))), .s (.int .i64 5), .s (.int .i64 5), .s (.int .i64 0), .s (.int .i64 0), .s (.int .i64 0), .s (.int .i64 0), .s (.int .i64 0)]),
  (15, .cells false [.s (.ptr (some (20, 0))), .s (.int .i64 3), .s (.int .i64 3), .s (.int .i64 0), .s (.int .i64 0), .s (.int .i64 0), .s (.int .i64 0), .s (.int .i64 0)]),
  (16, .cells false [.s (.slice none 0 0 1), .s (.bool false)]),
  (17, .cells false [.s (.slice none 0 0 1), .s (.bool false)]),
  (18, .cells false [.s (.slice none 0 0 1), .s (.int .i64 0)]),
  (19, .cells false [.s (.int .i64 0), .s (.int .i64 0), .s (.int .i64 0), .s (.int .i64 2), .s (.bool false)]),
  (20, .cells false [.s (.int .i64 0), .s (.int .i64 0), .s (.int .i64 0), .s (.int .i64 16), .s (.bool false)]),
  (21, .cells false [.s (.int .i64 0)]),
  (22, .cells false [.s (.int .i64 0)]),
  (23, .cells false [.s (.int .i64 0)]),
  (24, .cells false [.s (.int .i64 0)])]
def S0 (t0 : Int) : BL := [(1, .cells false [.slice (some (2, 0)) 1 1 1, .slice none 0 0 1, .slice none 0 0 1, .slice (some (3, 0)) 1 1 1, .int .i64 1, .ptr (some (4, 0)), .ptr (some (5, 0)), .ptr (some (6, 0)), .ptr (some (7, 0)), .slice (some (8, 0)) 3 3 1, .int .i64 0, .int .i64 0, .int .i64 1]),
  (2, .cells false [.ptr (some (9, 0))]),
  (3, .cells false [.ptr (some (10, 0))]),
  (4, .cells false [.slice (some (11, 0)) 2 2 4, .int .i64 16, .int .i64 16, .int .i64 0, .int .i64 5, .int .i64 5, .int .i64 0, .int .i64 3, .int .i64 3, .int .i64 0, .int .i64 16, .int .i64 16, .int .i64 0, .int .i64 16, .int .i64 16, .int .i64 0, .int .i64 16, .int .i64 16, .int .i64 0, .int .i64 16, .int .i64 16, .int .i64 0, .int .i64 16, .int .i64 16, .int .i64 0, .int .i64 16, .int .i64 16, .int .i64 0, .int .i64 16, .int .i64 16, .int .i64 0, .int .i64 16, .int .i64 16, .int .i64 0, .int .i64 16, .int .i64 16, .int .i64 0, .int .i64 16, .int .i64 16, .int .i64 0, .int .i64 16, .int .i64 16, .int .i64 0, .int .i64 16, .int .i64 16, .int .i64 0, .int .i64 16, .int .i64 16, .int .i64 0, .int .i64 16, .int .i64 16, .int .i64 0]),
  (5, .cells false [.slice none 0 0 1, .bool false, .bool false]),
  (6, .cells false [.ptr (some (12, 0)), .int .u64 1, .slice none 0 0 1, .slice none 0 0 1]),
  (7, .cells false [.int .u64 16, .int .u64 0, .int .u64 0, .int .u64 0, .slice none 0 0 1, .slice (some (22, 0)) 0 1 1, .slice none 0 0 1, .slice (some (23, 0)) 0 1 1, .slice none 0 0 1, .slice (some (13, 0)) 1 1 1, .slice none 0 0 1, .slice none 0 0 1, .slice none 0 0 1, .slice none 0 0 1, .slice none 0 0 1, .slice none 0 0 1, .slice none 0 0 1, .slice none 0 0 1, .slice none 0 0 1, .slice none 0 0 1, .slice none 0 0 1, .int .i64 0, .int .i64 5, .int .i64 0, .int .i64 0, .int .i64 0, .int .i64 0, .int .i64 0, .int .i64 0, .int .i64 0, .int .i64 0, .int .i64 0, .int .i64 0, .int .i64 0, .int .i64 0, .int .i64 0, .int .i64 0, .int .i64 0]),
  (8, .cells false [.ptr none, .ptr (some (14, 0)), .ptr (some (15, 0))]),
  (9, .cells false [.ptr (some (16, 0)), .int .i64 1, .int .i64 1]),
  (10, .cells false [.ptr (some (17, 0)), .int .i64 0, .int .i64 1, .int .i64 4, .int .i64 1, .slice (some (24, 0)) 1 1 1, .slice (some (21, 0)) 0 1 1]),
  (11, .cells false [.int .i64 0, .int .i64 0, .int .i64 0, .slice none 0 0 1, .int .i64 3, .int .i64 1, .int .i64 0, .slice none 0 0 1]),
  (12, .cells false [.ptr (some (18, 0)), .int .u64 1, .int .u64 t0, .int .u64 0]),
  (13, .cells false [.int .i64 1]),
  (14, .cells false [.ptr (some (19, 0)), .int .i64 5, .int .i64 5, .int .i64 0, .int .i64 0, .int .i64 0, .int .i64 0, .int .i64 0]),
  (15, .cells false [.ptr (some (20, 0)), .int .i64 3, .int .i64 3, .int .i64 0, .int .i64 0, .int .i64 0, .int .i64 0, .int .i64 0]),
  (16, .cells false [.slice none 0 0 1, .bool false]),
  (17, .cells false [.slice none 0 0 1, .bool false]),
  (18, .cells false [.slice none 0 0 1, .int .i64 0]),
  (19, .cells false [.int .i64 0, .int .i64 0, .int .i64 0, .int .i64 2, .bool false]),
  (20, .cells false [.int .i64 0, .int .i64 0, .int .i64 0, .int .i64 16, .bool false]),
  (21, .cells false [.int .i64 0]),
  (22, .cells false [.int .i64 0]),
  (23, .cells false [.int .i64 0]),
  (24, .cells false [.int .i64 0])]
theorem S0_ev (ρ : Nat → Int) (n0 : SI) : evL ρ (S0x (.y .u64 n0)) = S0 (n0.ev ρ) := rfl
theorem S0_evc (ρ : Nat → Int) (n0 : Int) : evL ρ (S0x (.s (.int .u64 n0))) = S0 n0 := rfl
set_option maxRecDepth 100000 in
theorem tickA_c {π : Nat → Nat} (hπ : π 0 = 0) : Tri tab noExt F.kern_Kernel_Tick [.s (.ptr (some (π 1, 0)))] [GZ, ImgB π A8] fun v P' => ∃ π' : Nat → Nat, π' 1 = π 1 ∧ π' 0 = 0 ∧ v = .s (.slice none 0 0 3) ∧ P' = [GZ, ImgB π' (S0 1)] := by
  have h := sxz (n0 := 25) (fuel := 100) (f := F.kern_Kernel_Tick) (xs := [.s (.s (.ptr (some (1, 0))))]) (St := A8x) (es := (S0x (.s (.int .u64 1)))) (keep := [1]) (s := []) (v2 := .s (.s (.slice none 0 0 3))) (facts := []) (by kernel_rfl) (by kernel_rfl) (ρ := vals []) FactsOk.nil hπ
  refine h.re ?_ ?_ ?_
  · rfl
  · rw [A8_ev]
  · rintro v L ⟨π', k, k0, rfl, rfl⟩
    exact ⟨π', k 1 (by decide), k0, rfl, by rw [S0_evc]⟩
noncomputable def S1x (n0 : XV) : XL := chgX (S0x n0) [(10, .cells false [.s (.ptr (some (17, 0))), .s (.int .i64 0), .s (.int .i64 1), .s (.int .i64 4), .s (.int .i64 1), .s (.slice (some (24, 0)) 0 1 1), .s (.slice (some (21, 0)) 1 1 1)])]
noncomputable def S1 (t0 : Int) : BL := evL (vals [t0]) (S1x (.y .u64 ⟨0, [(.v 0, 1)]⟩))
theorem S1_ev (t0 : Int) : evL (vals [t0]) (S1x (.y .u64 ⟨0, [(.v 0, 1)]⟩)) = S1 t0 := rfl
set_option maxRecDepth 100000 in
theorem doS0_c {t0 : Int} (h0 : 1 ≤ t0 ∧ t0 ≤ 100) {π : Nat → Nat} (hπ : π 0 = 0) : Tri tab noExt F.kern_Kernel_Do [.s (.ptr (some (π 1, 0))), .agg [.int .i64 47, .int .i64 1, .int .i64 0, .int .i64 0, .int .i64 0]] [GZ, ImgB π (S0 t0)] fun v P' => ∃ π' : Nat → Nat, π' 1 = π 1 ∧ π' 0 = 0 ∧ v = .agg [.int .i64 0, .int .i64 0] ∧ P' = [GZ, ImgB π' (S1 t0)] := by
  have h := sxz (n0 := 25) (fuel := 100) (f := F.kern_Kernel_Do) (xs := [.s (.s (.ptr (some (1, 0)))), .agg [.s (.int .i64 47), .s (.int .i64 1), .s (.int .i64 0), .s (.int .i64 0), .s (.int .i64 0)]]) (St := (S0x (.y .u64 ⟨0, [(.v 0, 1)]⟩))) (es := (S1x (.y .u64 ⟨0, [(.v 0, 1)]⟩))) (keep := [1]) (s := []) (v2 := .agg [.s (.int .i64 0), .s (.int .i64 0)]) (facts := [bFact 0 1 100]) (by kernel_rfl) (by kernel_rfl) (ρ := vals [t0]) (.cons (bFact_ok h0.1 h0.2) FactsOk.nil) hπ
  have e0 : (SI.mk 0 [(.v 0, 1)]).ev (vals [t0]) = t0 := by
    show 0 + ((1 * t0 + 0)) = _
    omega
  refine h.re ?_ ?_ ?_
  · rfl
  · rw [S0_ev, e0]
  · rintro v L ⟨π', k, k0, rfl, rfl⟩
    exact ⟨π', k 1 (by decide), k0, rfl, by rw [S1_ev]⟩
noncomputable def S2x (n0 : XV) : XL := chgX (S1x n0) [(9, .cells false [.s (.ptr (some (16, 0))), .s (.int .i64 0), .s (.int .i64 1)])]
noncomputable def S2 (t0 : Int) : BL := evL (vals [t0]) (S2x (.y .u64 ⟨0, [(.v 0, 1)]⟩))
theorem S2_ev (t0 : Int) : evL (vals [t0]) (S2x (.y .u64 ⟨0, [(.v 0, 1)]⟩)) = S2 t0 := rfl
set_option maxRecDepth 100000 in
theorem doS1_c {t0 : Int} (h0 : 1 ≤ t0 ∧ t0 ≤ 100) {π : Nat → Nat} (hπ : π 0 = 0) : Tri tab noExt F.kern_Kernel_Do [.s (.ptr (some (π 1, 0))), .agg [.int .i64 25, .int .i64 1, .int .i64 0, .int .i64 0, .int .i64 0]] [GZ, ImgB π (S1 t0)] fun v P' => ∃ π' : Nat → Nat, π' 1 = π 1 ∧ π' 0 = 0 ∧ v = .agg [.int .i64 0, .int .i64 0] ∧ P' = [GZ, ImgB π' (S2 t0)] := by
  have h := sxz (n0 := 25) (fuel := 100) (f := F.kern_Kernel_Do) (xs := [.s (.s (.ptr (some (1, 0)))), .agg [.s (.int .i64 25), .s (.int .i64 1), .s (.int .i64 0), .s (.int .i64 0), .s (.int .i64 0)]]) (St := (S1x (.y .u64 ⟨0, [(.v 0, 1)]⟩))) (es := (S2x (.y .u64 ⟨0, [(.v 0, 1)]⟩))) (keep := [1]) (s := []) (v2 := .agg [.s (.int .i64 0), .s (.int .i64 0)]) (facts := [bFact 0 1 100]) (by kernel_rfl) (by kernel_rfl) (ρ := vals [t0]) (.cons (bFact_ok h0.1 h0.2) FactsOk.nil) hπ
  have e0 : (SI.mk 0 [(.v 0, 1)]).ev (vals [t0]) = t0 := by
    show 0 + ((1 * t0 + 0)) = _
    omega
  refine h.re ?_ ?_ ?_
  · rfl
  · rw [S1_ev]
  · rintro v L ⟨π', k, k0, rfl, rfl⟩
    exact ⟨π', k 1 (by decide), k0, rfl, by rw [S2_ev]⟩
noncomputable def S3x (n0 : XV) : XL := chgX (S2x n0) [(4, .cells false [.s (.slice (some (11, 0)) 2 2 4), .s (.int .i64 16), .s (.int .i64 16), .s (.int .i64 0), .s (.int .i64 5), .s (.int .i64 1), .s (.int .i64 0), .s (.int .i64 3), .s (.int .i64 3), .s (.int .i64 0), .s (.int .i64 16), .s (.int .i64 16), .s (.int .i64 0), .s (.int .i64 16), .s (.int .i64 16), .s (.int .i64 0), .s (.int .i64 16), .s (.int .i64 16), .s (.int .i64 0), .s (.int .i64 16), .s (.int .i64 16), .s (.int .i64 0), .s (.int .i64 16), .s (.int .i64 16), .s (.int .i64 0), .s (.int .i64 16), .s (.int .i64 16), .s (.int .i64 0), .s (.int .i64 16), .s (.int .i64 16), .s (.int .i64 0), .s (.int .i64 16), .s (.int .i64 16), .s (.int .i64 0), .s (.int .i64 16), .s (.int .i64 16), .s (.int .i64 0), .s (.int .i64 16), .s (.int .i64 16), .s (.int .i64 0), .s (.int .i64 16), .s (.int .i64 16), .s (.int .i64 0), .s (.int .i64 16), .s (.int .i64 16), .s (.int .i64 0), .s (.int .i64 16), .s (.int .i64 16), .s (.int .i64 0), .s (.int .i64 16), .s (.int .i64 16), .s (.int .i64 0)]),
  (7, .cells false [.s (.int .u64 1), .s (.int .u64 0), .s (.int .u64 0), .s (.int .u64 0), .s (.slice none 0 0 1), .s (.slice (some (22, 0)) 1 1 1), .s (.slice none 0 0 1), .s (.slice (some (23, 0)) 0 1 1), .s (.slice none 0 0 1), .s (.slice (some (13, 0)) 0 1 1), .s (.slice none 0 0 1), .s (.slice none 0 0 1), .s (.slice none 0 0 1), .s (.slice none 0 0 1), .s (.slice none 0 0 1), .s (.slice none 0 0 1), .s (.slice none 0 0 1), .s (.slice none 0 0 1), .s (.slice none 0 0 1), .s (.slice none 0 0 1), .s (.slice none 0 0 1), .s (.int .i64 0), .s (.int .i64 1), .s (.int .i64 0), .s (.int .i64 0), .s (.int .i64 0), .s (.int .i64 0), .s (.int .i64 0), .s (.int .i64 0), .s (.int .i64 0), .s (.int .i64 0), .s (.int .i64 0), .s (.int .i64 0), .s (.int .i64 0), .s (.int .i64 0), .s (.int .i64 0), .s (.int .i64 0), .s (.int .i64 0)]),
  (11, .cells false [.s (.int .i64 0), .s (.int .i64 0), .s (.int .i64 0), .s (.slice none 0 0 1), .s (.int .i64 3), .s (.int .i64 1), .s (.int .i64 1), .s (.slice none 0 0 1)]),
  (13, .cells false [.s (.int .i64 0)]),
  (14, .cells false [.s (.ptr (some (19, 0))), .s (.int .i64 5), .s (.int .i64 1), .s (.int .i64 0), .s (.int .i64 0), .s (.int .i64 0), .s (.int .i64 0), .s (.int .i64 0)]),
  (22, .cells false [.s (.int .i64 1)])]
noncomputable def S3 (t0 : Int) : BL := evL (vals [t0]) (S3x (.y .u64 ⟨0, [(.v 0, 1)]⟩))
theorem S3_ev (t0 : Int) : evL (vals [t0]) (S3x (.y .u64 ⟨0, [(.v 0, 1)]⟩)) = S3 t0 := rfl
set_option maxRecDepth 100000 in
theorem doS2_c {t0 : Int} (h0 : 1 ≤ t0 ∧ t0 ≤ 100) {π : Nat → Nat} (hπ : π 0 = 0) : Tri tab noExt F.kern_Kernel_Do [.s (.ptr (some (π 1, 0))), .agg [.int .i64 43, .int .i64 1, .int .i64 0, .int .i64 0, .int .i64 0]] [GZ, ImgB π (S2 t0)] fun v P' => ∃ π' : Nat → Nat, π' 1 = π 1 ∧ π' 0 = 0 ∧ v = .agg [.int .i64 0, .int .i64 0] ∧ P' = [GZ, ImgB π' (S3 t0)] := by
  have h := sxz (n0 := 25) (fuel := 100) (f := F.kern_Kernel_Do) (xs := [.s (.s (.ptr (some (1, 0)))), .agg [.s (.int .i64 43), .s (.int .i64 1), .s (.int .i64 0), .s (.int .i64 0), .s (.int .i64 0)]]) (St := (S2x (.y .u64 ⟨0, [(.v 0, 1)]⟩))) (es := (S3x (.y .u64 ⟨0, [(.v 0, 1)]⟩))) (keep := [1]) (s := []) (v2 := .agg [.s (.int .i64 0), .s (.int .i64 0)]) (facts := [bFact 0 1 100]) (by kernel_rfl) (by kernel_rfl) (ρ := vals [t0]) (.cons (bFact_ok h0.1 h0.2) FactsOk.nil) hπ
  have e0 : (SI.mk 0 [(.v 0, 1)]).ev (vals [t0]) = t0 := by
    show 0 + ((1 * t0 + 0)) = _
    omega
  refine h.re ?_ ?_ ?_
  · rfl
  · rw [S2_ev]
  · rintro v L ⟨π', k, k0, rfl, rfl⟩
    exact ⟨π', k 1 (by decide), k0, rfl, by rw [S3_ev]⟩
noncomputable def S4x (n0 : XV) : XL := chgX (S3x n0) [(7, .cells false [.s (.int .u64 5), .s (.int .u64 0), .s (.int .u64 0), .s (.int .u64 0), .s (.slice none 0 0 1), .s (.slice (some (22, 0)) 1 1 1), .s (.slice none 0 0 1), .s (.slice (some (23, 0)) 1 1 1), .s (.slice none 0 0 1), .s (.slice (some (13, 0)) 0 1 1), .s (.slice none 0 0 1), .s (.slice none 0 0 1), .s (.slice none 0 0 1), .s (.slice none 0 0 1), .s (.slice none 0 0 1), .s (.slice none 0 0 1), .s (.slice none 0 0 1), .s (.slice none 0 0 1), .s (.slice none 0 0 1), .s (.slice none 0 0 1), .s (.slice none 0 0 1), .s (.int .i64 0), .s (.int .i64 1), .s (.int .i64 3), .s (.int .i64 0), .s (.int .i64 0), .s (.int .i64 0), .s (.int .i64 0), .s (.int .i64 0), .s (.int .i64 0), .s (.int .i64 0), .s (.int .i64 0), .s (.int .i64 0), .s (.int .i64 0), .s (.int .i64 0), .s (.int .i64 0), .s (.int .i64 0), .s (.int .i64 0)]),
  (20, .cells false [.s (.int .i64 0), .s (.int .i64 0), .s (.int .i64 0), .s (.int .i64 2), .s (.bool false)]),
  (23, .cells false [.s (.int .i64 2)])]
noncomputable def S4 (t0 : Int) : BL := evL (vals [t0]) (S4x (.y .u64 ⟨0, [(.v 0, 1)]⟩))
theorem S4_ev (t0 : Int) : evL (vals [t0]) (S4x (.y .u64 ⟨0, [(.v 0, 1)]⟩)) = S4 t0 := rfl
set_option maxRecDepth 100000 in
theorem doS3_c {t0 : Int} (h0 : 1 ≤ t0 ∧ t0 ≤ 100) {π : Nat → Nat} (hπ : π 0 = 0) : Tri tab noExt F.kern_Kernel_Do [.s (.ptr (some (π 1, 0))), .agg [.int .i64 1, .int .i64 2, .int .i64 0, .int .i64 0, .int .i64 0]] [GZ, ImgB π (S3 t0)] fun v P' => ∃ π' : Nat → Nat, π' 1 = π 1 ∧ π' 0 = 0 ∧ v = .agg [.int .i64 0, .int .i64 0] ∧ P' = [GZ, ImgB π' (S4 t0)] := by
  have h := sxz (n0 := 25) (fuel := 100) (f := F.kern_Kernel_Do) (xs := [.s (.s (.ptr (some (1, 0)))), .agg [.s (.int .i64 1), .s (.int .i64 2), .s (.int .i64 0), .s (.int .i64 0), .s (.int .i64 0)]]) (St := (S3x (.y .u64 ⟨0, [(.v 0, 1)]⟩))) (es := (S4x (.y .u64 ⟨0, [(.v 0, 1)]⟩))) (keep := [1]) (s := []) (v2 := .agg [.s (.int .i64 0), .s (.int .i64 0)]) (facts := [bFact 0 1 100]) (by kernel_rfl) (by kernel_rfl) (ρ := vals [t0]) (.cons (bFact_ok h0.1 h0.2) FactsOk.nil) hπ
  have e0 : (SI.mk 0 [(.v 0, 1)]).ev (vals [t0]) = t0 := by
    show 0 + ((1 * t0 + 0)) = _
    omega
  refine h.re ?_ ?_ ?_
  · rfl
  · rw [S3_ev]
  · rintro v L ⟨π', k, k0, rfl, rfl⟩
    exact ⟨π', k 1 (by decide), k0, rfl, by rw [S4_ev]⟩
noncomputable def S5x (n0 : XV) : XL := chgX (S4x n0) [(1, .cells false [.s (.slice (some (2, 0)) 1 1 1), .s (.slice none 0 0 1), .s (.slice none 0 0 1), .s (.slice (some (3, 0)) 1 1 1), .s (.int .i64 1), .s (.ptr (some (4, 0))), .s (.ptr (some (5, 0))), .s (.ptr (some (6, 0))), .s (.ptr (some (7, 0))), .s (.slice (some (8, 0)) 3 3 1), .s (.int .i64 0), .s (.int .i64 0), .s (.int .i64 2)]),
  (4, .cells false [.s (.slice (some (11, 0)) 2 2 4), .s (.int .i64 16), .s (.int .i64 16), .s (.int .i64 0), .s (.int .i64 5), .s (.int .i64 5), .s (.int .i64 0), .s (.int .i64 3), .s (.int .i64 3), .s (.int .i64 0), .s (.int .i64 16), .s (.int .i64 16), .s (.int .i64 0), .s (.int .i64 16), .s (.int .i64 16), .s (.int .i64 0), .s (.int .i64 16), .s (.int .i64 16), .s (.int .i64 0), .s (.int .i64 16), .s (.int .i64 16), .s (.int .i64 0), .s (.int .i64 16), .s (.int .i64 16), .s (.int .i64 0), .s (.int .i64 16), .s (.int .i64 16), .s (.int .i64 0), .s (.int .i64 16), .s (.int .i64 16), .s (.int .i64 0), .s (.int .i64 16), .s (.int .i64 16), .s (.int .i64 0), .s (.int .i64 16), .s (.int .i64 16), .s (.int .i64 0), .s (.int .i64 16), .s (.int .i64 16), .s (.int .i64 0), .s (.int .i64 16), .s (.int .i64 16), .s (.int .i64 0), .s (.int .i64 16), .s (.int .i64 16), .s (.int .i64 0), .s (.int .i64 16), .s (.int .i64 16), .s (.int .i64 0), .s (.int .i64 16), .s (.int .i64 16), .s (.int .i64 0)]),
  (7, .cells false [.s (.int .u64 20), .s (.int .u64 0), .s (.int .u64 0), .s (.int .u64 0), .s (.slice none 0 0 1), .s (.slice (some (22, 0)) 0 1 1), .s (.slice none 0 0 1), .s (.slice (some (23, 0)) 1 1 1), .s (.slice none 0 0 1), .s (.slice (some (13, 0)) 1 1 1), .s (.slice none 0 0 1), .s (.slice none 0 0 1), .s (.slice none 0 0 1), .s (.slice none 0 0 1), .s (.slice none 0 0 1), .s (.slice none 0 0 1), .s (.slice none 0 0 1), .s (.slice none 0 0 1), .s (.slice none 0 0 1), .s (.slice none 0 0 1), .s (.slice none 0 0 1), .s (.int .i64 0), .s (.int .i64 5), .s (.int .i64 3), .s (.int .i64 0), .s (.int .i64 0), .s (.int .i64 0), .s (.int .i64 0), .s (.int .i64 0), .s (.int .i64 0), .s (.int .i64 0), .s (.int .i64 0), .s (.int .i64 0), .s (.int .i64 0), .s (.int .i64 0), .s (.int .i64 0), .s (.int .i64 0), .s (.int .i64 0)]),
  (11, .cells false [.s (.int .i64 0), .s (.int .i64 0), .s (.int .i64 0), .s (.slice none 0 0 1), .s (.int .i64 3), .s (.int .i64 1), .s (.int .i64 0), .s (.slice none 0 0 1)]),
  (13, .cells false [.s (.int .i64 1)]),
  (14, .cells false [.s (.ptr (some (19, 0))), .s (.int .i64 5), .s (.int .i64 5), .s (.int .i64 0), .s (.int .i64 0), .s (.int .i64 0), .s (.int .i64 0), .s (.int .i64 0)]),
  (22, .cells false [.s (.int .i64 0)])]
noncomputable def S5 (t0 : Int) : BL := evL (vals [t0]) (S5x (.y .u64 ⟨0, [(.v 0, 1)]⟩))
theorem S5_ev (t0 : Int) : evL (vals [t0]) (S5x (.y .u64 ⟨0, [(.v 0, 1)]⟩)) = S5 t0 := rfl
set_option maxRecDepth 100000 in
theorem doS4_c {t0 : Int} (h0 : 1 ≤ t0 ∧ t0 ≤ 100) {π : Nat → Nat} (hπ : π 0 = 0) : Tri tab noExt F.kern_Kernel_Do [.s (.ptr (some (π 1, 0))), .agg [.int .i64 46, .int .i64 1, .int .i64 0, .int .i64 0, .int .i64 0]] [GZ, ImgB π (S4 t0)] fun v P' => ∃ π' : Nat → Nat, π' 1 = π 1 ∧ π' 0 = 0 ∧ v = .agg [.int .i64 0, .int .i64 0] ∧ P' = [GZ, ImgB π' (S5 t0)] := by
  have h := sxz (n0 := 25) (fuel := 100) (f := F.kern_Kernel_Do) (xs := [.s (.s (.ptr (some (1, 0)))), .agg [.s (.int .i64 46), .s (.int .i64 1), .s (.int .i64 0), .s (.int .i64 0), .s (.int .i64 0)]]) (St := (S4x (.y .u64 ⟨0, [(.v 0, 1)]⟩))) (es := (S5x (.y .u64 ⟨0, [(.v 0, 1)]⟩))) (keep := [1]) (s := []) (v2 := .agg [.s (.int .i64 0), .s (.int .i64 0)]) (facts := [bFact 0 1 100]) (by kernel_rfl) (by kernel_rfl) (ρ := vals [t0]) (.cons (bFact_ok h0.1 h0.2) FactsOk.nil) hπ
  have e0 : (SI.mk 0 [(.v 0, 1)]).ev (vals [t0]) = t0 := by
    show 0 + ((1 * t0 + 0)) = _
    omega
  refine h.re ?_ ?_ ?_
  · rfl
  · rw [S4_ev]
  · rintro v L ⟨π', k, k0, rfl, rfl⟩
    exact ⟨π', k 1 (by decide), k0, rfl, by rw [S5_ev]⟩
noncomputable def S6x (n0 : XV) : XL := chgX (S5x n0) [(1, .cells false [.s (.slice (some (2, 0)) 1 1 1), .s (.slice none 0 0 1), .s (.slice none 0 0 1), .s (.slice (some (3, 0)) 1 1 1), .s (.int .i64 1), .s (.ptr (some (4, 0))), .s (.ptr (some (5, 0))), .s (.ptr (some (6, 0))), .s (.ptr (some (7, 0))), .s (.slice (some (8, 0)) 3 3 1), .s (.int .i64 0), .s (.int .i64 0), .s (.int .i64 1)]),
  (7, .cells false [.s (.int .u64 16), .s (.int .u64 0), .s (.int .u64 0), .s (.int .u64 0), .s (.slice none 0 0 1), .s (.slice (some (22, 0)) 0 1 1), .s (.slice none 0 0 1), .s (.slice (some (23, 0)) 0 1 1), .s (.slice none 0 0 1), .s (.slice (some (13, 0)) 1 1 1), .s (.slice none 0 0 1), .s (.slice none 0 0 1), .s (.slice none 0 0 1), .s (.slice none 0 0 1), .s (.slice none 0 0 1), .s (.slice none 0 0 1), .s (.slice none 0 0 1), .s (.slice none 0 0 1), .s (.slice none 0 0 1), .s (.slice none 0 0 1), .s (.slice none 0 0 1), .s (.int .i64 0), .s (.int .i64 5), .s (.int .i64 0), .s (.int .i64 0), .s (.int .i64 0), .s (.int .i64 0), .s (.int .i64 0), .s (.int .i64 0), .s (.int .i64 0), .s (.int .i64 0), .s (.int .i64 0), .s (.int .i64 0), .s (.int .i64 0), .s (.int .i64 0), .s (.int .i64 0), .s (.int .i64 0), .s (.int .i64 0)]),
  (20, .cells false [.s (.int .i64 0), .s (.int .i64 0), .s (.int .i64 0), .s (.int .i64 16), .s (.bool false)]),
  (23, .cells false [.s (.int .i64 0)])]
noncomputable def S6 (t0 : Int) : BL := evL (vals [t0]) (S6x (.y .u64 ⟨0, [(.v 0, 1)]⟩))
theorem S6_ev (t0 : Int) : evL (vals [t0]) (S6x (.y .u64 ⟨0, [(.v 0, 1)]⟩)) = S6 t0 := rfl
set_option maxRecDepth 100000 in
theorem doS5_c {t0 : Int} (h0 : 1 ≤ t0 ∧ t0 ≤ 100) {π : Nat → Nat} (hπ : π 0 = 0) : Tri tab noExt F.kern_Kernel_Do [.s (.ptr (some (π 1, 0))), .agg [.int .i64 4, .int .i64 0, .int .i64 0, .int .i64 0, .int .i64 0]] [GZ, ImgB π (S5 t0)] fun v P' => ∃ π' : Nat → Nat, π' 1 = π 1 ∧ π' 0 = 0 ∧ v = .agg [.int .i64 0, .int .i64 0] ∧ P' = [GZ, ImgB π' (S6 t0)] := by
  have h := sxz (n0 := 25) (fuel := 100) (f := F.kern_Kernel_Do) (xs := [.s (.s (.ptr (some (1, 0)))), .agg [.s (.int .i64 4), .s (.int .i64 0), .s (.int .i64 0), .s (.int .i64 0), .s (.int .i64 0)]]) (St := (S5x (.y .u64 ⟨0, [(.v 0, 1)]⟩))) (es := (S6x (.y .u64 ⟨0, [(.v 0, 1)]⟩))) (keep := [1]) (s := []) (v2 := .agg [.s (.int .i64 0), .s (.int .i64 0)]) (facts := [bFact 0 1 100]) (by kernel_rfl) (by kernel_rfl) (ρ := vals [t0]) (.cons (bFact_ok h0.1 h0.2) FactsOk.nil) hπ
  have e0 : (SI.mk 0 [(.v 0, 1)]).ev (vals [t0]) = t0 := by
    show 0 + ((1 * t0 + 0)) = _
    omega
  refine h.re ?_ ?_ ?_
  · rfl
  · rw [S5_ev]
  · rintro v L ⟨π', k, k0, rfl, rfl⟩
    exact ⟨π', k 1 (by decide), k0, rfl, by rw [S6_ev]⟩
noncomputable def S7x (n0 : XV) : XL := chgX (S6x n0) [(9, .cells false [.s (.ptr (some (16, 0))), .s (.int .i64 1), .s (.int .i64 1)])]
noncomputable def S7 (t0 : Int) : BL := evL (vals [t0]) (S7x (.y .u64 ⟨0, [(.v 0, 1)]⟩))
theorem S7_ev (t0 : Int) : evL (vals [t0]) (S7x (.y .u64 ⟨0, [(.v 0, 1)]⟩)) = S7 t0 := rfl
set_option maxRecDepth 100000 in
theorem doS6_c {t0 : Int} (h0 : 1 ≤ t0 ∧ t0 ≤ 100) {π : Nat → Nat} (hπ : π 0 = 0) : Tri tab noExt F.kern_Kernel_Do [.s (.ptr (some (π 1, 0))), .agg [.int .i64 23, .int .i64 1, .int .i64 0, .int .i64 0, .int .i64 0]] [GZ, ImgB π (S6 t0)] fun v P' => ∃ π' : Nat → Nat, π' 1 = π 1 ∧ π' 0 = 0 ∧ v = .agg [.int .i64 0, .int .i64 0] ∧ P' = [GZ, ImgB π' (S7 t0)] := by
  have h := sxz (n0 := 25) (fuel := 100) (f := F.kern_Kernel_Do) (xs := [.s (.s (.ptr (some (1, 0)))), .agg [.s (.int .i64 23), .s (.int .i64 1), .s (.int .i64 0), .s (.int .i64 0), .s (.int .i64 0)]]) (St := (S6x (.y .u64 ⟨0, [(.v 0, 1)]⟩))) (es := (S7x (.y .u64 ⟨0, [(.v 0, 1)]⟩))) (keep := [1]) (s := []) (v2 := .agg [.s (.int .i64 0), .s (.int .i64 0)]) (facts := [bFact 0 1 100]) (by kernel_rfl) (by kernel_rfl) (ρ := vals [t0]) (.cons (bFact_ok h0.1 h0.2) FactsOk.nil) hπ
  have e0 : (SI.mk 0 [(.v 0, 1)]).ev (vals [t0]) = t0 := by
    show 0 + ((1 * t0 + 0)) = _
    omega
  refine h.re ?_ ?_ ?_
  · rfl
  · rw [S6_ev]
  · rintro v L ⟨π', k, k0, rfl, rfl⟩
    exact ⟨π', k 1 (by decide), k0, rfl, by rw [S7_ev]⟩
noncomputable def S8x (n0 : XV) : XL := chgX (S7x n0) [(10, .cells false [.s (.ptr (some (17, 0))), .s (.int .i64 0), .s (.int .i64 1), .s (.int .i64 4), .s (.int .i64 1), .s (.slice (some (24, 0)) 1 1 1), .s (.slice (some (21, 0)) 0 1 1)])]
noncomputable def S8 (t0 : Int) : BL := evL (vals [t0]) (S8x (.y .u64 ⟨0, [(.v 0, 1)]⟩))
theorem S8_ev (t0 : Int) : evL (vals [t0]) (S8x (.y .u64 ⟨0, [(.v 0, 1)]⟩)) = S8 t0 := rfl
set_option maxRecDepth 100000 in
theorem doS7_c {t0 : Int} (h0 : 1 ≤ t0 ∧ t0 ≤ 100) {π : Nat → Nat} (hπ : π 0 = 0) : Tri tab noExt F.kern_Kernel_Do [.s (.ptr (some (π 1, 0))), .agg [.int .i64 50, .int .i64 1, .int .i64 0, .int .i64 0, .int .i64 0]] [GZ, ImgB π (S7 t0)] fun v P' => ∃ π' : Nat → Nat, π' 1 = π 1 ∧ π' 0 = 0 ∧ v = .agg [.int .i64 0, .int .i64 0] ∧ P' = [GZ, ImgB π' (S8 t0)] := by
  have h := sxz (n0 := 25) (fuel := 100) (f := F.kern_Kernel_Do) (xs := [.s (.s (.ptr (some (1, 0)))), .agg [.s (.int .i64 50), .s (.int .i64 1), .s (.int .i64 0), .s (.int .i64 0), .s (.int .i64 0)]]) (St := (S7x (.y .u64 ⟨0, [(.v 0, 1)]⟩))) (es := (S8x (.y .u64 ⟨0, [(.v 0, 1)]⟩))) (keep := [1]) (s := []) (v2 := .agg [.s (.int .i64 0), .s (.int .i64 0)]) (facts := [bFact 0 1 100]) (by kernel_rfl) (by kernel_rfl) (ρ := vals [t0]) (.cons (bFact_ok h0.1 h0.2) FactsOk.nil) hπ
  have e0 : (SI.mk 0 [(.v 0, 1)]).ev (vals [t0]) = t0 := by
    show 0 + ((1 * t0 + 0)) = _
    omega
  refine h.re ?_ ?_ ?_
  · rfl
  · rw [S7_ev]
  · rintro v L ⟨π', k, k0, rfl, rfl⟩
    exact ⟨π', k 1 (by decide), k0, rfl, by rw [S8_ev]⟩
set_option maxRecDepth 100000 in
theorem tickS_c {t0 : Int} (h0 : 1 ≤ t0 ∧ t0 ≤ 100) {π : Nat → Nat} (hπ : π 0 = 0) : Tri tab noExt F.kern_Kernel_Tick [.s (.ptr (some (π 1, 0)))] [GZ, ImgB π (S8 t0)] fun v P' => ∃ π' : Nat → Nat, π' 1 = π 1 ∧ π' 0 = 0 ∧ v = .s (.slice none 0 0 3) ∧ P' = [GZ, ImgB π' (S0 (t0 + 1))] := by
  have h := sxz (n0 := 25) (fuel := 100) (f := F.kern_Kernel_Tick) (xs := [.s (.s (.ptr (some (1, 0))))]) (St := (S8x (.y .u64 ⟨0, [(.v 0, 1)]⟩))) (es := (S0x (.y .u64 ⟨1, [(.v 0, 1)]⟩))) (keep := [1]) (s := []) (v2 := .s (.s (.slice none 0 0 3))) (facts := [bFact 0 1 100]) (by kernel_rfl) (by kernel_rfl) (ρ := vals [t0]) (.cons (bFact_ok h0.1 h0.2) FactsOk.nil) hπ
  have e0 : (SI.mk 0 [(.v 0, 1)]).ev (vals [t0]) = t0 := by
    show 0 + ((1 * t0 + 0)) = _
    omega
  have e1 : (SI.mk 1 [(.v 0, 1)]).ev (vals [t0]) = t0 + 1 := by
    show 1 + ((1 * t0 + 0)) = _
    omega
  refine h.re ?_ ?_ ?_
  · rfl
  · rw [S8_ev]
  · rintro v L ⟨π', k, k0, rfl, rfl⟩
    exact ⟨π', k 1 (by decide), k0, rfl, by rw [S0_ev, e1]⟩
set_option maxRecDepth 100000 in
theorem gTaskA_c {π : Nat → Nat} (hπ : π 0 = 0) : Tri tab noExt F.kern_Kernel_Task [.s (.ptr (some (π 1, 0))), .s (.int .i64 1)] [GZ, ImgB π A0] fun v P' => ∃ π' : Nat → Nat, π' 1 = π 1 ∧ π' 0 = 0 ∧ v = .tup [.agg [.int .i64 1, .int .i64 5, .int .i64 5, .int .i64 0, .int .i64 0, .int .i64 0, .int .i64 0, .int .i64 0], .agg [.int .i64 0, .int .i64 0, .int .i64 0], .s (.int .i64 0)] ∧ P' = [GZ, ImgB π' A0] := by
  have h := sxz (n0 := 21) (fuel := 100) (f := F.kern_Kernel_Task) (xs := [.s (.s (.ptr (some (1, 0)))), .s (.s (.int .i64 1))]) (St := A0x) (es := A0x) (keep := [1]) (s := []) (v2 := .tup [.agg [.s (.int .i64 1), .s (.int .i64 5), .s (.int .i64 5), .s (.int .i64 0), .s (.int .i64 0), .s (.int .i64 0), .s (.int .i64 0), .s (.int .i64 0)], .agg [.s (.int .i64 0), .s (.int .i64 0), .s (.int .i64 0)], .s (.s (.int .i64 0))]) (facts := []) (by kernel_rfl) (by kernel_rfl) (ρ := vals []) FactsOk.nil hπ
  refine h.re ?_ ?_ ?_
  · rfl
  · rw [A0_ev]
  · rintro v L ⟨π', k, k0, rfl, rfl⟩
    exact ⟨π', k 1 (by decide), k0, rfl, by rw [A0_ev]⟩
set_option maxRecDepth 100000 in
theorem gSemA_c {π : Nat → Nat} (hπ : π 0 = 0) : Tri tab noExt F.kern_Kernel_Sem [.s (.ptr (some (π 1, 0))), .s (.int .i64 1)] [GZ, ImgB π A0] fun v P' => ∃ π' : Nat → Nat, π' 1 = π 1 ∧ π' 0 = 0 ∧ v = .tup [.s (.int .i64 1), .s (.slice none 0 0 1), .s (.int .i64 0)] ∧ P' = [GZ, ImgB π' A0] := by
  have h := sxz (n0 := 21) (fuel := 100) (f := F.kern_Kernel_Sem) (xs := [.s (.s (.ptr (some (1, 0)))), .s (.s (.int .i64 1))]) (St := A0x) (es := A0x) (keep := [1]) (s := []) (v2 := .tup [.s (.s (.int .i64 1)), .s (.s (.slice none 0 0 1)), .s (.s (.int .i64 0))]) (facts := []) (by kernel_rfl) (by kernel_rfl) (ρ := vals []) FactsOk.nil hπ
  refine h.re ?_ ?_ ?_
  · rfl
  · rw [A0_ev]
  · rintro v L ⟨π', k, k0, rfl, rfl⟩
    exact ⟨π', k 1 (by decide), k0, rfl, by rw [A0_ev]⟩
set_option maxRecDepth 100000 in
theorem gPoolA_c {π : Nat → Nat} (hπ : π 0 = 0) : Tri tab noExt F.kern_Kernel_Pool [.s (.ptr (some (π 1, 0))), .s (.int .i64 1)] [GZ, ImgB π A0] fun v P' => ∃ π' : Nat → Nat, π' 1 = π 1 ∧ π' 0 = 0 ∧ v = .tup [.s (.int .i64 1), .s (.slice none 0 0 1), .s (.int .i64 0)] ∧ P' = [GZ, ImgB π' A0] := by
  have h := sxz (n0 := 21) (fuel := 100) (f := F.kern_Kernel_Pool) (xs := [.s (.s (.ptr (some (1, 0)))), .s (.s (.int .i64 1))]) (St := A0x) (es := A0x) (keep := [1]) (s := []) (v2 := .tup [.s (.s (.int .i64 1)), .s (.s (.slice none 0 0 1)), .s (.s (.int .i64 0))]) (facts := []) (by kernel_rfl) (by kernel_rfl) (ρ := vals []) FactsOk.nil hπ
  refine h.re ?_ ?_ ?_
  · rfl
  · rw [A0_ev]
  · rintro v L ⟨π', k, k0, rfl, rfl⟩
    exact ⟨π', k 1 (by decide), k0, rfl, by rw [A0_ev]⟩
set_option maxRecDepth 100000 in
theorem gMtxA_c {π : Nat → Nat} (hπ : π 0 = 0) : Tri tab noExt F.kern_Kernel_Mtx [.s (.ptr (some (π 1, 0))), .s (.int .i64 1)] [GZ, ImgB π A0] fun v P' => ∃ π' : Nat → Nat, π' 1 = π 1 ∧ π' 0 = 0 ∧ v = .tup [.s (.int .i64 0), .s (.slice none 0 0 1), .s (.int .i64 0)] ∧ P' = [GZ, ImgB π' A0] := by
  have h := sxz (n0 := 21) (fuel := 100) (f := F.kern_Kernel_Mtx) (xs := [.s (.s (.ptr (some (1, 0)))), .s (.s (.int .i64 1))]) (St := A0x) (es := A0x) (keep := [1]) (s := []) (v2 := .tup [.s (.s (.int .i64 0)), .s (.s (.slice none 0 0 1)), .s (.s (.int .i64 0))]) (facts := []) (by kernel_rfl) (by kernel_rfl) (ρ := vals []) FactsOk.nil hπ
  refine h.re ?_ ?_ ?_
  · rfl
  · rw [A0_ev]
  · rintro v L ⟨π', k, k0, rfl, rfl⟩
    exact ⟨π', k 1 (by decide), k0, rfl, by rw [A0_ev]⟩
set_option maxRecDepth 100000 in
theorem gRunningA_c {π : Nat → Nat} (hπ : π 0 = 0) : Tri tab noExt F.kern_Kernel_Running [.s (.ptr (some (π 1, 0)))] [GZ, ImgB π A0] fun v P' => ∃ π' : Nat → Nat, π' 1 = π 1 ∧ π' 0 = 0 ∧ v = .s (.int .i64 1) ∧ P' = [GZ, ImgB π' A0] := by
  have h := sxz (n0 := 21) (fuel := 100) (f := F.kern_Kernel_Running) (xs := [.s (.s (.ptr (some (1, 0))))]) (St := A0x) (es := A0x) (keep := [1]) (s := []) (v2 := .s (.s (.int .i64 1))) (facts := []) (by kernel_rfl) (by kernel_rfl) (ρ := vals []) FactsOk.nil hπ
  refine h.re ?_ ?_ ?_
  · rfl
  · rw [A0_ev]
  · rintro v L ⟨π', k, k0, rfl, rfl⟩
    exact ⟨π', k 1 (by decide), k0, rfl, by rw [A0_ev]⟩
set_option maxRecDepth 100000 in
theorem gNowA_c {π : Nat → Nat} (hπ : π 0 = 0) : Tri tab noExt F.kern_Kernel_Now [.s (.ptr (some (π 1, 0)))] [GZ, ImgB π A0] fun v P' => ∃ π' : Nat → Nat, π' 1 = π 1 ∧ π' 0 = 0 ∧ v = .s (.int .u64 0) ∧ P' = [GZ, ImgB π' A0] := by
  have h := sxz (n0 := 21) (fuel := 100) (f := F.kern_Kernel_Now) (xs := [.s (.s (.ptr (some (1, 0))))]) (St := A0x) (es := A0x) (keep := [1]) (s := []) (v2 := .s (.s (.int .u64 0))) (facts := []) (by kernel_rfl) (by kernel_rfl) (ρ := vals []) FactsOk.nil hπ
  refine h.re ?_ ?_ ?_
  · rfl
  · rw [A0_ev]
  · rintro v L ⟨π', k, k0, rfl, rfl⟩
    exact ⟨π', k 1 (by decide), k0, rfl, by rw [A0_ev]⟩
set_option maxRecDepth 100000 in
theorem gstateA_c {π : Nat → Nat} (hπ : π 0 = 0) : Tri tab noExt F.detenttop_state [.s (.ptr (some (π 1, 0))), .s (.int .i64 2)] [GZ, ImgB π A0] fun v P' => ∃ π' : Nat → Nat, π' 1 = π 1 ∧ π' 0 = 0 ∧ v = .s (.int .i64 16) ∧ P' = [GZ, ImgB π' A0] := by
  have h := sxz (n0 := 21) (fuel := 100) (f := F.detenttop_state) (xs := [.s (.s (.ptr (some (1, 0)))), .s (.s (.int .i64 2))]) (St := A0x) (es := A0x) (keep := [1]) (s := []) (v2 := .s (.s (.int .i64 16))) (facts := []) (by kernel_rfl) (by kernel_rfl) (ρ := vals []) FactsOk.nil hπ
  refine h.re ?_ ?_ ?_
  · rfl
  · rw [A0_ev]
  · rintro v L ⟨π', k, k0, rfl, rfl⟩
    exact ⟨π', k 1 (by decide), k0, rfl, by rw [A0_ev]⟩
set_option maxRecDepth 100000 in
theorem gTaskS_c {t0 : Int} (h0 : 1 ≤ t0 ∧ t0 ≤ 100) {π : Nat → Nat} (hπ : π 0 = 0) : Tri tab noExt F.kern_Kernel_Task [.s (.ptr (some (π 1, 0))), .s (.int .i64 1)] [GZ, ImgB π (S0 t0)] fun v P' => ∃ π' : Nat → Nat, π' 1 = π 1 ∧ π' 0 = 0 ∧ v = .tup [.agg [.int .i64 1, .int .i64 5, .int .i64 5, .int .i64 0, .int .i64 0, .int .i64 0, .int .i64 0, .int .i64 0], .agg [.int .i64 0, .int .i64 0, .int .i64 0], .s (.int .i64 0)] ∧ P' = [GZ, ImgB π' (S0 t0)] := by
  have h := sxz (n0 := 25) (fuel := 100) (f := F.kern_Kernel_Task) (xs := [.s (.s (.ptr (some (1, 0)))), .s (.s (.int .i64 1))]) (St := (S0x (.y .u64 ⟨0, [(.v 0, 1)]⟩))) (es := (S0x (.y .u64 ⟨0, [(.v 0, 1)]⟩))) (keep := [1]) (s := []) (v2 := .tup [.agg [.s (.int .i64 1), .s (.int .i64 5), .s (.int .i64 5), .s (.int .i64 0), .s (.int .i64 0), .s (.int .i64 0), .s (.int .i64 0), .s (.int .i64 0)], .agg [.s (.int .i64 0), .s (.int .i64 0), .s (.int .i64 0)], .s (.s (.int .i64 0))]) (facts := [bFact 0 1 100]) (by kernel_rfl) (by kernel_rfl) (ρ := vals [t0]) (.cons (bFact_ok h0.1 h0.2) FactsOk.nil) hπ
  have e0 : (SI.mk 0 [(.v 0, 1)]).ev (vals [t0]) = t0 := by
    show 0 + ((1 * t0 + 0)) = _
    omega
  refine h.re ?_ ?_ ?_
  · rfl
  · rw [S0_ev, e0]
  · rintro v L ⟨π', k, k0, rfl, rfl⟩
    exact ⟨π', k 1 (by decide), k0, rfl, by rw [S0_ev, e0]⟩
set_option maxRecDepth 100000 in
theorem gSemS_c {t0 : Int} (h0 : 1 ≤ t0 ∧ t0 ≤ 100) {π : Nat → Nat} (hπ : π 0 = 0) : Tri tab noExt F.kern_Kernel_Sem [.s (.ptr (some (π 1, 0))), .s (.int .i64 1)] [GZ, ImgB π (S0 t0)] fun v P' => ∃ π' : Nat → Nat, π' 1 = π 1 ∧ π' 0 = 0 ∧ v = .tup [.s (.int .i64 1), .s (.slice none 0 0 1), .s (.int .i64 0)] ∧ P' = [GZ, ImgB π' (S0 t0)] := by
  have h := sxz (n0 := 25) (fuel := 100) (f := F.kern_Kernel_Sem) (xs := [.s (.s (.ptr (some (1, 0)))), .s (.s (.int .i64 1))]) (St := (S0x (.y .u64 ⟨0, [(.v 0, 1)]⟩))) (es := (S0x (.y .u64 ⟨0, [(.v 0, 1)]⟩))) (keep := [1]) (s := []) (v2 := .tup [.s (.s (.int .i64 1)), .s (.s (.slice none 0 0 1)), .s (.s (.int .i64 0))]) (facts := [bFact 0 1 100]) (by kernel_rfl) (by kernel_rfl) (ρ := vals [t0]) (.cons (bFact_ok h0.1 h0.2) FactsOk.nil) hπ
  have e0 : (SI.mk 0 [(.v 0, 1)]).ev (vals [t0]) = t0 := by
    show 0 + ((1 * t0 + 0)) = _
    omega
  refine h.re ?_ ?_ ?_
  · rfl
  · rw [S0_ev, e0]
  · rintro v L ⟨π', k, k0, rfl, rfl⟩
    exact ⟨π', k 1 (by decide), k0, rfl, by rw [S0_ev, e0]⟩
set_option maxRecDepth 100000 in
theorem gPoolS_c {t0 : Int} (h0 : 1 ≤ t0 ∧ t0 ≤ 100) {π : Nat → Nat} (hπ : π 0 = 0) : Tri tab noExt F.kern_Kernel_Pool [.s (.ptr (some (π 1, 0))), .s (.int .i64 1)] [GZ, ImgB π (S0 t0)] fun v P' => ∃ π' : Nat → Nat, π' 1 = π 1 ∧ π' 0 = 0 ∧ v = .tup [.s (.int .i64 1), .s (.slice none 0 0 1), .s (.int .i64 0)] ∧ P' = [GZ, ImgB π' (S0 t0)] := by
  have h := sxz (n0 := 25) (fuel := 100) (f := F.kern_Kernel_Pool) (xs := [.s (.s (.ptr (some (1, 0)))), .s (.s (.int .i64 1))]) (St := (S0x (.y .u64 ⟨0, [(.v 0, 1)]⟩))) (es := (S0x (.y .u64 ⟨0, [(.v 0, 1)]⟩))) (keep := [1]) (s := []) (v2 := .tup [.s (.s (.int .i64 1)), .s (.s (.slice none 0 0 1)), .s (.s (.int .i64 0))]) (facts := [bFact 0 1 100]) (by kernel_rfl) (by kernel_rfl) (ρ := vals [t0]) (.cons (bFact_ok h0.1 h0.2) FactsOk.nil) hπ
  have e0 : (SI.mk 0 [(.v 0, 1)]).ev (vals [t0]) = t0 := by
    show 0 + ((1 * t0 + 0)) = _
    omega
  refine h.re ?_ ?_ ?_
  · rfl
  · rw [S0_ev, e0]
  · rintro v L ⟨π', k, k0, rfl, rfl⟩
    exact ⟨π', k 1 (by decide), k0, rfl, by rw [S0_ev, e0]⟩
set_option maxRecDepth 100000 in
theorem gMtxS_c {t0 : Int} (h0 : 1 ≤ t0 ∧ t0 ≤ 100) {π : Nat → Nat} (hπ : π 0 = 0) : Tri tab noExt F.kern_Kernel_Mtx [.s (.ptr (some (π 1, 0))), .s (.int .i64 1)] [GZ, ImgB π (S0 t0)] fun v P' => ∃ π' : Nat → Nat, π' 1 = π 1 ∧ π' 0 = 0 ∧ v = .tup [.s (.int .i64 0), .s (.slice none 0 0 1), .s (.int .i64 0)] ∧ P' = [GZ, ImgB π' (S0 t0)] := by
  have h := sxz (n0 := 25) (fuel := 100) (f := F.kern_Kernel_Mtx) (xs := [.s (.s (.ptr (some (1, 0)))), .s (.s (.int .i64 1))]) (St := (S0x (.y .u64 ⟨0, [(.v 0, 1)]⟩))) (es := (S0x (.y .u64 ⟨0, [(.v 0, 1)]⟩))) (keep := [1]) (s := []) (v2 := .tup [.s (.s (.int .i64 0)), .s (.s (.slice none 0 0 1)), .s (.s (.int .i64 0))]) (facts := [bFact 0 1 100]) (by kernel_rfl) (by kernel_rfl) (ρ := vals [t0]) (.cons (bFact_ok h0.1 h0.2) FactsOk.nil) hπ
  have e0 : (SI.mk 0 [(.v 0, 1)]).ev (vals [t0]) = t0 := by
    show 0 + ((1 * t0 + 0)) = _
    omega
  refine h.re ?_ ?_ ?_
  · rfl
  · rw [S0_ev, e0]
  · rintro v L ⟨π', k, k0, rfl, rfl⟩
    exact ⟨π', k 1 (by decide), k0, rfl, by rw [S0_ev, e0]⟩
set_option maxRecDepth 100000 in
theorem gRunningS_c {t0 : Int} (h0 : 1 ≤ t0 ∧ t0 ≤ 100) {π : Nat → Nat} (hπ : π 0 = 0) : Tri tab noExt F.kern_Kernel_Running [.s (.ptr (some (π 1, 0)))] [GZ, ImgB π (S0 t0)] fun v P' => ∃ π' : Nat → Nat, π' 1 = π 1 ∧ π' 0 = 0 ∧ v = .s (.int .i64 1) ∧ P' = [GZ, ImgB π' (S0 t0)] := by
  have h := sxz (n0 := 25) (fuel := 100) (f := F.kern_Kernel_Running) (xs := [.s (.s (.ptr (some (1, 0))))]) (St := (S0x (.y .u64 ⟨0, [(.v 0, 1)]⟩))) (es := (S0x (.y .u64 ⟨0, [(.v 0, 1)]⟩))) (keep := [1]) (s := []) (v2 := .s (.s (.int .i64 1))) (facts := [bFact 0 1 100]) (by kernel_rfl) (by kernel_rfl) (ρ := vals [t0]) (.cons (bFact_ok h0.1 h0.2) FactsOk.nil) hπ
  have e0 : (SI.mk 0 [(.v 0, 1)]).ev (vals [t0]) = t0 := by
    show 0 + ((1 * t0 + 0)) = _
    omega
  refine h.re ?_ ?_ ?_
  · rfl
  · rw [S0_ev, e0]
  · rintro v L ⟨π', k, k0, rfl, rfl⟩
    exact ⟨π', k 1 (by decide), k0, rfl, by rw [S0_ev, e0]⟩
set_option maxRecDepth 100000 in
theorem gstateS_c {t0 : Int} (h0 : 1 ≤ t0 ∧ t0 ≤ 100) {π : Nat → Nat} (hπ : π 0 = 0) : Tri tab noExt F.detenttop_state [.s (.ptr (some (π 1, 0))), .s (.int .i64 2)] [GZ, ImgB π (S0 t0)] fun v P' => ∃ π' : Nat → Nat, π' 1 = π 1 ∧ π' 0 = 0 ∧ v = .s (.int .i64 16) ∧ P' = [GZ, ImgB π' (S0 t0)] := by
  have h := sxz (n0 := 25) (fuel := 100) (f := F.detenttop_state) (xs := [.s (.s (.ptr (some (1, 0)))), .s (.s (.int .i64 2))]) (St := (S0x (.y .u64 ⟨0, [(.v 0, 1)]⟩))) (es := (S0x (.y .u64 ⟨0, [(.v 0, 1)]⟩))) (keep := [1]) (s := []) (v2 := .s (.s (.int .i64 16))) (facts := [bFact 0 1 100]) (by kernel_rfl) (by kernel_rfl) (ρ := vals [t0]) (.cons (bFact_ok h0.1 h0.2) FactsOk.nil) hπ
  have e0 : (SI.mk 0 [(.v 0, 1)]).ev (vals [t0]) = t0 := by
    show 0 + ((1 * t0 + 0)) = _
    omega
  refine h.re ?_ ?_ ?_
  · rfl
  · rw [S0_ev, e0]
  · rintro v L ⟨π', k, k0, rfl, rfl⟩
    exact ⟨π', k 1 (by decide), k0, rfl, by rw [S0_ev, e0]⟩
noncomputable def P1x (n0 : XV) : XL := [(1, .cells false [n0])]
def P1 (t0 : Int) : BL := [(1, .cells false [.int .i64 t0])]
theorem P1_ev (ρ : Nat → Int) (n0 : SI) : evL ρ (P1x (.y .i64 n0)) = P1 (n0.ev ρ) := rfl
noncomputable def Pqx : XL := [(1, .cells false [.s (.int .i64 1), .s (.int .i64 0)])]
def Pq : BL := [(1, .cells false [.int .i64 1, .int .i64 0])]
theorem Pq_ev (ρ : Nat → Int) : evL ρ (Pqx) = Pq := rfl
set_option maxRecDepth 100000 in
theorem make1_c {t0 : Int} (h0 : 0 ≤ t0 ∧ t0 ≤ 100) {t1 : Int} (h1 : 0 ≤ t1 ∧ t1 ≤ 100) {π : Nat → Nat} (hπ : π 0 = 0) : Tri tab noExt F.calls_Make [.s (.int .i64 t1), .s (.slice (some (π 1, 0)) 1 1 1)] [GZ, ImgB π (P1 t0)] fun v P' => ∃ π' : Nat → Nat, π' 0 = 0 ∧ v = .agg [.int .i64 t1, .int .i64 t0, .int .i64 0, .int .i64 0, .int .i64 0] ∧ P' = [GZ, ImgB π' ([])] := by
  have h := sxz (n0 := 2) (fuel := 100) (f := F.calls_Make) (xs := [.s (.y .i64 ⟨0, [(.v 1, 1)]⟩), .s (.s (.slice (some (1, 0)) 1 1 1))]) (St := (P1x (.y .i64 ⟨0, [(.v 0, 1)]⟩))) (es := []) (keep := []) (s := []) (v2 := .agg [.y .i64 ⟨0, [(.v 1, 1)]⟩, .y .i64 ⟨0, [(.v 0, 1)]⟩, .s (.int .i64 0), .s (.int .i64 0), .s (.int .i64 0)]) (facts := [bFact 0 0 100, bFact 1 0 100]) (by kernel_rfl) (by kernel_rfl) (ρ := vals [t0, t1]) (.cons (bFact_ok h0.1 h0.2) (.cons (bFact_ok h1.1 h1.2) FactsOk.nil)) hπ
  have e0 : (SI.mk 0 [(.v 0, 1)]).ev (vals [t0, t1]) = t0 := by
    show 0 + ((1 * t0 + 0)) = _
    omega
  have e1 : (SI.mk 0 [(.v 1, 1)]).ev (vals [t0, t1]) = t1 := by
    show 0 + ((1 * t1 + 0)) = _
    omega
  refine h.re ?_ ?_ ?_
  · show ([.s (.int .i64 ((SI.mk 0 [(.v 1, 1)]).ev (vals [t0, t1]))), .s (.slice (some (π 1, 0)) 1 1 1)] : List AV) = _
    rw [e1]
  · rw [P1_ev, e0]
  · rintro v L ⟨π', k, k0, rfl, rfl⟩
    exact ⟨π', k0, by
      show (.agg [.int .i64 ((SI.mk 0 [(.v 1, 1)]).ev (vals [t0, t1])), .int .i64 ((SI.mk 0 [(.v 0, 1)]).ev (vals [t0, t1])), .int .i64 0, .int .i64 0, .int .i64 0] : AV) = _
      rw [e1, e0], rfl⟩
set_option maxRecDepth 100000 in
theorem make0_c {π : Nat → Nat} (hπ : π 0 = 0) : Tri tab noExt F.calls_Make [.s (.int .i64 4), .s (.slice none 0 0 1)] [GZ, ImgB π ([])] fun v P' => ∃ π' : Nat → Nat, π' 0 = 0 ∧ v = .agg [.int .i64 4, .int .i64 0, .int .i64 0, .int .i64 0, .int .i64 0] ∧ P' = [GZ, ImgB π' ([])] := by
  have h := sxz (n0 := 1) (fuel := 100) (f := F.calls_Make) (xs := [.s (.s (.int .i64 4)), .s (.s (.slice none 0 0 1))]) (St := []) (es := []) (keep := []) (s := []) (v2 := .agg [.s (.int .i64 4), .s (.int .i64 0), .s (.int .i64 0), .s (.int .i64 0), .s (.int .i64 0)]) (facts := []) (by kernel_rfl) (by kernel_rfl) (ρ := vals []) FactsOk.nil hπ
  refine h.re ?_ ?_ ?_
  · rfl
  · rfl
  · rintro v L ⟨π', k, k0, rfl, rfl⟩
    exact ⟨π', k0, rfl, rfl⟩
set_option maxRecDepth 100000 in
theorem make2_c {π : Nat → Nat} (hπ : π 0 = 0) : Tri tab noExt F.calls_Make [.s (.int .i64 50), .s (.slice (some (π 1, 0)) 2 2 1)] [GZ, ImgB π Pq] fun v P' => ∃ π' : Nat → Nat, π' 0 = 0 ∧ v = .agg [.int .i64 50, .int .i64 1, .int .i64 0, .int .i64 0, .int .i64 0] ∧ P' = [GZ, ImgB π' ([])] := by
  have h := sxz (n0 := 2) (fuel := 100) (f := F.calls_Make) (xs := [.s (.s (.int .i64 50)), .s (.s (.slice (some (1, 0)) 2 2 1))]) (St := Pqx) (es := []) (keep := []) (s := []) (v2 := .agg [.s (.int .i64 50), .s (.int .i64 1), .s (.int .i64 0), .s (.int .i64 0), .s (.int .i64 0)]) (facts := []) (by kernel_rfl) (by kernel_rfl) (ρ := vals []) FactsOk.nil hπ
  refine h.re ?_ ?_ ?_
  · rfl
  · rw [Pq_ev]
  · rintro v L ⟨π', k, k0, rfl, rfl⟩
    exact ⟨π', k0, rfl, rfl⟩
set_option maxRecDepth 100000 in
theorem any_c {π : Nat → Nat} (hπ : π 0 = 0) : Tri tab noExt F.tcb_Counts_Any [.agg [.int .i64 0, .int .i64 0, .int .i64 0]] [GZ, ImgB π ([])] fun v P' => ∃ π' : Nat → Nat, π' 0 = 0 ∧ v = .s (.bool false) ∧ P' = [GZ, ImgB π' ([])] := by
  have h := sxz (n0 := 1) (fuel := 100) (f := F.tcb_Counts_Any) (xs := [.agg [.s (.int .i64 0), .s (.int .i64 0), .s (.int .i64 0)]]) (St := []) (es := []) (keep := []) (s := []) (v2 := .s (.s (.bool false))) (facts := []) (by kernel_rfl) (by kernel_rfl) (ρ := vals []) FactsOk.nil hπ
  refine h.re ?_ ?_ ?_
  · rfl
  · rfl
  · rintro v L ⟨π', k, k0, rfl, rfl⟩
    exact ⟨π', k0, rfl, rfl⟩
theorem now_all : (List.range 30).all (fun n => startOk 1 25 GXz (S0x (.s (.int .u64 n))) [1] [.s (.s (.ptr (some (1, 0))))] && (trL (GXz ++ S0x (.s (.int .u64 n)))).isSome && nodupN ((S0x (.s (.int .u64 n))).map (·.1)) && runX tab 100 F.kern_Kernel_Now [.s (.s (.ptr (some (1, 0))))] ⟨heapX GXz (S0x (.s (.int .u64 n))), 25, [], 0, 0⟩ (isoK 1 [1] (S0x (.s (.int .u64 n))) [] (.s (.s (.int .u64 n))))) = true := by kernel_rfl
theorem gNowS_c {n : Nat} (hn : n < 30) {π : Nat → Nat} (hπ : π 0 = 0) : Tri tab noExt F.kern_Kernel_Now [.s (.ptr (some (π 1, 0)))] [GZ, ImgB π (S0 n)] fun v P' => ∃ π' : Nat → Nat, π' 1 = π 1 ∧ π' 0 = 0 ∧ v = .s (.int .u64 n) ∧ P' = [GZ, ImgB π' (S0 n)] := by
  have h0 := List.all_eq_true.1 now_all n (List.mem_range.2 hn)
  rw [Bool.and_eq_true] at h0
  have h := sxz (ρ := vals []) h0.1 h0.2 FactsOk.nil hπ
  rw [S0_evc] at h
  refine h.re rfl rfl ?_
  rintro v L ⟨π', k, k0, rfl, rfl⟩
  exact ⟨π', k 1 (by decide), k0, rfl, rfl⟩
end Go.AM

/-
  TopRounds: the walk.
-/
namespace Go.AM
set_option maxHeartbeats 8000000
attribute [local irreducible] sq bk lpK mdx rt TC RP WK Cel Ro Row Fre RowsA RowsBut
def pb4 (a b c d : Nat) (n : Nat) : Nat := if n = 0 then 0 else if n = 1 then a else if n = 2 then b else if n = 3 then c else d
theorem WK.wn {n : Nat} {w : Watch} {ws : List Watch} {E0 E : Env} {L : List Asr} {os : List ROper} {K : Env → List Asr → Prop} (h : wOk E0 L w) (hg : ∀ p, w.guard = some p → (look E0 p.1).isSome = true) (k : WK tab noExt n ws E0 E L os K) : WK tab noExt n (w :: ws) E0 E L os K := by
  unfold WK
  exact ⟨⟨h, hg⟩, k⟩
structure TgQ where
  i : Nat
  k : Nat → Nat
structure TgR where
  j : Nat
  k : Nat → Nat
theorem CfA_eq : CfA = [(1, .cells false [.int .i64 5, .bool true, .int .i64 3, .bool true])] := rfl
def encC (c : Int × Int × Int) : List SV := [.int .i64 c.1, .int .i64 c.2.1, .int .i64 c.2.2, .int .i64 0, .int .i64 0]
def cl7 : List (Int × Int × Int) := [(25, 1, 0), (43, 1, 0), (1, 2, 0), (46, 1, 0), (4, 0, 0), (23, 1, 0), (50, 1, 0)]
noncomputable def SA : Nat → BL
  | 0 => A0 | 1 => A1 | 2 => A2 | 3 => A3 | 4 => A4 | 5 => A5 | 6 => A6 | 7 => A7 | _ => A8
noncomputable def SS (t : Int) : Nat → BL
  | 0 => S0 t | 1 => S1 t | 2 => S2 t | 3 => S3 t | 4 => S4 t | 5 => S5 t | 6 => S6 t | 7 => S7 t | _ => S8 t
noncomputable def ST (i j : Nat) : BL := if i = 0 then SA j else SS i j
theorem ST_0 (j : Nat) : ST 0 j = SA j := if_pos rfl
theorem ST_s {i : Nat} (h : i ≠ 0) (j : Nat) : ST i j = SS i j := if_neg h
attribute [local irreducible] A0 A1 A2 A3 A4 A5 A6 A7 A8 S0 S1 S2 S3 S4 S5 S6 S7 S8 CfA
section
variable {π : Nat → Nat} {i : Nat}
abbrev TgP (f : Nat) (args : List AV) (π : Nat → Nat) (S : BL) (w : AV) (S' : BL) : Prop := Tri tab noExt f args [GZ, ImgB π S] fun v P' => ∃ π' : Nat → Nat, π' 1 = π 1 ∧ π' 0 = 0 ∧ v = w ∧ P' = [GZ, ImgB π' S']
theorem doA (hπ : π 0 = 0) : ∀ {j : Nat} {c : Int × Int × Int}, ((47, 1, 0) :: cl7)[j]? = some c → TgP F.kern_Kernel_Do [.s (.ptr (some (π 1, 0))), .agg (encC c)] π (SA j) (.agg [.int .i64 0, .int .i64 0]) (SA (j + 1))
  | 0, _, h => by cases h; exact doA0_c hπ
  | 1, _, h => by cases h; exact doA1_c hπ
  | 2, _, h => by cases h; exact doA2_c hπ
  | 3, _, h => by cases h; exact doA3_c hπ
  | 4, _, h => by cases h; exact doA4_c hπ
  | 5, _, h => by cases h; exact doA5_c hπ
  | 6, _, h => by cases h; exact doA6_c hπ
  | 7, _, h => by cases h; exact doA7_c hπ
  | _ + 8, _, h => by cases h
theorem doS {t : Int} (ht : 1 ≤ t ∧ t ≤ 100) (hπ : π 0 = 0) : ∀ {j : Nat} {c : Int × Int × Int}, ((47, 1, 0) :: cl7)[j]? = some c → TgP F.kern_Kernel_Do [.s (.ptr (some (π 1, 0))), .agg (encC c)] π (SS t j) (.agg [.int .i64 0, .int .i64 0]) (SS t (j + 1))
  | 0, _, h => by cases h; exact doS0_c ht hπ
  | 1, _, h => by cases h; exact doS1_c ht hπ
  | 2, _, h => by cases h; exact doS2_c ht hπ
  | 3, _, h => by cases h; exact doS3_c ht hπ
  | 4, _, h => by cases h; exact doS4_c ht hπ
  | 5, _, h => by cases h; exact doS5_c ht hπ
  | 6, _, h => by cases h; exact doS6_c ht hπ
  | 7, _, h => by cases h; exact doS7_c ht hπ
  | _ + 8, _, h => by cases h
theorem doT (hi : i ≤ 100) (hπ : π 0 = 0) {j : Nat} {c : Int × Int × Int} (h : ((47, 1, 0) :: cl7)[j]? = some c) : TgP F.kern_Kernel_Do [.s (.ptr (some (π 1, 0))), .agg (encC c)] π (ST i j) (.agg [.int .i64 0, .int .i64 0]) (ST i (j + 1)) := by
  by_cases h0 : i = 0
  · subst h0; rw [ST_0, ST_0]; exact doA hπ h
  · rw [ST_s h0, ST_s h0]; exact doS (by omega) hπ h
theorem tickT (hi : i ≤ 100) (hπ : π 0 = 0) : TgP F.kern_Kernel_Tick [.s (.ptr (some (π 1, 0)))] π (ST i 8) (.s (.slice none 0 0 3)) (ST (i + 1) 0) := by
  rw [ST_s (show i + 1 ≠ 0 by omega)]
  by_cases h0 : i = 0
  · subst h0; rw [ST_0]; exact tickA_c hπ
  · rw [ST_s h0]; exact tickS_c (by omega) hπ
theorem getT {f : Nat} {args : List AV} {w : AV} (hA : TgP f args π A0 w A0) (hS : i ≠ 0 → TgP f args π (S0 i) w (S0 i)) : TgP f args π (ST i 0) w (ST i 0) := by
  by_cases h0 : i = 0
  · subst h0; rw [ST_0]; exact hA
  · rw [ST_s h0]; exact hS h0
theorem nowT (hi : i < 30) (hπ : π 0 = 0) : TgP F.kern_Kernel_Now [.s (.ptr (some (π 1, 0)))] π (ST i 0) (.s (.int .u64 i)) (ST i 0) := by
  by_cases h0 : i = 0
  · subst h0; rw [ST_0]; exact gNowA_c hπ
  · rw [ST_s h0]; exact gNowS_c hi hπ
theorem mk1 {f a : Int} {p : Nat} (hf : 0 ≤ f ∧ f ≤ 100) (ha : 0 ≤ a ∧ a ≤ 100) : Tri tab noExt F.calls_Make [i64 f, .s (.slice (some (p, 0)) 1 1 1)] [GZ, Cel p [.int .i64 a]] fun v P' => v = .agg (encC (f, a, 0)) ∧ P' = [GZ] := by
  intro ρ H R hs
  have h1 := LEnt.img1 (π := pb p) (n := 1) (l := [.int .i64 a]) (L := [GZ]) ρ H R (hs.perm (List.Perm.swap _ _ _))
  refine (make1_c ha hf (π := pb p) rfl ρ H R (h1.perm (List.Perm.swap _ _ _))).mono ?_
  rintro v H' ⟨P', ⟨π', _, rfl, rfl⟩, hs'⟩
  exact ⟨_, ⟨rfl, rfl⟩, (hs'.perm (List.Perm.swap _ _ _)).drop⟩
theorem mk2 {p : Nat} : Tri tab noExt F.calls_Make [i64 50, .s (.slice (some (p, 0)) 2 2 1)] [GZ, Cel p [.int .i64 1, .int .i64 0]] fun v P' => v = .agg (encC (50, 1, 0)) ∧ P' = [GZ] := by
  intro ρ H R hs
  have h1 := LEnt.img1 (π := pb p) (n := 1) (l := [.int .i64 1, .int .i64 0]) (L := [GZ]) ρ H R (hs.perm (List.Perm.swap _ _ _))
  refine (make2_c (π := pb p) rfl ρ H R (h1.perm (List.Perm.swap _ _ _))).mono ?_
  rintro v H' ⟨P', ⟨π', _, rfl, rfl⟩, hs'⟩
  exact ⟨_, ⟨rfl, rfl⟩, (hs'.perm (List.Perm.swap _ _ _)).drop⟩
theorem nil0 {f : Nat} {args : List AV} {w : AV} (h : ∀ π : Nat → Nat, π 0 = 0 → Tri tab noExt f args [GZ, ImgB π []] fun v P' => ∃ π' : Nat → Nat, π' 0 = 0 ∧ v = w ∧ P' = [GZ, ImgB π' []]) : Tri tab noExt f args [GZ] fun v P' => v = w ∧ P' = [GZ] := by
  intro ρ H R hs
  refine (h id rfl ρ H R (LEnt.nilB ρ H R hs)).mono ?_
  rintro v H' ⟨P', ⟨π', _, rfl, rfl⟩, hs'⟩
  exact ⟨_, ⟨rfl, rfl⟩, (hs'.perm (List.Perm.swap _ _ _)).drop⟩
end
attribute [local irreducible] ST
theorem TopRounds_tri (n : Int) (hn : 0 ≤ n ∧ n ≤ 255) : Tri tab noExt F.detenttop_TopRounds [.s (.int .u8 n)] [GZ] fun v _ => v = bl true := by
  have hm : ∃ m : Nat, n.tmod 30 = m ∧ m < 30 := by
    rw [Int.tmod_eq_emod_of_nonneg hn.1]; exact ⟨(n % 30).toNat, by omega, by omega⟩
  obtain ⟨m, hm, hm30⟩ := hm
  have hwm : IntKind.i64.wrap (m : Int) = m := by rw [IntKind.wrap_i64]; omega
  have hum : IntKind.u64.wrap (m : Int) = m := wrap_u64 (by omega) (by omega)
  refine Tri.go tab_detenttop_TopRounds rfl ?_
  refine RUN ?_
  refine RP.ent (LEnt.nilB (π := id)) ?_
  refine RP.c rfl (known_c (π := id) rfl) (.c .h (.c .h .e)) rfl ?_
  rintro v P' ⟨π1, z1, rfl, rfl⟩
  refine RUN ?_
  refine RP.bs rfl rfl rfl fun pt => ?_
  refine RP.ent (LEnt.img1 (π := pb pt) (n := 1) (l := [.int .i64 5, .int .i64 3])) ?_
  refine RP.c rfl (tasks_c (π := pb pt) rfl) (.c (.n .h) (.c .h .e)) rfl ?_
  rintro v P' ⟨π4, z4, rfl, rfl⟩
  refine RUN ?_
  refine RP.nw rfl fun pc => ?_
  rw [CfA_eq]
  refine RP.ent (LEnt.trans (LEnt.of (.c (.n (.n .h)) (.c .h (.c .h .e)))) (LEnt.out1 (π := π4) (n := 1) (l := [.int .i64 5, .bool true, .int .i64 3, .bool true]))) ?_
  refine RUN ?_
  refine RP.bs rfl rfl rfl fun ps => ?_
  refine RUN ?_
  refine RP.bs rfl rfl rfl fun pm => ?_
  refine RUN ?_
  refine RP.bs rfl rfl rfl fun pp => ?_
  refine RUN ?_
  refine RP.ent (LEnt.trans (LEnt.of (.c (.n (.n (.n .h))) (.c (.n (.n .h)) (.c (.n .h) (.c .h (.c (.n .h) .e)))))) (LEnt.imgs (π := pb4 (π4 1) ps pm pp) (bs := [(1, [.int .i64 5, .bool true, .int .i64 3, .bool false]), (2, [.bool false, .int .i64 1, .int .i64 1]), (3, [.int .i64 3, .int .i64 1]), (4, [.bool false, .int .i64 1, .int .i64 4])]) (L := [GZ]) rfl)) ?_
  refine RP.c rfl (open_c (π := pb4 (π4 1) ps pm pp) rfl) (.c (.n .h) (.c .h .e)) rfl ?_
  rintro v P' ⟨π5, z5, rfl, rfl⟩
  refine RUN ?_
  refine RP.c rfl (gTaskA_c z5) (.c .h (.c .h .e)) rfl ?_
  rintro v P' ⟨π6, x6, z6, rfl, rfl⟩
  rw [← x6]
  refine RUN ?_
  refine RP.nw rfl fun b5 => ?_
  refine RP.nw rfl fun b6 => ?_
  refine RUN ?_
  refine TC.loop (fun a : TgQ => m - a.i) (fun a => a.i ≤ m ∧ a.k 0 = 0) (fun a => [(0, .s (.int .u8 n)), (4, .s (.ptr (some (a.k 1, 0)))), (5, .s (.ptr (some (b5, 0)))), (8, i64 a.i)])
    (fun a => [GZ, ImgB a.k (ST a.i 0), Cel b5 [.int .i64 1, .int .i64 5, .int .i64 5, .int .i64 0, .int .i64 0, .int .i64 0, .int .i64 0, .int .i64 0]]) ⟨0, π6⟩ ⟨Nat.zero_le _, z6⟩ ⟨rfl, rfl, rfl, rfl, trivial⟩ ?_ ?_
  · rw [ST_0]
    exact LEnt.of (.c (.n (.n .h)) (.c (.n (.n .h)) (.c (.n .h) .e)))
  rintro ⟨i, πk⟩ ⟨hi, zk⟩
  dsimp only at hi zk ⊢
  refine RUN ?_
  rw [hm, hwm]
  refine TC.cP rfl (fun h1 => ?_) fun h1 => ?_
  · refine RUN ?_
    refine RP.bs rfl rfl rfl fun q0 => ?_
    refine RUN ?_
    refine RP.c rfl (mk1 (f := 47) (a := 1) (p := q0) (by omega) (by omega)) (.c (.n .h) (.c .h .e)) rfl ?_
    rintro v P' ⟨rfl, rfl⟩
    refine RUN ?_
    refine RP.c rfl (doT (i := i) (j := 0) (c := (47, 1, 0)) (by omega) zk rfl) (.c .h (.c .h .e)) rfl ?_
    rintro v P' ⟨π7, x7, z7, rfl, rfl⟩
    rw [← x7]
    refine RUN ?_
    refine RP.nw rfl fun q9 => ?_
    refine RUN ?_
    refine RP.bs rfl rfl rfl fun q1 => ?_
    refine RUN ?_
    refine RP.c rfl (mk1 (f := 25) (a := 1) (p := q1) (by omega) (by omega)) (.c (by ((repeat (first | exact .h | apply In1.n)); fail_if_success refine ?_)) (.c .h .e)) rfl ?_
    rintro v P' ⟨rfl, rfl⟩
    refine WK.wn (fun g _ _ => ⟨_, _, _, rfl, rfl, .inl ⟨rfl, _, rfl, by ((repeat (first | exact Ld.c rfl | exact Ld.r rfl | exact Ld.g (by assumption) | exact Ld.w (fun _ => by rfl) (by assumption) (by rfl) | exact Ld.a (by rfl) (fun _ => by rfl) (by assumption) (by rfl) | apply Ld.n)); fail_if_success refine ?_)⟩⟩) (fun p h => by cases h) (WK.z ?_)
    refine RUN ?_
    refine RP.bs rfl rfl rfl fun q2 => ?_
    refine RUN ?_
    refine RP.c rfl (mk1 (f := 43) (a := 1) (p := q2) (by omega) (by omega)) (.c (by ((repeat (first | exact .h | apply In1.n)); fail_if_success refine ?_)) (.c .h .e)) rfl ?_
    rintro v P' ⟨rfl, rfl⟩
    refine WK.wn (fun g _ _ => ⟨_, _, _, rfl, rfl, .inl ⟨rfl, _, rfl, by ((repeat (first | exact Ld.c rfl | exact Ld.r rfl | exact Ld.g (by assumption) | exact Ld.w (fun _ => by rfl) (by assumption) (by rfl) | exact Ld.a (by rfl) (fun _ => by rfl) (by assumption) (by rfl) | apply Ld.n)); fail_if_success refine ?_)⟩⟩) (fun p h => by cases h) (WK.z ?_)
    refine RUN ?_
    refine RP.bs rfl rfl rfl fun q3 => ?_
    refine RUN ?_
    refine RP.c rfl (mk1 (f := 1) (a := 2) (p := q3) (by omega) (by omega)) (.c (by ((repeat (first | exact .h | apply In1.n)); fail_if_success refine ?_)) (.c .h .e)) rfl ?_
    rintro v P' ⟨rfl, rfl⟩
    refine WK.wn (fun g _ _ => ⟨_, _, _, rfl, rfl, .inl ⟨rfl, _, rfl, by ((repeat (first | exact Ld.c rfl | exact Ld.r rfl | exact Ld.g (by assumption) | exact Ld.w (fun _ => by rfl) (by assumption) (by rfl) | exact Ld.a (by rfl) (fun _ => by rfl) (by assumption) (by rfl) | apply Ld.n)); fail_if_success refine ?_)⟩⟩) (fun p h => by cases h) (WK.z ?_)
    refine RUN ?_
    refine RP.bs rfl rfl rfl fun q4 => ?_
    refine RUN ?_
    refine RP.c rfl (mk1 (f := 46) (a := 1) (p := q4) (by omega) (by omega)) (.c (by ((repeat (first | exact .h | apply In1.n)); fail_if_success refine ?_)) (.c .h .e)) rfl ?_
    rintro v P' ⟨rfl, rfl⟩
    refine WK.wn (fun g _ _ => ⟨_, _, _, rfl, rfl, .inl ⟨rfl, _, rfl, by ((repeat (first | exact Ld.c rfl | exact Ld.r rfl | exact Ld.g (by assumption) | exact Ld.w (fun _ => by rfl) (by assumption) (by rfl) | exact Ld.a (by rfl) (fun _ => by rfl) (by assumption) (by rfl) | apply Ld.n)); fail_if_success refine ?_)⟩⟩) (fun p h => by cases h) (WK.z ?_)
    refine RUN ?_
    refine RP.c rfl (nil0 fun π h => make0_c h) (.c (by ((repeat (first | exact .h | apply In1.n)); fail_if_success refine ?_)) .e) rfl ?_
    rintro v P' ⟨rfl, rfl⟩
    refine WK.wn (fun g _ _ => ⟨_, _, _, rfl, rfl, .inl ⟨rfl, _, rfl, by ((repeat (first | exact Ld.c rfl | exact Ld.r rfl | exact Ld.g (by assumption) | exact Ld.w (fun _ => by rfl) (by assumption) (by rfl) | exact Ld.a (by rfl) (fun _ => by rfl) (by assumption) (by rfl) | apply Ld.n)); fail_if_success refine ?_)⟩⟩) (fun p h => by cases h) (WK.z ?_)
    refine RUN ?_
    refine RP.bs rfl rfl rfl fun q5 => ?_
    refine RUN ?_
    refine RP.c rfl (mk1 (f := 23) (a := 1) (p := q5) (by omega) (by omega)) (.c (by ((repeat (first | exact .h | apply In1.n)); fail_if_success refine ?_)) (.c .h .e)) rfl ?_
    rintro v P' ⟨rfl, rfl⟩
    refine WK.wn (fun g _ _ => ⟨_, _, _, rfl, rfl, .inl ⟨rfl, _, rfl, by ((repeat (first | exact Ld.c rfl | exact Ld.r rfl | exact Ld.g (by assumption) | exact Ld.w (fun _ => by rfl) (by assumption) (by rfl) | exact Ld.a (by rfl) (fun _ => by rfl) (by assumption) (by rfl) | apply Ld.n)); fail_if_success refine ?_)⟩⟩) (fun p h => by cases h) (WK.z ?_)
    refine RUN ?_
    refine RP.bs rfl rfl rfl fun q6 => ?_
    refine RUN ?_
    refine RP.c rfl (mk2 (p := q6)) (.c (by ((repeat (first | exact .h | apply In1.n)); fail_if_success refine ?_)) (.c .h .e)) rfl ?_
    rintro v P' ⟨rfl, rfl⟩
    refine RUN ?_
    refine RP.bs rfl rfl rfl fun q8 => ?_
    refine RUN ?_
    refine TC.loop (fun a : TgR => 7 - a.j) (fun a => a.j ≤ 7 ∧ a.k 0 = 0) (fun a => [(0, .s (.int .u8 n)), (4, .s (.ptr (some (a.k 1, 0)))), (5, .s (.ptr (some (b5, 0)))), (8, i64 i), (78, .s (.slice (some (q8, 0)) 7 7 5)), (79, i64 7), (80, i64 a.j)])
      (fun a => [Row encC 5 (.slice (some (q8, 0)) 7 7 5) cl7, GZ, ImgB a.k (ST i (a.j + 1)), Cel b5 [.int .i64 1, .int .i64 5, .int .i64 5, .int .i64 0, .int .i64 0, .int .i64 0, .int .i64 0, .int .i64 0]]) ⟨0, π7⟩ ⟨Nat.zero_le _, z7⟩ ⟨rfl, rfl, rfl, rfl, rfl, rfl, rfl, trivial⟩ ?_ ?_
    · exact LEnt.trans (LEnt.of (.c .h (.c (by ((repeat (first | exact .h | apply In1.n)); fail_if_success refine ?_)) (.c (by ((repeat (first | exact .h | apply In1.n)); fail_if_success refine ?_)) (.c (by ((repeat (first | exact .h | apply In1.n)); fail_if_success refine ?_)) .e))))) (row_made (r := cl7) (c := 7) rfl (by decide) (by decide))
    rintro ⟨j, πj⟩ ⟨hj, zj⟩
    dsimp only at hj zj ⊢
    refine RUN ?_
    refine TC.cP rfl (fun h2 => ?_) fun h2 => ?_
    · obtain ⟨c, hc⟩ : ∃ c, cl7[j]? = some c := ⟨cl7[j]'(by show j < 7; omega), List.getElem?_eq_getElem _⟩
      refine RUN ?_
      refine RP.nw rfl fun q11 => ?_
      refine RUN ?_
      refine RP.c rfl (doT (i := i) (j := j + 1) (c := c) (by omega) zj hc) (.c (by ((repeat (first | exact .h | apply In1.n)); fail_if_success refine ?_)) (.c (by ((repeat (first | exact .h | apply In1.n)); fail_if_success refine ?_)) .e)) rfl ?_
      rintro v P' ⟨π8, x8, z8, rfl, rfl⟩
      rw [← x8]
      refine RUN ?_
      refine RP.nw rfl fun q12 => ?_
      refine RUN ?_
      refine lp_n (⟨j + 1, π8⟩ : TgR) ⟨by dsimp only; omega, z8⟩ (by dsimp only; omega) ⟨rfl, rfl, rfl, rfl, rfl, rfl, rfl, trivial⟩ ?_
      exact LEnt.of (.c (by ((repeat (first | exact .h | apply In1.n)); fail_if_success refine ?_)) (.c (by ((repeat (first | exact .h | apply In1.n)); fail_if_success refine ?_)) (.c (by ((repeat (first | exact .h | apply In1.n)); fail_if_success refine ?_)) (.c (by ((repeat (first | exact .h | apply In1.n)); fail_if_success refine ?_)) .e))))
    · obtain rfl : j = 7 := by omega
      refine RUN ?_
      refine RP.c rfl (tickT (i := i) (by omega) zj) (.c (by ((repeat (first | exact .h | apply In1.n)); fail_if_success refine ?_)) (.c (by ((repeat (first | exact .h | apply In1.n)); fail_if_success refine ?_)) .e)) rfl ?_
      rintro v P' ⟨π9, x9, z9, rfl, rfl⟩
      rw [← x9]
      refine RUN ?_
      refine lp_n (⟨i + 1, π9⟩ : TgQ) ⟨by dsimp only; omega, z9⟩ (by dsimp only; omega) ⟨rfl, rfl, rfl, rfl, trivial⟩ ?_
      exact LEnt.of (.c (by ((repeat (first | exact .h | apply In1.n)); fail_if_success refine ?_)) (.c (by ((repeat (first | exact .h | apply In1.n)); fail_if_success refine ?_)) (.c (by ((repeat (first | exact .h | apply In1.n)); fail_if_success refine ?_)) .e)))
  · obtain rfl : i = m := by omega
    refine RUN ?_
    refine RP.c rfl (getT (i := i) (gTaskA_c zk) fun h0 => gTaskS_c (by omega) zk) (.c (by ((repeat (first | exact .h | apply In1.n)); fail_if_success refine ?_)) (.c (by ((repeat (first | exact .h | apply In1.n)); fail_if_success refine ?_)) .e)) rfl ?_
    rintro v P' ⟨π10, x10, z10, rfl, rfl⟩
    rw [← x10]
    refine RUN ?_
    refine RP.nw rfl fun b7 => ?_
    refine RP.nw rfl fun b8 => ?_
    refine RUN ?_
    refine RP.c rfl (getT (i := i) (gSemA_c z10) fun h0 => gSemS_c (by omega) z10) (.c (by ((repeat (first | exact .h | apply In1.n)); fail_if_success refine ?_)) (.c (by ((repeat (first | exact .h | apply In1.n)); fail_if_success refine ?_)) .e)) rfl ?_
    rintro v P' ⟨π11, x11, z11, rfl, rfl⟩
    rw [← x11]
    refine RUN ?_
    refine RP.c rfl (getT (i := i) (gPoolA_c z11) fun h0 => gPoolS_c (by omega) z11) (.c (by ((repeat (first | exact .h | apply In1.n)); fail_if_success refine ?_)) (.c (by ((repeat (first | exact .h | apply In1.n)); fail_if_success refine ?_)) .e)) rfl ?_
    rintro v P' ⟨π12, x12, z12, rfl, rfl⟩
    rw [← x12]
    refine RUN ?_
    refine RP.c rfl (getT (i := i) (gMtxA_c z12) fun h0 => gMtxS_c (by omega) z12) (.c (by ((repeat (first | exact .h | apply In1.n)); fail_if_success refine ?_)) (.c (by ((repeat (first | exact .h | apply In1.n)); fail_if_success refine ?_)) .e)) rfl ?_
    rintro v P' ⟨π13, x13, z13, rfl, rfl⟩
    rw [← x13]
    refine RUN ?_
    refine RP.c rfl (nil0 fun π h => any_c h) (.c (by ((repeat (first | exact .h | apply In1.n)); fail_if_success refine ?_)) .e) rfl ?_
    rintro v P' ⟨rfl, rfl⟩
    refine RUN ?_
    refine RP.c rfl (getT (i := i) (gRunningA_c z13) fun h0 => gRunningS_c (by omega) z13) (.c (by ((repeat (first | exact .h | apply In1.n)); fail_if_success refine ?_)) (.c (by ((repeat (first | exact .h | apply In1.n)); fail_if_success refine ?_)) .e)) rfl ?_
    rintro v P' ⟨π14, x14, z14, rfl, rfl⟩
    rw [← x14]
    refine RUN ?_
    refine RP.c rfl (getT (i := i) (gstateA_c z14) fun h0 => gstateS_c (by omega) z14) (.c (by ((repeat (first | exact .h | apply In1.n)); fail_if_success refine ?_)) (.c (by ((repeat (first | exact .h | apply In1.n)); fail_if_success refine ?_)) .e)) rfl ?_
    rintro v P' ⟨π15, x15, z15, rfl, rfl⟩
    rw [← x15]
    refine RUN ?_
    refine RP.c rfl (nowT hm30 z15) (.c (by ((repeat (first | exact .h | apply In1.n)); fail_if_success refine ?_)) (.c (by ((repeat (first | exact .h | apply In1.n)); fail_if_success refine ?_)) .e)) rfl ?_
    rintro v P' ⟨π16, x16, z16, rfl, rfl⟩
    refine RUN ?_
    rw [hm, hum, decide_eq_true (rfl : (i : Int) = i)]
    exact rt_r rfl rfl (LEnt.of .e)
end Go.AM

/-
  TopRounds in the abstract machine.
-/
namespace Go.AM
theorem glz {H : AH} (h0 : H.blk 0 = some (.cells true tzL)) : ∀ e ∈ gOf GXz, H.blk e.1 = some (.cells true e.2) := by
  intro e he
  obtain rfl : e = (0, tzL) := by
    have : gOf GXz = [(0, tzL)] := by kernel_rfl
    rw [this] at he
    simpa using he
  exact h0
theorem TopRounds_abs (H : AH) (hw : WF H) (_hn : H.next = 1) (h0 : H.blk 0 = some (.cells true tzL)) (avs : List AV) (ha : ArgsAt H.blk [.int .u8] avs) : CallP tab noExt F.detenttop_TopRounds avs H fun v _ => v = bl true := by
  obtain ⟨a, vs, rfl, ha1, ha⟩ := ha.int'
  obtain rfl := ha.nil'
  have h1 := lit_bounds ha1
  exact (TopRounds_tri a h1).use (ρ := H.blk) (R := []) (Sat.mkGlb (glz h0) (Sat.nil hw fun _ _ h => h)) fun v H' P' h _ => h
end Go.AM
