/-
  THE SYMBOLIC MACHINE IS SOUND: where its run says true, the abstract machine's run ends where it says.
-/
import Derived.Test.YtineacililniiaaGreatDoorSxC
namespace Go.AM

section
variable {tab : Nat → Option RFunc} {ext : Nat → List AV → AH → Option (AV × AH)} {ρ : Nat → Int} {st : XS} {H : AH}

/-- What a call of the symbolic machine stands for. -/
def CallX (tab : Nat → Option RFunc) (ext : Nat → List AV → AH → Option (AV × AH)) (ρ : Nat → Int) (callX : Nat → List XAV → XS → XK → Bool) : Prop :=
  ∀ (f : Nat) (args : List XAV) (st : XS) (H : AH) (k : XK) (K : AV → AH → Prop), callX f args st k = true → XRel ρ st H → (∀ xv st' H', k xv st' = true → XRel ρ st' H' → K (xv.ev ρ) H') → CallP tab ext f (args.map (XAV.ev ρ)) H K

theorem evs_map (R : Opd → XAV) : ∀ l, evs R l = l.map R
  | [] => rfl
  | x :: l => by rw [evs, evs_map R l]; rfl
theorem evPs_map (R : Opd → XAV) : ∀ l, evPs R l = l.map fun p => (p.1, p.2.1, R p.2.2)
  | [] => rfl
  | x :: l => by rw [evPs, evPs_map R l]; rfl
theorem evO_map (R : Opd → XAV) : ∀ l, evO R l = l.map R
  | none => rfl
  | some _ => rfl
theorem ptrs_map : ∀ l : List (Nat × Nat), (ptrs l).map (XAV.ev ρ) = l.map fun a => AV.s (.ptr (some a))
  | [] => rfl
  | a :: l => by rw [ptrs, List.map_cons, ptrs_map l]; rfl

theorem concAll_ev : ∀ {l : List XAV} {r : List AV}, concAll l = some r → l.map (XAV.ev ρ) = r
  | [], r, h => by simp only [concAll, Option.some.injEq] at h; subst h; rfl
  | x :: l, r, h => by
    simp only [concAll] at h
    split at h
    · rename_i a r' ha hr
      cases h
      rw [List.map_cons, conc_ev ha, concAll_ev hr]
    · cases h

theorem inB_iff {n : Int} {len : Nat} (h : inB n len = true) : 0 ≤ n ∧ n < (len : Int) := by
  unfold inB at h
  split at h
  · have : Nat.blt _ len = true := h
    simp only [Nat.blt, Nat.ble_eq] at this
    simp only [Int.ofNat_eq_natCast]
    omega
  · cases h

theorem oNew_ok (hR : XRel ρ st H) {l : List XV} {id : Nat} {v : AV} {k : XK} (h : oNew l id v st k = true) {K : AV → AH → Prop} (hK : ∀ xv st' H', k xv st' = true → XRel ρ st' H' → K (xv.ev ρ) H') : andThen (H.new id (.cells false (l.map (XV.ev ρ)))) fun H => K v H := by
  obtain ⟨H', st', h1, h2, h3⟩ := newX_ok hR h
  have := hK _ _ _ h3 h2
  rw [of_ev] at this
  exact ⟨H', h1, this⟩

theorem PureX.out {o : Option AV} {k : XK} (h : PureX ρ H o k) {K : AV → AH → Prop} (hK : ∀ xv st' H', k xv st' = true → XRel ρ st' H' → K (xv.ev ρ) H') : andThen o fun v => K v H := by
  obtain ⟨v, xv, st', h1, h2, h3, h4⟩ := h
  exact ⟨v, h1, h2 ▸ hK _ _ _ h4 h3⟩

theorem EffX.out {o : Option (AV × AH)} {k : XK} (h : EffX ρ o k) {K : AV → AH → Prop} (hK : ∀ xv st' H', k xv st' = true → XRel ρ st' H' → K (xv.ev ρ) H') : andThen o fun r => K r.1 r.2 := by
  obtain ⟨v, H', xv, st', h1, h2, h3, h4⟩ := h
  exact ⟨(v, H'), h1, h2 ▸ hK _ _ _ h4 h3⟩

theorem oConc_ok (hR : XRel ρ st H) {f : AV → Option AV} {x : XAV} {k : XK} (h : oConc f x st k = true) : PureX ρ H (f (x.ev ρ)) k := by
  unfold oConc at h
  split at h
  · rename_i a ha
    obtain ⟨v, xv, h1, h2, h3⟩ := kOpt_ok (ρ := ρ) h
    rw [conc_ev ha]
    exact ⟨v, xv, st, h1, h2, hR, h3⟩
  · cases h

theorem opX_ok {callX : Nat → List XAV → XS → XK → Bool} (hc : CallX tab ext ρ callX) (hR : XRel ρ st H) {R : Opd → XAV} {E : Opd → AV} (hE : ∀ x, E x = (R x).ev ρ) {id : Nat} {o : ROp} {k : XK} (h : opX callX R id st k o = true) {K : AV → AH → Prop} (hK : ∀ xv st' H', k xv st' = true → XRel ρ st' H' → K (xv.ev ρ) H') : wpO tab ext E id H o K := by
  have hEl : ∀ l : List Opd, l.map E = (evs R l).map (XAV.ev ρ) := fun l => by
    rw [evs_map, List.map_map]; exact List.map_congr_left fun x _ => hE x
  have hEp : ∀ l : List (Nat × Nat × Opd), (l.map fun p => (p.1, p.2.1, E p.2.2)) = (evPs R l).map fun p => (p.1, p.2.1, p.2.2.ev ρ) := fun l => by
    rw [evPs_map, List.map_map]; exact List.map_congr_left fun x _ => by simp only [Function.comp, hE]
  have hEo : ∀ l : Option Opd, l.map E = (evO R l).map (XAV.ev ρ) := fun l => by
    cases l with
    | none => rfl
    | some x => simp only [evO, Option.map_some, hE]
  cases o with
  | move x =>
    obtain ⟨xv, h1, h2⟩ := forceV_ok (ρ := ρ) (show forceV (R x) k st = true from h)
    simp only [wpO, hE, ← h1]
    exact hK _ _ _ h2 hR
  | pick c a b =>
    have h : oPick (R c) (R a) (R b) st k = true := h
    simp only [wpO, pureA, hE]
    unfold oPick at h
    split at h
    · rename_i t ht
      rw [ht]
      cases t with
      | true =>
        obtain ⟨xv, h1, h2⟩ := forceV_ok (ρ := ρ) h
        exact ⟨_, rfl, h1 ▸ hK _ _ _ h2 hR⟩
      | false =>
        obtain ⟨xv, h1, h2⟩ := forceV_ok (ρ := ρ) h
        exact ⟨_, rfl, h1 ▸ hK _ _ _ h2 hR⟩
    · cases h
  | nilCheck x =>
    simp only [wpO, pureA, hE]
    exact (oConc_ok hR h).out hK
  | newc l =>
    have := oNew_ok hR h hK
    rw [ofs_ev] at this
    exact this
  | box x =>
    have h : oBox (R x) id st k = true := h
    simp only [wpO, hE]
    unfold oBox at h
    split at h
    · rename_i l hl
      exact ⟨_, cells_ev hl, oNew_ok hR h hK⟩
    · cases h
  | build z ps =>
    have h : oBuild z (evPs R ps) st k = true := h
    simp only [wpO, pureA, hEp]
    unfold oBuild at h
    split at h
    · rename_i l hl
      have := fillX_ev (ρ := ρ) hl
      rw [ofs_ev] at this
      refine ⟨.agg (l.map (XV.ev ρ)), ?_, hK (.agg l) _ _ h hR⟩
      unfold buildA; rw [this]; rfl
    · cases h
  | buildSlice esz len z ps =>
    have h : oBuildSl esz len z (evPs R ps) id st k = true := h
    simp only [wpO, hEp]
    unfold oBuildSl at h
    split at h
    · rename_i l hl
      have := fillX_ev (ρ := ρ) hl
      rw [ofs_ev] at this
      exact ⟨_, this, oNew_ok hR h hK⟩
    · cases h
  | load m a =>
    have h : oLoad m (R a) st k = true := h
    simp only [wpO, hE]
    unfold oLoad at h
    split at h
    · rename_i v hv
      exact ⟨_, loadX_ev hR hv, hK _ _ _ h hR⟩
    · cases h
  | store n a v =>
    have h : oStore n (R a) (R v) st k = true := h
    simp only [wpO, hE]
    unfold oStore at h
    split at h
    · rename_i p hp
      split at h
      · rename_i l hl
        simp only [Bool.and_eq_true] at h
        have hn := Nat.eq_of_beq_eq_true h.1
        obtain ⟨H', st', h1, h2, h3⟩ := stnX_ok hR h.2
        refine ⟨H', ?_, hK _ _ _ h3 h2⟩
        rw [hp]
        show storeA n (.s (.ptr (some (p.1, p.2)))) (XAV.ev ρ (R v)) H = some H'
        simp only [storeA, cells_ev hl, List.length_map]
        rw [if_pos hn]; exact h1
      · cases h
    · cases h
  | fieldAddr off x =>
    simp only [wpO, pureA, hE]
    exact (oConc_ok hR (f := fieldAddrA off) h).out hK
  | field m off x =>
    have h : oField m off (R x) st k = true := h
    simp only [wpO, pureA, hE]
    unfold oField at h
    split at h
    · rename_i l hl
      split at h
      · rename_i v hv
        rw [hl]
        exact ⟨_, partX_ev hv, hK _ _ _ h hR⟩
      · cases h
    · cases h
  | indexSl esz x i =>
    have h : oIndexSl esz (R x) (R i) st k = true := h
    simp only [wpO, pureA, hE]
    unfold oIndexSl at h
    split at h
    · rename_i p len cap e hp
      obtain ⟨kd, n, st', h1, h2, h3⟩ := withInt_ok hR h
      simp only [Bool.and_eq_true] at h3
      rw [hp, h1]
      refine ⟨_, ?_, hK (.s (.s (.ptr (some (p.1, p.2 + n.toNat * esz))))) _ _ h3.2 h2⟩
      show indexSlA esz (.s (.slice (some (p.1, p.2)) len cap e)) (.s (.int kd n)) = _
      simp only [indexSlA]
      rw [if_pos (inB_iff h3.1)]; rfl
    · cases h
  | indexArr len esz x i =>
    have h : oIndexArr len esz (R x) (R i) st k = true := h
    simp only [wpO, pureA, hE]
    unfold oIndexArr at h
    split at h
    · rename_i p hp
      obtain ⟨kd, n, st', h1, h2, h3⟩ := withInt_ok hR h
      simp only [Bool.and_eq_true] at h3
      rw [hp, h1]
      refine ⟨_, ?_, hK (.s (.s (.ptr (some (p.1, p.2 + n.toNat * esz))))) _ _ h3.2 h2⟩
      show indexArrA len esz (.s (.ptr (some (p.1, p.2)))) (.s (.int kd n)) = _
      simp only [indexArrA]
      rw [if_pos (inB_iff h3.1)]; rfl
    · cases h
  | index len esz m x i =>
    have h : oIndex len esz m (R x) (R i) st k = true := h
    simp only [wpO, pureA, hE]
    unfold oIndex at h
    split at h
    · rename_i l hl
      obtain ⟨kd, n, st', h1, h2, h3⟩ := withInt_ok hR h
      simp only [Bool.and_eq_true] at h3
      obtain ⟨h3, h4⟩ := h3
      split at h4
      · rename_i v hv
        rw [hl, h1]
        refine ⟨_, ?_, hK _ _ _ h4 h2⟩
        show indexA len esz m (.agg _) (.s (.int kd n)) = _
        simp only [indexA]
        rw [if_pos (inB_iff h3)]; exact partX_ev hv
      · cases h4
    · cases h
  | slSl esz x lo hi mx =>
    have h : oSl esz (R x) (evO R lo) (evO R hi) (evO R mx) st k = true := h
    simp only [wpO, pureA, hE, hEo]
    unfold oSl at h
    split at h
    · rename_i a ha
      obtain ⟨st1, h1, h2⟩ := withOpt_ok hR h
      obtain ⟨st2, h3, h4⟩ := withOpt_ok h1 h2
      obtain ⟨st3, h5, h6⟩ := withOpt_ok h3 h4
      obtain ⟨v, xv, h7, h8, h9⟩ := kOpt_ok (ρ := ρ) h6
      rw [conc_ev ha]
      exact ⟨v, h7, h8 ▸ hK _ _ _ h9 h5⟩
    · cases h
  | bin op x y =>
    simp only [wpO, pureA, hE]
    exact (binX_ok hR h).out hK
  | eqs kd ng x y =>
    have h : oEqs kd ng (R x) (R y) st k = true := h
    simp only [wpO, pureA, hE]
    unfold oEqs at h
    split at h
    · rename_i a ha
      split at h
      · rename_i b hb
        obtain ⟨v, xv, h7, h8, h9⟩ := kOpt_ok (ρ := ρ) h
        rw [conc_ev ha, conc_ev hb]
        exact ⟨v, h7, h8 ▸ hK _ _ _ h9 hR⟩
      · cases h
    · cases h
  | eqAgg ks ng x y =>
    have h : oEqAgg ks ng (R x) (R y) st k = true := h
    simp only [wpO, pureA, hE]
    unfold oEqAgg at h
    split at h
    · rename_i xs hx
      split at h
      · rename_i ys hy
        obtain ⟨r, st', h1, h2, h3⟩ := eqCellsX_ok hR h
        rw [hx, hy]
        refine ⟨.s (.bool (ng ^^ r)), ?_, hK _ _ _ h3 h2⟩
        show eqAggA ks ng (.agg _) (.agg _) = _
        simp only [eqAggA, h1, Option.map_some]
      · cases h
    · cases h
  | un op x =>
    simp only [wpO, pureA, hE]
    exact (oConc_ok hR (f := unA op) h).out hK
  | conv kd x =>
    simp only [wpO, pureA, hE]
    exact (convX_ok hR h).out hK
  | makeSlice esz bytes z l c =>
    have h : oMake esz bytes z (R l) (R c) id st k = true := h
    simp only [wpO, hE]
    unfold oMake at h
    obtain ⟨k1, n1, st1, h1, h2, h3⟩ := withInt_ok hR h
    obtain ⟨k2, n2, st2, h4, h5, h6⟩ := withInt_ok h2 h3
    split at h6
    · rename_i r hr
      rw [h1, h4]
      have := oNew_ok h5 h6 hK
      rw [ofs_ev] at this
      exact ⟨r, hr, this⟩
    · cases h6
  | makeFunc f caps =>
    have h : oFunc f (evs R caps) st k = true := h
    simp only [wpO, pureA, hEl]
    unfold oFunc at h
    split at h
    · rename_i cs hcs
      split at h
      · rename_i c hcc
        rw [concAll_ev hcs, hcc]
        exact ⟨_, rfl, hK (.s (.s (.fn f c))) _ _ h hR⟩
      · cases h
    · cases h
  | extract i x =>
    have h : oExtract i (R x) st k = true := h
    simp only [wpO, pureA, hE]
    unfold oExtract at h
    split at h
    · rename_i ps hps
      split at h
      · rename_i p hp
        rw [getS_eq] at hp
        rw [hps]
        refine ⟨(p.av).ev ρ, ?_, hK _ _ _ h hR⟩
        show extractA i (.tup _) = _
        simp only [extractA, List.getElem?_map, hp, Option.map_some, av_ev]
      · cases h
    · cases h
  | len x =>
    simp only [wpO, pureA, hE]
    exact (oConc_ok hR (f := lenA) h).out hK
  | lenArr n =>
    simp only [wpO, pureA]
    exact ⟨_, rfl, hK (.s (.s (.int .i64 n))) _ _ h hR⟩
  | append esz bytes s x =>
    simp only [wpO, hE]
    exact (appendX_ok hR h).out hK
  | copy esz d s =>
    simp only [wpO, hE]
    exact (copyX_ok hR h).out hK
  | clear esz z x =>
    have h : oClear esz z (R x) st k = true := h
    simp only [wpO, hE]
    unfold oClear at h
    obtain ⟨H', st', h1, h2, h3⟩ := clearX_ok hR h
    exact ⟨H', h1, hK _ _ _ h3 h2⟩
  | minmax mx x y =>
    simp only [wpO, pureA, hE]
    exact (minmaxX_ok hR h).out hK
  | call f args =>
    simp only [wpO, hEl]
    exact hc f _ st H k K h hR hK
  | callv x args =>
    have h : oCallv callX (R x) (evs R args) st k = true := h
    simp only [wpO, hE, hEl]
    unfold oCallv at h
    split at h
    · rename_i p hp
      have hx : (R x).ev ρ = .s (.fn p.1 p.2) := by
        unfold XAV.fnOf at hp
        split at hp
        · rename_i heq
          cases hp; rw [heq]; rfl
        · cases hp
      rw [hx]
      have := hc p.1 _ st H k K h hR hK
      rw [List.map_append, ptrs_map] at this
      exact this
    · split at h
      · rename_i p hp
        have hx : (R x).ev ρ = .s (.bfn p.1 p.2) := by
          unfold XAV.bfnOf at hp
          split at hp
          · rename_i heq
            cases hp; rw [heq]; rfl
          · cases hp
        rw [hx]
        exact hc p.1 _ st H k K h hR hK
      · cases h
  | stuck => cases h
  | hop g args =>
    simp only [wpO, hEl]
    exact (hopX_ok hR h).out hK
  | bindf f x =>
    simp only [wpO, pureA, hE]
    exact (oConc_ok hR (f := bindA f) h).out hK

/- ---- slots ---- -/
structure TX (ρ : Nat → Int) (nt : Nat) (X : XT) (T : List AV) : Prop where
  len : T.length = nt
  at_ : ∀ i, T.getD i undef = (XT.at X i).ev ρ

theorem TX.ev {nt : Nat} {X : XT} {T : List AV} (h : TX ρ nt X T) (x : Opd) : Go.AM.ev T x = (evX X x).ev ρ := by
  cases x with
  | t n => exact h.at_ n
  | c v => exact (of_ev v).symm
  | g n => rfl

theorem TX.put {nt : Nat} {X : XT} {T : List AV} (h : TX ρ nt X T) {d : Option Nat} {v : XAV} {k : XT → Bool} (hp : putX nt X d v k = true) : ∃ X', TX ρ nt X' (Go.AM.put T d (v.ev ρ)) ∧ k X' = true := by
  unfold putX at hp
  split at hp
  · exact ⟨X, h, hp⟩
  · rename_i d
    split at hp
    · rename_i hd
      split at hp
      · rename_i X' hs
        refine ⟨X', ⟨by simp only [Go.AM.put, List.length_set]; exact h.len, fun i => ?_⟩, hp⟩
        have hd : d < nt := by
          have : Nat.blt d nt = true := hd
          simp only [Nat.blt, Nat.ble_eq] at this
          exact this
        have hg := Tr.get_set _ _ _ hs i
        simp only [Go.AM.put, XT.at, hg]
        rw [List.getD_eq_getElem?_getD, List.getElem?_set]
        by_cases e : i = d
        · subst e
          rw [if_pos rfl, if_pos rfl, if_pos (by rw [h.len]; exact hd)]
          rfl
        · rw [if_neg (fun h => e h.symm), if_neg e, ← List.getD_eq_getElem?_getD]
          exact h.at_ i
      · cases hp
    · cases hp

theorem gdX_gd (v : XAV) (b : Bool) : gdX v b = gd (v.ev ρ) b := by
  unfold gdX
  split
  · rename_i c
    cases c <;> cases b <;> rfl
  · rename_i h
    cases v with
    | s x => cases x with
      | s y => cases y <;> first | rfl | exact (h _ rfl).elim
      | y k n => rfl
    | agg l => rfl
    | tup l => rfl

theorem svEqb_eq {a b : SV} (h : svEqb a b = true) : a = b := of_decide_eq_true h
theorem xvEqb_eq {a b : XV} (h : xvEqb a b = true) : a = b := by
  unfold xvEqb at h
  split at h
  · simp only [Bool.and_eq_true] at h
    rw [kindEqb_eq h.1, Int.eqb_eq h.2]
  · rw [svEqb_eq h]
  · simp only [Bool.and_eq_true] at h
    rw [kindEqb_eq h.1, SI.eqb_eq h.2]
  · cases h
theorem xlEqb_eq : ∀ {l m : List XV}, xlEqb l m = true → l = m
  | [], [], _ => rfl
  | x :: l, y :: m, h => by
    simp only [xlEqb, Bool.and_eq_true] at h
    rw [xvEqb_eq h.1, xlEqb_eq h.2]
  | [], _ :: _, h => by simp [xlEqb] at h
  | _ :: _, [], h => by simp [xlEqb] at h
theorem xaEqb_eq {a b : XAV} (h : xaEqb a b = true) : a = b := by
  unfold xaEqb at h
  split at h
  · rw [xvEqb_eq h]
  · rw [xlEqb_eq h]
  · cases h

theorem watchX_ok {nt : Nat} {X : XT} {T : List AV} (hT : TX ρ nt X T) (hR : XRel ρ st H) {P : Prop} (hP : P) : ∀ {ws : List Watch}, watchX X st ws = true → watchP T H ws P
  | [], _ => hP
  | w :: ws, h => by
    simp only [watchX, Bool.and_eq_true] at h
    obtain ⟨h1, h2⟩ := h
    refine ⟨?_, watchX_ok hT hR hP h2⟩
    have key : (match loadX w.m (evX X w.a) st with | some v => xaEqb v (XT.at X w.dst) | none => false) = true → loadA w.m (Go.AM.ev T w.a) H = some (T.getD w.dst undef) := by
      intro h3
      split at h3
      · rename_i v hv
        rw [hT.ev, hT.at_, loadX_ev hR hv, xaEqb_eq h3]
      · cases h3
    cases hg : w.guard with
    | none =>
      rw [hg] at h1
      exact key h1
    | some p =>
      obtain ⟨t, b⟩ := p
      rw [hg] at h1
      simp only at h1 ⊢
      intro hgd
      rw [gdX_gd (ρ := ρ), ← hT.at_, hgd] at h1
      exact key h1

theorem regX_ok {callX : Nat → List XAV → XS → XK → Bool} (hc : CallX tab ext ρ callX) {nt base : Nat} : ∀ {l : List ROper} {X : XT} {T : List AV} {st : XS} {H : AH} {k : XT → XS → Bool} {K : List AV → AH → Prop}, regX callX nt base l X st k = true → TX ρ nt X T → XRel ρ st H →
    (∀ X' T' st' H', k X' st' = true → TX ρ nt X' T' → XRel ρ st' H' → K T' H') → wpR tab ext base l T H K
  | [], X, T, st, H, k, K, h, hT, hR, hK => hK X T st H h hT hR
  | o :: l, X, T, st, H, k, K, h, hT, hR, hK => by
    have h : stepX callX nt base o X st (fun T st => regX callX nt base l T st k) = true := h
    unfold stepX at h
    have fin : ∀ (xv : XAV) (st' : XS) (H' : AH), cond (watchX X st' o.watch) (putX nt X o.dst xv fun T => regX callX nt base l T st' k) false = true → XRel ρ st' H' → watchP T H' o.watch (wpR tab ext base l (Go.AM.put T o.dst (xv.ev ρ)) H' K) := by
      intro xv st' H' h1 hR'
      cases hw : watchX X st' o.watch with
      | false => rw [hw] at h1; cases h1
      | true =>
        rw [hw, cond_true] at h1
        obtain ⟨X', h2, h3⟩ := hT.put h1
        exact watchX_ok hT hR' (regX_ok hc h3 h2 hR' hK) hw
    simp only [wpR]
    cases hg : o.guard with
    | none =>
      rw [hg] at h
      exact opX_ok hc hR hT.ev h fun xv st' H' h1 h2 => fin xv st' H' h1 h2
    | some p =>
      obtain ⟨t, b⟩ := p
      rw [hg] at h
      have e : gOk X (some (t, b)) = gd (T.getD t undef) b := by rw [hT.at_]; exact gdX_gd _ _
      rw [e] at h
      simp only [gP]
      cases hgd : gd (T.getD t undef) b with
      | true =>
        rw [hgd] at h
        rw [if_pos rfl]
        exact opX_ok hc hR hT.ev h fun xv st' H' h1 h2 => fin xv st' H' h1 h2
      | false =>
        rw [hgd] at h
        rw [if_neg (by simp)]
        exact fin xundef st H h hR

theorem iterX_ok {nt : Nat} {c : RC} {f : XT → XS → (Ex → XT → XS → Bool) → Bool} (hf : ∀ {X : XT} {T : List AV} {st : XS} {H : AH} {k : Ex → XT → XS → Bool} {K : Ex → List AV → AH → Prop}, f X st k = true → TX ρ nt X T → XRel ρ st H →
      (∀ e X' T' st' H', k e X' st' = true → TX ρ nt X' T' → XRel ρ st' H' → K e T' H') → wpC tab ext c T H K) {n : Nat} {X : XT} {T : List AV} {st : XS} {H : AH} {k : Ex → XT → XS → Bool} {K : Ex → List AV → AH → Prop} (h : iterX f n X st k = true) (hT : TX ρ nt X T) (hR : XRel ρ st H)
      (hK : ∀ e X' T' st' H', k e X' st' = true → TX ρ nt X' T' → XRel ρ st' H' → K e T' H') : loopP tab ext c T H K := by
  refine loopP_inv (fun n T H => ∃ X st, iterX f n X st k = true ∧ TX ρ nt X T ∧ XRel ρ st H) ?_ n T H ⟨X, st, h, hT, hR⟩
  rintro n T H ⟨X, st, h, hT, hR⟩
  cases n with
  | zero => cases h
  | succ n =>
    have h : f X st (fun e T st => Ex.casesOn (motive := fun _ => Bool) e (iterX f n T st k) (k .ret T st) (fun id => k (.out id) T st)) = true := h
    refine hf h hT hR fun e X' T' st' H' h1 h2 h3 => ?_
    cases e with
    | norm => exact ⟨n, by omega, X', st', h1, h2, h3⟩
    | ret => exact hK _ _ _ _ _ h1 h2 h3
    | out id => exact hK _ _ _ _ _ h1 h2 h3

theorem rcX_ok {callX : Nat → List XAV → XS → XK → Bool} (hc : CallX tab ext ρ callX) {nt fuel : Nat} : ∀ (c : RC) {X : XT} {T : List AV} {st : XS} {H : AH} {k : Ex → XT → XS → Bool} {K : Ex → List AV → AH → Prop}, rcX callX nt fuel c X st k = true → TX ρ nt X T → XRel ρ st H →
    (∀ e X' T' st' H', k e X' st' = true → TX ρ nt X' T' → XRel ρ st' H' → K e T' H') → wpC tab ext c T H K
  | .skip, X, T, st, H, k, K, h, hT, hR, hK => hK _ _ _ _ _ h hT hR
  | .ret, X, T, st, H, k, K, h, hT, hR, hK => hK _ _ _ _ _ h hT hR
  | .exit id, X, T, st, H, k, K, h, hT, hR, hK => hK _ _ _ _ _ h hT hR
  | .region n ops, X, T, st, H, k, K, h, hT, hR, hK => by
    have h : regX callX nt st.next ops X ⟨st.h, st.next + n, st.facts, st.gc, st.lo⟩ (k .norm) = true := h
    simp only [wpC]
    rw [hR.next]
    exact regX_ok hc h hT ⟨hR.has, hR.free, by simp [hR.next], hR.facts⟩ fun X' T' st' H' h1 h2 h3 => hK _ _ _ _ _ h1 h2 h3
  | .seq a b, X, T, st, H, k, K, h, hT, hR, hK => by
    have h : rcX callX nt fuel a X st (fun e T st => Ex.casesOn (motive := fun _ => Bool) e (rcX callX nt fuel b T st k) (k .ret T st) (fun id => k (.out id) T st)) = true := h
    simp only [wpC]
    refine rcX_ok hc a h hT hR fun e X' T' st' H' h1 h2 h3 => ?_
    cases e with
    | norm => exact rcX_ok hc b h1 h2 h3 hK
    | ret => exact hK _ _ _ _ _ h1 h2 h3
    | out id => exact hK _ _ _ _ _ h1 h2 h3
  | .cond c a b, X, T, st, H, k, K, h, hT, hR, hK => by
    have h : oCond (evX X c) (rcX callX nt fuel a X st k) (rcX callX nt fuel b X st k) = true := h
    simp only [wpC, hT.ev]
    unfold oCond at h
    split at h
    · rename_i t ht
      rw [ht]
      cases t with
      | true => exact rcX_ok hc a h hT hR hK
      | false => exact rcX_ok hc b h hT hR hK
    · cases h
  | .block id a, X, T, st, H, k, K, h, hT, hR, hK => by
    have h : rcX callX nt fuel a X st (fun e T st => Ex.casesOn (motive := fun _ => Bool) e (k .norm T st) (k .ret T st) (fun id' => cond (Nat.beq id' id) (k .norm T st) (k (.out id') T st))) = true := h
    simp only [wpC]
    refine rcX_ok hc a h hT hR fun e X' T' st' H' h1 h2 h3 => ?_
    cases e with
    | norm => exact hK _ _ _ _ _ h1 h2 h3
    | ret => exact hK _ _ _ _ _ h1 h2 h3
    | out id' =>
      have h1 : cond (Nat.beq id' id) (k .norm X' st') (k (.out id') X' st') = true := h1
      simp only [blockK]
      by_cases e : id' = id
      · subst e
        rw [beq_tt rfl] at h1
        rw [if_pos rfl]
        exact hK _ _ _ _ _ h1 h2 h3
      · rw [beq_ff e] at h1
        rw [if_neg e]
        exact hK _ _ _ _ _ h1 h2 h3
  | .loop a, X, T, st, H, k, K, h, hT, hR, hK => by
    have h : iterX (rcX callX nt fuel a) fuel X st k = true := h
    simp only [wpC]
    exact iterX_ok (fun h hT hR hK => rcX_ok hc a h hT hR hK) h hT hR hK

theorem res1X_ev {nt : Nat} {X : XT} {T : List AV} (hT : TX ρ nt X T) (hR : XRel ρ st H) {r : RRes} {v : XAV} (h : res1X X st r = some v) : resA1 T H r = some (v.ev ρ) := by
  cases r with
  | tmp t =>
    simp only [res1X, Option.some.injEq] at h
    subst h
    simp only [resA1, hT.at_]
  | cell t m =>
    simp only [res1X] at h
    simp only [resA1, hT.at_]
    exact loadX_ev hR h

theorem resLX_ev {nt : Nat} {X : XT} {T : List AV} (hT : TX ρ nt X T) (hR : XRel ρ st H) : ∀ {rs : List RRes} {l : List XAV}, resLX X st rs = some l → rs.mapM (resA1 T H) = some (l.map (XAV.ev ρ))
  | [], l, h => by simp only [resLX, Option.some.injEq] at h; subst h; rfl
  | r :: rs, l, h => by
    simp only [resLX] at h
    split at h
    · rename_i v l' h1 h2
      cases h
      simp only [List.mapM_cons, res1X_ev hT hR h1, resLX_ev hT hR h2, List.map_cons]
      rfl
    · cases h

theorem partsX_ev : ∀ {l : List XAV} {ps : List XPart}, partsX l = some ps → partsA (l.map (XAV.ev ρ)) = some (ps.map (XPart.ev ρ))
  | [], ps, h => by simp only [partsX, Option.some.injEq] at h; subst h; rfl
  | v :: l, ps, h => by
    simp only [partsX] at h
    split at h
    · rename_i p r h1 h2
      cases h
      simp only [List.map_cons, partsA, part_ev h1, partsX_ev h2, Option.bind_some, Option.map_some]
    · cases h

theorem resX_ok {nt : Nat} {X : XT} {T : List AV} (hT : TX ρ nt X T) (hR : XRel ρ st H) {rs : List RRes} {k : XK} (h : resX rs X st k = true) {K : AV → AH → Prop} (hK : ∀ xv st' H', k xv st' = true → XRel ρ st' H' → K (xv.ev ρ) H') : andThen (resA rs T H) fun v => K v H := by
  unfold resX at h
  split at h
  · split at h
    · rename_i v hv
      exact ⟨_, res1X_ev hT hR hv, hK _ _ _ h hR⟩
    · cases h
  · rename_i rs hrs
    split at h
    · rename_i vs hvs
      split at h
      · rename_i ps hps
        refine ⟨.tup (ps.map (XPart.ev ρ)), ?_, hK (.tup ps) _ _ h hR⟩
        unfold resA
        split
        · rename_i r
          exact (hrs r rfl).elim
        · rw [resLX_ev hT hR hvs]
          simp only [Option.bind_some, partsX_ev hps, Option.map_some]
      · cases h
    · cases h

theorem fillT_ok : ∀ {l : List XAV} {i : Nat} {X X' : XT}, fillT i l X = some X' → ∀ j, XT.at X' j = if i ≤ j ∧ j < i + l.length then l.getD (j - i) xundef else XT.at X j
  | [], i, X, X', h, j => by
    simp only [fillT, Option.some.injEq] at h
    subst h
    rw [if_neg (by simp)]
  | v :: l, i, X, X', h, j => by
    simp only [fillT] at h
    split at h
    · rename_i X1 hs
      rw [fillT_ok h j]
      have hg := Tr.get_set _ _ _ hs j
      by_cases e : j = i
      · subst e
        rw [if_neg (by omega), if_pos (by simp), Nat.sub_self]
        simp only [XT.at, hg, if_pos rfl]
        rfl
      · by_cases e2 : i + 1 ≤ j ∧ j < i + 1 + l.length
        · rw [if_pos e2, if_pos (by simp only [List.length_cons]; omega), show j - i = (j - (i + 1)) + 1 by omega]
          rfl
        · rw [if_neg e2, if_neg (by simp only [List.length_cons]; omega)]
          simp only [XT.at, hg, if_neg e]
    · cases h

theorem runFn_ok {callX : Nat → List XAV → XS → XK → Bool} (hc : CallX tab ext ρ callX) {n f : Nat} {rf : RFunc} (hf : tab f = some rf) {args : List XAV} {k : XK} {K : AV → AH → Prop} (h : runFn callX n rf args st k = true) (hR : XRel ρ st H) (hK : ∀ xv st' H', k xv st' = true → XRel ρ st' H' → K (xv.ev ρ) H') : CallP tab ext f (args.map (XAV.ev ρ)) H K := by
      unfold runFn at h
      split at h
      · cases h
      · rename_i hle
        rw [Nat.ble_eq] at hle
        split at h
        · cases h
        · rename_i X hX
          refine CallP_of hf ?_
          refine rcX_ok hc rf.body h ⟨?_, fun i => ?_⟩ hR fun e X' T' st' H' h1 h2 h3 => ?_
          · simp only [List.length_append, List.length_map, List.length_replicate]; omega
          · have := fillT_ok hX i
            rw [this]
            by_cases hi : i < args.length
            · rw [if_pos (by omega), Nat.sub_zero, List.getD_eq_getElem?_getD, List.getElem?_append_left (by simpa using hi), List.getElem?_map, List.getD_eq_getElem?_getD, List.getElem?_eq_getElem hi]
              rfl
            · rw [if_neg (by omega), List.getD_eq_getElem?_getD, List.getElem?_append_right (by simp; omega)]
              simp only [XT.at, Tr.get_e, XAV.ev, List.map_nil]
              rw [List.getElem?_replicate]
              split <;> rfl
          · cases e with
            | norm => exact resX_ok h2 h3 h1 hK
            | ret => exact resX_ok h2 h3 h1 hK
            | out id => cases h1

theorem runX_ok : ∀ n, CallX tab ext ρ (runX tab n)
  | 0 => fun _ _ _ _ _ _ h _ _ => by cases h
  | n + 1 => by
    intro f args st H k K h hR hK
    have h : (match tab f with | none => false | some rf => runFn (runX tab n) n rf args st k) = true := h
    split at h
    · cases h
    · rename_i rf hf
      exact runFn_ok (runX_ok n) hf h hR hK
end
end Go.AM
