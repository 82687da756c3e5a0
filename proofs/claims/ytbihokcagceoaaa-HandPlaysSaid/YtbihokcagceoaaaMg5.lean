/-
  Handlers by time: made, started, stopped, set, cleared.
-/
import Derived.Test.YtbihokcagceoaaaMg4
import Derived.Test.YtbihokcagceoaaaMg1
import Derived.Test.YtbihokcagceoaaaMg3
import Derived.WideShapes
import Derived.OpenShut
import Derived.ProofKit
import Derived.RowKit3
import Derived.WideKeyArgs
import Derived.ChangeSame
import Derived.Handed
set_option maxRecDepth 10000
namespace Go.AM
attribute [local simp] Nat.add_assoc resA resA1 fillA buildA callvP
theorem Rel_tri (d : Int) (h1 : -9223372036854775808 ≤ d) (h2 : d < 9223372036854775808) : Tri tab noExt F.nums_Rel [i64 d] [] fun v P' => v = (if d < 0 ∨ 2147483647 < d then .tup [.s (.int .u64 0), .s (.int .i64 (-17))] else .tup [.s (.int .u64 d), .s (.int .i64 0)]) ∧ P' = [] := by
  refine Tri.intro fun ρ H Rs K hs hk => ?_
  apply nums_Rel_call
  by_cases h : d < 0
  · simp [h]
    exact hk _ _ _ ⟨by simp [h], rfl⟩ (by (repeat refine Sat.bump ?_ _); exact hs)
  · by_cases h' : 2147483647 < d
    · simp [h, h']
      exact hk _ _ _ ⟨by simp [h'], rfl⟩ (by (repeat refine Sat.bump ?_ _); exact hs)
    · have hw : IntKind.u64.wrap d = d := wrap_u64 (by omega) (by omega)
      simp [h, h', hw]
      exact hk _ _ _ ⟨by simp [h, h'], rfl⟩ (by (repeat refine Sat.bump ?_ _); exact hs)
def badP (period phase : Int) : Prop := period < 1 ∨ 2147483647 < period ∨ phase < 0 ∨ 2147483647 < phase
instance (a b : Int) : Decidable (badP a b) := by unfold badP; infer_instance
def cycR (cs : List Cyc) (up period phase : Int) (st kp : Bool) : (Int × Int) × List Cyc :=
  if badP period phase then ((0, -17), cs) else if 8 ≤ cs.length then ((0, -33), cs) else (((cs.length : Int) + 1, 0), cs ++ [⟨phase + up, phase + up, period, st, kp⟩])
def almR (al : List Alr) : (Int × Int) × List Alr := if 8 ≤ al.length then ((0, -33), al) else (((al.length : Int) + 1, 0), al ++ [⟨false, 0⟩])
def startC (up : Int) (c : Cyc) : Cyc := { c with on := true, next := if c.keep = false then up + c.period else if up < c.first then c.first else c.first + ((up - c.first) / c.period + 1) * c.period }
def idxN (no : Int) (n : Nat) : Option Nat := if 1 ≤ no ∧ no ≤ n then some (no.toNat - 1) else none
theorem idxN_none {no : Int} {n : Nat} (h : idxN no n = none) : ¬ (1 ≤ no ∧ no ≤ n) := by unfold idxN at h; split at h <;> simp_all
theorem idxN_some {no : Int} {n i : Nat} (h : idxN no n = some i) : no = (i : Int) + 1 ∧ i < n := by
  unfold idxN at h
  split at h
  · cases h; omega
  · cases h
def modR {α : Type} (l : List α) (no : Int) (f : α → α) : Int × List α := match idxN no l.length with
  | none => (-18, l)
  | some i => (0, l.modify i f)
def setR (al : List Alr) (up tic no d : Int) : Int × List Alr := match idxN no al.length with
  | none => (-18, al)
  | some i => if d < 0 ∨ 2147483647 < d then (-17, al) else (0, al.set i ⟨true, up + d + tic⟩)
theorem modify_set {α : Type} {l : List α} {i : Nat} {x : α} (f : α → α) (h : l[i]? = some x) : l.modify i f = l.set i (f x) := by
  apply List.ext_getElem?
  intro j
  rw [List.getElem?_modify, List.getElem?_set]
  obtain ⟨hi, rfl⟩ := List.getElem?_eq_some_iff.1 h
  by_cases e : i = j
  · subst e; simp [hi]
  · simp [e]
theorem NewHands_tri (tic : Int) (h1 : 1 ≤ tic) (h2 : tic ≤ 1000) : Tri tab noExt F.cyc_NewHands [i64 tic] [] fun v P' => ∃ h, v = .tup [.s (.ptr (some (h, 0))), .s (.int .i64 0)] ∧ P' = [HdA h [] [] [] 0 tic 0 0] := by
  refine Tri.intro fun ρ H Rs K hs hk => ?_
  apply cyc_NewHands_call
  refine (NewClock_tri tic h1 h2).use (R := Rs) ((hs.bump _).bump _) ?_
  rintro v H2 P' ⟨c, rfl, rfl⟩ hs2
  have w : IntKind.u64.wrap tic = tic := wrap_u64 (by omega) (by omega)
  simp [w]
  have hs3 := Sat.frees (Sat.bump hs2 2) 7 [4] (by decide) (by decide)
  simp only [List.map_cons, List.map_nil, List.cons_append, List.nil_append, bump_next, Nat.add_assoc] at hs3
  refine ⟨_, new_of _ hs3.fre, ?_⟩
  have hs4 := Sat.mk hs3 [.ptr (some (c, 0)), .int .u64 tic, .slice none 0 0 1, .slice none 0 0 1]
  refine hk _ _ _ ⟨_, rfl, rfl⟩ ?_
  have hs5 := Sat.re (Sat.mkNil (enc := encL) (k := 2) (Sat.mkNil (enc := encC) (k := 5) hs4 1) 1) [2, 3, 1, 0] (by simp) (by decide)
  exact Sat.hdClose hs5
theorem NewHands_no (tic : Int) (h : tic < 1 ∨ 1000 < tic) : Tri tab noExt F.cyc_NewHands [i64 tic] [] fun v P' => v = .tup [.s (.ptr none), .s (.int .i64 (-17))] ∧ P' = [] := by
  refine Tri.intro fun ρ H Rs K hs hk => ?_
  apply cyc_NewHands_call
  refine (NewClock_no tic h).use (R := Rs) ((hs.bump _).bump _) ?_
  rintro v H2 P' ⟨rfl, rfl⟩ hs2
  simp
  exact hk _ _ _ ⟨rfl, rfl⟩ ((Sat.bump hs2 _).bump _)
section
variable (h : Nat) (cs : List Cyc) (al : List Alr) (L : List Ent) (last tic up base : Int)
theorem Cyclic_tri (hok : HdOk cs al up) (period phase : Int) (st kp : Bool) (hp1 : -9223372036854775808 ≤ period) (hp2 : period < 9223372036854775808) (hq1 : -9223372036854775808 ≤ phase) (hq2 : phase < 9223372036854775808) :
    Tri tab noExt F.cyc_Hands_Cyclic [ptr h, i64 period, i64 phase, bl st, bl kp] [HdA h cs al L last tic up base] fun v P' => v = .tup [.s (.int .i64 (cycR cs up period phase st kp).1.1), .s (.int .i64 (cycR cs up period phase st kp).1.2)] ∧ P' = [HdA h (cycR cs up period phase st kp).2 al L last tic up base] := by
  refine Tri.intro fun ρ H Rs K hs hk => ?_
  apply cyc_Hands_Cyclic_call
  refine (Rel_tri period hp1 hp2).use (R := _) ((hs.bump _).bump _) ?_
  rintro v H2 P' ⟨rfl, rfl⟩ hs2
  have hs2 : Sat ρ H2 (HdA h cs al L last tic up base :: Rs) := hs2
  have hup := hok.up0
  have hup1 := hok.up1
  have hlc := hok.lc
  by_cases hb : badP period phase
  · have e : cycR cs up period phase st kp = ((0, -17), cs) := by unfold cycR; rw [if_pos hb]
    rw [e] at hk
    have fin : ∀ H', Sat ρ H' (HdA h cs al L last tic up base :: Rs) → K (.tup [.s (.int .i64 0), .s (.int .i64 (-17))]) H' := fun H' hs' => hk _ _ _ ⟨rfl, rfl⟩ hs'
    unfold badP at hb
    by_cases h1 : period < 0 ∨ 2147483647 < period
    · rw [if_pos h1]
      simp
      refine (Rel_tri phase hq1 hq2).use (R := _) (hs2.bump _) ?_
      rintro v H3 P' ⟨rfl, rfl⟩ hs3
      by_cases h2 : phase < 0 ∨ 2147483647 < phase
      · rw [if_pos h2]
        simp
        exact fin _ ((Sat.bump hs3 _).bump _)
      · rw [if_neg h2]
        simp
        exact fin _ ((Sat.bump hs3 _).bump _)
    · rw [if_neg h1]
      simp
      refine (Rel_tri phase hq1 hq2).use (R := _) (hs2.bump _) ?_
      rintro v H3 P' ⟨rfl, rfl⟩ hs3
      by_cases h2 : phase < 0 ∨ 2147483647 < phase
      · rw [if_pos h2]
        by_cases h0 : period = 0
        · simp [h0]
          exact fin _ ((Sat.bump hs3 _).bump _)
        · simp [h0]
          exact fin _ ((Sat.bump hs3 _).bump _)
      · rw [if_neg h2]
        have h0 : period = 0 := by omega
        simp [h0]
        exact fin _ ((Sat.bump hs3 _).bump _)
  · have hb' := hb
    unfold badP at hb
    rw [if_neg (by omega)]
    simp
    refine (Rel_tri phase hq1 hq2).use (R := _) (hs2.bump _) ?_
    rintro v H3 P' ⟨rfl, rfl⟩ hs3
    rw [if_neg (by omega)]
    have h0 : ¬ period = 0 := by omega
    have hs3 : Sat ρ H3 (HdA h cs al L last tic up base :: Rs) := hs3
    obtain ⟨c, s1, s2, hs4⟩ := Sat.hdOpen hs3
    have hbh := hs4.cel
    have hh2 : H3.ld h 2 = some s1 := by rw [ld_of H3 hbh]; rfl
    have hh0 : H3.ld h 0 = some (.ptr (some (c, 0))) := by rw [ld_of H3 hbh]; rfl
    have hl := Sat.rowLen (Sat.front hs4 2 (by simp))
    by_cases h8 : 8 ≤ cs.length
    · have e : cycR cs up period phase st kp = ((0, -33), cs) := by unfold cycR; rw [if_neg hb', if_pos h8]
      have h8' : (8 : Int) ≤ cs.length := by omega
      rw [e] at hk
      simp [h0, hh2, hl, h8']
      exact hk _ _ _ ⟨rfl, rfl⟩ (by (repeat refine Sat.bump ?_ _); exact hs3)
    · have e : cycR cs up period phase st kp = (((cs.length : Int) + 1, 0), cs ++ [⟨phase + up, phase + up, period, st, kp⟩]) := by unfold cycR; rw [if_neg hb', if_neg h8]
      have h8' : ¬ (8 : Int) ≤ cs.length := by omega
      rw [e] at hk
      simp [h0, hh2, hh0, hl, h8']
      refine (Up_tri c L last tic up base).use (R := _) ((((hs4.front 1 (by simp)).bump 7).bump 7).bump 8) ?_
      rintro v H4 P' ⟨rfl, rfl⟩ hs5
      have hs5 : Sat ρ H4 (CkA c L last tic up base :: Cel h [.ptr (some (c, 0)), .int .u64 tic, s1, s2] :: Row encC 5 s1 cs :: Row encL 2 s2 al :: Rs) := hs5
      have hbh := (hs5.front 1 (by simp)).cel
      have hh2 : H4.ld h 2 = some s1 := by rw [ld_of H4 hbh]; rfl
      have w : IntKind.u64.wrap (phase + up) = phase + up := wrap_u64 (by omega) (by omega)
      simp [hh2, w]
      have hs6 := Sat.frees hs5 16 [11, 12] (by decide) (by decide)
      simp only [List.map_cons, List.map_nil, List.cons_append, List.nil_append, bump_next, Nat.add_assoc] at hs6
      refine ⟨_, new_of _ hs6.fre, ?_⟩
      have hs7 := Sat.mk hs6 [.int .u64 (phase + up), .int .u64 (phase + up), .int .u64 period, .bool st, .bool kp]
      have hs8 := Sat.re hs7 [4, 1, 0, 3, 2] (by simp) (by decide)
      obtain ⟨s1', H5, e5, hs9, hn5⟩ := Sat.append1 (k := 5) (enc := encC) (bytes := 32) (c := 1) (o := 0) (e := (⟨phase + up, phase + up, period, st, kp⟩ : Cyc)) (r := cs) encC_len hs8 rfl (by simp) (by omega)
      refine ⟨_, e5, ?_⟩
      have hs10 := Sat.sel hs9 [2, 3, 0, 4] 5 (by simp) (by decide)
      have hb5 := hs10.cel
      simp [AH.stn, hb5, splice]
      have hs11 := Sat.set hs10 [.ptr (some (c, 0)), .int .u64 tic, s1', s2]
      have hl2 := Sat.rowLen (Sat.front hs11 2 (by simp))
      simp [AH.ld, hl2]
      exact hk _ _ _ ⟨rfl, rfl⟩ ((Sat.hdClose hs11).bump _)
theorem Alarm_tri (hok : HdOk cs al up) : Tri tab noExt F.cyc_Hands_Alarm [ptr h] [HdA h cs al L last tic up base] fun v P' => v = .tup [.s (.int .i64 (almR al).1.1), .s (.int .i64 (almR al).1.2)] ∧ P' = [HdA h cs (almR al).2 L last tic up base] := by
  refine Tri.intro fun ρ H Rs K hs hk => ?_
  apply cyc_Hands_Alarm_call
  obtain ⟨c, s1, s2, hs4⟩ := Sat.hdOpen hs
  have hla := hok.la
  have hbh := hs4.cel
  have hh3 : H.ld h 3 = some s2 := by rw [ld_of H hbh]; rfl
  have hl := Sat.rowLen (Sat.front hs4 3 (by simp))
  by_cases h8 : 8 ≤ al.length
  · have e : almR al = ((0, -33), al) := by unfold almR; rw [if_pos h8]
    have h8' : (8 : Int) ≤ al.length := by omega
    rw [e] at hk
    simp [hh3, hl, h8']
    exact hk _ _ _ ⟨rfl, rfl⟩ (by (repeat refine Sat.bump ?_ _); exact hs)
  · have e : almR al = (((al.length : Int) + 1, 0), al ++ [⟨false, 0⟩]) := by unfold almR; rw [if_neg h8]
    have h8' : ¬ (8 : Int) ≤ al.length := by omega
    rw [e] at hk
    simp [hh3, hl, h8']
    have hs6 := Sat.frees ((hs4.bump 2).bump 6) 11 [6, 7] (by decide) (by decide)
    simp only [List.map_cons, List.map_nil, List.cons_append, List.nil_append, bump_next, Nat.add_assoc] at hs6
    refine ⟨_, new_of _ hs6.fre, ?_⟩
    have hs7 := Sat.mk hs6 [.bool false, .int .u64 0]
    have hs8 := Sat.re hs7 [5, 1, 0, 2, 3, 4] (by simp) (by decide)
    obtain ⟨s2', H5, e5, hs9, hn5⟩ := Sat.append1 (k := 2) (enc := encL) (bytes := 16) (c := 1) (o := 0) (e := (⟨false, 0⟩ : Alr)) (r := al) encL_len hs8 rfl (by simp) (by omega)
    refine ⟨_, e5, ?_⟩
    have hs10 := Sat.sel hs9 [2, 3, 4, 0] 5 (by simp) (by decide)
    have hb5 := hs10.cel
    simp [AH.stn, hb5, splice]
    have hs11 := Sat.set hs10 [.ptr (some (c, 0)), .int .u64 tic, s1, s2']
    have hl2 := Sat.rowLen (Sat.front hs11 3 (by simp))
    simp [AH.ld, hl2]
    exact hk _ _ _ ⟨rfl, rfl⟩ ((Sat.hdClose hs11).bump _)
theorem cyc_none (c0 s1 s2 : SV) (n : Nat) (hl : lenA (.s s1) = some (i64 n)) (no : Int) (hno : idxN no n = none) : Tri tab noExt F.cyc_Hands_cyc [ptr h, i64 no] [Cel h [c0, .int .u64 tic, s1, s2]] fun v P' => v = .s (.ptr none) ∧ P' = [Cel h [c0, .int .u64 tic, s1, s2]] := by
  refine Tri.intro fun ρ H Rs K hs hk => ?_
  apply cyc_Hands_cyc_call
  have hno := idxN_none hno
  have hh2 : H.ld h 2 = some s1 := by rw [ld_of H hs.cel]; rfl
  by_cases h1 : no < 1
  · simp [h1]
    exact hk _ _ _ ⟨rfl, rfl⟩ (by (repeat refine Sat.bump ?_ _); exact hs)
  · have h2 : (n : Int) < no := by omega
    simp [h1, hh2, hl, h2]
    exact hk _ _ _ ⟨rfl, rfl⟩ (by (repeat refine Sat.bump ?_ _); exact hs)
theorem cyc_some (c0 s2 : SV) (b n c i : Nat) (no : Int) (hno : idxN no n = some i) (hn : n ≤ 8) : Tri tab noExt F.cyc_Hands_cyc [ptr h, i64 no] [Cel h [c0, .int .u64 tic, .slice (some (b, 0)) n c 5, s2]] fun v P' => v = .s (.ptr (some (b, i * 5))) ∧ P' = [Cel h [c0, .int .u64 tic, .slice (some (b, 0)) n c 5, s2]] := by
  refine Tri.intro fun ρ H Rs K hs hk => ?_
  apply cyc_Hands_cyc_call
  obtain ⟨rfl, hi⟩ := idxN_some hno
  have hh2 : H.ld h 2 = some (.slice (some (b, 0)) n c 5) := by rw [ld_of H hs.cel]; rfl
  have h1 : ¬ (i : Int) + 1 < 1 := by omega
  have h2 : ¬ (n : Int) < (i : Int) + 1 := by omega
  have w : IntKind.i64.wrap (i : Int) = i := wrapN i (by omega)
  simp [h1, hh2, h2, w, hi]
  exact hk _ _ _ ⟨rfl, rfl⟩ (by (repeat refine Sat.bump ?_ _); exact hs)
theorem alm_none (c0 s1 s2 : SV) (n : Nat) (hl : lenA (.s s2) = some (i64 n)) (no : Int) (hno : idxN no n = none) : Tri tab noExt F.cyc_Hands_alarm [ptr h, i64 no] [Cel h [c0, .int .u64 tic, s1, s2]] fun v P' => v = .s (.ptr none) ∧ P' = [Cel h [c0, .int .u64 tic, s1, s2]] := by
  refine Tri.intro fun ρ H Rs K hs hk => ?_
  apply cyc_Hands_alarm_call
  have hno := idxN_none hno
  have hh2 : H.ld h 3 = some s2 := by rw [ld_of H hs.cel]; rfl
  by_cases h1 : no < 1
  · simp [h1]
    exact hk _ _ _ ⟨rfl, rfl⟩ (by (repeat refine Sat.bump ?_ _); exact hs)
  · have h2 : (n : Int) < no := by omega
    simp [h1, hh2, hl, h2]
    exact hk _ _ _ ⟨rfl, rfl⟩ (by (repeat refine Sat.bump ?_ _); exact hs)
theorem alm_some (c0 s1 : SV) (b n c i : Nat) (no : Int) (hno : idxN no n = some i) (hn : n ≤ 8) : Tri tab noExt F.cyc_Hands_alarm [ptr h, i64 no] [Cel h [c0, .int .u64 tic, s1, .slice (some (b, 0)) n c 2]] fun v P' => v = .s (.ptr (some (b, i * 2))) ∧ P' = [Cel h [c0, .int .u64 tic, s1, .slice (some (b, 0)) n c 2]] := by
  refine Tri.intro fun ρ H Rs K hs hk => ?_
  apply cyc_Hands_alarm_call
  obtain ⟨rfl, hi⟩ := idxN_some hno
  have hh2 : H.ld h 3 = some (.slice (some (b, 0)) n c 2) := by rw [ld_of H hs.cel]; rfl
  have h1 : ¬ (i : Int) + 1 < 1 := by omega
  have h2 : ¬ (n : Int) < (i : Int) + 1 := by omega
  have w : IntKind.i64.wrap (i : Int) = i := wrapN i (by omega)
  simp [h1, hh2, h2, w, hi]
  exact hk _ _ _ ⟨rfl, rfl⟩ (by (repeat refine Sat.bump ?_ _); exact hs)
theorem Stop_tri (hok : HdOk cs al up) (no : Int) : Tri tab noExt F.cyc_Hands_Stop [ptr h, i64 no] [HdA h cs al L last tic up base] fun v P' => v = i64 (modR cs no fun c => { c with on := false }).1 ∧ P' = [HdA h (modR cs no fun c => { c with on := false }).2 al L last tic up base] := by
  refine Tri.intro fun ρ H Rs K hs hk => ?_
  apply cyc_Hands_Stop_call
  obtain ⟨c, s1, s2, hs1⟩ := Sat.hdOpen hs
  have hl := Sat.rowLen (Sat.front hs1 2 (by simp))
  cases hno : idxN no cs.length with
  | none =>
    have e : modR cs no (fun c => { c with on := false }) = (-18, cs) := by unfold modR; rw [hno]
    rw [e] at hk
    refine (cyc_none h tic _ s1 s2 cs.length hl no hno).use ((hs1.bump _).bump _) ?_
    rintro v H2 P' ⟨rfl, rfl⟩ hs2
    simp
    exact hk _ _ _ ⟨rfl, rfl⟩ (by (repeat refine Sat.bump ?_ _); exact Sat.hdClose hs2)
  | some i =>
    obtain ⟨hi', hi⟩ := idxN_some hno
    have hx : cs[i]? = some cs[i] := List.getElem?_eq_getElem hi
    have e : modR cs no (fun c => { c with on := false }) = (0, cs.set i { cs[i] with on := false }) := by unfold modR; rw [hno]; simp only; rw [modify_set _ hx]
    rw [e] at hk
    rcases (Sat.re hs1 [2, 0, 1] (by simp) (by decide)).rowInv with ⟨e1, _, h0, _⟩ | ⟨b, cp, j, rfl, hs2, h1, h2⟩
    · subst h0; simp at hi
    refine (cyc_some h tic _ s2 b cs.length cp i no hno hok.lc).use (((hs2.swap).bump _).bump _) ?_
    rintro v H2 P' ⟨rfl, rfl⟩ hs3
    have hs4 := Sat.bump (Sat.bump (Sat.swap hs3) 2) 4
    have q := wrCell encC_len hs4.cel hx (y := { cs[i] with on := false }) 3 (by omega) (.bool false) (by simp [encC])
    simp
    refine ⟨_, q, hk _ _ _ ⟨rfl, rfl⟩ (Sat.bump ?_ _)⟩
    have hs5 := Sat.set hs4 (flat encC (cs.set i { cs[i] with on := false }) ++ j)
    have hs6 := Sat.mkRow (enc := encC) (k := 5) (c := cp) hs5 (by simp only [List.length_append, flat_len encC_len, List.length_set] at h1 ⊢; omega) (by simpa using h2)
    rw [List.length_set] at hs6
    exact Sat.hdClose (Sat.re hs6 [1, 2, 0] (by simp) (by decide))
theorem Clear_tri (hok : HdOk cs al up) (no : Int) : Tri tab noExt F.cyc_Hands_Clear [ptr h, i64 no] [HdA h cs al L last tic up base] fun v P' => v = i64 (modR al no fun _ => ⟨false, 0⟩).1 ∧ P' = [HdA h cs (modR al no fun _ => ⟨false, 0⟩).2 L last tic up base] := by
  refine Tri.intro fun ρ H Rs K hs hk => ?_
  apply cyc_Hands_Clear_call
  obtain ⟨c, s1, s2, hs1⟩ := Sat.hdOpen hs
  have hl := Sat.rowLen (Sat.front hs1 3 (by simp))
  cases hno : idxN no al.length with
  | none =>
    have e : modR al no (fun _ => (⟨false, 0⟩ : Alr)) = (-18, al) := by unfold modR; rw [hno]
    rw [e] at hk
    refine (alm_none h tic _ s1 s2 al.length hl no hno).use ((hs1.bump _).bump _) ?_
    rintro v H2 P' ⟨rfl, rfl⟩ hs2
    simp
    exact hk _ _ _ ⟨rfl, rfl⟩ (by (repeat refine Sat.bump ?_ _); exact Sat.hdClose hs2)
  | some i =>
    obtain ⟨hi', hi⟩ := idxN_some hno
    have hx : al[i]? = some al[i] := List.getElem?_eq_getElem hi
    have e : modR al no (fun _ => (⟨false, 0⟩ : Alr)) = (0, al.set i ⟨false, 0⟩) := by unfold modR; rw [hno]; simp only; rw [modify_set _ hx]
    rw [e] at hk
    rcases (Sat.re hs1 [3, 0, 1, 2] (by simp) (by decide)).rowInv with ⟨e1, _, h0, _⟩ | ⟨b, cp, j, rfl, hs2, h1, h2⟩
    · subst h0; simp at hi
    refine (alm_some h tic _ s1 b al.length cp i no hno hok.la).use (((hs2.swap).bump _).bump _) ?_
    rintro v H2 P' ⟨rfl, rfl⟩ hs3
    have hs4 := Sat.bump (Sat.bump (Sat.swap hs3) 2) 4
    have q := wrEl encL_len hs4.cel hi (⟨false, 0⟩ : Alr)
    simp only [encL] at q
    simp
    refine ⟨_, q, hk _ _ _ ⟨rfl, rfl⟩ (Sat.bump ?_ _)⟩
    have hs5 := Sat.set hs4 (flat encL (al.set i ⟨false, 0⟩) ++ j)
    have hs6 := Sat.mkRow (enc := encL) (k := 2) (c := cp) hs5 (by simp only [List.length_append, flat_len encL_len, List.length_set] at h1 ⊢; omega) (by simpa using h2)
    rw [List.length_set] at hs6
    exact Sat.hdClose (Sat.re hs6 [1, 2, 3, 0] (by simp) (by decide))
theorem HdSet_tri (hok : HdOk cs al up) (ht : 1 ≤ tic ∧ tic ≤ 1000) (no d : Int) (hd1 : -9223372036854775808 ≤ d) (hd2 : d < 9223372036854775808) : Tri tab noExt F.cyc_Hands_Set [ptr h, i64 no, i64 d] [HdA h cs al L last tic up base] fun v P' => v = i64 (setR al up tic no d).1 ∧ P' = [HdA h cs (setR al up tic no d).2 L last tic up base] := by
  refine Tri.intro fun ρ H Rs K hs hk => ?_
  apply cyc_Hands_Set_call
  obtain ⟨c, s1, s2, hs1⟩ := Sat.hdOpen hs
  have hup := hok.up0
  have hup1 := hok.up1
  have hl := Sat.rowLen (Sat.front hs1 3 (by simp))
  cases hno : idxN no al.length with
  | none =>
    have e : setR al up tic no d = (-18, al) := by unfold setR; rw [hno]
    rw [e] at hk
    refine (alm_none h tic _ s1 s2 al.length hl no hno).use ((hs1.bump _).bump _) ?_
    rintro v H2 P' ⟨rfl, rfl⟩ hs2
    simp
    exact hk _ _ _ ⟨rfl, rfl⟩ (by (repeat refine Sat.bump ?_ _); exact Sat.hdClose hs2)
  | some i =>
    obtain ⟨hi', hi⟩ := idxN_some hno
    rcases (Sat.re hs1 [3, 0, 1, 2] (by simp) (by decide)).rowInv with ⟨e1, _, h0, _⟩ | ⟨b, cp, j, rfl, hs2, h1, h2⟩
    · subst h0; simp at hi
    refine (alm_some h tic _ s1 b al.length cp i no hno hok.la).use (((hs2.swap).bump _).bump _) ?_
    rintro v H2 P' ⟨rfl, rfl⟩ hs3
    simp
    refine (Rel_tri d hd1 hd2).use (R := _) ((Sat.bump hs3 _).bump _) ?_
    rintro v H3 P' ⟨rfl, rfl⟩ hs4
    have hs4 : Sat ρ H3 (Cel h [.ptr (some (c, 0)), .int .u64 tic, s1, .slice (some (b, 0)) al.length cp 2] :: Cel b (flat encL al ++ j) :: CkA c L last tic up base :: Row encC 5 s1 cs :: Rs) := hs4
    by_cases hd : d < 0 ∨ 2147483647 < d
    · have e : setR al up tic no d = (-17, al) := by unfold setR; rw [hno]; simp only; rw [if_pos hd]
      rw [e] at hk
      rw [if_pos hd]
      simp
      refine hk _ _ _ ⟨rfl, rfl⟩ (Sat.bump (Sat.bump ?_ _) _)
      exact Sat.hdClose (Sat.re (Sat.mkRow (enc := encL) (k := 2) (c := cp) hs4.swap h1 h2) [1, 2, 3, 0] (by simp) (by decide))
    · have e : setR al up tic no d = (0, al.set i ⟨true, up + d + tic⟩) := by unfold setR; rw [hno]; simp only; rw [if_neg hd]
      rw [e] at hk
      rw [if_neg hd]
      have hh0 : H3.ld h 0 = some (.ptr (some (c, 0))) := by rw [ld_of H3 hs4.cel]; rfl
      have hh1 : H3.ld h 1 = some (.int .u64 tic) := by rw [ld_of H3 hs4.cel]; rfl
      simp [hh0, hh1]
      refine (Up_tri c L last tic up base).use (R := _) (((hs4.front 2 (by simp)).bump _).bump _) ?_
      rintro v H4 P' ⟨rfl, rfl⟩ hs5
      have hs5 : Sat ρ H4 (CkA c L last tic up base :: Cel h [.ptr (some (c, 0)), .int .u64 tic, s1, .slice (some (b, 0)) al.length cp 2] :: Cel b (flat encL al ++ j) :: Row encC 5 s1 cs :: Rs) := hs5
      have hh1 : H4.ld h 1 = some (.int .u64 tic) := by rw [ld_of H4 (hs5.front 1 (by simp)).cel]; rfl
      have w1 : IntKind.u64.wrap (up + d) = up + d := wrap_u64 (by omega) (by omega)
      have w2 : IntKind.u64.wrap (up + d + tic) = up + d + tic := wrap_u64 (by omega) (by omega)
      have hs6 := Sat.re hs5 [2, 1, 0, 3] (by simp) (by decide)
      have q := wrEl encL_len hs6.cel hi (⟨true, up + d + tic⟩ : Alr)
      simp only [encL] at q
      simp [hh1, w1, w2]
      refine ⟨_, q, hk _ _ _ ⟨rfl, rfl⟩ (Sat.bump ?_ _)⟩
      have hs7 := Sat.set hs6 (flat encL (al.set i ⟨true, up + d + tic⟩) ++ j)
      have hs8 := Sat.mkRow (enc := encL) (k := 2) (c := cp) hs7 (by simp only [List.length_append, flat_len encL_len, List.length_set] at h1 ⊢; omega) (by simpa using h2)
      rw [List.length_set] at hs8
      exact Sat.hdClose (Sat.re hs8 [1, 2, 3, 0] (by simp) (by decide))
theorem Start_tri (hok : HdOk cs al up) (no : Int) : Tri tab noExt F.cyc_Hands_Start [ptr h, i64 no] [HdA h cs al L last tic up base] fun v P' => v = i64 (modR cs no (startC up)).1 ∧ P' = [HdA h (modR cs no (startC up)).2 al L last tic up base] := by
  refine Tri.intro fun ρ H Rs K hs hk => ?_
  apply cyc_Hands_Start_call
  obtain ⟨c, s1, s2, hs1⟩ := Sat.hdOpen hs
  have hup := hok.up0
  have hup1 := hok.up1
  have hl := Sat.rowLen (Sat.front hs1 2 (by simp))
  cases hno : idxN no cs.length with
  | none =>
    have e : modR cs no (startC up) = (-18, cs) := by unfold modR; rw [hno]
    rw [e] at hk
    refine (cyc_none h tic _ s1 s2 cs.length hl no hno).use ((hs1.bump _).bump _) ?_
    rintro v H2 P' ⟨rfl, rfl⟩ hs2
    simp
    exact hk _ _ _ ⟨rfl, rfl⟩ (by (repeat refine Sat.bump ?_ _); exact Sat.hdClose hs2)
  | some i =>
    obtain ⟨hi', hi⟩ := idxN_some hno
    have hx : cs[i]? = some cs[i] := List.getElem?_eq_getElem hi
    have hxm := hok.c _ (List.getElem_mem hi)
    have e : modR cs no (startC up) = (0, cs.set i (startC up cs[i])) := by unfold modR; rw [hno]; simp only; rw [modify_set _ hx]
    rw [e] at hk
    generalize cs[i] = x at *
    rcases (Sat.re hs1 [2, 0, 1] (by simp) (by decide)).rowInv with ⟨e1, _, h0, _⟩ | ⟨b, cp, j, rfl, hs2, h1, h2⟩
    · subst h0; simp at hi
    refine (cyc_some h tic _ s2 b cs.length cp i no hno hok.lc).use (((hs2.swap).bump _).bump _) ?_
    rintro v H2 P' ⟨rfl, rfl⟩ hs3
    have hs4 := Sat.bump (Sat.bump (Sat.swap hs3) 2) 4
    have q := wrCell encC_len hs4.cel hx (y := { x with on := true }) 3 (by omega) (.bool true) (by simp [encC])
    simp
    refine ⟨_, q, ?_⟩
    have hs5 := Sat.set hs4 (flat encC (cs.set i { x with on := true }) ++ j)
    generalize AH.set _ b _ = H5 at *
    have hs5 : Sat ρ H5 (Cel b (flat encC (cs.set i { x with on := true }) ++ j) :: Cel h [.ptr (some (c, 0)), .int .u64 tic, .slice (some (b, 0)) cs.length cp 5, s2] :: CkA c L last tic up base :: Row encL 2 s2 al :: Rs) := hs5
    have hh0 : H5.ld h 0 = some (.ptr (some (c, 0))) := by rw [ld_of H5 (hs5.front 1 (by simp)).cel]; rfl
    simp [hh0]
    refine (Up_tri c L last tic up base).use (R := _) ((hs5.front 2 (by simp)).bump _) ?_
    rintro v H6 P' ⟨rfl, rfl⟩ hs6
    have hs6 : Sat ρ H6 (CkA c L last tic up base :: Cel b (flat encC (cs.set i { x with on := true }) ++ j) :: Cel h [.ptr (some (c, 0)), .int .u64 tic, .slice (some (b, 0)) cs.length cp 5, s2] :: Row encL 2 s2 al :: Rs) := hs6
    have hs7 := Sat.swap hs6
    have hx2 : (cs.set i { x with on := true })[i]? = some { x with on := true } := by simp [hi]
    have r0 := rdCell encC_len hs7.cel hx2 0 (by omega)
    have r2 := rdCell encC_len hs7.cel hx2 2 (by omega)
    have r4 := rdCell encC_len hs7.cel hx2 4 (by omega)
    simp [encC] at r0 r2 r4
    have fin : ∀ (H8 : AH) (nxt : Int), H8.blk b = some (.cells false (flat encC (cs.set i { x with on := true }) ++ j)) → startC up x = { x with on := true, next := nxt } → Sat ρ H8 (Cel b (flat encC (cs.set i { x with on := true }) ++ j) :: CkA c L last tic up base :: Cel h [.ptr (some (c, 0)), .int .u64 tic, .slice (some (b, 0)) cs.length cp 5, s2] :: Row encL 2 s2 al :: Rs) →
        ∃ H9, H8.stn b (i * 5 + 1) [.int .u64 nxt] = some H9 ∧ ∀ m, K (i64 0) (H9.bump m) := by
      intro H8 nxt hb8 hst hs8
      have q := wrCell encC_len hb8 hx2 (y := startC up x) 1 (by omega) (.int .u64 nxt) (by rw [hst]; simp [encC])
      refine ⟨_, q, fun m => hk _ _ _ ⟨rfl, rfl⟩ (Sat.bump ?_ _)⟩
      have hs9 := Sat.set hs8 (flat encC ((cs.set i { x with on := true }).set i (startC up x)) ++ j)
      rw [List.set_set] at hs9 ⊢
      have hs10 := Sat.mkRow (enc := encC) (k := 5) (c := cp) hs9 (by simp only [List.length_append, flat_len encC_len, List.length_set] at h1 ⊢; omega) (by simpa using h2)
      rw [List.length_set] at hs10
      exact Sat.hdClose (Sat.re hs10 [2, 1, 0] (by simp) (by decide))
    cases hkp : x.keep
    · rw [hkp] at r4
      have w : IntKind.u64.wrap (up + x.period) = up + x.period := wrap_u64 (by omega) (by omega)
      simp [r4, r2, w]
      obtain ⟨H9, q9, k9⟩ := fin ((H6.bump 6).bump 10) (up + x.period) hs7.cel (by simp [startC, hkp]) (by (repeat refine Sat.bump ?_ _); exact hs7)
      exact ⟨_, q9, k9 _⟩
    · rw [hkp] at r4
      by_cases hf : up < x.first
      · simp [r4, r0, hf]
        obtain ⟨H9, q9, k9⟩ := fin (((H6.bump 6).bump 7).bump 8) x.first hs7.cel (by simp [startC, hkp, hf]) (by (repeat refine Sat.bump ?_ _); exact hs7)
        exact ⟨_, q9, k9 _⟩
      · have hp0 : ¬ x.period = 0 := by omega
        have w1 : IntKind.u64.wrap (up - x.first) = up - x.first := wrap_u64 (by omega) (by omega)
        have hdv : (up - x.first).tdiv x.period = (up - x.first) / x.period := Int.tdiv_eq_ediv_of_nonneg (by omega)
        have hd0 : 0 ≤ (up - x.first) / x.period := Int.ediv_nonneg (by omega) (by omega)
        have hd1 : (up - x.first) / x.period ≤ up - x.first := Int.ediv_le_self _ (by omega)
        have hmul : ((up - x.first) / x.period) * x.period ≤ up - x.first := Int.ediv_mul_le _ hp0
        have hmul2 : ((up - x.first) / x.period + 1) * x.period = ((up - x.first) / x.period) * x.period + x.period := by rw [Int.add_mul, Int.one_mul]
        have hmul3 : 0 ≤ ((up - x.first) / x.period) * x.period := Int.mul_nonneg hd0 (by omega)
        have w2 : IntKind.u64.wrap ((up - x.first) / x.period) = (up - x.first) / x.period := wrap_u64 (by omega) (by omega)
        have w3 : IntKind.u64.wrap ((up - x.first) / x.period + 1) = (up - x.first) / x.period + 1 := wrap_u64 (by omega) (by omega)
        have w4 : IntKind.u64.wrap (((up - x.first) / x.period + 1) * x.period) = ((up - x.first) / x.period + 1) * x.period := wrap_u64 (by omega) (by omega)
        have w5 : IntKind.u64.wrap (x.first + ((up - x.first) / x.period + 1) * x.period) = x.first + ((up - x.first) / x.period + 1) * x.period := wrap_u64 (by omega) (by omega)
        simp [r4, r0, r2, hf, w1, hp0, hdv, w2, w3, w4, w5]
        obtain ⟨H9, q9, k9⟩ := fin (((H6.bump 6).bump 7).bump 26) (x.first + ((up - x.first) / x.period + 1) * x.period) hs7.cel (by simp [startC, hkp, hf]) (by (repeat refine Sat.bump ?_ _); exact hs7)
        exact ⟨_, q9, k9 _⟩
end
end Go.AM

/-
  The document's handlers by time: made, started, stopped, set, cleared.
-/
set_option maxRecDepth 10000
namespace Go.AM
attribute [local simp] Nat.add_assoc resA resA1 fillA buildA callvP
def encQ (c : Cyc) : List SV := [.int .u64 c.first, .int .u64 c.period, .bool c.on, .bool c.keep, .int .u64 c.next]
theorem encQ_len (c : Cyc) : (encQ c).length = 5 := rfl
def HrD (m : Nat) (cs : List Cyc) (al : List Alr) (L : List Ent) (last tic up base : Int) : Asr :=
  Asr.ex fun (q : Nat × SV × SV) => Asr.all [Cel m [.ptr (some (q.1, 0)), q.2.1, q.2.2], RkA q.1 L last tic up base, Row encQ 5 q.2.1 cs, Row encL 2 q.2.2 al]
section
variable {ρ : HF} {H : AH} {R : List Asr} {m : Nat} {cs : List Cyc} {al : List Alr} {L : List Ent} {last tic up base : Int}
theorem Sat.hrOpen (hs : Sat ρ H (HrD m cs al L last tic up base :: R)) : ∃ c s1 s2, Sat ρ H (Cel m [.ptr (some (c, 0)), s1, s2] :: RkA c L last tic up base :: Row encQ 5 s1 cs :: Row encL 2 s2 al :: R) := by
  obtain ⟨⟨c, s1, s2⟩, h1⟩ := Sat.ex hs
  exact ⟨c, s1, s2, Sat.all h1⟩
theorem Sat.hrClose {c : Nat} {s1 s2 : SV} (hs : Sat ρ H (Cel m [.ptr (some (c, 0)), s1, s2] :: RkA c L last tic up base :: Row encQ 5 s1 cs :: Row encL 2 s2 al :: R)) : Sat ρ H (HrD m cs al L last tic up base :: R) :=
  Sat.mkEx (F := fun (q : Nat × SV × SV) => Asr.all [Cel m [.ptr (some (q.1, 0)), q.2.1, q.2.2], RkA q.1 L last tic up base, Row encQ 5 q.2.1 cs, Row encL 2 q.2.2 al]) (c, s1, s2) (Sat.mkAll hs)
end
theorem RhNew_tri (tic : Int) (h1 : 1 ≤ tic) (h2 : tic ≤ 1000) : Tri tab noExt F.detentref20_New [i64 tic] [] fun v P' => ∃ m, v = .tup [.s (.ptr (some (m, 0))), .s (.int .i64 0)] ∧ P' = [HrD m [] [] [] 0 tic 0 0] := by
  refine Tri.intro fun ρ H Rs K hs hk => ?_
  apply detentref20_New_call
  refine (RkNew_tri tic h1 h2).use (R := Rs) ((hs.bump _).bump _) ?_
  rintro v H2 P' ⟨c, rfl, rfl⟩ hs2
  simp
  have hs3 := Sat.frees (Sat.bump hs2 2) 5 [2] (by decide) (by decide)
  simp only [List.map_cons, List.map_nil, List.cons_append, List.nil_append, bump_next, Nat.add_assoc] at hs3
  refine ⟨_, new_of _ hs3.fre, ?_⟩
  have hs4 := Sat.mk hs3 [.ptr (some (c, 0)), .slice none 0 0 1, .slice none 0 0 1]
  refine hk _ _ _ ⟨_, rfl, rfl⟩ ?_
  exact Sat.hrClose (Sat.re (Sat.mkNil (enc := encL) (k := 2) (Sat.mkNil (enc := encQ) (k := 5) hs4 1) 1) [2, 3, 1, 0] (by simp) (by decide))
theorem RhNew_no (tic : Int) (h : tic < 1 ∨ 1000 < tic) : Tri tab noExt F.detentref20_New [i64 tic] [] fun v P' => v = .tup [.s (.ptr none), .s (.int .i64 (-17))] ∧ P' = [] := by
  refine Tri.intro fun ρ H Rs K hs hk => ?_
  apply detentref20_New_call
  refine (RkNew_no tic h).use (R := Rs) ((hs.bump _).bump _) ?_
  rintro v H2 P' ⟨rfl, rfl⟩ hs2
  simp
  exact hk _ _ _ ⟨rfl, rfl⟩ ((Sat.bump hs2 _).bump _)
section
variable (m : Nat) (cs : List Cyc) (al : List Alr) (L : List Ent) (last tic up base : Int)
theorem RhCyclic_tri (hok : HdOk cs al up) (period phase : Int) (st kp : Bool) (hp1 : -9223372036854775808 ≤ period) (hp2 : period < 9223372036854775808) (hq1 : -9223372036854775808 ≤ phase) (hq2 : phase < 9223372036854775808) :
    Tri tab noExt F.detentref20_Hands_Cyclic [ptr m, i64 period, i64 phase, bl st, bl kp] [HrD m cs al L last tic up base] fun v P' => v = .tup [.s (.int .i64 (cycR cs up period phase st kp).1.1), .s (.int .i64 (cycR cs up period phase st kp).1.2)] ∧ P' = [HrD m (cycR cs up period phase st kp).2 al L last tic up base] := by
  refine Tri.intro fun ρ H Rs K hs hk => ?_
  apply detentref20_Hands_Cyclic_call
  have hup := hok.up0
  have hup1 := hok.up1
  have hlc := hok.lc
  by_cases hb : badP period phase
  · have e : cycR cs up period phase st kp = ((0, -17), cs) := by unfold cycR; rw [if_pos hb]
    rw [e] at hk
    have fin : ∀ H', Sat ρ H' (HrD m cs al L last tic up base :: Rs) → K (.tup [.s (.int .i64 0), .s (.int .i64 (-17))]) H' := fun H' hs' => hk _ _ _ ⟨rfl, rfl⟩ hs'
    unfold badP at hb
    by_cases h1 : period < 1
    · simp [h1]; exact fin _ (by (repeat refine Sat.bump ?_ _); exact hs)
    by_cases h2 : 2147483647 < period
    · simp [h1, h2]; exact fin _ (by (repeat refine Sat.bump ?_ _); exact hs)
    by_cases h3 : phase < 0
    · simp [h1, h2, h3]; exact fin _ (by (repeat refine Sat.bump ?_ _); exact hs)
    have h4 : 2147483647 < phase := by omega
    simp [h1, h2, h3, h4]; exact fin _ (by (repeat refine Sat.bump ?_ _); exact hs)
  · have hb' := hb
    unfold badP at hb
    have h1 : ¬ period < 1 := by omega
    have h2 : ¬ 2147483647 < period := by omega
    have h3 : ¬ phase < 0 := by omega
    have h4 : ¬ 2147483647 < phase := by omega
    obtain ⟨c, s1, s2, hs4⟩ := Sat.hrOpen hs
    have hh1 : H.ld m 1 = some s1 := by rw [ld_of H hs4.cel]; rfl
    have hh0 : H.ld m 0 = some (.ptr (some (c, 0))) := by rw [ld_of H hs4.cel]; rfl
    have hl := Sat.rowLen (Sat.front hs4 2 (by simp))
    by_cases h8 : 8 ≤ cs.length
    · have e : cycR cs up period phase st kp = ((0, -33), cs) := by unfold cycR; rw [if_neg hb', if_pos h8]
      rw [e] at hk
      have h8' : (8 : Int) ≤ cs.length := by omega
      simp [h1, h2, h3, h4, hh1, hl, h8']
      exact hk _ _ _ ⟨rfl, rfl⟩ (by (repeat refine Sat.bump ?_ _); exact hs)
    · have e : cycR cs up period phase st kp = (((cs.length : Int) + 1, 0), cs ++ [⟨phase + up, phase + up, period, st, kp⟩]) := by unfold cycR; rw [if_neg hb', if_neg h8]
      rw [e] at hk
      have h8' : ¬ (8 : Int) ≤ cs.length := by omega
      obtain ⟨t, hs5⟩ := Sat.rkOpen hs4.swap
      have hk2 : H.ld c 2 = some (.int .u64 up) := by rw [ld_of H hs5.cel]; rfl
      have w1 : IntKind.u64.wrap phase = phase := wrap_u64 (by omega) (by omega)
      have w2 : IntKind.u64.wrap period = period := wrap_u64 (by omega) (by omega)
      have w3 : IntKind.u64.wrap (up + phase) = phase + up := by rw [wrap_u64 (by omega) (by omega)]; omega
      simp [h1, h2, h3, h4, hh1, hh0, hl, h8', hk2, w1, w2, w3]
      have hs6 := Sat.frees ((((hs4.bump 2).bump 14).bump 6).bump 11) 19 [1, 6, 14, 15] (by decide) (by decide)
      simp only [List.map_cons, List.map_nil, List.cons_append, List.nil_append, bump_next, Nat.add_assoc] at hs6
      refine ⟨_, new_of _ hs6.fre, ?_⟩
      have hs7 := Sat.mk hs6 []
      have hs8 : Sat ρ _ (Row encQ 5 (.slice (some (_, 0)) 0 0 5) [] :: _) := Sat.mkRow (enc := encQ) (k := 5) (r := []) (j := []) (c := 0) hs7 (by simp) (by simp)
      generalize AH.set _ _ (Blk.cells false []) = H7 at *
      have hm1 : H7.ld m 1 = some s1 := by rw [ld_of H7 (Sat.front hs8 4 (by simp)).cel]; rfl
      simp [hm1]
      obtain ⟨sa, H8, e8, hs9, hn8⟩ := Sat.append (enc := encQ) (k := 5) (bytes := 32) (n := 0) (x := .s s1) (r2 := cs) encQ_len hs8 (Sat.rowSrc encQ_len (Sat.front hs8 6 (by simp))) (Sat.rowSl (Sat.front hs8 6 (by simp))) (by simp; omega)
      refine ⟨_, e8, ?_⟩
      rw [List.nil_append] at hs9
      have hs10 := Sat.swap hs9
      refine ⟨_, new_of _ hs10.fre, ?_⟩
      have hs11 := Sat.mk hs10 [.int .u64 (phase + up), .int .u64 period, .bool st, .bool kp, .int .u64 (phase + up)]
      have hs12 := Sat.re hs11 [1, 2, 0] (by simp) (by decide)
      obtain ⟨sb, H9, e9, hs13, hn9⟩ := Sat.append1 (k := 5) (enc := encQ) (bytes := 32) (c := 1) (o := 0) (e := (⟨phase + up, phase + up, period, st, kp⟩ : Cyc)) (r := cs) encQ_len hs12 rfl (by simp) (by omega)
      refine ⟨_, e9, ?_⟩
      have hs14 := Sat.sel hs13 [2, 3, 0, 5] 6 (by simp) (by decide)
      have hb5 := hs14.cel
      simp [AH.stn, hb5, splice]
      have hs15 := Sat.set hs14 [.ptr (some (c, 0)), sb, s2]
      have hl2 := Sat.rowLen (Sat.front hs15 2 (by simp))
      simp [AH.ld, hl2]
      exact hk _ _ _ ⟨rfl, rfl⟩ ((Sat.hrClose hs15).bump _)
theorem RhAlarm_tri (hok : HdOk cs al up) : Tri tab noExt F.detentref20_Hands_NewAlarm [ptr m] [HrD m cs al L last tic up base] fun v P' => v = .tup [.s (.int .i64 (almR al).1.1), .s (.int .i64 (almR al).1.2)] ∧ P' = [HrD m cs (almR al).2 L last tic up base] := by
  refine Tri.intro fun ρ H Rs K hs hk => ?_
  apply detentref20_Hands_NewAlarm_call
  obtain ⟨c, s1, s2, hs4⟩ := Sat.hrOpen hs
  have hla := hok.la
  have hh2 : H.ld m 2 = some s2 := by rw [ld_of H hs4.cel]; rfl
  have hl := Sat.rowLen (Sat.front hs4 3 (by simp))
  by_cases h8 : 8 ≤ al.length
  · have e : almR al = ((0, -33), al) := by unfold almR; rw [if_pos h8]
    have h8' : (8 : Int) ≤ al.length := by omega
    rw [e] at hk
    simp [hh2, hl, h8']
    exact hk _ _ _ ⟨rfl, rfl⟩ (by (repeat refine Sat.bump ?_ _); exact hs)
  · have e : almR al = (((al.length : Int) + 1, 0), al ++ [⟨false, 0⟩]) := by unfold almR; rw [if_neg h8]
    have h8' : ¬ (8 : Int) ≤ al.length := by omega
    rw [e] at hk
    simp [hh2, hl, h8']
    have hs6 := Sat.frees ((hs4.bump 2).bump 6) 13 [1, 6, 8, 9] (by decide) (by decide)
    simp only [List.map_cons, List.map_nil, List.cons_append, List.nil_append, bump_next, Nat.add_assoc] at hs6
    refine ⟨_, new_of _ hs6.fre, ?_⟩
    have hs7 := Sat.mk hs6 []
    have hs8 : Sat ρ _ (Row encL 2 (.slice (some (_, 0)) 0 0 2) [] :: _) := Sat.mkRow (enc := encL) (k := 2) (r := []) (j := []) (c := 0) hs7 (by simp) (by simp)
    generalize AH.set _ _ (Blk.cells false []) = H7 at *
    have hm1 : H7.ld m 2 = some s2 := by rw [ld_of H7 (Sat.front hs8 4 (by simp)).cel]; rfl
    simp [hm1]
    obtain ⟨sa, H8, e8, hs9, hn8⟩ := Sat.append (enc := encL) (k := 2) (bytes := 16) (n := 0) (x := .s s2) (r2 := al) encL_len hs8 (Sat.rowSrc encL_len (Sat.front hs8 7 (by simp))) (Sat.rowSl (Sat.front hs8 7 (by simp))) (by simp; omega)
    refine ⟨_, e8, ?_⟩
    rw [List.nil_append] at hs9
    have hs10 := Sat.swap hs9
    refine ⟨_, new_of _ hs10.fre, ?_⟩
    have hs11 := Sat.mk hs10 [.bool false, .int .u64 0]
    have hs12 := Sat.re hs11 [1, 2, 0] (by simp) (by decide)
    obtain ⟨sb, H9, e9, hs13, hn9⟩ := Sat.append1 (k := 2) (enc := encL) (bytes := 16) (c := 1) (o := 0) (e := (⟨false, 0⟩ : Alr)) (r := al) encL_len hs12 rfl (by simp) (by omega)
    refine ⟨_, e9, ?_⟩
    have hs14 := Sat.sel hs13 [2, 3, 4, 0] 6 (by simp) (by decide)
    have hb5 := hs14.cel
    simp [AH.stn, hb5, splice]
    have hs15 := Sat.set hs14 [.ptr (some (c, 0)), s1, sb]
    have hl2 := Sat.rowLen (Sat.front hs15 3 (by simp))
    simp [AH.ld, hl2]
    exact hk _ _ _ ⟨rfl, rfl⟩ ((Sat.hrClose hs15).bump _)
theorem RhStop_tri (hok : HdOk cs al up) (no : Int) : Tri tab noExt F.detentref20_Hands_Stop [ptr m, i64 no] [HrD m cs al L last tic up base] fun v P' => v = i64 (modR cs no fun c => { c with on := false }).1 ∧ P' = [HrD m (modR cs no fun c => { c with on := false }).2 al L last tic up base] := by
  refine Tri.intro fun ρ H Rs K hs hk => ?_
  apply detentref20_Hands_Stop_call
  obtain ⟨c, s1, s2, hs1⟩ := Sat.hrOpen hs
  have hl := Sat.rowLen (Sat.front hs1 2 (by simp))
  have hh1 : H.ld m 1 = some s1 := by rw [ld_of H hs1.cel]; rfl
  cases hno : idxN no cs.length with
  | none =>
    have e : modR cs no (fun c => { c with on := false }) = (-18, cs) := by unfold modR; rw [hno]
    rw [e] at hk
    have hno := idxN_none hno
    by_cases h1 : no < 1
    · simp [h1]
      exact hk _ _ _ ⟨rfl, rfl⟩ (by (repeat refine Sat.bump ?_ _); exact hs)
    · have h2 : (cs.length : Int) < no := by omega
      simp [h1, hh1, hl, h2]
      exact hk _ _ _ ⟨rfl, rfl⟩ (by (repeat refine Sat.bump ?_ _); exact hs)
  | some i =>
    obtain ⟨rfl, hi⟩ := idxN_some hno
    have hx : cs[i]? = some cs[i] := List.getElem?_eq_getElem hi
    have e : modR cs ((i : Int) + 1) (fun c => { c with on := false }) = (0, cs.set i { cs[i] with on := false }) := by unfold modR; rw [hno]; simp only; rw [modify_set _ hx]
    rw [e] at hk
    have hlc := hok.lc
    rcases (Sat.re hs1 [2, 0, 1] (by simp) (by decide)).rowInv with ⟨e1, _, h0, _⟩ | ⟨b, cp, j, rfl, hs2, h1, h2⟩
    · subst h0; simp at hi
    have n1 : ¬ (i : Int) + 1 < 1 := by omega
    have n2 : ¬ (cs.length : Int) < (i : Int) + 1 := by omega
    have w : IntKind.i64.wrap (i : Int) = i := wrapN i (by omega)
    have hs4 := (((hs2.bump 1).bump 11).bump 9)
    have q := wrCell encQ_len hs4.cel hx (y := { cs[i] with on := false }) 2 (by omega) (.bool false) (by simp [encQ])
    simp [n1, hh1, n2, w, hi]
    refine ⟨_, q, hk _ _ _ ⟨rfl, rfl⟩ (Sat.bump ?_ _)⟩
    have hs5 := Sat.set hs4 (flat encQ (cs.set i { cs[i] with on := false }) ++ j)
    have hs6 := Sat.mkRow (enc := encQ) (k := 5) (c := cp) hs5 (by simp only [List.length_append, flat_len encQ_len, List.length_set] at h1 ⊢; omega) (by simpa using h2)
    rw [List.length_set] at hs6
    exact Sat.hrClose (Sat.re hs6 [1, 2, 0] (by simp) (by decide))
theorem RhClear_tri (hok : HdOk cs al up) (no : Int) : Tri tab noExt F.detentref20_Hands_Clear [ptr m, i64 no] [HrD m cs al L last tic up base] fun v P' => v = i64 (modR al no fun _ => ⟨false, 0⟩).1 ∧ P' = [HrD m cs (modR al no fun _ => ⟨false, 0⟩).2 L last tic up base] := by
  refine Tri.intro fun ρ H Rs K hs hk => ?_
  apply detentref20_Hands_Clear_call
  obtain ⟨c, s1, s2, hs1⟩ := Sat.hrOpen hs
  have hl := Sat.rowLen (Sat.front hs1 3 (by simp))
  have hh2 : H.ld m 2 = some s2 := by rw [ld_of H hs1.cel]; rfl
  cases hno : idxN no al.length with
  | none =>
    have e : modR al no (fun _ => (⟨false, 0⟩ : Alr)) = (-18, al) := by unfold modR; rw [hno]
    rw [e] at hk
    have hno := idxN_none hno
    by_cases h1 : no < 1
    · simp [h1]
      exact hk _ _ _ ⟨rfl, rfl⟩ (by (repeat refine Sat.bump ?_ _); exact hs)
    · have h2 : (al.length : Int) < no := by omega
      simp [h1, hh2, hl, h2]
      exact hk _ _ _ ⟨rfl, rfl⟩ (by (repeat refine Sat.bump ?_ _); exact hs)
  | some i =>
    obtain ⟨rfl, hi⟩ := idxN_some hno
    have hx : al[i]? = some al[i] := List.getElem?_eq_getElem hi
    have e : modR al ((i : Int) + 1) (fun _ => (⟨false, 0⟩ : Alr)) = (0, al.set i ⟨false, 0⟩) := by unfold modR; rw [hno]; simp only; rw [modify_set _ hx]
    rw [e] at hk
    have hla := hok.la
    rcases (Sat.re hs1 [3, 0, 1, 2] (by simp) (by decide)).rowInv with ⟨e1, _, h0, _⟩ | ⟨b, cp, j, rfl, hs2, h1, h2⟩
    · subst h0; simp at hi
    have n1 : ¬ (i : Int) + 1 < 1 := by omega
    have n2 : ¬ (al.length : Int) < (i : Int) + 1 := by omega
    have w : IntKind.i64.wrap (i : Int) = i := wrapN i (by omega)
    have hs4 := (((hs2.bump 1).bump 11).bump 9)
    have q := wrEl encL_len hs4.cel hi (⟨false, 0⟩ : Alr)
    simp only [encL] at q
    simp [n1, hh2, n2, w, hi]
    refine ⟨_, q, hk _ _ _ ⟨rfl, rfl⟩ (Sat.bump ?_ _)⟩
    have hs5 := Sat.set hs4 (flat encL (al.set i ⟨false, 0⟩) ++ j)
    have hs6 := Sat.mkRow (enc := encL) (k := 2) (c := cp) hs5 (by simp only [List.length_append, flat_len encL_len, List.length_set] at h1 ⊢; omega) (by simpa using h2)
    rw [List.length_set] at hs6
    exact Sat.hrClose (Sat.re hs6 [1, 2, 3, 0] (by simp) (by decide))
end
end Go.AM

/-
  THE ABSTRACT MACHINE: of a piece's slots only those are told that are looked at later.
-/
namespace Go.AM
def Lvs (T : List AV) : List (Nat × AV) → Prop
  | [] => True
  | p :: l => sl T p.1 = p.2 ∧ Lvs T l
def Lv (n : Nat) (l : List (Nat × AV)) (P : List AV → Prop) : Prop := ∀ T : List AV, T.length = n → Lvs T l → P T
theorem Lv.get {n : Nat} {l : List (Nat × AV)} {P : List AV → Prop} {T : List AV} (h1 : T.length = n) (h2 : Lvs T l) (h : Lv n l P) : P T := h T h1 h2
section
variable {tab : Nat → Option RFunc} {ext : Nat → List AV → AH → Option (AV × AH)}
theorem andThen_imp {α : Type} {o : Option α} {K K' : α → Prop} (h : ∀ a, K a → K' a) (hk : andThen o K) : andThen o K' := hk.mono h
theorem condP_imp {v : AV} {A A' B B' : Prop} (h1 : A → A') (h2 : B → B') (h : condP v A B) : condP v A' B' := by
  unfold condP at *
  split <;> simp_all
theorem CallP_imp {f : Nat} {args : List AV} {H : AH} {K K' : AV → AH → Prop} (hk : ∀ v H, K v H → K' v H) (h : CallP tab ext f args H K) : CallP tab ext f args H K' := h.mono hk
theorem callvP_imp {x : AV} {args : List AV} {H : AH} {K K' : AV → AH → Prop} (hk : ∀ v H, K v H → K' v H) (h : callvP tab ext x args H K) : callvP tab ext x args H K' := by
  unfold callvP at *
  split at h
  · exact h.mono hk
  · exact h.mono hk
  · exact h
theorem gP_imp {c : Bool} {H : AH} {P : (AV → AH → Prop) → Prop} {K K' : AV → AH → Prop} (hp : ∀ k k' : AV → AH → Prop, (∀ v H, k v H → k' v H) → P k → P k') (hk : ∀ v H, K v H → K' v H) (h : gP c H P K) : gP c H P K' := by
  unfold gP at *
  cases c
  · exact hk _ _ h
  · exact hp K K' hk h
theorem and_imp2 {A B B' : Prop} (h : B → B') (hb : A ∧ B) : A ∧ B' := ⟨hb.1, h hb.2⟩
end
theorem gP_t {c : Bool} {H : AH} {P : (AV → AH → Prop) → Prop} {K : AV → AH → Prop} (hc : c = true) (h : P K) : gP c H P K := by subst hc; exact h
theorem gP_f {c : Bool} {H : AH} {P : (AV → AH → Prop) → Prop} {K : AV → AH → Prop} (hc : c = false) (h : K undef H) : gP c H P K := by subst hc; exact h
theorem condP_t {A B : Prop} (h : A) : condP (.s (.bool true)) A B := h
theorem condP_f {A B : Prop} (h : B) : condP (.s (.bool false)) A B := h
theorem Lvs.cons {T : List AV} {k : Nat} {v : AV} {l : List (Nat × AV)} (h : sl T k = v) (h' : Lvs T l) : Lvs T ((k, v) :: l) := ⟨h, h'⟩
theorem Lvs.nil {T : List AV} : Lvs T [] := trivial
end Go.AM

/-
  What must hold ahead of each function and each piece,of the slots only what is looked at later.
-/
set_option maxRecDepth 100000
set_option maxHeartbeats 8000000
set_option linter.unusedVariables false
namespace Go.AM
theorem detentlaw20_HandPlays_s0_w {T0 : List AV} (hT : T0.length = 299) (H : AH) (K : Ex → List AV → AH → Prop) (h : andThen (binA .neq (sl T0 11) (sl T0 12)) fun v1 => gP (gd v1 false) (AH.bump H 58) (fun k2 => k2 (sl T0 13) (AH.bump H 58)) fun v3 H4 => gP (gd v1 false) H4 (fun k5 => k5 (sl T0 14) H4) fun v6 H7 => gP (gd v1 false) H7 (fun k8 => andThen (binA .neq v3 v6) fun v11 => k8 v11 H7) fun v9 H10 => andThen (pickA v1 (AV.s (SV.bool true)) v9) fun v12 => gP (gd v12 false) H10 (fun k13 => k13 (sl T0 5) H10) fun v14 H15 => gP (gd v12 false) H15 (fun k16 => andThen (nilCheckA v14) fun v19 => k16 v19 H15) fun v17 H18 => gP (gd v12 false) H18 (fun k20 => andThen (fieldAddrA 0 v17) fun v23 => k20 v23 H18) fun v21 H22 => gP (gd v12 false) H22 (fun k24 => andThen (loadA none v21 H22) fun v27 => k24 v27 H22) fun v25 H26 => gP (gd v12 false) H26 (fun k28 => k28 (sl T0 7) H26) fun v29 H30 => gP (gd v12 false) H30 (fun k31 => andThen (nilCheckA v29) fun v34 => k31 v34 H30) fun v32 H33 => gP (gd v12 false) H33 (fun k35 => andThen (fieldAddrA 0 v32) fun v38 => k35 v38 H33) fun v36 H37 => gP (gd v12 false) H37 (fun k39 => andThen (loadA none v36 H37) fun v42 => k39 v42 H37) fun v40 H41 => gP (gd v12 false) H41 (fun k43 => andThen (nilCheckA v40) fun v46 => k43 v46 H41) fun v44 H45 => gP (gd v12 false) H45 (fun k47 => andThen (fieldAddrA 2 v44) fun v50 => k47 v50 H45) fun v48 H49 => gP (gd v12 false) H49 (fun k51 => andThen (loadA none v48 H49) fun v54 => k51 v54 H49) fun v52 H53 => gP (gd v12 false) H53 (fun k55 => CallP tab noExt F.clock_Clock_Up [v25] H53 fun v58 H59 => k55 v58 H59) fun v56 H57 => (gd v12 false = true → loadA none v36 H57 = some v40) ∧ ((gd v12 false = true → loadA none v48 H57 = some v52) ∧ (gP (gd v12 false) H57 (fun k60 => andThen (binA .neq v56 v52) fun v63 => k60 v63 H57) fun v61 H62 => andThen (pickA v12 (AV.s (SV.bool true)) v61) fun v64 => gP (gd v64 false) H62 (fun k65 => k65 (sl T0 5) H62) fun v66 H67 => gP (gd v64 false) H67 (fun k68 => andThen (nilCheckA v66) fun v71 => k68 v71 H67) fun v69 H70 => gP (gd v64 false) H70 (fun k72 => andThen (fieldAddrA 0 v69) fun v75 => k72 v75 H70) fun v73 H74 => gP (gd v64 false) H74 (fun k76 => andThen (loadA none v73 H74) fun v79 => k76 v79 H74) fun v77 H78 => gP (gd v64 false) H78 (fun k80 => k80 (sl T0 7) H78) fun v81 H82 => gP (gd v64 false) H82 (fun k83 => andThen (nilCheckA v81) fun v86 => k83 v86 H82) fun v84 H85 => gP (gd v64 false) H85 (fun k87 => andThen (fieldAddrA 0 v84) fun v90 => k87 v90 H85) fun v88 H89 => gP (gd v64 false) H89 (fun k91 => andThen (loadA none v88 H89) fun v94 => k91 v94 H89) fun v92 H93 => gP (gd v64 false) H93 (fun k95 => CallP tab noExt F.clock_Clock_Now [v77] H93 fun v98 H99 => k95 v98 H99) fun v96 H97 => (gd v64 false = true → loadA none v88 H97 = some v92) ∧ (gP (gd v64 false) H97 (fun k100 => CallP tab noExt F.detentref8_Clock_Now [v92] H97 fun v103 H104 => k100 v103 H104) fun v101 H102 => gP (gd v64 false) H102 (fun k105 => andThen (binA .neq v96 v101) fun v108 => k105 v108 H102) fun v106 H107 => andThen (pickA v64 (AV.s (SV.bool true)) v106) fun v109 => gP (gd v109 false) H107 (fun k110 => k110 (sl T0 5) H107) fun v111 H112 => gP (gd v109 false) H112 (fun k113 => andThen (nilCheckA v111) fun v116 => k113 v116 H112) fun v114 H115 => gP (gd v109 false) H115 (fun k117 => andThen (fieldAddrA 0 v114) fun v120 => k117 v120 H115) fun v118 H119 => gP (gd v109 false) H119 (fun k121 => andThen (loadA none v118 H119) fun v124 => k121 v124 H119) fun v122 H123 => gP (gd v109 false) H123 (fun k125 => andThen (nilCheckA v122) fun v128 => k125 v128 H123) fun v126 H127 => gP (gd v109 false) H127 (fun k129 => andThen (fieldAddrA 0 v126) fun v132 => k129 v132 H127) fun v130 H131 => gP (gd v109 false) H131 (fun k133 => andThen (loadA none v130 H131) fun v136 => k133 v136 H131) fun v134 H135 => gP (gd v109 false) H135 (fun k137 => k137 (sl T0 7) H135) fun v138 H139 => gP (gd v109 false) H139 (fun k140 => andThen (nilCheckA v138) fun v143 => k140 v143 H139) fun v141 H142 => gP (gd v109 false) H142 (fun k144 => andThen (fieldAddrA 0 v141) fun v147 => k144 v147 H142) fun v145 H146 => gP (gd v109 false) H146 (fun k148 => andThen (loadA none v145 H146) fun v151 => k148 v151 H146) fun v149 H150 => gP (gd v109 false) H150 (fun k152 => andThen (nilCheckA v149) fun v155 => k152 v155 H150) fun v153 H154 => gP (gd v109 false) H154 (fun k156 => andThen (fieldAddrA 0 v153) fun v159 => k156 v159 H154) fun v157 H158 => gP (gd v109 false) H158 (fun k160 => andThen (loadA none v157 H158) fun v163 => k160 v163 H158) fun v161 H162 => gP (gd v109 false) H162 (fun k164 => andThen (nilCheckA v161) fun v167 => k164 v167 H162) fun v165 H166 => gP (gd v109 false) H166 (fun k168 => andThen (fieldAddrA 0 v165) fun v171 => k168 v171 H166) fun v169 H170 => gP (gd v109 false) H170 (fun k172 => andThen (loadA none v169 H170) fun v175 => k172 v175 H170) fun v173 H174 => gP (gd v109 false) H174 (fun k176 => andThen (lenA v173) fun v179 => k176 v179 H174) fun v177 H178 => gP (gd v109 false) H178 (fun k180 => CallP tab noExt F.heap_Timers_Len [v134] H178 fun v183 H184 => k180 v183 H184) fun v181 H182 => (gd v109 false = true → loadA none v145 H182 = some v149) ∧ ((gd v109 false = true → loadA none v157 H182 = some v161) ∧ ((gd v109 false = true → loadA none v169 H182 = some v173) ∧ (gP (gd v109 false) H182 (fun k185 => andThen (binA .neq v181 v177) fun v188 => k185 v188 H182) fun v186 H187 => andThen (pickA v109 (AV.s (SV.bool true)) v186) fun v189 => condP v189 (Lv 299 [(0,(sl T0 0)),(1,(sl T0 1)),(4,(AV.s (SV.bool false))),(5,(sl T0 5)),(7,(sl T0 7)),(9,(sl T0 9)),(11,(sl T0 11)),(12,(sl T0 12)),(13,(sl T0 13)),(14,(sl T0 14))] fun T => K Ex.ret T (AH.bump H187 1)) (Lv 299 [(0,(sl T0 0)),(1,(sl T0 1)),(4,(sl T0 4)),(5,(sl T0 5)),(7,(sl T0 7)),(9,(sl T0 9)),(11,(sl T0 11)),(12,(sl T0 12)),(13,(sl T0 13)),(14,(sl T0 14))] fun T => K Ex.norm T H187)))))))) :
  wpC tab noExt R.detentlaw20_HandPlays_s0 T0 H K := by
  rw [detentlaw20_HandPlays_s0_at hT]
  revert h
  repeat' (first
    | exact Lv.get rfl (by repeat (first | exact Lvs.nil | refine Lvs.cons rfl ?_))
    | refine andThen_imp fun _ => ?_
    | refine condP_imp ?_ ?_
    | refine CallP_imp fun _ _ => ?_
    | refine callvP_imp fun _ _ => ?_
    | refine gP_imp ?_ fun _ _ => ?_
    | refine and_imp2 ?_
    | intro k k' hk
    | exact hk _ _
    | exact fun h => h)
theorem detentlaw20_HandPlays_s1_w {T0 : List AV} (hT : T0.length = 299) (H : AH) (K : Ex → List AV → AH → Prop) (h : andThen (binA .add (sl T0 9) (AV.s (SV.int .i64 1))) fun v1 => Lv 299 [(0,(sl T0 0)),(1,(sl T0 1)),(4,(sl T0 4)),(5,(sl T0 5)),(7,(sl T0 7)),(9,v1),(11,(sl T0 11)),(12,(sl T0 12)),(13,(sl T0 13)),(14,(sl T0 14))] fun T => K Ex.norm T (AH.bump H 3)) :
  wpC tab noExt R.detentlaw20_HandPlays_s1 T0 H K := by
  rw [detentlaw20_HandPlays_s1_at hT]
  revert h
  repeat' (first
    | exact Lv.get rfl (by repeat (first | exact Lvs.nil | refine Lvs.cons rfl ?_))
    | refine andThen_imp fun _ => ?_
    | refine condP_imp ?_ ?_
    | refine CallP_imp fun _ _ => ?_
    | refine callvP_imp fun _ _ => ?_
    | refine gP_imp ?_ fun _ _ => ?_
    | refine and_imp2 ?_
    | intro k k' hk
    | exact hk _ _
    | exact fun h => h)
theorem detentlaw20_HandPlays_l2_w {T0 : List AV} (hT : T0.length = 299) (H : AH) (K : Ex → List AV → AH → Prop) (h : andThen (lenA (sl T0 1)) fun v1 => andThen (binA .lss (sl T0 9) v1) fun v2 => condP v2 (andThen (indexSlA 6 (sl T0 1) (sl T0 9)) fun v3 => andThen (loadA (some 6) v3 (AH.bump (AH.bump H 4) 6)) fun v4 => andThen (AH.new (AH.bump (AH.bump H 4) 6) (AH.next (AH.bump H 4) + 4) (Blk.cells false [.int .i64 0,.int .i64 0,.int .i64 0,.int .i64 0,.bool false,.bool false])) fun H5 => andThen (storeA 6 (AV.s (SV.ptr (some (AH.next (AH.bump H 4) + 4,0)))) v4 H5) fun H6 => andThen (fieldAddrA 0 (AV.s (SV.ptr (some (AH.next (AH.bump H 4) + 4,0))))) fun v7 => andThen (loadA none v7 (AH.bump (AH.bump (AH.bump (AH.bump (AH.bump H6 1) 1) 1) 1) 2)) fun v8 => andThen (binA .eql v8 (AV.s (SV.int .i64 1))) fun v9 => condP v9 (andThen (fieldAddrA 2 (AV.s (SV.ptr (some (AH.next (AH.bump H 4) + 4,0))))) fun v10 => andThen (loadA none v10 (AH.bump (AH.bump (AH.bump (AH.bump (AH.bump (AH.bump (AH.bump H6 1) 1) 1) 1) 2) 2) 10)) fun v11 => andThen (binA .geq v11 (AV.s (SV.int .i64 1))) fun v12 => gP (gd v12 true) (AH.bump (AH.bump (AH.bump (AH.bump (AH.bump (AH.bump (AH.bump H6 1) 1) 1) 1) 2) 2) 10) (fun k13 => andThen (fieldAddrA 2 (AV.s (SV.ptr (some (AH.next (AH.bump H 4) + 4,0))))) fun v16 => k13 v16 (AH.bump (AH.bump (AH.bump (AH.bump (AH.bump (AH.bump (AH.bump H6 1) 1) 1) 1) 2) 2) 10)) fun v14 H15 => gP (gd v12 true) H15 (fun k17 => andThen (loadA none v14 H15) fun v20 => k17 v20 H15) fun v18 H19 => gP (gd v12 true) H19 (fun k21 => k21 (sl T0 0) H19) fun v22 H23 => gP (gd v12 true) H23 (fun k24 => andThen (binA .quo v22 (AV.s (SV.int .i64 20))) fun v27 => k24 v27 H23) fun v25 H26 => gP (gd v12 true) H26 (fun k28 => andThen (binA .lss v18 v25) fun v31 => k28 v31 H26) fun v29 H30 => andThen (pickA v12 v29 (AV.s (SV.bool false))) fun v32 => condP v32 (Lv 299 [(0,(sl T0 0)),(1,(sl T0 1)),(4,(AV.s (SV.bool true))),(5,(sl T0 5)),(7,(sl T0 7)),(9,(sl T0 9)),(11,(AV.s (SV.int .i64 0))),(12,(AV.s (SV.int .i64 0))),(13,(AV.s (SV.int .i64 0))),(14,(AV.s (SV.int .i64 0)))] fun T => K Ex.ret T (AH.bump H30 1)) (andThen (fieldAddrA 2 (AV.s (SV.ptr (some (AH.next (AH.bump H 4) + 4,0))))) fun v33 => andThen (loadA none v33 (AH.bump H30 15)) fun v34 => andThen (fieldAddrA 3 (AV.s (SV.ptr (some (AH.next (AH.bump H 4) + 4,0))))) fun v35 => andThen (loadA none v35 (AH.bump H30 15)) fun v36 => andThen (fieldAddrA 4 (AV.s (SV.ptr (some (AH.next (AH.bump H 4) + 4,0))))) fun v37 => andThen (loadA none v37 (AH.bump H30 15)) fun v38 => andThen (fieldAddrA 5 (AV.s (SV.ptr (some (AH.next (AH.bump H 4) + 4,0))))) fun v39 => andThen (loadA none v39 (AH.bump H30 15)) fun v40 => CallP tab noExt F.cyc_Hands_Cyclic [sl T0 5,v34,v36,v38,v40] (AH.bump H30 15) fun v41 H42 => andThen (extractA 0 v41) fun v43 => andThen (extractA 1 v41) fun v44 => andThen (fieldAddrA 2 (AV.s (SV.ptr (some (AH.next (AH.bump H 4) + 4,0))))) fun v45 => andThen (loadA none v45 (AH.bump H42 15)) fun v46 => andThen (fieldAddrA 3 (AV.s (SV.ptr (some (AH.next (AH.bump H 4) + 4,0))))) fun v47 => andThen (loadA none v47 (AH.bump H42 15)) fun v48 => andThen (fieldAddrA 4 (AV.s (SV.ptr (some (AH.next (AH.bump H 4) + 4,0))))) fun v49 => andThen (loadA none v49 (AH.bump H42 15)) fun v50 => andThen (fieldAddrA 5 (AV.s (SV.ptr (some (AH.next (AH.bump H 4) + 4,0))))) fun v51 => andThen (loadA none v51 (AH.bump H42 15)) fun v52 => CallP tab noExt F.detentref20_Hands_Cyclic [sl T0 7,v46,v48,v50,v52] (AH.bump H42 15) fun v53 H54 => andThen (extractA 0 v53) fun v55 => andThen (extractA 1 v53) fun v56 => Lv 299 [(0,(sl T0 0)),(1,(sl T0 1)),(4,(sl T0 4)),(5,(sl T0 5)),(7,(sl T0 7)),(9,(sl T0 9)),(11,v44),(12,v56),(13,v43),(14,v55)] fun T => wpC tab noExt R.detentlaw20_HandPlays_s0 T (AH.bump H54 8) (blockK 1 (seqK (fun T H => wpC tab noExt R.detentlaw20_HandPlays_s1 T H K) K)))) (andThen (binA .eql v8 (AV.s (SV.int .i64 2))) fun v57 => condP v57 (CallP tab noExt F.cyc_Hands_Alarm [sl T0 5] (AH.bump (AH.bump (AH.bump (AH.bump (AH.bump (AH.bump (AH.bump (AH.bump H6 1) 1) 1) 1) 2) 2) 2) 7) fun v58 H59 => andThen (extractA 0 v58) fun v60 => andThen (extractA 1 v58) fun v61 => CallP tab noExt F.detentref20_Hands_NewAlarm [sl T0 7] (AH.bump H59 7) fun v62 H63 => andThen (extractA 0 v62) fun v64 => andThen (extractA 1 v62) fun v65 => Lv 299 [(0,(sl T0 0)),(1,(sl T0 1)),(4,(sl T0 4)),(5,(sl T0 5)),(7,(sl T0 7)),(9,(sl T0 9)),(11,v61),(12,v65),(13,v60),(14,v64)] fun T => wpC tab noExt R.detentlaw20_HandPlays_s0 T (AH.bump H63 8) (blockK 1 (seqK (fun T H => wpC tab noExt R.detentlaw20_HandPlays_s1 T H K) K))) (andThen (binA .eql v8 (AV.s (SV.int .i64 3))) fun v66 => condP v66 (andThen (fieldAddrA 1 (AV.s (SV.ptr (some (AH.next (AH.bump H 4) + 4,0))))) fun v67 => andThen (loadA none v67 (AH.bump (AH.bump (AH.bump (AH.bump (AH.bump (AH.bump (AH.bump (AH.bump (AH.bump H6 1) 1) 1) 1) 2) 2) 2) 2) 5)) fun v68 => CallP tab noExt F.cyc_Hands_Start [sl T0 5,v68] (AH.bump (AH.bump (AH.bump (AH.bump (AH.bump (AH.bump (AH.bump (AH.bump (AH.bump H6 1) 1) 1) 1) 2) 2) 2) 2) 5) fun v69 H70 => andThen (fieldAddrA 1 (AV.s (SV.ptr (some (AH.next (AH.bump H 4) + 4,0))))) fun v71 => andThen (loadA none v71 (AH.bump H70 5)) fun v72 => CallP tab noExt F.detentref20_Hands_Start [sl T0 7,v72] (AH.bump H70 5) fun v73 H74 => Lv 299 [(0,(sl T0 0)),(1,(sl T0 1)),(4,(sl T0 4)),(5,(sl T0 5)),(7,(sl T0 7)),(9,(sl T0 9)),(11,v69),(12,v73),(13,(AV.s (SV.int .i64 0))),(14,(AV.s (SV.int .i64 0)))] fun T => wpC tab noExt R.detentlaw20_HandPlays_s0 T H74 (blockK 1 (seqK (fun T H => wpC tab noExt R.detentlaw20_HandPlays_s1 T H K) K))) (andThen (binA .eql v8 (AV.s (SV.int .i64 4))) fun v75 => condP v75 (andThen (fieldAddrA 1 (AV.s (SV.ptr (some (AH.next (AH.bump H 4) + 4,0))))) fun v76 => andThen (loadA none v76 (AH.bump (AH.bump (AH.bump (AH.bump (AH.bump (AH.bump (AH.bump (AH.bump (AH.bump (AH.bump H6 1) 1) 1) 1) 2) 2) 2) 2) 2) 5)) fun v77 => CallP tab noExt F.cyc_Hands_Stop [sl T0 5,v77] (AH.bump (AH.bump (AH.bump (AH.bump (AH.bump (AH.bump (AH.bump (AH.bump (AH.bump (AH.bump H6 1) 1) 1) 1) 2) 2) 2) 2) 2) 5) fun v78 H79 => andThen (fieldAddrA 1 (AV.s (SV.ptr (some (AH.next (AH.bump H 4) + 4,0))))) fun v80 => andThen (loadA none v80 (AH.bump H79 5)) fun v81 => CallP tab noExt F.detentref20_Hands_Stop [sl T0 7,v81] (AH.bump H79 5) fun v82 H83 => Lv 299 [(0,(sl T0 0)),(1,(sl T0 1)),(4,(sl T0 4)),(5,(sl T0 5)),(7,(sl T0 7)),(9,(sl T0 9)),(11,v78),(12,v82),(13,(AV.s (SV.int .i64 0))),(14,(AV.s (SV.int .i64 0)))] fun T => wpC tab noExt R.detentlaw20_HandPlays_s0 T H83 (blockK 1 (seqK (fun T H => wpC tab noExt R.detentlaw20_HandPlays_s1 T H K) K))) (andThen (binA .eql v8 (AV.s (SV.int .i64 5))) fun v84 => condP v84 (andThen (fieldAddrA 1 (AV.s (SV.ptr (some (AH.next (AH.bump H 4) + 4,0))))) fun v85 => andThen (loadA none v85 (AH.bump (AH.bump (AH.bump (AH.bump (AH.bump (AH.bump (AH.bump (AH.bump (AH.bump (AH.bump (AH.bump H6 1) 1) 1) 1) 2) 2) 2) 2) 2) 2) 7)) fun v86 => andThen (fieldAddrA 2 (AV.s (SV.ptr (some (AH.next (AH.bump H 4) + 4,0))))) fun v87 => andThen (loadA none v87 (AH.bump (AH.bump (AH.bump (AH.bump (AH.bump (AH.bump (AH.bump (AH.bump (AH.bump (AH.bump (AH.bump H6 1) 1) 1) 1) 2) 2) 2) 2) 2) 2) 7)) fun v88 => CallP tab noExt F.cyc_Hands_Set [sl T0 5,v86,v88] (AH.bump (AH.bump (AH.bump (AH.bump (AH.bump (AH.bump (AH.bump (AH.bump (AH.bump (AH.bump (AH.bump H6 1) 1) 1) 1) 2) 2) 2) 2) 2) 2) 7) fun v89 H90 => andThen (fieldAddrA 1 (AV.s (SV.ptr (some (AH.next (AH.bump H 4) + 4,0))))) fun v91 => andThen (loadA none v91 (AH.bump H90 7)) fun v92 => andThen (fieldAddrA 2 (AV.s (SV.ptr (some (AH.next (AH.bump H 4) + 4,0))))) fun v93 => andThen (loadA none v93 (AH.bump H90 7)) fun v94 => CallP tab noExt F.detentref20_Hands_Set [sl T0 7,v92,v94] (AH.bump H90 7) fun v95 H96 => Lv 299 [(0,(sl T0 0)),(1,(sl T0 1)),(4,(sl T0 4)),(5,(sl T0 5)),(7,(sl T0 7)),(9,(sl T0 9)),(11,v89),(12,v95),(13,(AV.s (SV.int .i64 0))),(14,(AV.s (SV.int .i64 0)))] fun T => wpC tab noExt R.detentlaw20_HandPlays_s0 T H96 (blockK 1 (seqK (fun T H => wpC tab noExt R.detentlaw20_HandPlays_s1 T H K) K))) (andThen (binA .eql v8 (AV.s (SV.int .i64 6))) fun v97 => condP v97 (andThen (fieldAddrA 1 (AV.s (SV.ptr (some (AH.next (AH.bump H 4) + 4,0))))) fun v98 => andThen (loadA none v98 (AH.bump (AH.bump (AH.bump (AH.bump (AH.bump (AH.bump (AH.bump (AH.bump (AH.bump (AH.bump (AH.bump (AH.bump H6 1) 1) 1) 1) 2) 2) 2) 2) 2) 2) 2) 5)) fun v99 => CallP tab noExt F.cyc_Hands_Clear [sl T0 5,v99] (AH.bump (AH.bump (AH.bump (AH.bump (AH.bump (AH.bump (AH.bump (AH.bump (AH.bump (AH.bump (AH.bump (AH.bump H6 1) 1) 1) 1) 2) 2) 2) 2) 2) 2) 2) 5) fun v100 H101 => andThen (fieldAddrA 1 (AV.s (SV.ptr (some (AH.next (AH.bump H 4) + 4,0))))) fun v102 => andThen (loadA none v102 (AH.bump H101 5)) fun v103 => CallP tab noExt F.detentref20_Hands_Clear [sl T0 7,v103] (AH.bump H101 5) fun v104 H105 => Lv 299 [(0,(sl T0 0)),(1,(sl T0 1)),(4,(sl T0 4)),(5,(sl T0 5)),(7,(sl T0 7)),(9,(sl T0 9)),(11,v100),(12,v104),(13,(AV.s (SV.int .i64 0))),(14,(AV.s (SV.int .i64 0)))] fun T => wpC tab noExt R.detentlaw20_HandPlays_s0 T H105 (blockK 1 (seqK (fun T H => wpC tab noExt R.detentlaw20_HandPlays_s1 T H K) K))) (andThen (binA .eql v8 (AV.s (SV.int .i64 7))) fun v106 => condP v106 (andThen (fieldAddrA 2 (AV.s (SV.ptr (some (AH.next (AH.bump H 4) + 4,0))))) fun v107 => andThen (loadA none v107 (AH.bump (AH.bump (AH.bump (AH.bump (AH.bump (AH.bump (AH.bump (AH.bump (AH.bump (AH.bump (AH.bump (AH.bump (AH.bump H6 1) 1) 1) 1) 2) 2) 2) 2) 2) 2) 2) 2) 11)) fun v108 => andThen (fieldAddrA 1 (AV.s (SV.ptr (some (AH.next (AH.bump H 4) + 4,0))))) fun v109 => andThen (loadA none v109 (AH.bump (AH.bump (AH.bump (AH.bump (AH.bump (AH.bump (AH.bump (AH.bump (AH.bump (AH.bump (AH.bump (AH.bump (AH.bump H6 1) 1) 1) 1) 2) 2) 2) 2) 2) 2) 2) 2) 11)) fun v110 => CallP tab noExt F.cyc_Hands_Wait [sl T0 5,v108,v110] (AH.bump (AH.bump (AH.bump (AH.bump (AH.bump (AH.bump (AH.bump (AH.bump (AH.bump (AH.bump (AH.bump (AH.bump (AH.bump H6 1) 1) 1) 1) 2) 2) 2) 2) 2) 2) 2) 2) 11) fun v111 H112 => andThen (extractA 0 v111) fun v113 => andThen (extractA 1 v111) fun v114 => andThen (fieldAddrA 2 (AV.s (SV.ptr (some (AH.next (AH.bump H 4) + 4,0))))) fun v115 => andThen (loadA none v115 (AH.bump H112 11)) fun v116 => andThen (fieldAddrA 1 (AV.s (SV.ptr (some (AH.next (AH.bump H 4) + 4,0))))) fun v117 => andThen (loadA none v117 (AH.bump H112 11)) fun v118 => CallP tab noExt F.detentref20_Hands_Wait [sl T0 7,v116,v118] (AH.bump H112 11) fun v119 H120 => andThen (extractA 0 v119) fun v121 => andThen (extractA 1 v119) fun v122 => Lv 299 [(0,(sl T0 0)),(1,(sl T0 1)),(4,(sl T0 4)),(5,(sl T0 5)),(7,(sl T0 7)),(9,(sl T0 9)),(11,v114),(12,v122),(13,v113),(14,v121)] fun T => wpC tab noExt R.detentlaw20_HandPlays_s0 T (AH.bump H120 8) (blockK 1 (seqK (fun T H => wpC tab noExt R.detentlaw20_HandPlays_s1 T H K) K))) (andThen (binA .eql v8 (AV.s (SV.int .i64 8))) fun v123 => condP v123 (CallP tab noExt F.cyc_Hands_Pass [sl T0 5] (AH.bump (AH.bump (AH.bump (AH.bump (AH.bump (AH.bump (AH.bump (AH.bump (AH.bump (AH.bump (AH.bump (AH.bump (AH.bump (AH.bump H6 1) 1) 1) 1) 2) 2) 2) 2) 2) 2) 2) 2) 2) 7) fun v124 H125 => andThen (extractA 0 v124) fun v126 => andThen (extractA 1 v124) fun v127 => CallP tab noExt F.detentref20_Hands_Pass [sl T0 7] (AH.bump H125 7) fun v128 H129 => andThen (extractA 0 v128) fun v130 => andThen (extractA 1 v128) fun v131 => CallP tab noExt F.detentlaw20_Fired [v126,v130] (AH.bump H129 10) fun v132 H133 => andThen (unA .not v132) fun v134 => gP (gd v134 false) H133 (fun k135 => k135 v127 H133) fun v136 H137 => gP (gd v134 false) H137 (fun k138 => k138 v131 H137) fun v139 H140 => gP (gd v134 false) H140 (fun k141 => CallP tab noExt F.detentlaw3_Same [v136,v139] H140 fun v144 H145 => k141 v144 H145) fun v142 H143 => gP (gd v134 false) H143 (fun k146 => andThen (unA .not v142) fun v149 => k146 v149 H143) fun v147 H148 => andThen (pickA v134 (AV.s (SV.bool true)) v147) fun v150 => condP v150 (Lv 299 [(0,(sl T0 0)),(1,(sl T0 1)),(4,(AV.s (SV.bool false))),(5,(sl T0 5)),(7,(sl T0 7)),(9,(sl T0 9)),(11,(AV.s (SV.int .i64 0))),(12,(AV.s (SV.int .i64 0))),(13,(AV.s (SV.int .i64 0))),(14,(AV.s (SV.int .i64 0)))] fun T => K Ex.ret T (AH.bump H148 1)) (Lv 299 [(0,(sl T0 0)),(1,(sl T0 1)),(4,(sl T0 4)),(5,(sl T0 5)),(7,(sl T0 7)),(9,(sl T0 9)),(11,(AV.s (SV.int .i64 0))),(12,(AV.s (SV.int .i64 0))),(13,(AV.s (SV.int .i64 0))),(14,(AV.s (SV.int .i64 0)))] fun T => wpC tab noExt R.detentlaw20_HandPlays_s0 T H148 (blockK 1 (seqK (fun T H => wpC tab noExt R.detentlaw20_HandPlays_s1 T H K) K)))) (andThen (binA .eql v8 (AV.s (SV.int .i64 9))) fun v151 => condP v151 (andThen (nilCheckA (sl T0 5)) fun v152 => andThen (fieldAddrA 0 v152) fun v153 => andThen (loadA none v153 (AH.bump (AH.bump (AH.bump (AH.bump (AH.bump (AH.bump (AH.bump (AH.bump (AH.bump (AH.bump (AH.bump (AH.bump (AH.bump (AH.bump (AH.bump H6 1) 1) 1) 1) 2) 2) 2) 2) 2) 2) 2) 2) 2) 2) 21)) fun v154 => andThen (nilCheckA v154) fun v155 => andThen (fieldAddrA 0 v155) fun v156 => andThen (loadA none v156 (AH.bump (AH.bump (AH.bump (AH.bump (AH.bump (AH.bump (AH.bump (AH.bump (AH.bump (AH.bump (AH.bump (AH.bump (AH.bump (AH.bump (AH.bump H6 1) 1) 1) 1) 2) 2) 2) 2) 2) 2) 2) 2) 2) 2) 21)) fun v157 => andThen (fieldAddrA 1 (AV.s (SV.ptr (some (AH.next (AH.bump H 4) + 4,0))))) fun v158 => andThen (loadA none v158 (AH.bump (AH.bump (AH.bump (AH.bump (AH.bump (AH.bump (AH.bump (AH.bump (AH.bump (AH.bump (AH.bump (AH.bump (AH.bump (AH.bump (AH.bump H6 1) 1) 1) 1) 2) 2) 2) 2) 2) 2) 2) 2) 2) 2) 21)) fun v159 => andThen (nilCheckA (sl T0 7)) fun v160 => andThen (fieldAddrA 0 v160) fun v161 => andThen (loadA none v161 (AH.bump (AH.bump (AH.bump (AH.bump (AH.bump (AH.bump (AH.bump (AH.bump (AH.bump (AH.bump (AH.bump (AH.bump (AH.bump (AH.bump (AH.bump H6 1) 1) 1) 1) 2) 2) 2) 2) 2) 2) 2) 2) 2) 2) 21)) fun v162 => andThen (nilCheckA v162) fun v163 => andThen (fieldAddrA 0 v163) fun v164 => andThen (loadA none v164 (AH.bump (AH.bump (AH.bump (AH.bump (AH.bump (AH.bump (AH.bump (AH.bump (AH.bump (AH.bump (AH.bump (AH.bump (AH.bump (AH.bump (AH.bump H6 1) 1) 1) 1) 2) 2) 2) 2) 2) 2) 2) 2) 2) 2) 21)) fun v165 => andThen (fieldAddrA 1 (AV.s (SV.ptr (some (AH.next (AH.bump H 4) + 4,0))))) fun v166 => andThen (loadA none v166 (AH.bump (AH.bump (AH.bump (AH.bump (AH.bump (AH.bump (AH.bump (AH.bump (AH.bump (AH.bump (AH.bump (AH.bump (AH.bump (AH.bump (AH.bump H6 1) 1) 1) 1) 2) 2) 2) 2) 2) 2) 2) 2) 2) 2) 21)) fun v167 => CallP tab noExt F.heap_Timers_Cancel [v157,v159] (AH.bump (AH.bump (AH.bump (AH.bump (AH.bump (AH.bump (AH.bump (AH.bump (AH.bump (AH.bump (AH.bump (AH.bump (AH.bump (AH.bump (AH.bump H6 1) 1) 1) 1) 2) 2) 2) 2) 2) 2) 2) 2) 2) 2) 21) fun v168 H169 => (loadA none v161 H169 = some v162) ∧ ((loadA none v164 H169 = some v165) ∧ ((loadA none v166 H169 = some v167) ∧ (CallP tab noExt F.detentref7_Timers_Cancel [v165,v167] H169 fun v170 H171 => andThen (eqsA .bool true v168 v170) fun v172 => condP v172 (Lv 299 [(0,(sl T0 0)),(1,(sl T0 1)),(4,(AV.s (SV.bool false))),(5,(sl T0 5)),(7,(sl T0 7)),(9,(sl T0 9)),(11,(AV.s (SV.int .i64 0))),(12,(AV.s (SV.int .i64 0))),(13,(AV.s (SV.int .i64 0))),(14,(AV.s (SV.int .i64 0)))] fun T => K Ex.ret T (AH.bump H171 1)) (Lv 299 [(0,(sl T0 0)),(1,(sl T0 1)),(4,(sl T0 4)),(5,(sl T0 5)),(7,(sl T0 7)),(9,(sl T0 9)),(11,(AV.s (SV.int .i64 0))),(12,(AV.s (SV.int .i64 0))),(13,(AV.s (SV.int .i64 0))),(14,(AV.s (SV.int .i64 0)))] fun T => wpC tab noExt R.detentlaw20_HandPlays_s0 T H171 (blockK 1 (seqK (fun T H => wpC tab noExt R.detentlaw20_HandPlays_s1 T H K) K))))))) (Lv 299 [(0,(sl T0 0)),(1,(sl T0 1)),(4,(sl T0 4)),(5,(sl T0 5)),(7,(sl T0 7)),(9,(sl T0 9)),(11,(AV.s (SV.int .i64 0))),(12,(AV.s (SV.int .i64 0))),(13,(AV.s (SV.int .i64 0))),(14,(AV.s (SV.int .i64 0)))] fun T => wpC tab noExt R.detentlaw20_HandPlays_s0 T (AH.bump (AH.bump (AH.bump (AH.bump (AH.bump (AH.bump (AH.bump (AH.bump (AH.bump (AH.bump (AH.bump (AH.bump (AH.bump (AH.bump H6 1) 1) 1) 1) 2) 2) 2) 2) 2) 2) 2) 2) 2) 2) (blockK 1 (seqK (fun T H => wpC tab noExt R.detentlaw20_HandPlays_s1 T H K) K)))))))))))) (Lv 299 [(0,(sl T0 0)),(1,(sl T0 1)),(4,(sl T0 4)),(5,(sl T0 5)),(7,(sl T0 7)),(9,(sl T0 9)),(11,(sl T0 11)),(12,(sl T0 12)),(13,(sl T0 13)),(14,(sl T0 14))] fun T => K (Ex.out 0) T (AH.bump H 4))) :
  wpC tab noExt R.detentlaw20_HandPlays_l2 T0 H K := by
  refine Eq.mpr (detentlaw20_HandPlays_l2_gen R.detentlaw20_HandPlays_s0 R.detentlaw20_HandPlays_s1 hT H K) ?_
  revert h
  repeat' (first
    | exact Lv.get rfl (by repeat (first | exact Lvs.nil | refine Lvs.cons rfl ?_))
    | refine andThen_imp fun _ => ?_
    | refine condP_imp ?_ ?_
    | refine CallP_imp fun _ _ => ?_
    | refine callvP_imp fun _ _ => ?_
    | refine gP_imp ?_ fun _ _ => ?_
    | refine and_imp2 ?_
    | intro k k' hk
    | exact hk _ _
    | exact fun h => h)
theorem detentlaw20_HandPlays_s3_w {T0 : List AV} (hT : T0.length = 299) (H : AH) (K : Ex → List AV → AH → Prop) (h : Lv 299 [(0,(sl T0 0)),(1,(sl T0 1)),(4,(AV.s (SV.bool true))),(5,(sl T0 5)),(7,(sl T0 7)),(9,(sl T0 9)),(11,(sl T0 11)),(12,(sl T0 12)),(13,(sl T0 13)),(14,(sl T0 14))] fun T => K Ex.ret T (AH.bump H 1)) :
  wpC tab noExt R.detentlaw20_HandPlays_s3 T0 H K := by
  rw [detentlaw20_HandPlays_s3_at hT]
  revert h
  repeat' (first
    | exact Lv.get rfl (by repeat (first | exact Lvs.nil | refine Lvs.cons rfl ?_))
    | refine andThen_imp fun _ => ?_
    | refine condP_imp ?_ ?_
    | refine CallP_imp fun _ _ => ?_
    | refine callvP_imp fun _ _ => ?_
    | refine gP_imp ?_ fun _ _ => ?_
    | refine and_imp2 ?_
    | intro k k' hk
    | exact hk _ _
    | exact fun h => h)
theorem detentlaw20_HandPlays_callw {a0 a1 : AV} {H : AH} {K : AV → AH → Prop} (h : CallP tab noExt F.detentlaw20_known [] (AH.bump (AH.bump H 1) 2) fun v1 H2 => andThen (unA .not v1) fun v3 => condP v3 (andThen (some (AV.s (SV.bool false))) fun v => K v (AH.bump H2 1)) (andThen (lenA a1) fun v4 => andThen (binA .gtr v4 (AV.s (SV.int .i64 80))) fun v5 => condP v5 (andThen (some (AV.s (SV.bool true))) fun v => K v (AH.bump (AH.bump H2 3) 1)) (CallP tab noExt F.cyc_NewHands [a0] (AH.bump (AH.bump H2 3) 7) fun v6 H7 => andThen (extractA 0 v6) fun v8 => andThen (extractA 1 v6) fun v9 => CallP tab noExt F.detentref20_New [a0] (AH.bump H7 7) fun v10 H11 => andThen (extractA 0 v10) fun v12 => andThen (extractA 1 v10) fun v13 => andThen (binA .neq v9 v13) fun v14 => gP (gd v14 false) (AH.bump H11 10) (fun k15 => k15 v8 (AH.bump H11 10)) fun v16 H17 => gP (gd v14 false) H17 (fun k18 => andThen (eqsA .ptr false v16 (AV.s (SV.ptr none))) fun v21 => k18 v21 H17) fun v19 H20 => gP (gd v14 false) H20 (fun k22 => k22 v13 H20) fun v23 H24 => gP (gd v14 false) H24 (fun k25 => andThen (binA .neq v23 (AV.s (SV.int .i64 0))) fun v28 => k25 v28 H24) fun v26 H27 => gP (gd v14 false) H27 (fun k29 => andThen (eqsA .bool true v19 v26) fun v32 => k29 v32 H27) fun v30 H31 => andThen (pickA v14 (AV.s (SV.bool true)) v30) fun v33 => condP v33 (andThen (some (AV.s (SV.bool false))) fun v => K v (AH.bump H31 1)) (andThen (eqsA .ptr false v12 (AV.s (SV.ptr none))) fun v34 => condP v34 (andThen (some (AV.s (SV.bool true))) fun v => K v (AH.bump (AH.bump H31 2) 1)) (Lv 299 [(0,a0),(1,a1),(4,(AV.s (SV.bool false))),(5,v8),(7,v12),(9,(AV.s (SV.int .i64 0))),(11,undef),(12,undef),(13,undef),(14,undef)] fun T => loopP tab noExt R.detentlaw20_HandPlays_l2 T (AH.bump (AH.bump H31 2) 1) (blockK 0 (seqK (fun T H => wpC tab noExt R.detentlaw20_HandPlays_s3 T H (retK [.tmp 4] K)) (retK [.tmp 4] K)))))))) : CallP tab noExt F.detentlaw20_HandPlays [a0,a1] H K := by
  apply detentlaw20_HandPlays_call
  revert h
  repeat' (first
    | exact Lv.get rfl (by repeat (first | exact Lvs.nil | refine Lvs.cons rfl ?_))
    | refine andThen_imp fun _ => ?_
    | refine condP_imp ?_ ?_
    | refine CallP_imp fun _ _ => ?_
    | refine callvP_imp fun _ _ => ?_
    | refine gP_imp ?_ fun _ _ => ?_
    | refine and_imp2 ?_
    | intro k k' hk
    | exact hk _ _
    | exact fun h => h)
theorem detentlaw20_Fired_l0_w {T0 : List AV} (hT : T0.length = 54) (H : AH) (K : Ex → List AV → AH → Prop) (h : andThen (lenA (sl T0 0)) fun v1 => andThen (binA .lss (sl T0 5) v1) fun v2 => condP v2 (andThen (indexSlA 3 (sl T0 0) (sl T0 5)) fun v3 => andThen (fieldAddrA 0 v3) fun v4 => andThen (loadA none v4 (AH.bump (AH.bump H 4) 37)) fun v5 => andThen (indexSlA 3 (sl T0 1) (sl T0 5)) fun v6 => andThen (fieldAddrA 0 v6) fun v7 => andThen (loadA none v7 (AH.bump (AH.bump H 4) 37)) fun v8 => andThen (eqsA .bool true v5 v8) fun v9 => gP (gd v9 false) (AH.bump (AH.bump H 4) 37) (fun k10 => k10 (sl T0 0) (AH.bump (AH.bump H 4) 37)) fun v11 H12 => gP (gd v9 false) H12 (fun k13 => k13 (sl T0 5) H12) fun v14 H15 => gP (gd v9 false) H15 (fun k16 => andThen (indexSlA 3 v11 v14) fun v19 => k16 v19 H15) fun v17 H18 => gP (gd v9 false) H18 (fun k20 => andThen (fieldAddrA 1 v17) fun v23 => k20 v23 H18) fun v21 H22 => gP (gd v9 false) H22 (fun k24 => andThen (loadA none v21 H22) fun v27 => k24 v27 H22) fun v25 H26 => gP (gd v9 false) H26 (fun k28 => k28 (sl T0 1) H26) fun v29 H30 => gP (gd v9 false) H30 (fun k31 => k31 (sl T0 5) H30) fun v32 H33 => gP (gd v9 false) H33 (fun k34 => andThen (indexSlA 3 v29 v32) fun v37 => k34 v37 H33) fun v35 H36 => gP (gd v9 false) H36 (fun k38 => andThen (fieldAddrA 1 v35) fun v41 => k38 v41 H36) fun v39 H40 => gP (gd v9 false) H40 (fun k42 => andThen (loadA none v39 H40) fun v45 => k42 v45 H40) fun v43 H44 => gP (gd v9 false) H44 (fun k46 => andThen (binA .neq v25 v43) fun v49 => k46 v49 H44) fun v47 H48 => andThen (pickA v9 (AV.s (SV.bool true)) v47) fun v50 => gP (gd v50 false) H48 (fun k51 => k51 (sl T0 0) H48) fun v52 H53 => gP (gd v50 false) H53 (fun k54 => k54 (sl T0 5) H53) fun v55 H56 => gP (gd v50 false) H56 (fun k57 => andThen (indexSlA 3 v52 v55) fun v60 => k57 v60 H56) fun v58 H59 => gP (gd v50 false) H59 (fun k61 => andThen (fieldAddrA 2 v58) fun v64 => k61 v64 H59) fun v62 H63 => gP (gd v50 false) H63 (fun k65 => andThen (loadA none v62 H63) fun v68 => k65 v68 H63) fun v66 H67 => gP (gd v50 false) H67 (fun k69 => k69 (sl T0 1) H67) fun v70 H71 => gP (gd v50 false) H71 (fun k72 => k72 (sl T0 5) H71) fun v73 H74 => gP (gd v50 false) H74 (fun k75 => andThen (indexSlA 3 v70 v73) fun v78 => k75 v78 H74) fun v76 H77 => gP (gd v50 false) H77 (fun k79 => andThen (fieldAddrA 2 v76) fun v82 => k79 v82 H77) fun v80 H81 => gP (gd v50 false) H81 (fun k83 => andThen (loadA none v80 H81) fun v86 => k83 v86 H81) fun v84 H85 => gP (gd v50 false) H85 (fun k87 => andThen (binA .neq v66 v84) fun v90 => k87 v90 H85) fun v88 H89 => andThen (pickA v50 (AV.s (SV.bool true)) v88) fun v91 => condP v91 (Lv 54 [(0,(sl T0 0)),(1,(sl T0 1)),(4,(AV.s (SV.bool false))),(5,(sl T0 5))] fun T => K Ex.ret T (AH.bump H89 1)) (andThen (binA .add (sl T0 5) (AV.s (SV.int .i64 1))) fun v92 => Lv 54 [(0,(sl T0 0)),(1,(sl T0 1)),(4,(sl T0 4)),(5,v92)] fun T => K Ex.norm T (AH.bump H89 3))) (Lv 54 [(0,(sl T0 0)),(1,(sl T0 1)),(4,(sl T0 4)),(5,(sl T0 5))] fun T => K (Ex.out 0) T (AH.bump H 4))) :
  wpC tab noExt R.detentlaw20_Fired_l0 T0 H K := by
  rw [detentlaw20_Fired_l0_at hT]
  revert h
  repeat' (first
    | exact Lv.get rfl (by repeat (first | exact Lvs.nil | refine Lvs.cons rfl ?_))
    | refine andThen_imp fun _ => ?_
    | refine condP_imp ?_ ?_
    | refine CallP_imp fun _ _ => ?_
    | refine callvP_imp fun _ _ => ?_
    | refine gP_imp ?_ fun _ _ => ?_
    | refine and_imp2 ?_
    | intro k k' hk
    | exact hk _ _
    | exact fun h => h)
theorem detentlaw20_Fired_s1_w {T0 : List AV} (hT : T0.length = 54) (H : AH) (K : Ex → List AV → AH → Prop) (h : Lv 54 [(0,(sl T0 0)),(1,(sl T0 1)),(4,(AV.s (SV.bool true))),(5,(sl T0 5))] fun T => K Ex.ret T (AH.bump H 1)) :
  wpC tab noExt R.detentlaw20_Fired_s1 T0 H K := by
  rw [detentlaw20_Fired_s1_at hT]
  revert h
  repeat' (first
    | exact Lv.get rfl (by repeat (first | exact Lvs.nil | refine Lvs.cons rfl ?_))
    | refine andThen_imp fun _ => ?_
    | refine condP_imp ?_ ?_
    | refine CallP_imp fun _ _ => ?_
    | refine callvP_imp fun _ _ => ?_
    | refine gP_imp ?_ fun _ _ => ?_
    | refine and_imp2 ?_
    | intro k k' hk
    | exact hk _ _
    | exact fun h => h)
theorem detentlaw20_Fired_callw {a0 a1 : AV} {H : AH} {K : AV → AH → Prop} (h : andThen (lenA a0) fun v1 => andThen (lenA a1) fun v2 => andThen (binA .neq v1 v2) fun v3 => condP v3 (andThen (some (AV.s (SV.bool false))) fun v => K v (AH.bump (AH.bump (AH.bump H 1) 5) 1)) (Lv 54 [(0,a0),(1,a1),(4,(AV.s (SV.bool false))),(5,(AV.s (SV.int .i64 0)))] fun T => loopP tab noExt R.detentlaw20_Fired_l0 T (AH.bump (AH.bump (AH.bump H 1) 5) 1) (blockK 0 (seqK (fun T H => wpC tab noExt R.detentlaw20_Fired_s1 T H (retK [.tmp 4] K)) (retK [.tmp 4] K))))) : CallP tab noExt F.detentlaw20_Fired [a0,a1] H K := by
  apply detentlaw20_Fired_call
  revert h
  repeat' (first
    | exact Lv.get rfl (by repeat (first | exact Lvs.nil | refine Lvs.cons rfl ?_))
    | refine andThen_imp fun _ => ?_
    | refine condP_imp ?_ ?_
    | refine CallP_imp fun _ _ => ?_
    | refine callvP_imp fun _ _ => ?_
    | refine gP_imp ?_ fun _ _ => ?_
    | refine and_imp2 ?_
    | intro k k' hk
    | exact hk _ _
    | exact fun h => h)
theorem detentref20_Hands_Pass_l0_w {T0 : List AV} (hT : T0.length = 142) (H : AH) (K : Ex → List AV → AH → Prop) (h : andThen (nilCheckA (sl T0 0)) fun v1 => andThen (fieldAddrA 1 v1) fun v2 => andThen (loadA none v2 (AH.bump H 26)) fun v3 => andThen (indexSlA 5 v3 (sl T0 6)) fun v4 => andThen (fieldAddrA 2 v4) fun v5 => andThen (loadA none v5 (AH.bump H 26)) fun v6 => gP (gd v6 true) (AH.bump H 26) (fun k7 => k7 (sl T0 0) (AH.bump H 26)) fun v8 H9 => gP (gd v6 true) H9 (fun k10 => andThen (nilCheckA v8) fun v13 => k10 v13 H9) fun v11 H12 => gP (gd v6 true) H12 (fun k14 => andThen (fieldAddrA 1 v11) fun v17 => k14 v17 H12) fun v15 H16 => gP (gd v6 true) H16 (fun k18 => andThen (loadA none v15 H16) fun v21 => k18 v21 H16) fun v19 H20 => gP (gd v6 true) H20 (fun k22 => k22 (sl T0 6) H20) fun v23 H24 => gP (gd v6 true) H24 (fun k25 => andThen (indexSlA 5 v19 v23) fun v28 => k25 v28 H24) fun v26 H27 => gP (gd v6 true) H27 (fun k29 => andThen (fieldAddrA 4 v26) fun v32 => k29 v32 H27) fun v30 H31 => gP (gd v6 true) H31 (fun k33 => andThen (loadA none v30 H31) fun v36 => k33 v36 H31) fun v34 H35 => gP (gd v6 true) H35 (fun k37 => k37 (sl T0 0) H35) fun v38 H39 => gP (gd v6 true) H39 (fun k40 => andThen (nilCheckA v38) fun v43 => k40 v43 H39) fun v41 H42 => gP (gd v6 true) H42 (fun k44 => andThen (fieldAddrA 0 v41) fun v47 => k44 v47 H42) fun v45 H46 => gP (gd v6 true) H46 (fun k48 => andThen (loadA none v45 H46) fun v51 => k48 v51 H46) fun v49 H50 => gP (gd v6 true) H50 (fun k52 => andThen (nilCheckA v49) fun v55 => k52 v55 H50) fun v53 H54 => gP (gd v6 true) H54 (fun k56 => andThen (fieldAddrA 2 v53) fun v59 => k56 v59 H54) fun v57 H58 => gP (gd v6 true) H58 (fun k60 => andThen (loadA none v57 H58) fun v63 => k60 v63 H58) fun v61 H62 => gP (gd v6 true) H62 (fun k64 => andThen (binA .leq v34 v61) fun v67 => k64 v67 H62) fun v65 H66 => andThen (pickA v6 v65 (AV.s (SV.bool false))) fun v68 => condP v68 (andThen (binA .add (sl T0 6) (AV.s (SV.int .i64 1))) fun v69 => andThen (nilCheckA (sl T0 0)) fun v70 => andThen (fieldAddrA 1 v70) fun v71 => andThen (loadA none v71 (AH.bump H66 14)) fun v72 => andThen (indexSlA 5 v72 (sl T0 6)) fun v73 => andThen (fieldAddrA 4 v73) fun v74 => andThen (loadA none v74 (AH.bump H66 14)) fun v75 => andThen (buildA [.bool false,.int .i64 0,.int .u64 0] [(0,1,(AV.s (SV.bool true))),(1,1,v69),(2,1,v75)]) fun v76 => CallP tab noExt F.detentref20_put [sl T0 5,v76] (AH.bump H66 14) fun v77 H78 => andThen (nilCheckA (sl T0 0)) fun v79 => andThen (fieldAddrA 1 v79) fun v80 => andThen (loadA none v80 (AH.bump H78 25)) fun v81 => andThen (nilCheckA (sl T0 0)) fun v82 => andThen (fieldAddrA 1 v82) fun v83 => andThen (loadA none v83 (AH.bump H78 25)) fun v84 => andThen (indexSlA 5 v84 (sl T0 6)) fun v85 => andThen (fieldAddrA 4 v85) fun v86 => andThen (loadA none v86 (AH.bump H78 25)) fun v87 => andThen (nilCheckA (sl T0 0)) fun v88 => andThen (fieldAddrA 1 v88) fun v89 => andThen (loadA none v89 (AH.bump H78 25)) fun v90 => andThen (indexSlA 5 v90 (sl T0 6)) fun v91 => andThen (fieldAddrA 1 v91) fun v92 => andThen (loadA none v92 (AH.bump H78 25)) fun v93 => andThen (binA .add v87 v93) fun v94 => andThen (indexSlA 5 v81 (sl T0 6)) fun v95 => andThen (fieldAddrA 4 v95) fun v96 => andThen (storeA 1 v96 v94 (AH.bump H78 25)) fun H97 => Lv 142 [(0,(sl T0 0)),(2,(sl T0 2)),(3,(sl T0 3)),(4,(sl T0 4)),(5,v77),(6,(sl T0 6)),(7,(sl T0 7))] fun T => K Ex.norm T H97) (Lv 142 [(0,(sl T0 0)),(2,(sl T0 2)),(3,(sl T0 3)),(4,(sl T0 4)),(5,(sl T0 5)),(6,(sl T0 6)),(7,(sl T0 7))] fun T => K (Ex.out 2) T H66)) :
  wpC tab noExt R.detentref20_Hands_Pass_l0 T0 H K := by
  rw [detentref20_Hands_Pass_l0_at hT]
  revert h
  repeat' (first
    | exact Lv.get rfl (by repeat (first | exact Lvs.nil | refine Lvs.cons rfl ?_))
    | refine andThen_imp fun _ => ?_
    | refine condP_imp ?_ ?_
    | refine CallP_imp fun _ _ => ?_
    | refine callvP_imp fun _ _ => ?_
    | refine gP_imp ?_ fun _ _ => ?_
    | refine and_imp2 ?_
    | intro k k' hk
    | exact hk _ _
    | exact fun h => h)
theorem detentref20_Hands_Pass_s1_w {T0 : List AV} (hT : T0.length = 142) (H : AH) (K : Ex → List AV → AH → Prop) (h : andThen (binA .add (sl T0 6) (AV.s (SV.int .i64 1))) fun v1 => Lv 142 [(0,(sl T0 0)),(2,(sl T0 2)),(3,(sl T0 3)),(4,(sl T0 4)),(5,(sl T0 5)),(6,v1),(7,(sl T0 7))] fun T => K Ex.norm T (AH.bump H 3)) :
  wpC tab noExt R.detentref20_Hands_Pass_s1 T0 H K := by
  rw [detentref20_Hands_Pass_s1_at hT]
  revert h
  repeat' (first
    | exact Lv.get rfl (by repeat (first | exact Lvs.nil | refine Lvs.cons rfl ?_))
    | refine andThen_imp fun _ => ?_
    | refine condP_imp ?_ ?_
    | refine CallP_imp fun _ _ => ?_
    | refine callvP_imp fun _ _ => ?_
    | refine gP_imp ?_ fun _ _ => ?_
    | refine and_imp2 ?_
    | intro k k' hk
    | exact hk _ _
    | exact fun h => h)
theorem detentref20_Hands_Pass_l2_w {T0 : List AV} (hT : T0.length = 142) (H : AH) (K : Ex → List AV → AH → Prop) (h : andThen (nilCheckA (sl T0 0)) fun v1 => andThen (fieldAddrA 1 v1) fun v2 => andThen (loadA none v2 (AH.bump H 7)) fun v3 => andThen (lenA v3) fun v4 => andThen (binA .lss (sl T0 6) v4) fun v5 => condP v5 (Lv 142 [(0,(sl T0 0)),(2,(sl T0 2)),(3,(sl T0 3)),(4,(sl T0 4)),(5,(sl T0 5)),(6,(sl T0 6)),(7,(sl T0 7))] fun T => loopP tab noExt R.detentref20_Hands_Pass_l0 T (AH.bump H 7) (blockK 2 (blockK 1 (seqK (fun T H => wpC tab noExt R.detentref20_Hands_Pass_s1 T H K) K)))) (Lv 142 [(0,(sl T0 0)),(2,(sl T0 2)),(3,(sl T0 3)),(4,(sl T0 4)),(5,(sl T0 5)),(6,(sl T0 6)),(7,(sl T0 7))] fun T => K (Ex.out 0) T (AH.bump H 7))) :
  wpC tab noExt R.detentref20_Hands_Pass_l2 T0 H K := by
  rw [detentref20_Hands_Pass_l2_at hT]
  revert h
  repeat' (first
    | exact Lv.get rfl (by repeat (first | exact Lvs.nil | refine Lvs.cons rfl ?_))
    | refine andThen_imp fun _ => ?_
    | refine condP_imp ?_ ?_
    | refine CallP_imp fun _ _ => ?_
    | refine callvP_imp fun _ _ => ?_
    | refine gP_imp ?_ fun _ _ => ?_
    | refine and_imp2 ?_
    | intro k k' hk
    | exact hk _ _
    | exact fun h => h)
theorem detentref20_Hands_Pass_l3_w {T0 : List AV} (hT : T0.length = 142) (H : AH) (K : Ex → List AV → AH → Prop) (h : andThen (nilCheckA (sl T0 0)) fun v1 => andThen (fieldAddrA 2 v1) fun v2 => andThen (loadA none v2 (AH.bump H 7)) fun v3 => andThen (lenA v3) fun v4 => andThen (binA .lss (sl T0 7) v4) fun v5 => condP v5 (andThen (nilCheckA (sl T0 0)) fun v6 => andThen (fieldAddrA 2 v6) fun v7 => andThen (loadA none v7 (AH.bump (AH.bump H 7) 26)) fun v8 => andThen (indexSlA 2 v8 (sl T0 7)) fun v9 => andThen (fieldAddrA 0 v9) fun v10 => andThen (loadA none v10 (AH.bump (AH.bump H 7) 26)) fun v11 => gP (gd v11 true) (AH.bump (AH.bump H 7) 26) (fun k12 => k12 (sl T0 0) (AH.bump (AH.bump H 7) 26)) fun v13 H14 => gP (gd v11 true) H14 (fun k15 => andThen (nilCheckA v13) fun v18 => k15 v18 H14) fun v16 H17 => gP (gd v11 true) H17 (fun k19 => andThen (fieldAddrA 2 v16) fun v22 => k19 v22 H17) fun v20 H21 => gP (gd v11 true) H21 (fun k23 => andThen (loadA none v20 H21) fun v26 => k23 v26 H21) fun v24 H25 => gP (gd v11 true) H25 (fun k27 => k27 (sl T0 7) H25) fun v28 H29 => gP (gd v11 true) H29 (fun k30 => andThen (indexSlA 2 v24 v28) fun v33 => k30 v33 H29) fun v31 H32 => gP (gd v11 true) H32 (fun k34 => andThen (fieldAddrA 1 v31) fun v37 => k34 v37 H32) fun v35 H36 => gP (gd v11 true) H36 (fun k38 => andThen (loadA none v35 H36) fun v41 => k38 v41 H36) fun v39 H40 => gP (gd v11 true) H40 (fun k42 => k42 (sl T0 0) H40) fun v43 H44 => gP (gd v11 true) H44 (fun k45 => andThen (nilCheckA v43) fun v48 => k45 v48 H44) fun v46 H47 => gP (gd v11 true) H47 (fun k49 => andThen (fieldAddrA 0 v46) fun v52 => k49 v52 H47) fun v50 H51 => gP (gd v11 true) H51 (fun k53 => andThen (loadA none v50 H51) fun v56 => k53 v56 H51) fun v54 H55 => gP (gd v11 true) H55 (fun k57 => andThen (nilCheckA v54) fun v60 => k57 v60 H55) fun v58 H59 => gP (gd v11 true) H59 (fun k61 => andThen (fieldAddrA 2 v58) fun v64 => k61 v64 H59) fun v62 H63 => gP (gd v11 true) H63 (fun k65 => andThen (loadA none v62 H63) fun v68 => k65 v68 H63) fun v66 H67 => gP (gd v11 true) H67 (fun k69 => andThen (binA .leq v39 v66) fun v72 => k69 v72 H67) fun v70 H71 => andThen (pickA v11 v70 (AV.s (SV.bool false))) fun v73 => condP v73 (andThen (binA .add (sl T0 7) (AV.s (SV.int .i64 1))) fun v74 => andThen (nilCheckA (sl T0 0)) fun v75 => andThen (fieldAddrA 2 v75) fun v76 => andThen (loadA none v76 (AH.bump H71 14)) fun v77 => andThen (indexSlA 2 v77 (sl T0 7)) fun v78 => andThen (fieldAddrA 1 v78) fun v79 => andThen (loadA none v79 (AH.bump H71 14)) fun v80 => andThen (buildA [.bool false,.int .i64 0,.int .u64 0] [(0,1,(AV.s (SV.bool false))),(1,1,v74),(2,1,v80)]) fun v81 => CallP tab noExt F.detentref20_put [sl T0 5,v81] (AH.bump H71 14) fun v82 H83 => andThen (nilCheckA (sl T0 0)) fun v84 => andThen (fieldAddrA 2 v84) fun v85 => andThen (loadA none v85 (AH.bump H83 8)) fun v86 => andThen (buildA [.bool false,.int .u64 0] []) fun v87 => andThen (indexSlA 2 v86 (sl T0 7)) fun v88 => andThen (storeA 2 v88 v87 (AH.bump H83 8)) fun H89 => andThen (binA .add (sl T0 7) (AV.s (SV.int .i64 1))) fun v90 => Lv 142 [(0,(sl T0 0)),(2,(sl T0 2)),(3,(sl T0 3)),(4,(sl T0 4)),(5,v82),(6,(sl T0 6)),(7,v90)] fun T => K Ex.norm T (AH.bump H89 3)) (andThen (binA .add (sl T0 7) (AV.s (SV.int .i64 1))) fun v91 => Lv 142 [(0,(sl T0 0)),(2,(sl T0 2)),(3,(sl T0 3)),(4,(sl T0 4)),(5,(sl T0 5)),(6,(sl T0 6)),(7,v91)] fun T => K Ex.norm T (AH.bump H71 3))) (Lv 142 [(0,(sl T0 0)),(2,(sl T0 2)),(3,(sl T0 3)),(4,(sl T0 4)),(5,(sl T0 5)),(6,(sl T0 6)),(7,(sl T0 7))] fun T => K (Ex.out 4) T (AH.bump H 7))) :
  wpC tab noExt R.detentref20_Hands_Pass_l3 T0 H K := by
  rw [detentref20_Hands_Pass_l3_at hT]
  revert h
  repeat' (first
    | exact Lv.get rfl (by repeat (first | exact Lvs.nil | refine Lvs.cons rfl ?_))
    | refine andThen_imp fun _ => ?_
    | refine condP_imp ?_ ?_
    | refine CallP_imp fun _ _ => ?_
    | refine callvP_imp fun _ _ => ?_
    | refine gP_imp ?_ fun _ _ => ?_
    | refine and_imp2 ?_
    | intro k k' hk
    | exact hk _ _
    | exact fun h => h)
theorem detentref20_Hands_Pass_s4_w {T0 : List AV} (hT : T0.length = 142) (H : AH) (K : Ex → List AV → AH → Prop) (h : Lv 142 [(0,(sl T0 0)),(2,(sl T0 5)),(3,(sl T0 4)),(4,(sl T0 4)),(5,(sl T0 5)),(6,(sl T0 6)),(7,(sl T0 7))] fun T => K Ex.ret T (AH.bump H 4)) :
  wpC tab noExt R.detentref20_Hands_Pass_s4 T0 H K := by
  rw [detentref20_Hands_Pass_s4_at hT]
  revert h
  repeat' (first
    | exact Lv.get rfl (by repeat (first | exact Lvs.nil | refine Lvs.cons rfl ?_))
    | refine andThen_imp fun _ => ?_
    | refine condP_imp ?_ ?_
    | refine CallP_imp fun _ _ => ?_
    | refine callvP_imp fun _ _ => ?_
    | refine gP_imp ?_ fun _ _ => ?_
    | refine and_imp2 ?_
    | intro k k' hk
    | exact hk _ _
    | exact fun h => h)
theorem detentref20_Hands_Pass_s5_w {T0 : List AV} (hT : T0.length = 142) (H : AH) (K : Ex → List AV → AH → Prop) (h : Lv 142 [(0,(sl T0 0)),(2,(sl T0 2)),(3,(sl T0 3)),(4,(sl T0 4)),(5,(sl T0 5)),(6,(sl T0 6)),(7,(AV.s (SV.int .i64 0)))] fun T => loopP tab noExt R.detentref20_Hands_Pass_l3 T (AH.bump H 1) (blockK 4 (seqK (fun T H => wpC tab noExt R.detentref20_Hands_Pass_s4 T H K) K))) :
  wpC tab noExt R.detentref20_Hands_Pass_s5 T0 H K := by
  rw [detentref20_Hands_Pass_s5_at hT]
  revert h
  repeat' (first
    | exact Lv.get rfl (by repeat (first | exact Lvs.nil | refine Lvs.cons rfl ?_))
    | refine andThen_imp fun _ => ?_
    | refine condP_imp ?_ ?_
    | refine CallP_imp fun _ _ => ?_
    | refine callvP_imp fun _ _ => ?_
    | refine gP_imp ?_ fun _ _ => ?_
    | refine and_imp2 ?_
    | intro k k' hk
    | exact hk _ _
    | exact fun h => h)
theorem detentref20_Hands_Pass_callw {a0 : AV} {H : AH} {K : AV → AH → Prop} (h : andThen (nilCheckA a0) fun v1 => andThen (fieldAddrA 0 v1) fun v2 => andThen (loadA none v2 (AH.bump (AH.bump H 2) 6)) fun v3 => CallP tab noExt F.detentref8_Clock_Tick [v3] (AH.bump (AH.bump H 2) 6) fun v4 H5 => Lv 142 [(0,a0),(2,(AV.s (SV.slice none 0 0 1))),(3,(AV.s (SV.slice none 0 0 1))),(4,v4),(5,(AV.s (SV.slice none 0 0 1))),(6,(AV.s (SV.int .i64 0))),(7,undef)] fun T => loopP tab noExt R.detentref20_Hands_Pass_l2 T (AH.bump (AH.bump H5 1) 1) (blockK 0 (seqK (fun T H => wpC tab noExt R.detentref20_Hands_Pass_s5 T H (retK [.tmp 2,.tmp 3] K)) (retK [.tmp 2,.tmp 3] K)))) : CallP tab noExt F.detentref20_Hands_Pass [a0] H K := by
  apply detentref20_Hands_Pass_call
  revert h
  repeat' (first
    | exact Lv.get rfl (by repeat (first | exact Lvs.nil | refine Lvs.cons rfl ?_))
    | refine andThen_imp fun _ => ?_
    | refine condP_imp ?_ ?_
    | refine CallP_imp fun _ _ => ?_
    | refine callvP_imp fun _ _ => ?_
    | refine gP_imp ?_ fun _ _ => ?_
    | refine and_imp2 ?_
    | intro k k' hk
    | exact hk _ _
    | exact fun h => h)
theorem detentref20_put_l0_w {T0 : List AV} (hT : T0.length = 35) (H : AH) (K : Ex → List AV → AH → Prop) (h : andThen (binA .gtr (sl T0 5) (AV.s (SV.int .i64 0))) fun v1 => gP (gd v1 true) (AH.bump H 11) (fun k2 => andThen (loadA (some 3) (sl T0 3) (AH.bump H 11)) fun v5 => k2 v5 (AH.bump H 11)) fun v3 H4 => gP (gd v1 true) H4 (fun k6 => k6 (sl T0 0) H4) fun v7 H8 => gP (gd v1 true) H8 (fun k9 => k9 (sl T0 5) H8) fun v10 H11 => gP (gd v1 true) H11 (fun k12 => andThen (binA .sub v10 (AV.s (SV.int .i64 1))) fun v15 => k12 v15 H11) fun v13 H14 => gP (gd v1 true) H14 (fun k16 => andThen (indexSlA 3 v7 v13) fun v19 => k16 v19 H14) fun v17 H18 => gP (gd v1 true) H18 (fun k20 => andThen (loadA (some 3) v17 H18) fun v23 => k20 v23 H18) fun v21 H22 => gP (gd v1 true) H22 (fun k24 => CallP tab noExt F.detentref20_before [v3,v21] H22 fun v27 H28 => k24 v27 H28) fun v25 H26 => andThen (pickA v1 v25 (AV.s (SV.bool false))) fun v29 => condP v29 (andThen (binA .sub (sl T0 5) (AV.s (SV.int .i64 1))) fun v30 => Lv 35 [(0,(sl T0 0)),(3,(sl T0 3)),(4,(sl T0 4)),(5,v30)] fun T => K Ex.norm T (AH.bump H26 3)) (Lv 35 [(0,(sl T0 0)),(3,(sl T0 3)),(4,(sl T0 4)),(5,(sl T0 5))] fun T => K (Ex.out 0) T H26)) :
  wpC tab noExt R.detentref20_put_l0 T0 H K := by
  rw [detentref20_put_l0_at hT]
  revert h
  repeat' (first
    | exact Lv.get rfl (by repeat (first | exact Lvs.nil | refine Lvs.cons rfl ?_))
    | refine andThen_imp fun _ => ?_
    | refine condP_imp ?_ ?_
    | refine CallP_imp fun _ _ => ?_
    | refine callvP_imp fun _ _ => ?_
    | refine gP_imp ?_ fun _ _ => ?_
    | refine and_imp2 ?_
    | intro k k' hk
    | exact hk _ _
    | exact fun h => h)
theorem detentref20_put_s1_w {T0 : List AV} (hT : T0.length = 35) (H : AH) (K : Ex → List AV → AH → Prop) (h : andThen (slSlA 3 (sl T0 0) none (some (sl T0 5)) none) fun v1 => andThen (loadA (some 3) (sl T0 3) (AH.bump H 9)) fun v2 => andThen (fillA [] []) fun l3 => andThen (AH.new (AH.bump H 9) (AH.next H + 0) (Blk.cells false l3)) fun H4 => andThen (appendA 3 24 (AH.next H + 4) (AV.s (SV.slice (some (AH.next H + 0,0)) 0 0 3)) v1 H4) fun r5 => (loadA (some 3) (sl T0 3) r5.2 = some v2) ∧ (andThen (fillA [.bool false,.int .i64 0,.int .u64 0] [(0,3,v2)]) fun l6 => andThen (AH.new r5.2 (AH.next H + 6) (Blk.cells false l6)) fun H7 => andThen (appendA 3 24 (AH.next H + 7) r5.1 (AV.s (SV.slice (some (AH.next H + 6,0)) 1 1 3)) H7) fun r8 => andThen (slSlA 3 (sl T0 0) (some (sl T0 5)) none none) fun v9 => andThen (appendA 3 24 (AH.next r8.2 + 4) r8.1 v9 (AH.bump r8.2 6)) fun r10 => Lv 35 [(0,(sl T0 0)),(3,(sl T0 3)),(4,r10.1),(5,(sl T0 5))] fun T => K Ex.ret T r10.2)) :
  wpC tab noExt R.detentref20_put_s1 T0 H K := by
  rw [detentref20_put_s1_at hT]
  revert h
  repeat' (first
    | exact Lv.get rfl (by repeat (first | exact Lvs.nil | refine Lvs.cons rfl ?_))
    | refine andThen_imp fun _ => ?_
    | refine condP_imp ?_ ?_
    | refine CallP_imp fun _ _ => ?_
    | refine callvP_imp fun _ _ => ?_
    | refine gP_imp ?_ fun _ _ => ?_
    | refine and_imp2 ?_
    | intro k k' hk
    | exact hk _ _
    | exact fun h => h)
theorem detentref20_put_callw {a0 a1 : AV} {H : AH} {K : AV → AH → Prop} (h : andThen (AV.cells? a1) fun l1 => andThen (AH.new (AH.bump H 2) (AH.next H + 0) (Blk.cells false l1)) fun H2 => andThen (lenA a0) fun v3 => Lv 35 [(0,a0),(3,(AV.s (SV.ptr (some (AH.next H + 0,0))))),(4,(AV.s (SV.slice none 0 0 1))),(5,v3)] fun T => loopP tab noExt R.detentref20_put_l0 T (AH.bump H2 3) (blockK 0 (seqK (fun T H => wpC tab noExt R.detentref20_put_s1 T H (retK [.tmp 4] K)) (retK [.tmp 4] K)))) : CallP tab noExt F.detentref20_put [a0,a1] H K := by
  apply detentref20_put_call
  revert h
  repeat' (first
    | exact Lv.get rfl (by repeat (first | exact Lvs.nil | refine Lvs.cons rfl ?_))
    | refine andThen_imp fun _ => ?_
    | refine condP_imp ?_ ?_
    | refine CallP_imp fun _ _ => ?_
    | refine callvP_imp fun _ _ => ?_
    | refine gP_imp ?_ fun _ _ => ?_
    | refine and_imp2 ?_
    | intro k k' hk
    | exact hk _ _
    | exact fun h => h)
end Go.AM

/-
  All that is written out small.
-/


/-
  The document's handlers by time: set, started, waited for; one put at its place.
-/
set_option maxRecDepth 10000
namespace Go.AM
attribute [local simp] Nat.add_assoc resA resA1 fillA buildA callvP
section
variable (m : Nat) (cs : List Cyc) (al : List Alr) (L : List Ent) (last tic up base : Int)
theorem RhSet_tri (hok : HdOk cs al up) (ht : 1 ≤ tic ∧ tic ≤ 1000) (no d : Int) (hd1 : -9223372036854775808 ≤ d) (hd2 : d < 9223372036854775808) : Tri tab noExt F.detentref20_Hands_Set [ptr m, i64 no, i64 d] [HrD m cs al L last tic up base] fun v P' => v = i64 (setR al up tic no d).1 ∧ P' = [HrD m cs (setR al up tic no d).2 L last tic up base] := by
  refine Tri.intro fun ρ H Rs K hs hk => ?_
  apply detentref20_Hands_Set_call
  obtain ⟨c, s1, s2, hs1⟩ := Sat.hrOpen hs
  have hup := hok.up0
  have hup1 := hok.up1
  have hla := hok.la
  have hl := Sat.rowLen (Sat.front hs1 3 (by simp))
  have hh2 : H.ld m 2 = some s2 := by rw [ld_of H hs1.cel]; rfl
  cases hno : idxN no al.length with
  | none =>
    have e : setR al up tic no d = (-18, al) := by unfold setR; rw [hno]
    rw [e] at hk
    have hno := idxN_none hno
    by_cases h1 : no < 1
    · simp [h1]
      exact hk _ _ _ ⟨rfl, rfl⟩ (by (repeat refine Sat.bump ?_ _); exact hs)
    · have h2 : (al.length : Int) < no := by omega
      simp [h1, hh2, hl, h2]
      exact hk _ _ _ ⟨rfl, rfl⟩ (by (repeat refine Sat.bump ?_ _); exact hs)
  | some i =>
    obtain ⟨rfl, hi⟩ := idxN_some hno
    have n1 : ¬ (i : Int) + 1 < 1 := by omega
    have n2 : ¬ (al.length : Int) < (i : Int) + 1 := by omega
    have w : IntKind.i64.wrap (i : Int) = i := wrapN i (by omega)
    simp [n1, hh2, hl, n2]
    refine (RefRel_tri d hd1 hd2).use (R := _) (((hs1.bump 1).bump 11).bump 7) ?_
    rintro v H3 P' ⟨rfl, rfl⟩ hs4
    have hs4 : Sat ρ H3 (Cel m [.ptr (some (c, 0)), s1, s2] :: RkA c L last tic up base :: Row encQ 5 s1 cs :: Row encL 2 s2 al :: Rs) := hs4
    by_cases hd : d < 0 ∨ 2147483647 < d
    · have e : setR al up tic ((i : Int) + 1) d = (-17, al) := by unfold setR; rw [hno]; simp only; rw [if_pos hd]
      rw [e] at hk
      rw [if_pos hd]
      simp
      exact hk _ _ _ ⟨rfl, rfl⟩ (Sat.bump (Sat.bump (Sat.hrClose hs4) _) _)
    · have e : setR al up tic ((i : Int) + 1) d = (0, al.set i ⟨true, up + d + tic⟩) := by unfold setR; rw [hno]; simp only; rw [if_neg hd]
      rw [e] at hk
      rw [if_neg hd]
      have hm0 : H3.ld m 0 = some (.ptr (some (c, 0))) := by rw [ld_of H3 hs4.cel]; rfl
      have hm2 : H3.ld m 2 = some s2 := by rw [ld_of H3 hs4.cel]; rfl
      obtain ⟨t, hs5⟩ := Sat.rkOpen hs4.swap
      have hc1 : H3.ld c 1 = some (.int .i64 tic) := by rw [ld_of H3 hs5.cel]; rfl
      have hc2 : H3.ld c 2 = some (.int .u64 up) := by rw [ld_of H3 hs5.cel]; rfl
      rcases (Sat.re hs4 [3, 0, 1, 2] (by simp) (by decide)).rowInv with ⟨e1, _, h0, _⟩ | ⟨b, cp, j, rfl, hs6, h1, h2⟩
      · subst h0; simp at hi
      have w1 : IntKind.u64.wrap (up + d) = up + d := wrap_u64 (by omega) (by omega)
      have w2 : IntKind.u64.wrap (up + d + tic) = up + d + tic := wrap_u64 (by omega) (by omega)
      have w3 : IntKind.u64.wrap tic = tic := wrap_u64 (by omega) (by omega)
      have hs7 := (hs6.bump 2).bump 27
      have q := wrEl encL_len hs7.cel hi (⟨true, up + d + tic⟩ : Alr)
      simp only [encL] at q
      simp [hm0, hm2, hc1, hc2, w, w1, w2, w3, hi]
      refine ⟨_, q, hk _ _ _ ⟨rfl, rfl⟩ (Sat.bump ?_ _)⟩
      have hs8 := Sat.set hs7 (flat encL (al.set i ⟨true, up + d + tic⟩) ++ j)
      have hs9 := Sat.mkRow (enc := encL) (k := 2) (c := cp) hs8 (by simp only [List.length_append, flat_len encL_len, List.length_set] at h1 ⊢; omega) (by simpa using h2)
      rw [List.length_set] at hs9
      exact Sat.hrClose (Sat.re hs9 [1, 2, 3, 0] (by simp) (by decide))
theorem RhStart_tri (hok : HdOk cs al up) (no : Int) : Tri tab noExt F.detentref20_Hands_Start [ptr m, i64 no] [HrD m cs al L last tic up base] fun v P' => v = i64 (modR cs no (startC up)).1 ∧ P' = [HrD m (modR cs no (startC up)).2 al L last tic up base] := by
  refine Tri.intro fun ρ H Rs K hs hk => ?_
  apply detentref20_Hands_Start_call
  obtain ⟨c, s1, s2, hs1⟩ := Sat.hrOpen hs
  have hup := hok.up0
  have hup1 := hok.up1
  have hlc := hok.lc
  have hl := Sat.rowLen (Sat.front hs1 2 (by simp))
  have hh1 : H.ld m 1 = some s1 := by rw [ld_of H hs1.cel]; rfl
  cases hno : idxN no cs.length with
  | none =>
    have e : modR cs no (startC up) = (-18, cs) := by unfold modR; rw [hno]
    rw [e] at hk
    have hno := idxN_none hno
    by_cases h1 : no < 1
    · simp [h1]
      exact hk _ _ _ ⟨rfl, rfl⟩ (by (repeat refine Sat.bump ?_ _); exact hs)
    · have h2 : (cs.length : Int) < no := by omega
      simp [h1, hh1, hl, h2]
      exact hk _ _ _ ⟨rfl, rfl⟩ (by (repeat refine Sat.bump ?_ _); exact hs)
  | some i =>
    obtain ⟨rfl, hi⟩ := idxN_some hno
    have hx : cs[i]? = some cs[i] := List.getElem?_eq_getElem hi
    have hxm := hok.c _ (List.getElem_mem hi)
    have e : modR cs ((i : Int) + 1) (startC up) = (0, cs.set i (startC up cs[i])) := by unfold modR; rw [hno]; simp only; rw [modify_set _ hx]
    rw [e] at hk
    generalize cs[i] = x at *
    have n1 : ¬ (i : Int) + 1 < 1 := by omega
    have n2 : ¬ (cs.length : Int) < (i : Int) + 1 := by omega
    have w : IntKind.i64.wrap (i : Int) = i := wrapN i (by omega)
    rcases (Sat.re hs1 [2, 0, 1] (by simp) (by decide)).rowInv with ⟨e1, _, h0, _⟩ | ⟨b, cp, j, rfl, hs2, h1, h2⟩
    · subst h0; simp at hi
    have hs4 := (((hs2.bump 1).bump 11).bump 8).bump 4
    have q := wrCell encQ_len hs4.cel hx (y := { x with on := true }) 2 (by omega) (.bool true) (by simp [encQ])
    simp [n1, hh1, n2, w, hi]
    refine ⟨_, q, ?_⟩
    have hs5 := Sat.set hs4 (flat encQ (cs.set i { x with on := true }) ++ j)
    generalize AH.set _ b _ = H5 at *
    have hs5 : Sat ρ H5 (Cel b (flat encQ (cs.set i { x with on := true }) ++ j) :: Cel m [.ptr (some (c, 0)), .slice (some (b, 0)) cs.length cp 5, s2] :: RkA c L last tic up base :: Row encL 2 s2 al :: Rs) := hs5
    have hm0 : H5.ld m 0 = some (.ptr (some (c, 0))) := by rw [ld_of H5 (hs5.front 1 (by simp)).cel]; rfl
    obtain ⟨t, hsK⟩ := Sat.rkOpen (hs5.front 2 (by simp))
    have hc2 : H5.ld c 2 = some (.int .u64 up) := by rw [ld_of H5 hsK.cel]; rfl
    have hx2 : (cs.set i { x with on := true })[i]? = some { x with on := true } := by simp [hi]
    have r0 := rdCell encQ_len hs5.cel hx2 0 (by omega)
    have r1 := rdCell encQ_len hs5.cel hx2 1 (by omega)
    have r3 := rdCell encQ_len hs5.cel hx2 3 (by omega)
    simp [encQ] at r0 r1 r3
    have fin : ∀ (H8 : AH) (nxt : Int), Sat ρ H8 (Cel b (flat encQ (cs.set i { x with on := true, next := nxt }) ++ j) :: Cel m [.ptr (some (c, 0)), .slice (some (b, 0)) cs.length cp 5, s2] :: RkA c L last tic up base :: Row encL 2 s2 al :: Rs) → startC up x = { x with on := true, next := nxt } → K (i64 0) H8 := by
      intro H8 nxt hs8 hst
      rw [← hst] at hs8
      refine hk _ _ _ ⟨rfl, rfl⟩ ?_
      have hs10 := Sat.mkRow (enc := encQ) (k := 5) (c := cp) hs8 (by simp only [List.length_append, flat_len encQ_len, List.length_set] at h1 ⊢; omega) (by simpa using h2)
      rw [List.length_set] at hs10
      exact Sat.hrClose (Sat.re hs10 [1, 2, 0] (by simp) (by decide))
    have st : ∀ (H8 : AH) (y : Cyc) (nxt : Int), y = { x with on := true, next := y.next } → Sat ρ H8 (Cel b (flat encQ (cs.set i y) ++ j) :: Cel m [.ptr (some (c, 0)), .slice (some (b, 0)) cs.length cp 5, s2] :: RkA c L last tic up base :: Row encL 2 s2 al :: Rs) →
        ∃ H9, H8.stn b (i * 5 + 4) [.int .u64 nxt] = some H9 ∧ Sat ρ H9 (Cel b (flat encQ (cs.set i { x with on := true, next := nxt }) ++ j) :: Cel m [.ptr (some (c, 0)), .slice (some (b, 0)) cs.length cp 5, s2] :: RkA c L last tic up base :: Row encL 2 s2 al :: Rs) := by
      intro H8 y nxt hy hs8
      have hyx : (cs.set i y)[i]? = some y := by simp [hi]
      have q := wrCell encQ_len hs8.cel hyx (y := { x with on := true, next := nxt }) 4 (by omega) (.int .u64 nxt) (by rw [hy]; simp [encQ])
      rw [List.set_set] at q
      exact ⟨_, q, Sat.set hs8 _⟩
    cases hkp : x.keep
    · rw [hkp] at r3
      have w1 : IntKind.u64.wrap (up + x.period) = up + x.period := wrap_u64 (by omega) (by omega)
      simp [r3, r1, hm0, hc2, w1]
      obtain ⟨H9, q9, hs9⟩ := st ((H5.bump 5).bump 16) _ (up + x.period) rfl ((hs5.bump _).bump _)
      exact ⟨_, q9, fin _ _ (hs9.bump _) (by simp [startC, hkp])⟩
    · rw [hkp] at r3
      simp [r3, r0]
      obtain ⟨H9, q9, hs9⟩ := st ((H5.bump 5).bump 8) _ x.first rfl ((hs5.bump _).bump _)
      refine ⟨_, q9, ?_⟩
      have hm0 : H9.ld m 0 = some (.ptr (some (c, 0))) := by rw [ld_of H9 (hs9.front 1 (by simp)).cel]; rfl
      obtain ⟨t, hsK⟩ := Sat.rkOpen (hs9.front 2 (by simp))
      have hc2 : H9.ld c 2 = some (.int .u64 up) := by rw [ld_of H9 hsK.cel]; rfl
      have hx3 : (cs.set i { x with on := true, next := x.first })[i]? = some { x with on := true, next := x.first } := by simp [hi]
      have r0 := rdCell encQ_len hs9.cel hx3 0 (by omega)
      have r1 := rdCell encQ_len hs9.cel hx3 1 (by omega)
      simp [encQ] at r0 r1
      by_cases hf : up < x.first
      · have hf' : ¬ x.first ≤ up := by omega
        simp [hm0, hc2, r0, hf']
        exact fin _ _ ((hs9.bump _).bump _) (by simp [startC, hkp, hf])
      · have hf' : x.first ≤ up := by omega
        have hp0 : ¬ x.period = 0 := by omega
        have w1 : IntKind.u64.wrap (up - x.first) = up - x.first := wrap_u64 (by omega) (by omega)
        have hdv : (up - x.first).tdiv x.period = (up - x.first) / x.period := Int.tdiv_eq_ediv_of_nonneg (by omega)
        have hd0 : 0 ≤ (up - x.first) / x.period := Int.ediv_nonneg (by omega) (by omega)
        have hd1 : (up - x.first) / x.period ≤ up - x.first := Int.ediv_le_self _ (by omega)
        have hmul : ((up - x.first) / x.period) * x.period ≤ up - x.first := Int.ediv_mul_le _ hp0
        have hmul2 : ((up - x.first) / x.period + 1) * x.period = ((up - x.first) / x.period) * x.period + x.period := by rw [Int.add_mul, Int.one_mul]
        have hmul3 : 0 ≤ ((up - x.first) / x.period) * x.period := Int.mul_nonneg hd0 (by omega)
        have w2 : IntKind.u64.wrap ((up - x.first) / x.period) = (up - x.first) / x.period := wrap_u64 (by omega) (by omega)
        have w3 : IntKind.u64.wrap ((up - x.first) / x.period + 1) = (up - x.first) / x.period + 1 := wrap_u64 (by omega) (by omega)
        have w4 : IntKind.u64.wrap (((up - x.first) / x.period + 1) * x.period) = ((up - x.first) / x.period + 1) * x.period := wrap_u64 (by omega) (by omega)
        have w5 : IntKind.u64.wrap (x.first + ((up - x.first) / x.period + 1) * x.period) = x.first + ((up - x.first) / x.period + 1) * x.period := wrap_u64 (by omega) (by omega)
        simp [hm0, hc2, r0, r1, hf', w1, hp0, hdv, w2, w3, w4, w5]
        obtain ⟨H10, q10, hs10⟩ := st ((H9.bump 12).bump 32) _ (x.first + ((up - x.first) / x.period + 1) * x.period) rfl ((hs9.bump _).bump _)
        exact ⟨_, q10, fin _ _ (hs10.bump _) (by simp [startC, hkp, hf])⟩
def waitR (L : List Ent) (last tic up d arg : Int) : (Int × Int) × List Ent × Int :=
  if arg < 0 ∨ 1000 < arg ∨ d < 0 ∨ 2147483647 < d then ((0, -17), L, last) else ((last + 1, 0), insE ⟨up + d + tic, last + 1, arg⟩ L, last + 1)
theorem Wait_tri (hu : 0 ≤ up ∧ up < 68719476736) (ht : 1 ≤ tic ∧ tic ≤ 1000) (hL : L.length < 256) (hla : last < 4611686018427387904) (d arg : Int) (hd1 : -9223372036854775808 ≤ d) (hd2 : d < 9223372036854775808) :
    Tri tab noExt F.cyc_Hands_Wait [ptr m, i64 d, i64 arg] [HdA m cs al L last tic up base] fun v P' => v = .tup [.s (.int .i64 (waitR L last tic up d arg).1.1), .s (.int .i64 (waitR L last tic up d arg).1.2)] ∧ P' = [HdA m cs al (waitR L last tic up d arg).2.1 (waitR L last tic up d arg).2.2 tic up base] := by
  refine Tri.intro fun ρ H Rs K hs hk => ?_
  apply cyc_Hands_Wait_call
  by_cases h1 : arg < 0
  · have e : waitR L last tic up d arg = ((0, -17), L, last) := by unfold waitR; rw [if_pos (.inl h1)]
    rw [e] at hk
    simp [h1]
    exact hk _ _ _ ⟨rfl, rfl⟩ (by (repeat refine Sat.bump ?_ _); exact hs)
  by_cases h2 : 1000 < arg
  · have e : waitR L last tic up d arg = ((0, -17), L, last) := by unfold waitR; rw [if_pos (.inr (.inl h2))]
    rw [e] at hk
    simp [h1, h2]
    exact hk _ _ _ ⟨rfl, rfl⟩ (by (repeat refine Sat.bump ?_ _); exact hs)
  obtain ⟨c, s1, s2, hs1⟩ := Sat.hdOpen hs
  have hh0 : H.ld m 0 = some (.ptr (some (c, 0))) := by rw [ld_of H hs1.cel]; rfl
  simp [h1, h2, hh0]
  by_cases hd : d < 0 ∨ 2147483647 < d
  · have e : waitR L last tic up d arg = ((0, -17), L, last) := by unfold waitR; rw [if_pos (by omega)]
    rw [e] at hk
    refine (After_no c L last tic up base d arg hd hd1 hd2).use (((hs1.swap.bump _).bump _).bump _) ?_
    rintro v H2 P' ⟨rfl, rfl⟩ hs2
    simp
    exact hk _ _ _ ⟨rfl, rfl⟩ (by (repeat refine Sat.bump ?_ _); exact Sat.hdClose (Sat.swap hs2))
  · have e : waitR L last tic up d arg = ((last + 1, 0), insE ⟨up + d + tic, last + 1, arg⟩ L, last + 1) := by unfold waitR; rw [if_neg (by omega)]
    rw [e] at hk
    have w1 : IntKind.u64.wrap (up + d) = up + d := wrap_u64 (by omega) (by omega)
    have w2 : IntKind.u64.wrap (up + d + tic) = up + d + tic := wrap_u64 (by omega) (by omega)
    refine (After_tri c L last tic up base d arg (by omega) (by omega) hL hla).use (((hs1.swap.bump _).bump _).bump _) ?_
    rintro v H2 P' ⟨rfl, rfl⟩ hs2
    rw [w1, w2] at hs2
    simp
    exact hk _ _ _ ⟨rfl, rfl⟩ (by (repeat refine Sat.bump ?_ _); exact Sat.hdClose (Sat.swap hs2))
theorem RhWait_tri (hu : 0 ≤ up ∧ up < 68719476736) (ht : 1 ≤ tic ∧ tic ≤ 1000) (hL : L.length < 256) (hla : last < 4611686018427387904) (d arg : Int) (hd1 : -9223372036854775808 ≤ d) (hd2 : d < 9223372036854775808) :
    Tri tab noExt F.detentref20_Hands_Wait [ptr m, i64 d, i64 arg] [HrD m cs al L last tic up base] fun v P' => v = .tup [.s (.int .i64 (waitR L last tic up d arg).1.1), .s (.int .i64 (waitR L last tic up d arg).1.2)] ∧ P' = [HrD m cs al (waitR L last tic up d arg).2.1 (waitR L last tic up d arg).2.2 tic up base] := by
  refine Tri.intro fun ρ H Rs K hs hk => ?_
  apply detentref20_Hands_Wait_call
  by_cases h1 : arg < 0
  · have e : waitR L last tic up d arg = ((0, -17), L, last) := by unfold waitR; rw [if_pos (.inl h1)]
    rw [e] at hk
    simp [h1]
    exact hk _ _ _ ⟨rfl, rfl⟩ (by (repeat refine Sat.bump ?_ _); exact hs)
  by_cases h2 : 1000 < arg
  · have e : waitR L last tic up d arg = ((0, -17), L, last) := by unfold waitR; rw [if_pos (.inr (.inl h2))]
    rw [e] at hk
    simp [h1, h2]
    exact hk _ _ _ ⟨rfl, rfl⟩ (by (repeat refine Sat.bump ?_ _); exact hs)
  obtain ⟨c, s1, s2, hs1⟩ := Sat.hrOpen hs
  have hh0 : H.ld m 0 = some (.ptr (some (c, 0))) := by rw [ld_of H hs1.cel]; rfl
  simp [h1, h2, hh0]
  by_cases hd : d < 0 ∨ 2147483647 < d
  · have e : waitR L last tic up d arg = ((0, -17), L, last) := by unfold waitR; rw [if_pos (by omega)]
    rw [e] at hk
    refine (RkAfter_no c L last tic up base d arg hd hd1 hd2).use (((hs1.swap.bump _).bump _).bump _) ?_
    rintro v H2 P' ⟨rfl, rfl⟩ hs2
    simp
    exact hk _ _ _ ⟨rfl, rfl⟩ (by (repeat refine Sat.bump ?_ _); exact Sat.hrClose (Sat.swap hs2))
  · have e : waitR L last tic up d arg = ((last + 1, 0), insE ⟨up + d + tic, last + 1, arg⟩ L, last + 1) := by unfold waitR; rw [if_neg (by omega)]
    rw [e] at hk
    have w1 : IntKind.u64.wrap (up + d) = up + d := wrap_u64 (by omega) (by omega)
    have w2 : IntKind.u64.wrap (up + d + tic) = up + d + tic := wrap_u64 (by omega) (by omega)
    refine (RkAfter_tri c L last tic up base ht d arg (by omega) (by omega) hL hla).use (((hs1.swap.bump _).bump _).bump _) ?_
    rintro v H2 P' ⟨rfl, rfl⟩ hs2
    rw [w1, w2] at hs2
    simp
    exact hk _ _ _ ⟨rfl, rfl⟩ (by (repeat refine Sat.bump ?_ _); exact Sat.hrClose (Sat.swap hs2))
end
theorem before_tri (a b : Fir) : Tri tab noExt F.detentref20_before [.agg (encF a), .agg (encF b)] [] fun v P' => v = bl (ltF a b) ∧ P' = [] := by
  refine Tri.intro fun ρ H Rs K hs hk => ?_
  apply detentref20_before_call
  have hs1 := Sat.frees hs 3 [0, 1] (by decide) (by decide)
  simp only [List.map_cons, List.map_nil, List.cons_append, List.nil_append, Nat.add_zero] at hs1
  simp
  refine ⟨_, new_of _ hs1.fre, ?_⟩
  have hs2 := Sat.mk hs1 (encF a)
  have hs3 := Sat.mk hs2.swap (encF b)
  refine ⟨_, new_of _ hs2.swap.fre, ?_⟩
  have b1 := (hs3.swap).cel
  have b2 := hs3.cel
  have hs4 : Sat ρ _ Rs := (hs3.drop).drop
  generalize ((H.bump 3).set H.next (Blk.cells false (encF a))).set (H.next + 1) (Blk.cells false (encF b)) = H4 at *
  obtain ⟨ac, an, aa⟩ := a
  obtain ⟨bc, bn, ba⟩ := b
  have fin : ∀ (v : Bool) (H' : AH), v = ltF ⟨ac, an, aa⟩ ⟨bc, bn, ba⟩ → Sat ρ H' Rs → K (bl v) H' := fun v H' hv hs' => hk _ _ _ ⟨by rw [hv], rfl⟩ hs'
  by_cases h : aa = ba
  · subst h
    by_cases h2 : ac = bc
    · subst h2
      simp [AH.ld, b1, b2, encF]
      exact fin _ _ (by simp [ltF]) (by (repeat refine Sat.bump ?_ _); exact hs4)
    · cases ac <;> cases bc
      · exact (h2 rfl).elim
      · simp [AH.ld, b1, b2, encF]
        exact fin _ _ (by simp [ltF]) (by (repeat refine Sat.bump ?_ _); exact hs4)
      · simp [AH.ld, b1, b2, encF]
        exact fin _ _ (by simp [ltF]) (by (repeat refine Sat.bump ?_ _); exact hs4)
      · exact (h2 rfl).elim
  · simp [AH.ld, b1, b2, encF, h]
    exact fin _ _ (by simp [ltF, h]) (by (repeat refine Sat.bump ?_ _); exact hs4)
end Go.AM

/-
  The document's handlers by time: what is fired is put at its place; a tick.
-/
set_option maxRecDepth 10000
namespace Go.AM
attribute [local simp] Nat.add_assoc resA resA1 fillA buildA callvP
theorem Sat.rowCut {α : Type} {enc : α → List SV} {k : Nat} (hk : ∀ e, (enc e).length = k) {ρ : HF} {H : AH} {R : List Asr} {s : SV} {r : List α} (h : Sat ρ H (Row enc k s r :: R)) (i : Nat) (hi : i ≤ r.length) :
    ∃ sA sB, slSlA k (.s s) none (some (i64 i)) none = some (.s sA) ∧ slSlA k (.s s) (some (i64 i)) none none = some (.s sB) ∧ slLen (.s sA) = some i ∧ slLen (.s sB) = some (r.length - i) ∧
      ∀ (H' : AH) (R' : List Asr), Sat ρ H' (Row enc k s r :: R') → sliceCells k (.s sA) i H' = some (flat enc (r.take i)) ∧ sliceCells k (.s sB) (r.length - i) H' = some (flat enc (r.drop i)) := by
  rcases h.rowInv with ⟨e, rfl, rfl, _⟩ | ⟨b, c, j, rfl, h1, h2, h3⟩
  · have : i = 0 := by simpa using hi
    subst this
    refine ⟨.slice none 0 0 k, .slice none 0 0 k, by simp [slSlA, boundsA, boundA], by simp [slSlA, boundsA, boundA], rfl, rfl, fun H' R' _ => ⟨rfl, rfl⟩⟩
  · have e1 : i ≤ c := by omega
    refine ⟨.slice (some (b, 0)) i c k, .slice (some (b, i * k)) (r.length - i) (c - i) k, ?_, ?_, rfl, rfl, fun H' R' hs => ⟨?_, ?_⟩⟩
    · simp [slSlA, boundsA, boundA, addO, e1]
    · simp [slSlA, boundsA, boundA, addO, hi, h3]
    · have := Sat.partSrc hk hs (o := 0) (l := 0) (n := i) (c' := c) (by simp) (by omega)
      simpa using this
    · have := Sat.partSrc hk hs (o := i * k) (l := i) (n := r.length - i) (c' := c - i) rfl (by omega)
      rw [this, List.take_of_length_le (by simp)]
section
variable {ρ : HF}
theorem put_s1 (x : Fir) (z : List Fir) (i : Nat) (hi : i ≤ z.length) (hzl : z.length < 1000000000000) (s : SV) (p : Nat) (Rs : List Asr) (T : List AV) (H : AH) (hT : T.length = 35) (t0 : sl T 0 = .s s) (t3 : sl T 3 = .s (.ptr (some (p, 0)))) (t5 : sl T 5 = i64 i)
    (hs : Sat ρ H (Row encF 3 s z :: Cel p (encF x) :: Rs)) (K : Ex → List AV → AH → Prop)
    (hk : ∀ (T' : List AV) (H' : AH) (s' : SV), sl T' 4 = .s s' → Sat ρ H' (Row encF 3 s' (z.take i ++ x :: z.drop i) :: Rs) → K .ret T' H') :
    wpC tab noExt R.detentref20_put_s1 T H K := by
  apply detentref20_put_s1_w hT
  obtain ⟨sA, sB, q1, q2, q3, q4, q5⟩ := Sat.rowCut encF_len hs i hi
  have hlp : ∀ (H' : AH), H'.blk p = some (.cells false (encF x)) → loadA (some 3) (.s (.ptr (some (p, 0)))) H' = some (.agg (encF x)) := by
    intro H' hb
    rw [loadA_n, ldn_of H' hb]
    simp [encF]
  have hs1 := Sat.frees hs 9 [0, 4, 6, 7] (by decide) (by decide)
  simp only [List.map_cons, List.map_nil, List.cons_append, List.nil_append] at hs1
  have l0 := hlp (H.bump 9) (Sat.front hs1 5 (by simp)).cel
  simp only [t0, t3, t5, q1, l0, andThen_some]
  have hz3 : fillA [SV.bool false, SV.int .i64 0, SV.int .u64 0] [(0, 3, .agg (encF x))] = some (encF x) := by simp [encF]
  refine ⟨_, rfl, _, new_of _ hs1.fre, ?_⟩
  have hs2 := Sat.mkRow (enc := encF) (k := 3) (r := []) (j := []) (c := 0) (Sat.mk hs1 []) (by simp) (by simp)
  generalize AH.set _ _ (Blk.cells false []) = H1 at *
  obtain ⟨sa, H2, e2, hs3, hn2⟩ := Sat.append (enc := encF) (k := 3) (bytes := 24) (n := 0) (x := .s sA) (r2 := z.take i) encF_len hs2
    (by have := (q5 _ _ (Sat.front hs2 4 (by simp))).1; rw [List.length_take, Nat.min_eq_left hi]; exact this) (by rw [q3, List.length_take, Nat.min_eq_left hi]) (by simp; omega)
  refine ⟨_, e2, ?_⟩
  rw [List.nil_append] at hs3
  refine ⟨hlp H2 (Sat.front hs3 4 (by simp)).cel, ?_⟩
  refine ⟨_, hz3, ?_⟩
  have hs4 := Sat.swap hs3
  refine ⟨_, new_of _ hs4.fre, ?_⟩
  have hs5 := Sat.re (Sat.mk hs4 (encF x)) [1, 2, 0] (by simp) (by decide)
  generalize AH.set _ _ (Blk.cells false (encF x)) = H3 at *
  obtain ⟨sb, H4, e4, hs6, hn4⟩ := Sat.append1 (k := 3) (enc := encF) (bytes := 24) (c := 1) (o := 0) (e := x) (r := z.take i) encF_len hs5 rfl (by simp [encF]) (by rw [List.length_take]; omega)
  refine ⟨_, e4, ?_⟩
  simp only [q2, andThen_some]
  have hs7 := Sat.frees hs6 6 [4] (by decide) (by decide)
  simp only [List.map_cons, List.map_nil, List.cons_append, List.nil_append] at hs7
  have hs8 := Sat.swap hs7
  obtain ⟨sc, H5, e5, hs9, hn5⟩ := Sat.append (enc := encF) (k := 3) (bytes := 24) (n := 0) (x := .s sB) (r2 := z.drop i) encF_len hs8
    (by have := (q5 _ _ (Sat.front hs8 3 (by simp))).2; rw [List.length_drop]; exact this) (by rw [q4, List.length_drop]) (by simp; omega)
  refine ⟨_, e5, ?_⟩
  intro T' hT' hl
  simp only [Lvs] at hl
  refine hk T' _ sc hl.2.2.1 ?_
  have e : (z.take i ++ [x]) ++ z.drop i = z.take i ++ x :: z.drop i := by simp
  rw [e] at hs9
  exact Sat.sel hs9 [0] 4 (by simp) (by decide)
theorem put_l0 (x : Fir) (z : List Fir) (hzl : z.length < 1000000000000) (s : SV) (p : Nat) (Rs : List Asr) (T : List AV) (H : AH) (hT : T.length = 35) (t0 : sl T 0 = .s s) (t3 : sl T 3 = .s (.ptr (some (p, 0)))) (t5 : sl T 5 = i64 z.length)
    (hs : Sat ρ H (Row encF 3 s z :: Cel p (encF x) :: Rs)) (K : Ex → List AV → AH → Prop)
    (hk : ∀ (T' : List AV) (H' : AH) (i : Nat), T'.length = 35 → sl T' 0 = .s s → sl T' 3 = .s (.ptr (some (p, 0))) → sl T' 5 = i64 i → i ≤ z.length → (∀ y, (z.take i).getLast? = some y → ltF x y = false) → (∀ y, (z.drop i).head? = some y → ltF x y = true) → Sat ρ H' (Row encF 3 s z :: Cel p (encF x) :: Rs) → K (.out 0) T' H') :
    loopP tab noExt R.detentref20_put_l0 T H K := by
  refine loopP_invK (I := fun k T H' => T.length = 35 ∧ sl T 0 = .s s ∧ sl T 3 = .s (.ptr (some (p, 0))) ∧ ∃ i : Nat, sl T 5 = i64 i ∧ i ≤ z.length ∧ k = i ∧ (∀ y, (z.drop i).head? = some y → ltF x y = true) ∧ Sat ρ H' (Row encF 3 s z :: Cel p (encF x) :: Rs)) ?_ z.length _ _ ⟨hT, t0, t3, z.length, t5, Nat.le_refl _, rfl, by simp, hs⟩
  rintro k T H' ⟨hT, t0, t3, i, t5, hi, hk', hd, hs⟩ K' kn kr ko
  apply detentref20_put_l0_w hT
  by_cases h0 : 0 < i
  · obtain ⟨y, hy⟩ : ∃ y, z[i - 1]? = some y := ⟨_, List.getElem?_eq_getElem (by omega)⟩
    obtain ⟨b, cp, j, rfl, hb, _, _⟩ := Sat.rowBlk hs (by omega)
    have hbp := (hs.front 1 (by simp)).cel
    have q1 := rdEl encF_len hb hy
    have hix := ixEl (b := b) (c := cp) (k := 3) (show i - 1 < z.length by omega)
    have w1 := wrapM1 i (by omega) h0
    have h0' : (0 : Int) < i := by omega
    have hlp : H'.ldn p 0 3 = some (encF x) := by rw [ldn_of H' hbp]; simp [encF]
    have hsub : binA .sub (i64 i) (i64 1) = some (i64 (i - 1 : Nat)) := by rw [binA_sub, w1]
    simp only [t0, t3, t5, andThen_some, binA_gtr]
    rw [decide_eq_true h0']
    simp [hlp, w1, hix, q1]
    refine (before_tri x y).use (R := _) (hs.bump _) ?_
    rintro v H2 P' ⟨rfl, rfl⟩ hs2
    have hs2 : Sat ρ H2 (Row encF 3 (.slice (some (b, 0)) z.length cp 3) z :: Cel p (encF x) :: Rs) := hs2
    cases hlt : ltF x y
    · simp
      intro T' hT' hl
      simp only [Lvs] at hl
      refine ko _ _ _ (hk T' _ i hT' hl.1 hl.2.1 hl.2.2.2.1 hi ?_ hd hs2)
      intro w hw
      rw [List.getLast?_eq_getElem?, List.length_take, Nat.min_eq_left hi, List.getElem?_take, if_pos (by omega), hy] at hw
      cases hw; exact hlt
    · simp [w1]
      intro T' hT' hl
      simp only [Lvs] at hl
      refine kn (i - 1) _ _ (by omega) ⟨hT', hl.1, hl.2.1, i - 1, hl.2.2.2.1, by omega, rfl, ?_, hs2.bump _⟩
      intro w hw
      rw [List.head?_drop, hy] at hw
      cases hw; exact hlt
  · have hi0 : i = 0 := by omega
    subst hi0
    simp only [t0, t3, t5, andThen_some, binA_gtr]
    rw [decide_eq_false (by omega)]
    simp
    intro T' hT' hl
    simp only [Lvs] at hl
    exact ko _ _ _ (hk T' _ 0 hT' hl.1 hl.2.1 hl.2.2.2.1 hi (by simp) hd (hs.bump _))
end
theorem put_tri (s : SV) (z : List Fir) (x : Fir) (hz : SrtL ltF z) (hzl : z.length < 1000000000000) : Tri tab noExt F.detentref20_put [.s s, .agg (encF x)] [Row encF 3 s z] fun v P' => ∃ s' z', v = .s s' ∧ SrtL ltF z' ∧ z'.Perm (z ++ [x]) ∧ P' = [Row encF 3 s' z'] := by
  refine Tri.intro fun ρ H Rs K hs hk => ?_
  apply detentref20_put_callw
  have hl := Sat.rowLen (R := Rs) hs
  have hs1 := Sat.frees (R := Row encF 3 s z :: Rs) hs 2 [0] (by decide) (by decide)
  simp only [List.map_cons, List.map_nil, List.cons_append, List.nil_append, Nat.add_zero] at hs1
  simp [hl]
  refine ⟨_, new_of _ hs1.fre, ?_⟩
  have hs2 := Sat.swap (Sat.mk hs1 (encF x))
  intro T' hT' hlv
  simp only [Lvs] at hlv
  refine put_l0 x z hzl s H.next Rs T' _ hT' hlv.1 hlv.2.1 hlv.2.2.2.1 (hs2.bump _) _ ?_
  intro T2 H2 i h0 u0 u3 u5 hi c1 c2 hs3
  simp
  refine put_s1 x z i hi hzl s H.next Rs T2 H2 h0 u0 u3 u5 hs3 _ ?_
  intro T3 H3 s' h4 hs4
  have h4' : T3[4]?.getD undef = .s s' := by rw [← List.getD_eq_getElem?_getD]; exact h4
  simp [h4']
  refine hk _ _ _ ⟨s', _, rfl, srtL_ins ltF_ord (by rw [List.take_append_drop]; exact hz) c1 (fun y hy => lt_flip ltF_ord (c2 y hy)), ?_, rfl⟩ hs4
  refine List.Perm.trans List.perm_middle ?_
  rw [List.take_append_drop]
  exact (List.perm_append_singleton x z).symm
end Go.AM

/-
  The document's handlers by time: a tick.
-/
set_option maxRecDepth 10000
namespace Go.AM
attribute [local simp] Nat.add_assoc resA resA1 fillA buildA callvP
section
variable {ρ : HF}
theorem rpass_l0 (m ck : Nat) (s1 s2 : SV) (tic base last : Int) (L : List Ent) (up : Int) (hu : 0 ≤ up ∧ up < 68719476736) (A B : List Cyc) (c : Cyc) (hc : (0 ≤ c.next ∧ c.next < 4398046511104) ∧ (1 ≤ c.period ∧ c.period < 4294967296)) (i : Nat) (hi : i = A.length) (hi8 : i < 8) (g : List Fir) (hg : (g.length : Int) ≤ i * (up + 1)) (Rs : List Asr) (T : List AV) (H : AH) (hT : T.length = 142) (A3 : AV) (t0 : sl T 0 = ptr m) (t3 : sl T 3 = A3) (so : SV) (t5 : sl T 5 = .s so) (t6 : sl T 6 = i64 i) (z0 : List Fir) (hz0 : SrtL ltF z0) (hzp0 : z0.Perm g)
    (A4 : AV) (t4 : sl T 4 = A4)
    (hs : Sat ρ H (Row encF 3 so z0 :: Row encQ 5 s1 (A ++ c :: B) :: Cel m [.ptr (some (ck, 0)), s1, s2] :: RkA ck L last tic up base :: Rs)) (K : Ex → List AV → AH → Prop)
    (hk : ∀ (T' : List AV) (H' : AH) (so' : SV) (z : List Fir), T'.length = 142 → sl T' 0 = ptr m → sl T' 3 = A3 → sl T' 4 = A4 → sl T' 5 = .s so' → sl T' 6 = i64 i → SrtL ltF z → z.Perm (g ++ firesC c i (firesN c up)) → Sat ρ H' (Row encF 3 so' z :: Row encQ 5 s1 (A ++ cycT up c :: B) :: Cel m [.ptr (some (ck, 0)), s1, s2] :: RkA ck L last tic up base :: Rs) → K (.out 2) T' H') :
    loopP tab noExt R.detentref20_Hands_Pass_l0 T H K := by
  have hN := firesN_le (c := c) (up := up) hc.2.1 hc.1.1 hu.1
  have hmul : (i : Int) * (up + 1) ≤ 8 * (up + 1) := Int.mul_le_mul_of_nonneg_right (by omega) (by omega)
  refine loopP_invK (I := fun k T H' => T.length = 142 ∧ sl T 0 = ptr m ∧ sl T 3 = A3 ∧ sl T 4 = A4 ∧ sl T 6 = i64 i ∧ ∃ (so : SV) (n : Nat) (z : List Fir), sl T 5 = .s so ∧ n ≤ firesN c up ∧ k = firesN c up - n ∧ SrtL ltF z ∧ z.Perm (g ++ firesC c i n) ∧ Sat ρ H' (Row encF 3 so z :: Row encQ 5 s1 (A ++ nextC c n :: B) :: Cel m [.ptr (some (ck, 0)), s1, s2] :: RkA ck L last tic up base :: Rs)) ?_ (firesN c up) _ _ ⟨hT, t0, t3, t4, t6, so, 0, z0, t5, Nat.zero_le _, rfl, hz0, by simpa [firesC] using hzp0, by rw [nextC_zero]; exact hs⟩
  rintro k T H' ⟨hT, t0, t3, t4, t6, so, n, z, t5, hn, hk', hz, hzp, hs⟩ K' kn kr ko
  apply detentref20_Hands_Pass_l0_w hT
  have hx : (A ++ nextC c n :: B)[i]? = some (nextC c n) := by subst hi; simp
  have hiL : i < (A ++ nextC c n :: B).length := (List.getElem?_eq_some_iff.1 hx).1
  obtain ⟨b, cp, j, hsl, hb, hb1, hb2⟩ := Sat.rowBlk (hs.front 1 (by simp)) (by omega)
  have hm1 : H'.ld m 1 = some s1 := by rw [ld_of H' (hs.front 2 (by simp)).cel]; rfl
  have hm0 : H'.ld m 0 = some (.ptr (some (ck, 0))) := by rw [ld_of H' (hs.front 2 (by simp)).cel]; rfl
  obtain ⟨t, hsK⟩ := Sat.rkOpen (hs.front 3 (by simp))
  have hc2 : H'.ld ck 2 = some (.int .u64 up) := by rw [ld_of H' hsK.cel]; rfl
  have hix := ixEl (b := b) (c := cp) (k := 5) hiL
  rw [← hsl] at hix
  have q2 := rdCell encQ_len hb hx 2 (by omega)
  have q4 := rdCell encQ_len hb hx 4 (by omega)
  simp [encQ] at q2 q4
  have hon : (nextC c n).on = c.on := rfl
  have hmore := firesN_more (up := up) hc.2.1 n hn
  have hzl := hzp.length_eq
  rw [List.length_append, firesC_len] at hzl
  by_cases hlt : n < firesN c up
  · obtain ⟨ho, hle⟩ := hmore.2 hlt
    have hn0 : 0 ≤ (nextC c n).next := by
      simp only [nextC]
      have : 0 ≤ (n : Int) * c.period := Int.mul_nonneg (by omega) (by omega)
      omega
    rw [hon, ho] at q2
    have w1 := wrapP1 i (by omega)
    simp only [t0, t3, t4, t5, t6]
    simp [hm1, hix, q2, q4, hm0, hc2, hle, w1]
    refine (put_tri so z ⟨true, (i : Int) + 1, (nextC c n).next⟩ hz (by omega)).use (R := _) ((hs.bump 26).bump 14) ?_
    rintro v H2 P' ⟨so', z', rfl, hz', hzp', rfl⟩ hs2
    have hs2 : Sat ρ H2 (Row encF 3 so' z' :: Row encQ 5 s1 (A ++ nextC c n :: B) :: Cel m [.ptr (some (ck, 0)), s1, s2] :: RkA ck L last tic up base :: Rs) := hs2
    have hm1 : H2.ld m 1 = some s1 := by rw [ld_of H2 (hs2.front 2 (by simp)).cel]; rfl
    have hs3 := hs2.swap
    rcases hs3.rowInv with ⟨e1, _, h0, _⟩ | ⟨b', cp', j', hsl', hs4, h1', h2'⟩
    · rw [h0] at hiL; simp at hiL
    rw [hsl] at hsl'
    cases hsl'
    have q1 := rdCell encQ_len hs4.cel hx 1 (by omega)
    have q4 := rdCell encQ_len hs4.cel hx 4 (by omega)
    simp [encQ] at q1 q4
    have w3 : IntKind.u64.wrap ((nextC c n).next + (nextC c n).period) = (nextC c (n + 1)).next := by
      rw [← nextC_succ]
      have : (nextC c n).period = c.period := rfl
      rw [wrap_u64 (by rw [this]; omega) (by rw [this]; omega)]
      simp [nextC]
    have q3 := wrCell encQ_len (hs4.bump 25).cel hx (y := nextC c (n + 1)) 4 (by omega) (.int .u64 (nextC c (n + 1)).next) (by simp [encQ, nextC])
    have hset : (A ++ nextC c n :: B).set i (nextC c (n + 1)) = A ++ nextC c (n + 1) :: B := by subst hi; simp
    rw [hset] at q3
    simp [hm1, hix, q1, q4, w3]
    refine ⟨_, q3, ?_⟩
    intro T' hT' hl
    simp only [Lvs] at hl
    obtain ⟨u0, _, u3, u4, u5, u6, _⟩ := hl
    have hs5 := Sat.set (hs4.bump 25) (flat encQ (A ++ nextC c (n + 1) :: B) ++ j')
    have hlen : (A ++ nextC c (n + 1) :: B).length = (A ++ nextC c n :: B).length := by simp
    have hs6 := Sat.mkRow (enc := encQ) (k := 5) (c := cp) hs5 (by simp only [List.length_append, flat_len encQ_len] at h1' ⊢; simp at h1' ⊢; omega) (by omega)
    rw [hlen, ← hsl] at hs6
    refine kn (firesN c up - (n + 1)) _ _ (by omega) ⟨hT', u0, u3, u4, u6, so', n + 1, z', u5, hlt, rfl, hz', ?_, hs6.swap⟩
    rw [firesC_succ, ← List.append_assoc]
    exact hzp'.trans (List.Perm.append_right _ hzp)
  · have hne : ¬ (c.on = true ∧ (nextC c n).next ≤ up) := fun h => hlt (hmore.1 h)
    have hn' : n = firesN c up := by omega
    subst hn'
    have key : ∀ (T' : List AV) (H'' : AH), T'.length = 142 → sl T' 0 = ptr m → sl T' 3 = A3 → sl T' 4 = A4 → sl T' 5 = .s so → sl T' 6 = i64 i → Sat ρ H'' (Row encF 3 so z :: Row encQ 5 s1 (A ++ nextC c (firesN c up) :: B) :: Cel m [.ptr (some (ck, 0)), s1, s2] :: RkA ck L last tic up base :: Rs) → K' (.out 2) T' H'' :=
      fun T' H'' h1 h2 h3 h4 h5 h6 h7 => ko _ _ _ (hk _ _ so z h1 h2 h3 h4 h5 h6 hz hzp h7)
    cases ho : c.on
    · rw [hon, ho] at q2
      simp only [t0, t3, t4, t5, t6]
      simp [hm1, hix, q2]
      intro T' hT' hl
      simp only [Lvs] at hl
      obtain ⟨u0, _, u3, u4, u5, u6, _⟩ := hl
      exact key T' _ hT' u0 u3 u4 u5 u6 (hs.bump _)
    · rw [hon, ho] at q2
      have hle : ¬ (nextC c (firesN c up)).next ≤ up := fun h => hne ⟨ho, h⟩
      simp only [t0, t3, t4, t5, t6]
      simp [hm1, hix, q2, q4, hm0, hc2, hle]
      intro T' hT' hl
      simp only [Lvs] at hl
      obtain ⟨u0, _, u3, u4, u5, u6, _⟩ := hl
      exact key T' _ hT' u0 u3 u4 u5 u6 (hs.bump _)
theorem rpass_l2 (m ck : Nat) (s1 s2 : SV) (tic base last : Int) (L : List Ent) (up : Int) (hu : 0 ≤ up ∧ up < 68719476736) (cs : List Cyc) (hcs : cs.length ≤ 8) (hc : ∀ c ∈ cs, (0 ≤ c.next ∧ c.next < 4398046511104) ∧ (1 ≤ c.period ∧ c.period < 4294967296)) (Rs : List Asr) (T : List AV) (H : AH) (hT : T.length = 142) (A3 A4 : AV) (t0 : sl T 0 = ptr m) (t3 : sl T 3 = A3) (t4 : sl T 4 = A4) (e : Nat) (t5 : sl T 5 = .s (.slice none 0 0 e)) (t6 : sl T 6 = i64 (0 : Nat))
    (hs : Sat ρ H (Row encQ 5 s1 cs :: Cel m [.ptr (some (ck, 0)), s1, s2] :: RkA ck L last tic up base :: Rs)) (K : Ex → List AV → AH → Prop)
    (hk : ∀ (T' : List AV) (H' : AH) (so : SV) (z : List Fir), T'.length = 142 → sl T' 0 = ptr m → sl T' 3 = A3 → sl T' 4 = A4 → sl T' 5 = .s so → SrtL ltF z → z.Perm (genC cs up cs.length) → Sat ρ H' (Row encF 3 so z :: Row encQ 5 s1 (cs.map (cycT up)) :: Cel m [.ptr (some (ck, 0)), s1, s2] :: RkA ck L last tic up base :: Rs) → K (.out 0) T' H') :
    loopP tab noExt R.detentref20_Hands_Pass_l2 T H K := by
  refine loopP_invK (I := fun k T H' => T.length = 142 ∧ sl T 0 = ptr m ∧ sl T 3 = A3 ∧ sl T 4 = A4 ∧ ∃ (so : SV) (i : Nat) (z : List Fir), sl T 5 = .s so ∧ sl T 6 = i64 i ∧ i ≤ cs.length ∧ k = cs.length - i ∧ SrtL ltF z ∧ z.Perm (genC cs up i) ∧ Sat ρ H' (Row encF 3 so z :: Row encQ 5 s1 ((cs.take i).map (cycT up) ++ cs.drop i) :: Cel m [.ptr (some (ck, 0)), s1, s2] :: RkA ck L last tic up base :: Rs)) ?_ cs.length _ _ ⟨hT, t0, t3, t4, _, 0, [], t5, t6, Nat.zero_le _, rfl, .nil, by simp [genC], Sat.mkNil (by simpa using hs) e⟩
  rintro k T H' ⟨hT, t0, t3, t4, so, i, z, t5, t6, hi, hk', hz, hzp, hs⟩ K' kn kr ko
  apply detentref20_Hands_Pass_l2_w hT
  have hm1 : H'.ld m 1 = some s1 := by rw [ld_of H' (hs.front 2 (by simp)).cel]; rfl
  have hl0 := Sat.rowLen (hs.front 1 (by simp))
  have hl : ((cs.take i).map (cycT up) ++ cs.drop i).length = cs.length := by simp; omega
  rw [hl] at hl0
  by_cases hlt : i < cs.length
  · obtain ⟨c, hci⟩ : ∃ c, cs[i]? = some c := ⟨_, List.getElem?_eq_getElem hlt⟩
    have hcm := hc c (List.mem_of_getElem? hci)
    have hdrop : cs.drop i = c :: cs.drop (i + 1) := by
      rw [List.drop_eq_getElem_cons hlt]
      have := (List.getElem?_eq_some_iff.1 hci).2
      rw [this]
    have hgl := genC_len (cs := cs) hu.1 (fun c hc' => ⟨(hc c hc').2.1, (hc c hc').1.1⟩) i
    rw [hdrop] at hs
    simp only [t0, t3, t4, t5, t6]
    simp [hm1, hl0, hlt]
    intro T1 hT1 hlv
    simp only [Lvs] at hlv
    obtain ⟨u0, _, u3, u4, u5, u6, _⟩ := hlv
    refine rpass_l0 m ck s1 s2 tic base last L up hu ((cs.take i).map (cycT up)) (cs.drop (i + 1)) c hcm i (by simp; omega) (by omega) _ hgl Rs T1 _ hT1 A3 u0 u3 so u5 u6 z hz hzp A4 u4 (hs.bump _) _ ?_
    intro T2 H2 so' z' h0 x0 x3 x4 x5 x6 hz' hzp' hs2
    simp
    apply detentref20_Hands_Pass_s1_w h0
    have w1 := wrapP1 i (by omega)
    simp only [x6, andThen_some, binA_add, w1]
    intro T3 hT3 hlv
    simp only [Lvs] at hlv
    obtain ⟨y0, _, y3, y4, y5, y6, _⟩ := hlv
    refine kn (cs.length - (i + 1)) _ _ (by omega) ⟨hT3, y0.trans x0, y3.trans x3, y4.trans x4, so', i + 1, z', y5.trans x5, y6, hlt, rfl, hz', ?_, ?_⟩
    · rw [genC_succ hci]; exact hzp'
    · rw [← map_take_succ hci]; exact hs2.bump _
  · have hie : i = cs.length := by omega
    subst hie
    simp only [t0, t3, t4, t5, t6]
    simp [hm1, hl0]
    intro T1 hT1 hlv
    simp only [Lvs] at hlv
    obtain ⟨u0, _, u3, u4, u5, u6, _⟩ := hlv
    refine ko _ _ _ (hk T1 _ so z hT1 u0 u3 u4 u5 hz hzp ?_)
    simpa using hs.bump 7
theorem rpass_l3 (m ck : Nat) (s1 s2 : SV) (tic base last : Int) (L : List Ent) (up : Int) (hu : 0 ≤ up ∧ up < 68719476736) (al : List Alr) (hal : al.length ≤ 8) (ha : ∀ a ∈ al, 0 ≤ a.at_ ∧ a.at_ < 4398046511104) (g : List Fir) (hg : (g.length : Int) ≤ 8 * (up + 1)) (Rs : List Asr) (T : List AV) (H : AH) (hT : T.length = 142) (A4 : AV) (t0 : sl T 0 = ptr m) (t4 : sl T 4 = A4) (so0 : SV) (z0 : List Fir) (hz0 : SrtL ltF z0) (hzp0 : z0.Perm g) (t5 : sl T 5 = .s so0) (t7 : sl T 7 = i64 (0 : Nat))
    (hs : Sat ρ H (Row encF 3 so0 z0 :: Row encL 2 s2 al :: Cel m [.ptr (some (ck, 0)), s1, s2] :: RkA ck L last tic up base :: Rs)) (K : Ex → List AV → AH → Prop)
    (hk : ∀ (T' : List AV) (H' : AH) (so : SV) (z : List Fir), T'.length = 142 → sl T' 4 = A4 → sl T' 5 = .s so → SrtL ltF z → z.Perm (g ++ genA al up al.length) → Sat ρ H' (Row encF 3 so z :: Row encL 2 s2 (al.map (alrT up)) :: Cel m [.ptr (some (ck, 0)), s1, s2] :: RkA ck L last tic up base :: Rs) → K (.out 4) T' H') :
    loopP tab noExt R.detentref20_Hands_Pass_l3 T H K := by
  refine loopP_invK (I := fun k T H' => T.length = 142 ∧ sl T 0 = ptr m ∧ sl T 4 = A4 ∧ ∃ (so : SV) (i : Nat) (z : List Fir), sl T 5 = .s so ∧ sl T 7 = i64 i ∧ i ≤ al.length ∧ k = al.length - i ∧ SrtL ltF z ∧ z.Perm (g ++ genA al up i) ∧ Sat ρ H' (Row encF 3 so z :: Row encL 2 s2 ((al.take i).map (alrT up) ++ al.drop i) :: Cel m [.ptr (some (ck, 0)), s1, s2] :: RkA ck L last tic up base :: Rs)) ?_ al.length _ _ ⟨hT, t0, t4, so0, 0, z0, t5, t7, Nat.zero_le _, rfl, hz0, by simpa [genA] using hzp0, by simpa using hs⟩
  rintro k T H' ⟨hT, t0, t4, so, i, z, t5, t7, hi, hk', hz, hzp, hs⟩ K' kn kr ko
  apply detentref20_Hands_Pass_l3_w hT
  have hm2 : H'.ld m 2 = some s2 := by rw [ld_of H' (hs.front 2 (by simp)).cel]; rfl
  have hm0 : H'.ld m 0 = some (.ptr (some (ck, 0))) := by rw [ld_of H' (hs.front 2 (by simp)).cel]; rfl
  obtain ⟨t, hsK⟩ := Sat.rkOpen (hs.front 3 (by simp))
  have hc2 : H'.ld ck 2 = some (.int .u64 up) := by rw [ld_of H' hsK.cel]; rfl
  have hl0 := Sat.rowLen (hs.front 1 (by simp))
  have hl : ((al.take i).map (alrT up) ++ al.drop i).length = al.length := by simp; omega
  rw [hl] at hl0
  have hgl := genA_len al up i
  have hzl := hzp.length_eq
  rw [List.length_append] at hzl
  by_cases hlt : i < al.length
  · obtain ⟨a, hai⟩ : ∃ a, al[i]? = some a := ⟨_, List.getElem?_eq_getElem hlt⟩
    have ham := ha a (List.mem_of_getElem? hai)
    have hx : ((al.take i).map (alrT up) ++ al.drop i)[i]? = some a := map_take_get hai
    have hdrop : al.drop i = a :: al.drop (i + 1) := by
      rw [List.drop_eq_getElem_cons hlt]
      have := (List.getElem?_eq_some_iff.1 hai).2
      rw [this]
    obtain ⟨b, cp, j, hsl, hb, hb1, hb2⟩ := Sat.rowBlk (hs.front 1 (by simp)) (by rw [hl]; omega)
    rw [hl] at hsl
    have hix := ixEl (b := b) (c := cp) (k := 2) hlt
    rw [← hsl] at hix
    have q0 := rdCell encL_len hb hx 0 (by omega)
    have q1 := rdCell encL_len hb hx 1 (by omega)
    simp [encL] at q0 q1
    have w1 := wrapP1 i (by omega)
    by_cases hf : a.on = true ∧ a.at_ ≤ up
    · obtain ⟨hon, hle⟩ := hf
      have htt : alrT up a = ⟨false, 0⟩ := by unfold alrT; rw [if_pos ⟨hon, hle⟩]
      have hga : genA al up (i + 1) = genA al up i ++ [⟨false, (i : Int) + 1, a.at_⟩] := by rw [genA_succ hai, if_pos ⟨hon, hle⟩]
      rw [hon] at q0
      simp only [t0, t4, t5, t7]
      simp [hm2, hl0, hlt, hix, q0, q1, hm0, hc2, hle, w1]
      refine (put_tri so z ⟨false, (i : Int) + 1, a.at_⟩ hz (by omega)).use (R := _) (((hs.bump 7).bump 26).bump 14) ?_
      rintro v H2 P' ⟨so', z', rfl, hz', hzp', rfl⟩ hs2
      have hs2 : Sat ρ H2 (Row encF 3 so' z' :: Row encL 2 s2 ((al.take i).map (alrT up) ++ al.drop i) :: Cel m [.ptr (some (ck, 0)), s1, s2] :: RkA ck L last tic up base :: Rs) := hs2
      have hm2 : H2.ld m 2 = some s2 := by rw [ld_of H2 (hs2.front 2 (by simp)).cel]; rfl
      rcases hs2.swap.rowInv with ⟨e1, _, h0, _⟩ | ⟨b', cp', j', hsl', hs4, h1', h2'⟩
      · rw [h0] at hl; simp at hl; omega
      rw [hl] at hsl' h2'
      rw [hsl] at hsl'
      cases hsl'
      have q3 := wrEl (H := H2.bump 8) encL_len (hs4.bump 8).cel (i := i) (by rw [hl]; exact hlt) (⟨false, 0⟩ : Alr)
      have hs8 := Sat.set (hs4.bump 8) (flat encL (((al.take i).map (alrT up) ++ al.drop i).set i (⟨false, 0⟩ : Alr)) ++ j')
      simp only [encL] at q3
      simp [hm2, hix, w1]
      refine ⟨_, q3, ?_⟩
      intro T' hT' hlv
      simp only [Lvs] at hlv
      obtain ⟨u0, _, _, u4, u5, _, u7, _⟩ := hlv
      refine kn (al.length - (i + 1)) _ _ (by omega) ⟨hT', u0, u4, so', i + 1, z', u5, u7, hlt, rfl, hz', ?_, Sat.bump ?_ _⟩
      · rw [hga, ← List.append_assoc]
        exact hzp'.trans (List.Perm.append_right _ hzp)
      · rw [map_take_set (f := alrT up) (y := (⟨false, 0⟩ : Alr)) hai, ← htt, map_take_succ hai] at hs8
        rw [map_take_set (f := alrT up) (y := (⟨false, 0⟩ : Alr)) hai, ← htt, map_take_succ hai]
        have hl2 : ((al.take (i + 1)).map (alrT up) ++ al.drop (i + 1)).length = al.length := by simp; omega
        have hs9 := Sat.mkRow (enc := encL) (k := 2) (c := cp) hs8 (by simp only [List.length_append, flat_len encL_len] at h1' ⊢; simp at h1' ⊢; omega) (by omega)
        rw [hl2, ← hsl] at hs9
        exact hs9.swap
    · have htt : alrT up a = a := by unfold alrT; rw [if_neg hf]
      have hga : genA al up (i + 1) = genA al up i := by rw [genA_succ hai, if_neg hf, List.append_nil]
      have fin : ∀ (T' : List AV) (H2 : AH), T'.length = 142 → sl T' 0 = ptr m → sl T' 4 = A4 → sl T' 5 = .s so → sl T' 7 = i64 (i + 1 : Nat) → Sat ρ H2 (Row encF 3 so z :: Row encL 2 s2 ((al.take i).map (alrT up) ++ al.drop i) :: Cel m [.ptr (some (ck, 0)), s1, s2] :: RkA ck L last tic up base :: Rs) → K' .norm T' H2 := by
        intro T' H2 h0 u0 u4 u5 u7 hs'
        refine kn (al.length - (i + 1)) _ _ (by omega) ⟨h0, u0, u4, so, i + 1, z, u5, u7, hlt, rfl, hz, by rw [hga]; exact hzp, ?_⟩
        rw [← map_take_succ hai, htt, ← hdrop]
        exact hs'
      cases hon : a.on
      · rw [hon] at q0
        simp only [t0, t4, t5, t7]
        simp [hm2, hl0, hlt, hix, q0, w1]
        intro T' hT' hlv
        simp only [Lvs] at hlv
        obtain ⟨u0, _, _, u4, u5, _, u7, _⟩ := hlv
        exact fin T' _ hT' u0 u4 u5 u7 (by (repeat refine Sat.bump ?_ _); exact hs)
      · rw [hon] at q0
        have hle : ¬ a.at_ ≤ up := fun h => hf ⟨hon, h⟩
        simp only [t0, t4, t5, t7]
        simp [hm2, hl0, hlt, hix, q0, q1, hm0, hc2, hle, w1]
        intro T' hT' hlv
        simp only [Lvs] at hlv
        obtain ⟨u0, _, _, u4, u5, _, u7, _⟩ := hlv
        exact fin T' _ hT' u0 u4 u5 u7 (by (repeat refine Sat.bump ?_ _); exact hs)
  · have hie : i = al.length := by omega
    subst hie
    simp only [t0, t4, t5, t7]
    simp [hm2, hl0]
    intro T1 hT1 hlv
    simp only [Lvs] at hlv
    obtain ⟨u0, _, _, u4, u5, _, u7, _⟩ := hlv
    refine ko _ _ _ (hk T1 _ so z hT1 u4 u5 hz hzp ?_)
    simpa using hs.bump 7
end
theorem RhPass_tri (m : Nat) (cs : List Cyc) (al : List Alr) (L : List Ent) (last tic up base : Int) (hok : HdOk cs al up) (ht : 1 ≤ tic ∧ tic ≤ 1000) (hu : up + tic ≤ 1000000) :
    Tri tab noExt F.detentref20_Hands_Pass [ptr m] [HrD m cs al L last tic up base] fun v P' => ∃ so sa z, v = .tup [.s so, .s sa] ∧ SrtL ltF z ∧ z.Perm (genF cs al (up + tic)) ∧ P' = [Row encF 3 so z, Row encI 1 sa ((dueL L (up + tic)).map Ent.arg), HrD m (cs.map (cycT (up + tic))) (al.map (alrT (up + tic))) (toL L (up + tic)) last tic (up + tic) base] := by
  refine Tri.intro fun ρ H Rs K hs hk => ?_
  apply detentref20_Hands_Pass_callw
  obtain ⟨c, s1, s2, hs1⟩ := Sat.hrOpen hs
  have hm0 : H.ld m 0 = some (.ptr (some (c, 0))) := by rw [ld_of H hs1.cel]; rfl
  have h0 := hok.up0
  have w : IntKind.u64.wrap (up + tic) = up + tic := wrap_u64 (by omega) (by omega)
  simp [hm0]
  refine (RkTick_tri c L last tic up base ht ⟨h0, by omega⟩).use ((hs1.swap.bump 2).bump 6) ?_
  rintro v H2 P' ⟨sa, rfl, rfl⟩ hs2
  rw [w] at hs2
  have hs2 : Sat ρ H2 (Row encQ 5 s1 cs :: Cel m [.ptr (some (c, 0)), s1, s2] :: RkA c (toL L (up + tic)) last tic (up + tic) base :: Row encL 2 s2 al :: Row encI 1 sa ((dueL L (up + tic)).map Ent.arg) :: Rs) := Sat.re hs2 [3, 2, 1, 4, 0] (by simp) (by decide)
  intro T1 hT1 hlv
  simp only [Lvs] at hlv
  obtain ⟨u0, u2, u3, u4, u5, u6, _⟩ := hlv
  refine rpass_l2 m c s1 s2 tic base last _ (up + tic) ⟨by omega, by omega⟩ cs hok.lc (fun x hx => (hok.c x hx).2) _ T1 _ hT1 _ (.s sa) u0 u3 u4 1 u5 u6 ((hs2.bump 1).bump 1) _ ?_
  intro T2 H3 so z k0 x0 x3 x4 x5 hz hzp hs3
  simp
  apply detentref20_Hands_Pass_s5_w k0
  intro T3 hT3 hlv
  simp only [Lvs] at hlv
  obtain ⟨y0, _, y3, y4, y5, _, y7, _⟩ := hlv
  have hgl := genC_len (cs := cs) (up := up + tic) (by omega) (fun c hc' => ⟨(hok.c c hc').2.2.1, (hok.c c hc').2.1.1⟩) cs.length
  have hmul : (cs.length : Int) * (up + tic + 1) ≤ 8 * (up + tic + 1) := Int.mul_le_mul_of_nonneg_right (by have := hok.lc; omega) (by omega)
  have hs4 : Sat ρ H3 (Row encF 3 so z :: Row encL 2 s2 al :: Cel m [.ptr (some (c, 0)), s1, s2] :: RkA c (toL L (up + tic)) last tic (up + tic) base :: Row encQ 5 s1 (cs.map (cycT (up + tic))) :: Row encI 1 sa ((dueL L (up + tic)).map Ent.arg) :: Rs) := Sat.re hs3 [0, 4, 2, 3, 1] (by simp) (by decide)
  refine rpass_l3 m c s1 s2 tic base last _ (up + tic) ⟨by omega, by omega⟩ al hok.la hok.a _ (by omega) _ T3 _ hT3 (.s sa) (y0.trans x0) (y4.trans x4) so z hz hzp (y5.trans x5) y7 (hs4.bump 1) _ ?_
  intro T4 H4 so4 z4 k4 a4 a5 hz4 hzp4 hs5
  simp
  apply detentref20_Hands_Pass_s4_w k4
  intro T5 hT5 hlv
  simp only [Lvs] at hlv
  obtain ⟨_, v2, v3, _⟩ := hlv
  have v2' : T5[2]?.getD undef = .s so4 := by rw [← List.getD_eq_getElem?_getD]; exact v2.trans a5
  have v3' : T5[3]?.getD undef = .s sa := by rw [← List.getD_eq_getElem?_getD]; exact v3.trans a4
  simp [v2', v3']
  refine hk _ _ _ ⟨so4, sa, z4, rfl, hz4, hzp4, rfl⟩ ?_
  have hs6 : Sat ρ H4 (Cel m [.ptr (some (c, 0)), s1, s2] :: RkA c (toL L (up + tic)) last tic (up + tic) base :: Row encQ 5 s1 (cs.map (cycT (up + tic))) :: Row encL 2 s2 (al.map (alrT (up + tic))) :: Row encF 3 so4 z4 :: Row encI 1 sa ((dueL L (up + tic)).map Ent.arg) :: Rs) := Sat.re hs5 [2, 3, 4, 1, 0, 5] (by simp) (by decide)
  exact (Sat.re (Sat.hrClose hs6) [1, 2, 0] (by simp) (by decide)).bump 4
end Go.AM

/-
  PLAIN: handlers by time: what is fired stands between two ticks, each once.
-/
namespace Go.AM
theorem cycT_next {c : Cyc} {up : Int} (hp : 1 ≤ c.period) : (cycT up c).next ≤ max c.next (up + c.period) ∧ c.next ≤ (cycT up c).next ∧ (c.on = true → up < (cycT up c).next) := by
  have hm := fun j hj => firesN_more (c := c) (up := up) hp j hj
  have h0 : 0 ≤ (firesN c up : Int) * c.period := Int.mul_nonneg (by omega) (by omega)
  refine ⟨?_, ?_, ?_⟩
  · by_cases h : firesN c up = 0
    · have : (cycT up c).next = c.next := by simp [cycT, nextC, h]
      rw [this]; exact Int.le_max_left _ _
    · have h1 := ((hm (firesN c up - 1) (by omega)).2 (by omega)).2
      have e : (cycT up c).next = (nextC c (firesN c up - 1)).next + c.period := by
        have e2 := congrArg Cyc.next (nextC_succ c (firesN c up - 1))
        have e3 : firesN c up - 1 + 1 = firesN c up := by omega
        rw [e3] at e2
        unfold cycT
        rw [← e2]
        show (nextC c (firesN c up - 1)).next + ((1 : Nat) : Int) * (nextC c (firesN c up - 1)).period = _
        have : (nextC c (firesN c up - 1)).period = c.period := rfl
        rw [this]; simp
      rw [e]
      have := Int.le_max_right c.next (up + c.period)
      omega
  · show c.next ≤ c.next + _; omega
  · intro hon
    have h1 : ¬ (c.on = true ∧ (nextC c (firesN c up)).next ≤ up) := fun h => Nat.lt_irrefl _ ((hm _ (Nat.le_refl _)).1 h)
    have h2 : ¬ (nextC c (firesN c up)).next ≤ up := fun h => h1 ⟨hon, h⟩
    show up < (nextC c (firesN c up)).next
    omega
end Go.AM

/-
  ANY ARGUMENT of plain data: numbers, truths, texts, structs, arrays, slices of these, ya the abstract machine holds it.
-/
namespace Go.AM
open Go.WideShapes Go.ChangeShapes
inductive Ty where
  | int (k : IntKind)
  | bool
  | str
  | unit
  | pair (a b : Ty)
  | arr (n : Nat) (a : Ty)
  | slice (a : Ty)
@[reducible] def Ty.den : Ty → Type
  | .int _ => Int
  | .bool => Bool
  | .str => ByteArray
  | .unit => Unit
  | .pair a b => a.den × b.den
  | .arr _ a => List a.den
  | .slice a => List a.den
def Ty.size : Ty → Nat
  | .int _ | .bool | .str | .slice _ => 1
  | .unit => 0
  | .pair a b => a.size + b.size
  | .arr n a => n * a.size
def Ty.plain : Ty → Bool
  | .int _ | .bool | .str | .unit => true
  | .slice _ => false
  | .pair a b => a.plain && b.plain
  | .arr _ a => a.plain
def Ty.good : Ty → Bool
  | .int _ | .bool | .str | .unit => true
  | .slice a => a.plain
  | .pair a b => a.good && b.good
  | .arr _ a => a.good
def Ty.cnt : Ty → Nat
  | .int _ | .bool | .str | .unit => 0
  | .slice _ => 1
  | .pair a b => a.cnt + b.cnt
  | .arr n a => n * a.cnt
def At (f : HF) : (t : Ty) → t.den → List SV → Prop
  | .int k, n, l => l = [.int k n] ∧ (Lit.int k n).wf = true
  | .bool, b, l => l = [.bool b]
  | .str, s, l => l = [.str s] ∧ s.size ≤ maxLen
  | .unit, _, l => l = []
  | .pair a b, x, l => ∃ l1 l2, l = l1 ++ l2 ∧ At f a x.1 l1 ∧ At f b x.2 l2
  | .arr n a, xs, l => xs.length = n ∧ ∃ ls : List (List SV), l = ls.flatten ∧ R2 (At f a) xs ls
  | .slice a, xs, l => ∃ s, l = [s] ∧ ((∃ o, s = .slice o 0 0 a.size ∧ xs = []) ∨ ∃ b c j ls, s = .slice (some (b, 0)) xs.length c a.size ∧ f b = some (.cells true (List.flatten ls ++ j)) ∧ xs.length ≤ c ∧ c * a.size ≤ (List.flatten ls ++ j).length ∧ R2 (At f a) xs ls)
theorem At.loc {f g : HF} (h : ∀ b x, f b = some (.cells true x) → g b = some (.cells true x)) : ∀ {t : Ty} {x : t.den} {l : List SV}, At f t x l → At g t x l
  | .int _, _, _, hx => hx
  | .bool, _, _, hx => hx
  | .str, _, _, hx => hx
  | .unit, _, _, hx => hx
  | .pair a b, _, _, ⟨l1, l2, h1, h2, h3⟩ => ⟨l1, l2, h1, h2.loc h, h3.loc h⟩
  | .arr _ a, _, _, ⟨h1, ls, h2, h3⟩ => ⟨h1, ls, h2, R2.mono (fun _ _ hx => At.loc h hx) h3⟩
  | .slice a, _, _, ⟨s, h1, h2⟩ => ⟨s, h1, h2.elim .inl fun ⟨b, c, j, ls, k1, k2, k3, k4, k5⟩ => .inr ⟨b, c, j, ls, k1, h b _ k2, k3, k4, R2.mono (fun _ _ hx => At.loc h hx) k5⟩⟩
theorem flatten_len {α β : Type} {R : α → List β → Prop} {n : Nat} (h : ∀ x l, R x l → l.length = n) : ∀ {xs : List α} {ls : List (List β)}, R2 R xs ls → ls.flatten.length = xs.length * n
  | [], [], _ => by simp
  | _ :: _, _ :: _, hx => by
    have := flatten_len h hx.2
    simp only [List.flatten_cons, List.length_append, List.length_cons, h _ _ hx.1, this, Nat.add_mul]
    omega
theorem At.len {f : HF} : ∀ {t : Ty} {x : t.den} {l : List SV}, At f t x l → l.length = t.size
  | .int _, _, _, hx => by rw [hx.1]; rfl
  | .bool, _, _, hx => by rw [show _ = _ from hx]; rfl
  | .str, _, _, hx => by rw [hx.1]; rfl
  | .unit, _, _, hx => by rw [show _ = _ from hx]; rfl
  | .pair a b, _, _, ⟨l1, l2, h1, h2, h3⟩ => by rw [h1, List.length_append, h2.len, h3.len]; rfl
  | .arr n a, _, _, ⟨h1, ls, h2, h3⟩ => by rw [h2, flatten_len (fun _ _ h => At.len h) h3, h1]; rfl
  | .slice a, _, _, ⟨s, h1, _⟩ => by rw [h1]; rfl
def fitsG (P : Program) : Ty → (TypeId → Bool) × (List Field → Nat → Bool)
  | .int k => (fun t => match P.underlying t with | some (.int k') => decide (k' = k) | _ => false, fun _ _ => false)
  | .bool => (fun t => match P.underlying t with | some .bool => true | _ => false, fun _ _ => false)
  | .str => (fun t => match P.underlying t with | some .string => true | _ => false, fun _ _ => false)
  | .unit => (fun _ => false, fun fs _ => match fs with | [] => true | _ => false)
  | .pair a b =>
    let F := fun fs off => match fs with
      | (f : Field) :: fs => decide (f.offset = off) && (fitsG P a).1 f.type && decide (P.cellsOf f.type = a.size) && (fitsG P b).2 fs (off + a.size)
      | [] => false
    (fun t => match P.underlying t with | some (.struct fs) => F fs.toList 0 && decide (P.cellsOf t = a.size + b.size) | _ => false, F)
  | .arr n a => (fun t => match P.underlying t with | some (.array n' e) => decide (n' = n) && (fitsG P a).1 e && decide (P.cellsOf e = a.size) && decide (P.cellsOf t = n * a.size) | _ => false, fun _ _ => false)
  | .slice a => (fun t => match P.underlying t with | some (.slice e) => (fitsG P a).1 e && decide (P.cellsOf e = a.size) && decide (0 < a.size) | _ => false, fun _ _ => false)
def fits (P : Program) (ty : Ty) (t : TypeId) : Bool := (fitsG P ty).1 t
def fitsF (P : Program) (ty : Ty) (fs : List Field) (off : Nat) : Bool := (fitsG P ty).2 fs off
section
variable {P : Program}
theorem fits_int (k : IntKind) (t : TypeId) : fits P (.int k) t = match P.underlying t with | some (.int k') => decide (k' = k) | _ => false := rfl
theorem fits_bool (t : TypeId) : fits P .bool t = match P.underlying t with | some .bool => true | _ => false := rfl
theorem fits_str (t : TypeId) : fits P .str t = match P.underlying t with | some .string => true | _ => false := rfl
theorem fits_pair (a b : Ty) (t : TypeId) : fits P (.pair a b) t = match P.underlying t with | some (.struct fs) => fitsF P (.pair a b) fs.toList 0 && decide (P.cellsOf t = a.size + b.size) | _ => false := rfl
theorem fits_arr (n : Nat) (a : Ty) (t : TypeId) : fits P (.arr n a) t = match P.underlying t with | some (.array n' e) => decide (n' = n) && fits P a e && decide (P.cellsOf e = a.size) && decide (P.cellsOf t = n * a.size) | _ => false := rfl
theorem fits_slice (a : Ty) (t : TypeId) : fits P (.slice a) t = match P.underlying t with | some (.slice e) => fits P a e && decide (P.cellsOf e = a.size) && decide (0 < a.size) | _ => false := rfl
theorem fitsF_pair (a b : Ty) (f : Field) (fs : List Field) (off : Nat) : fitsF P (.pair a b) (f :: fs) off = (decide (f.offset = off) && fits P a f.type && decide (P.cellsOf f.type = a.size) && fitsF P b fs (off + a.size)) := rfl
end
abbrev RoL := List ((Nat × Nat × Nat) × Option (List SV))
def roPhi (L : RoL) : Phi := fun b => (L[b]?).map (·.1)
def roF (L : RoL) : HF := fun b => (L[b]?).map fun e => match e.2 with | none => .dead | some l => .cells true l
def roH (L : RoL) : AH := ⟨roF L, L.length⟩
def RoOk (w : World) (φ : Phi) (e : (Nat × Nat × Nat) × Option (List SV)) : Prop :=
  match e with
  | (_, none) => True
  | ((cb, sh, cs), some l) => ∃ c t fr, w.heap[cb]? = some (.cells c t fr) ∧ c.size = cs ∧ sh + l.length ≤ cs ∧ ∀ i x, l[i]? = some x → ∃ v, c[sh + i]? = some v ∧ SVRel φ x v
def RoInv (w : World) (L : RoL) : Prop := ∀ e ∈ L, RoOk w (roPhi L) e
theorem roPhi_ext (L M : RoL) : Ext (roPhi L) (roPhi (L ++ M)) := by
  intro b x h
  simp only [roPhi, Option.map_eq_some_iff] at h ⊢
  obtain ⟨e, h1, h2⟩ := h
  exact ⟨e, by rw [List.getElem?_append_left (List.getElem?_eq_some_iff.1 h1).1]; exact h1, h2⟩
theorem roF_ext (L M : RoL) : ∀ b x, roF L b = some (.cells true x) → roF (L ++ M) b = some (.cells true x) := by
  intro b x h
  simp only [roF, Option.map_eq_some_iff] at h ⊢
  obtain ⟨e, h1, h2⟩ := h
  exact ⟨e, by rw [List.getElem?_append_left (List.getElem?_eq_some_iff.1 h1).1]; exact h1, h2⟩
theorem RoOk.mono {w : World} {φ φ' : Phi} (h : Ext φ φ') {e : (Nat × Nat × Nat) × Option (List SV)} (hx : RoOk w φ e) : RoOk w φ' e := by
  obtain ⟨⟨cb, sh, cs⟩, o⟩ := e
  cases o with
  | none => trivial
  | some l =>
    obtain ⟨c, t, fr, h1, h2, h3, h4⟩ := hx
    exact ⟨c, t, fr, h1, h2, h3, fun i x hi => let ⟨v, k1, k2⟩ := h4 i x hi; ⟨v, k1, k2.mono h⟩⟩
theorem RoInv.snoc {w : World} {L : RoL} (h : RoInv w L) {e : (Nat × Nat × Nat) × Option (List SV)} (he : RoOk w (roPhi L) e) : RoInv w (L ++ [e]) := by
  intro x hx
  rcases List.mem_append.1 hx with hx | hx
  · exact (h x hx).mono (roPhi_ext _ _)
  · simp at hx; subst hx; exact he.mono (roPhi_ext _ _)
theorem roH_rel {w : World} {L : RoL} (h : RoInv w L) : HRel w.heap.size w (roPhi L) (roH L) w := by
  refine { dom := ?_, lt := ?_, cells := ?_, maps := ?_, inj := ?_, old := fun _ _ => rfl, bound := Nat.le_refl _, os := rfl, out := rfl, nf := ?_ }
  · intro b hb
    simp only [roH, roF, Option.map_eq_none_iff] at hb
    simp [roPhi, hb]
  · intro b hb
    simp only [roH] at hb ⊢
    simp [roF, List.getElem?_eq_none hb]
  · intro b ro l hb
    simp only [roH, roF, Option.map_eq_some_iff] at hb
    obtain ⟨⟨⟨cb, sh, cs⟩, o⟩, h1, h2⟩ := hb
    cases o with
    | none => cases h2
    | some l' =>
      cases h2
      obtain ⟨c, t, fr, k1, k2, k3, k4⟩ := h _ (List.mem_of_getElem? h1)
      exact ⟨cb, sh, cs, c, t, fr, by simp [roPhi, h1], k1, k2, k3, k4, by simp⟩
  · intro b es hb
    simp only [roH, roF, Option.map_eq_some_iff] at hb
    obtain ⟨⟨_, o⟩, h1, h2⟩ := hb
    cases o <;> cases h2
  · intro b b' x x' hx hx' hd hd' _
    right
    have key : ∀ {b : Nat} {x : Nat × Nat × Nat}, roPhi L b = some x → (roH L).blk b ≠ some .dead → ∃ ls, (roH L).blk b = some (.cells true ls) := by
      intro b x hx hd
      simp only [roPhi, Option.map_eq_some_iff] at hx
      obtain ⟨⟨p, o⟩, h1, _⟩ := hx
      simp only [roH, roF, h1, Option.map_some] at hd ⊢
      cases o with
      | none => simp at hd
      | some l => exact ⟨l, rfl⟩
    obtain ⟨l, h1⟩ := key hx hd
    obtain ⟨l', h2⟩ := key hx' hd'
    exact ⟨l, l', h1, h2⟩
  · intro k c e fr hk hh
    rw [Array.getElem?_eq_none hk] at hh; cases hh
section
variable {H : Type} {enc : TypeId × Value → H} {P : Program} {w : World} {held : Bool}
abbrev TrodOk (enc : TypeId × Value → H) (P : Program) (w : World) (held : Bool) (n : Nat) (t : TypeId) (cs : List Value) : Prop := ∃ x, DataW.trod enc P w 0 (fun _ => true) held n t cs = some x
def Opens (w : World) (ty : Ty) (L : RoL) (cs : List Value) : Prop :=
  ∃ M x l, RoInv w (L ++ M) ∧ R2 (SVRel (roPhi (L ++ M))) l cs ∧ At (roF (L ++ M)) ty x l ∧ (ty.plain = true → M = []) ∧ (ty.good = true → M.length ≤ ty.cnt)
theorem opens_list {ty : Ty} {m : Nat} {e : TypeId} (ih : ∀ (n : Nat) (t : TypeId) (cs : List Value) (L : RoL), fits P ty t = true → TrodOk enc P w held n t cs → RoInv w L → Opens w ty L cs) (hf : fits P ty e = true) (g : Nat → List Value) :
    ∀ (n : Nat) (L : RoL), (∀ i, i < n → TrodOk enc P w held m e (g i)) → RoInv w L →
      ∃ (M : RoL) (xs : List ty.den) (ls : List (List SV)), RoInv w (L ++ M) ∧ xs.length = n ∧ R2 (At (roF (L ++ M)) ty) xs ls ∧ R2 (R2 (SVRel (roPhi (L ++ M)))) ls ((List.range n).map g) ∧ (ty.plain = true → M = []) ∧ (ty.good = true → M.length ≤ n * ty.cnt)
  | 0, L, _, hL => ⟨[], [], [], by simpa using hL, rfl, trivial, trivial, fun _ => rfl, fun _ => Nat.zero_le _⟩
  | n + 1, L, hg, hL => by
    obtain ⟨M, xs, ls, h1, h2, h3, h4, h5, h6⟩ := opens_list ih hf g n L (fun i hi => hg i (by omega)) hL
    obtain ⟨M', x, l, k1, k2, k3, k5, k6⟩ := ih m e (g n) (L ++ M) hf (hg n (by omega)) h1
    refine ⟨M ++ M', xs ++ [x], ls ++ [l], by rw [← List.append_assoc]; exact k1, by simp [h2], ?_, ?_, fun hp => by rw [h5 hp, k5 hp]; rfl, fun hp => by have := h6 hp; have := k6 hp; rw [List.length_append, Nat.add_mul]; omega⟩
    · rw [← List.append_assoc]
      exact R2.append (R2.mono (fun _ _ hx => hx.loc (roF_ext _ _)) h3) ⟨k3, trivial⟩
    · rw [← List.append_assoc, List.range_succ, List.map_append]
      exact R2.append (R2.mono (fun _ _ hx => R2.ext (roPhi_ext _ _) hx) h4) ⟨k2, trivial⟩
theorem R2_flatten {α β : Type} {R : α → β → Prop} : ∀ {ya : List (List α)} {bs : List (List β)}, R2 (R2 R) ya bs → R2 R ya.flatten bs.flatten
  | [], [], _ => trivial
  | _ :: _, _ :: _, h => by simpa using R2.append h.1 (R2_flatten h.2)
theorem flatten_cuts {α : Type} (l : List α) (k : Nat) : ∀ n, l.length = n * k → ((List.range n).map fun i => (l.drop (i * k)).take k).flatten = l
  | 0, h => by
    have : l = [] := List.length_eq_zero_iff.1 (by simpa using h)
    subst this; rfl
  | n + 1, h => by
    rw [List.range_succ, List.map_append, List.flatten_append]
    have h0 : l.length = n * k + k := by rw [h, Nat.add_mul]; omega
    have ih := flatten_cuts (l.take (n * k)) k n (by rw [List.length_take]; omega)
    have e : ((List.range n).map fun i => (l.drop (i * k)).take k) = ((List.range n).map fun i => ((l.take (n * k)).drop (i * k)).take k) := by
      apply List.map_congr_left
      intro i hi
      simp only [List.mem_range] at hi
      have : i * k + k ≤ n * k := by
        have : (i + 1) * k ≤ n * k := Nat.mul_le_mul_right _ hi
        rw [Nat.add_mul] at this; omega
      rw [List.drop_take, List.take_take]
      congr 1; omega
    rw [e, ih]
    simp only [List.map_cons, List.map_nil, List.flatten_cons, List.flatten_nil, List.append_nil]
    have h2 : (l.drop (n * k)).take k = l.drop (n * k) := by rw [List.take_of_length_le]; rw [List.length_drop]; omega
    rw [h2, List.take_append_drop]
theorem row_flatten {w : World} {b off : Nat} {k : Nat} {g : Nat → List Value} : ∀ n, (∀ i, i < n → w.cells? 0 (Addr.add ⟨b, off, none⟩ (i * k)) k = some (g i)) → (((List.range n).map g).flatten).length = n * k ∧ ∀ i v, (((List.range n).map g).flatten)[i]? = some v → w.cell? ⟨b, off + i, none⟩ = some v
  | 0, _ => ⟨by simp, fun i v h => by simp at h⟩
  | n + 1, hg => by
    obtain ⟨hl, ih⟩ := row_flatten n fun i hi => hg i (by omega)
    obtain ⟨_, h2, h3⟩ := World.cells?_some (hg n (by omega))
    rw [List.range_succ, List.map_append, List.flatten_append]
    refine ⟨by simp [hl, h2, Nat.add_mul], fun i v h => ?_⟩
    by_cases hi : i < n * k
    · rw [List.getElem?_append_left (by rw [hl]; exact hi)] at h
      exact ih i v h
    · rw [List.getElem?_append_right (by rw [hl]; omega), hl] at h
      simp at h
      have hlt : i - n * k < (g n).length := (List.getElem?_eq_some_iff.1 h).1
      have := h3 (i - n * k) (by omega)
      rw [h, add_plain, add_plain] at this
      rw [← this]
      congr 2; omega
theorem opens_flat {ty : Ty} {L : RoL} {cs : List Value} (hL : RoInv w L) (x : ty.den) (l : List SV) (h1 : R2 (SVRel (roPhi L)) l cs) (h2 : At (roF L) ty x l) : Opens w ty L cs :=
  ⟨[], x, l, by simpa using hL, by simpa using h1, by simpa using h2, fun _ => rfl, fun _ => Nat.zero_le _⟩
mutual
theorem opens_ty : ∀ (ty : Ty) (n : Nat) (t : TypeId) (cs : List Value) (L : RoL), fits P ty t = true → TrodOk enc P w held n t cs → RoInv w L → Opens w ty L cs
  | .int k, n, t, cs, L, hf, ⟨x, hx⟩, hL => by
    rw [fits_int] at hf
    split at hf
    · rename_i k' ht
      simp only [decide_eq_true_eq] at hf
      subst hf
      obtain ⟨m, rfl, _, hw⟩ := DataW.trod_int ht hx
      exact opens_flat hL (ty := .int _) m [.int _ m] ⟨rfl, trivial⟩ ⟨rfl, hw⟩
    · cases hf
  | .bool, n, t, cs, L, hf, ⟨x, hx⟩, hL => by
    rw [fits_bool] at hf
    split at hf
    · rename_i ht
      obtain ⟨b, rfl, _⟩ := DataW.trod_bool ht hx
      exact opens_flat hL (ty := .bool) b [.bool b] ⟨rfl, trivial⟩ rfl
    · cases hf
  | .str, n, t, cs, L, hf, ⟨x, hx⟩, hL => by
    rw [fits_str] at hf
    split at hf
    · rename_i ht
      obtain ⟨s, rfl, _, hs⟩ := DataW.trod_string ht hx
      exact opens_flat hL (ty := .str) s [.str s] ⟨rfl, trivial⟩ ⟨rfl, hs⟩
    · cases hf
  | .unit, n, t, cs, L, hf, hx, hL => by cases hf
  | .pair a b, n, t, cs, L, hf, ⟨x, hx⟩, hL => by
    rw [fits_pair] at hf
    split at hf
    · rename_i fs ht
      simp only [Bool.and_eq_true, decide_eq_true_eq] at hf
      obtain ⟨xs, m, _, _, hl, hxl, hel⟩ := DataW.trod_struct ht hx
      have := opens_fields (.pair a b) m fs.toList 0 cs L hf.1 (fun i f hi => by
        have h1 := hel i f (by simpa using hi)
        have hlt : i < fs.size := by simpa using (List.getElem?_eq_some_iff.1 hi).1
        rw [List.getElem?_eq_getElem (by omega)] at h1
        exact ⟨_, h1⟩) hL
      rw [List.drop_zero, List.take_of_length_le (by rw [hl, hf.2]; exact Nat.le_refl _)] at this
      exact this
    · cases hf
  | .arr k a, n, t, cs, L, hf, ⟨x, hx⟩, hL => by
    rw [fits_arr] at hf
    split at hf
    · rename_i k' e ht
      simp only [Bool.and_eq_true, decide_eq_true_eq] at hf
      obtain ⟨⟨⟨rfl, hf2⟩, hf3⟩, hf4⟩ := hf
      obtain ⟨xs, m, _, _, hl, hxl, hel⟩ := DataW.trod_array ht hx
      obtain ⟨M, ds, ls, h1, h2, h3, h4, h5, h6⟩ := opens_list (m := m) (fun n t cs L => opens_ty a n t cs L) hf2 (fun i => (cs.drop (i * a.size)).take a.size) k' L (fun i hi => by
        have h1 := hel i hi
        rw [List.getElem?_eq_getElem (by omega), hf3] at h1
        exact ⟨_, h1⟩) hL
      refine ⟨M, ds, ls.flatten, h1, ?_, ⟨h2, ls, rfl, h3⟩, h5, h6⟩
      have := R2_flatten h4
      rwa [flatten_cuts cs a.size k' (by rw [hl, hf4])] at this
    · cases hf
  | .slice a, n, t, cs, L, hf, ⟨x, hx⟩, hL => by
    rw [fits_slice] at hf
    split at hf
    · rename_i e ht
      simp only [Bool.and_eq_true, decide_eq_true_eq] at hf
      obtain ⟨⟨hf1, hf2⟩, hf3⟩ := hf
      rcases DataW.trod_slice ht hx with ⟨rfl, _⟩ | ⟨ad, len, cap, elems, rest, m, _, rfl, _, _, hlc, hcm, hlen, hel, hsp, _⟩
      · exact opens_flat hL (ty := .slice a) [] [.slice none 0 0 a.size] ⟨⟨rfl, rfl, rfl⟩, trivial⟩ ⟨_, rfl, .inl ⟨none, rfl, rfl⟩⟩
      · obtain ⟨hrl, hre⟩ := hsp rfl
        rw [hf2] at hel hre
        by_cases hc0 : cap = 0
        · have hl0 : len = 0 := by omega
          subst hc0 hl0
          refine ⟨[((ad.block, ad.off, 0), none)], [], [.slice (some (L.length, 0)) 0 0 a.size], hL.snoc trivial, ⟨⟨hf3, Nat.le_refl _, ad.block, ad.off, 0, ad, 0, by simp [roPhi], Nat.le_refl _, rfl, fun h => absurd rfl h⟩, trivial⟩, ⟨_, rfl, .inl ⟨_, rfl, rfl⟩⟩, fun h => (by cases h), fun _ => Nat.le_refl _⟩
        · have each : ∀ i, i < cap → ∃ cs', w.cells? 0 (ad.add (i * a.size)) a.size = some cs' ∧ TrodOk enc P w held m e cs' := by
            intro i hi
            by_cases hil : i < len
            · have h1 := hel i hil
              rw [List.getElem?_eq_getElem (by omega), Option.bind_eq_some_iff] at h1
              obtain ⟨cs', h2, h3⟩ := h1
              exact ⟨cs', h2, _, h3⟩
            · have h1 := hre (i - len) (by omega)
              rw [List.getElem?_eq_getElem (by omega), Option.bind_eq_some_iff] at h1
              obtain ⟨cs', h2, h3⟩ := h1
              rw [show len + (i - len) = i by omega] at h2
              exact ⟨cs', h2, _, h3⟩
          have hspot : ad.spot = none := by
            obtain ⟨cs', h1, _⟩ := each 0 (by omega)
            obtain ⟨_, h2, h3⟩ := World.cells?_some h1
            have h4 := h3 0 hf3
            rw [List.getElem?_eq_getElem (by omega)] at h4
            simpa [Addr.add] using World.cell?_spot h4
          obtain ⟨blk, off, sp⟩ := ad
          simp only at hspot
          subst hspot
          have hg : ∀ i, i < cap → w.cells? 0 (Addr.add ⟨blk, off, none⟩ (i * a.size)) a.size = some ((w.cells? 0 (Addr.add ⟨blk, off, none⟩ (i * a.size)) a.size).getD []) := fun i hi => by
            obtain ⟨cs', h1, _⟩ := each i hi
            rw [h1]; rfl
          obtain ⟨M, ds, ls, h1, h2, h3, h4, hpl, _⟩ := opens_list (m := m) (fun n t cs L => opens_ty a n t cs L) hf1 (fun i => (w.cells? 0 (Addr.add ⟨blk, off, none⟩ (i * a.size)) a.size).getD []) cap L (fun i hi => by
            obtain ⟨cs', k1, k2⟩ := each i hi
            rw [k1]; exact k2) hL
          obtain ⟨r1, r2⟩ := row_flatten (w := w) (b := blk) (off := off) cap hg
          generalize hrow : (((List.range cap).map fun i => (w.cells? 0 (Addr.add ⟨blk, off, none⟩ (i * a.size)) a.size).getD []).flatten) = row at *
          have h5 := R2_flatten h4
          rw [hrow] at h5
          have hpos : 0 < row.length := by rw [r1]; exact Nat.mul_pos (by omega) hf3
          have hblk : ∃ c ty fr, w.heap[blk]? = some (.cells c ty fr) ∧ (∀ i v, row[i]? = some v → c[off + i]? = some v) := by
            have h6 : ∀ i v, row[i]? = some v → ∃ c ty fr, w.heap[blk]? = some (.cells c ty fr) ∧ c[off + i]? = some v := by
              intro i v hv
              have := r2 i v hv
              unfold World.cell? at this
              split at this
              · rename_i c ty fr hh
                simp at this
                exact ⟨c, ty, fr, hh, this⟩
              · cases this
            obtain ⟨c, ty, fr, hh, _⟩ := h6 0 row[0] (List.getElem?_eq_getElem hpos)
            refine ⟨c, ty, fr, hh, fun i v hv => ?_⟩
            obtain ⟨c', ty', fr', hh', hx'⟩ := h6 i v hv
            rw [hh] at hh'; cases hh'
            exact hx'
          obtain ⟨c, ty, fr, hh, hcell⟩ := hblk
          have hsz : off + row.length ≤ c.size := by
            have := hcell (row.length - 1) row[row.length - 1] (List.getElem?_eq_getElem (by omega))
            have := (Array.getElem?_eq_some_iff.1 this).1
            omega
          have hll : ls.flatten.length = row.length := h5.length
          have hlss : ls.length = cap := by rw [h4.length]; simp
          have hdl := flatten_len (R := At (roF (L ++ M)) a) (fun _ _ h => At.len h) h3
          refine ⟨M ++ [((blk, off, c.size), some ls.flatten)], ds.take len, [.slice (some ((L ++ M).length, 0)) len cap a.size], ?_, ?_, ?_, fun h => (by cases h), fun h => (by rw [hpl h]; exact Nat.le_refl _)⟩
          · rw [← List.append_assoc]
            refine h1.snoc ⟨c, ty, fr, hh, rfl, by rw [hll]; exact hsz, fun i x hi => ?_⟩
            obtain ⟨v, k1, k2⟩ := h5.get i x hi
            exact ⟨v, hcell i v k1, k2⟩
          · rw [← List.append_assoc]
            refine ⟨⟨hf3, hlc, blk, off, c.size, ⟨blk, off, none⟩, cap, by simp [roPhi], Nat.le_refl _, rfl, fun _ => ⟨by simp, by rw [← r1]; simpa using hsz⟩⟩, trivial⟩
          · rw [← List.append_assoc]
            have hmono : R2 (At (roF (L ++ M ++ [((blk, off, c.size), some ls.flatten)])) a) ds ls := R2.mono (fun _ _ hx => At.loc (roF_ext _ _) hx) h3
            refine ⟨_, rfl, .inr ⟨(L ++ M).length, cap, (ls.drop len).flatten, ls.take len, ?_, ?_, ?_, ?_, R2.take len hmono⟩⟩
            · rw [List.length_take, h2, Nat.min_eq_left hlc]
            · simp only [roF, List.getElem?_append_right (Nat.le_refl _), Nat.sub_self]
              rw [← List.flatten_append, List.take_append_drop]
              rfl
            · rw [List.length_take, h2]; omega
            · rw [← List.flatten_append, List.take_append_drop, hdl, h2]; exact Nat.le_refl _
    · cases hf
  termination_by ty => (SizeOf.sizeOf ty, 1)
theorem opens_fields : ∀ (ty : Ty) (n : Nat) (fs : List Field) (off : Nat) (cs : List Value) (L : RoL), fitsF P ty fs off = true → (∀ (i : Nat) (f : Field), fs[i]? = some f → TrodOk enc P w held n f.type ((cs.drop f.offset).take (P.cellsOf f.type))) → RoInv w L → Opens w ty L ((cs.drop off).take ty.size)
  | .unit, n, [], off, cs, L, hf, hx, hL => by
    rw [show Ty.unit.size = 0 from rfl, List.take_zero]
    exact opens_flat hL (ty := .unit) () [] trivial rfl
  | .unit, n, _ :: _, off, cs, L, hf, hx, hL => by cases hf
  | .pair a b, n, [], off, cs, L, hf, hx, hL => by cases hf
  | .pair a b, n, f :: fs, off, cs, L, hf, hx, hL => by
    rw [fitsF_pair] at hf
    simp only [Bool.and_eq_true, decide_eq_true_eq] at hf
    obtain ⟨⟨⟨h0, h1⟩, h2⟩, h3⟩ := hf
    have hx0 := hx 0 f rfl
    rw [h0, h2] at hx0
    obtain ⟨M, x, l, k1, k2, k3, k4, k5⟩ := opens_ty a n f.type _ L h1 hx0 hL
    obtain ⟨M', y, l', m1, m2, m3, m4, m5⟩ := opens_fields b n fs (off + a.size) cs (L ++ M) h3 (fun i f' hi => hx (i + 1) f' (by simpa using hi)) k1
    refine ⟨M ++ M', (x, y), l ++ l', by rw [← List.append_assoc]; exact m1, ?_, ⟨l, l', rfl, ?_, ?_⟩, fun hp => ?_, fun hp => ?_⟩
    · rw [← List.append_assoc]
      have e : (cs.drop off).take (Ty.pair a b).size = (cs.drop off).take a.size ++ (cs.drop (off + a.size)).take b.size := by
        show (cs.drop off).take (a.size + b.size) = _
        rw [← List.drop_drop, List.take_add]
      rw [e]
      exact R2.append (R2.ext (roPhi_ext _ _) k2) m2
    · rw [← List.append_assoc]; exact k3.loc (roF_ext _ _)
    · rw [← List.append_assoc]; exact m3
    · simp only [Ty.plain, Bool.and_eq_true] at hp
      rw [k4 hp.1, m4 hp.2]; rfl
    · simp only [Ty.good, Bool.and_eq_true] at hp
      have := k5 hp.1; have := m5 hp.2
      rw [List.length_append]; show _ ≤ a.cnt + b.cnt; omega
  | .int _, n, fs, off, cs, L, hf, hx, hL => by cases hf
  | .bool, n, fs, off, cs, L, hf, hx, hL => by cases hf
  | .str, n, fs, off, cs, L, hf, hx, hL => by cases hf
  | .arr _ _, n, fs, off, cs, L, hf, hx, hL => by cases hf
  | .slice _, n, fs, off, cs, L, hf, hx, hL => by cases hf
  termination_by ty => (SizeOf.sizeOf ty, 0)
end
def AvAt (f : HF) : (t : Ty) → t.den → AV → Prop
  | .int k, x, v => v = .s (.int k x) ∧ (Lit.int k x).wf = true
  | .bool, x, v => v = .s (.bool x)
  | .str, x, v => v = .s (.str x) ∧ x.size ≤ maxLen
  | .slice a, x, v => ∃ s, v = .s s ∧ At f (.slice a) x [s]
  | t, x, v => ∃ l, v = .agg l ∧ At f t x l
theorem AvAt.loc {f g : HF} (h : ∀ b x, f b = some (.cells true x) → g b = some (.cells true x)) {t : Ty} {x : t.den} {v : AV} (hx : AvAt f t x v) : AvAt g t x v := by
  cases t with
  | int k => exact hx
  | bool => exact hx
  | str => exact hx
  | slice a => obtain ⟨s, h1, h2⟩ := hx; exact ⟨s, h1, h2.loc h⟩
  | unit => obtain ⟨s, h1, h2⟩ := hx; exact ⟨s, h1, h2.loc h⟩
  | pair a b => obtain ⟨s, h1, h2⟩ := hx; exact ⟨s, h1, h2.loc h⟩
  | arr n a => obtain ⟨s, h1, h2⟩ := hx; exact ⟨s, h1, h2.loc h⟩
theorem opens_arg {ty : Ty} {t : TypeId} {v : Value} {r : Reach} {base : Nat} {d : DataW H} {ps : List MemPlace} {L : RoL} (hf : fits P ty t = true) (hval : Value.okWide P w r base t v) (hd : DataW.Trod enc P w 0 (fun _ => true) held t v d ps) (hL : RoInv w L) :
    ∃ M x av, RoInv w (L ++ M) ∧ AVRel (roPhi (L ++ M)) av v ∧ AvAt (roF (L ++ M)) ty x av ∧ (ty.good = true → M.length ≤ ty.cnt) := by
  obtain ⟨n, hd⟩ := hd
  obtain ⟨M, x, l, h1, h2, h3, _, hgood⟩ := opens_ty ty n t v.cells.toList L hf ⟨_, hd⟩ hL
  refine ⟨M, x, ?_⟩
  have agg : ∀ cs : Array Value, v = .agg cs → AVRel (roPhi (L ++ M)) (.agg l) v := fun cs hv => by
    subst hv
    exact ⟨cs.toList, h2, by simp⟩
  have one : ∀ s, l = [s] → (v.cells = #[v]) → AVRel (roPhi (L ++ M)) (.s s) v := fun s hs hv => by
    subst hs
    rw [hv] at h2
    exact h2.1
  cases ty with
  | int k =>
    rw [fits_int] at hf
    split at hf
    · rename_i k' ht
      obtain ⟨m, rfl⟩ := okWide_int ht hval
      obtain ⟨rfl, hw⟩ := h3
      exact ⟨_, h1, one _ rfl rfl, ⟨rfl, hw⟩, hgood⟩
    · cases hf
  | bool =>
    rw [fits_bool] at hf
    split at hf
    · rename_i ht
      obtain ⟨m, rfl⟩ := okWide_bool ht hval
      have := h3
      exact ⟨_, h1, one _ h3 rfl, rfl, hgood⟩
    · cases hf
  | str =>
    rw [fits_str] at hf
    split at hf
    · rename_i ht
      obtain ⟨m, rfl⟩ := okWide_string ht hval
      obtain ⟨rfl, hw⟩ := h3
      exact ⟨_, h1, one _ rfl rfl, ⟨rfl, hw⟩, hgood⟩
    · cases hf
  | unit => cases hf
  | pair a b =>
    rw [fits_pair] at hf
    split at hf
    · rename_i fs ht
      obtain ⟨cs, hv, _⟩ := okWide_struct ht hval
      exact ⟨_, h1, agg cs hv, ⟨l, rfl, h3⟩, hgood⟩
    · cases hf
  | arr k a =>
    rw [fits_arr] at hf
    split at hf
    · rename_i k' e ht
      have : ∃ cs, v = .agg cs ∧ cs.size = P.cellsOf t ∧ Row.okWide P w r base t cs := by
        unfold Value.okWide at hval
        rw [ht] at hval
        exact hval
      obtain ⟨cs, hv, _⟩ := this
      exact ⟨_, h1, agg cs hv, ⟨l, rfl, h3⟩, hgood⟩
    · cases hf
  | slice a =>
    rw [fits_slice] at hf
    split at hf
    · rename_i e ht
      obtain ⟨ad, len, cap, rfl⟩ := okWide_slice ht hval
      obtain ⟨s, rfl, h4⟩ := h3
      exact ⟨_, h1, one _ rfl rfl, ⟨s, rfl, s, rfl, h4⟩, hgood⟩
    · cases hf
inductive ArgsAt (f : HF) : List Ty → List AV → Prop
  | nil : ArgsAt f [] []
  | cons {t : Ty} {ts : List Ty} {x : t.den} {v : AV} {vs : List AV} : AvAt f t x v → ArgsAt f ts vs → ArgsAt f (t :: ts) (v :: vs)
theorem ArgsAt.loc {f g : HF} (h : ∀ b x, f b = some (.cells true x) → g b = some (.cells true x)) {ts : List Ty} {vs : List AV} (hx : ArgsAt f ts vs) : ArgsAt g ts vs := by
  induction hx with
  | nil => exact .nil
  | cons h1 _ ih => exact .cons (h1.loc h) ih
theorem opens_args {r : Reach} {base : Nat} : ∀ {tys : List Ty} {ts : List TypeId} {vs : List Value} {ds : List (DataW H)} {ps : List MemPlace} {L : RoL}, R2 (fun ty t => fits P ty t = true) tys ts → (∀ (j : Nat) t v, ts[j]? = some t → vs[j]? = some v → Value.okWide P w r base t v) → DataW.TrodAll enc P w 0 (fun _ => true) held ts vs ds ps → RoInv w L →
    ∃ M avs, RoInv w (L ++ M) ∧ R2 (AVRel (roPhi (L ++ M))) avs vs ∧ ArgsAt (roF (L ++ M)) tys avs ∧ (tys.all Ty.good = true → M.length ≤ (tys.map Ty.cnt).sum)
  | [], [], vs, ds, ps, L, _, _, hA, hL => by
    obtain ⟨rfl, _, _⟩ := trodAll_nil hA
    exact ⟨[], [], by simpa using hL, trivial, .nil, fun _ => Nat.zero_le _⟩
  | ty :: tys, t :: ts, vs, ds, ps, L, hf, hval, hA, hL => by
    obtain ⟨v, vs, d, ds, p, q, rfl, rfl, rfl, h0, hr⟩ := trodAll_cons hA
    obtain ⟨M, x, av, h1, h2, h3, h4⟩ := opens_arg hf.1 (hval 0 t v rfl rfl) h0 hL
    obtain ⟨M', avs, k1, k2, k3, k4⟩ := opens_args hf.2 (fun j t v ht hv => hval (j + 1) t v (by simpa using ht) (by simpa using hv)) hr h1
    refine ⟨M ++ M', av :: avs, by rw [← List.append_assoc]; exact k1, ?_, ?_, fun hg => by
      simp only [List.all_cons, Bool.and_eq_true] at hg
      have := h4 hg.1; have := k4 hg.2
      rw [List.length_append, List.map_cons, List.sum_cons]; omega⟩
    · rw [← List.append_assoc]
      exact ⟨h2.mono (roPhi_ext _ _), k2⟩
    · rw [← List.append_assoc]
      exact .cons (h3.loc (roF_ext _ _)) k3
  | [], _ :: _, _, _, _, _, hf, _, _, _ => hf.elim
  | _ :: _, [], _, _, _, _, hf, _, _, _ => hf.elim
end
end Go.AM

/-
  FROM A LAW IN THE ABSTRACT MACHINE TO ITS STATEMENT's ROW, whatever its arguments are.
-/
namespace Go.AM
open Go.RowKit Go.ChangeShapes Go.WideShapes
theorem R2_of_all {α β : Type} {R : α → β → Prop} {f : α → β → Bool} (h : ∀ a b, f a b = true → R a b) : ∀ {ya : List α} {bs : List β}, ya.length = bs.length → ((ya.zip bs).all fun p => f p.1 p.2) = true → R2 R ya bs
  | [], [], _, _ => trivial
  | a :: ya, b :: bs, hl, hx => by
    simp only [List.zip_cons_cons, List.all_cons, Bool.and_eq_true] at hx
    exact ⟨h a b hx.1, R2_of_all h (by simpa using hl) hx.2⟩
  | [], _ :: _, hl, _ => by simp at hl
  | _ :: _, [], hl, _ => by simp at hl
theorem trodAll_stays {H : Type} {enc : TypeId × Value → H} {P : Program} (hl : laidOutB P = true) {W W' : World} {sp : Nat → Bool} : ∀ {ts : List TypeId} {vs : List Value} {ds : List (DataW H)} {ps : List MemPlace}, (ts.all fun t => P.readableRec t && decide (t < P.types.size)) = true → DataW.TrodAll enc P W 0 (fun _ => true) true ts vs ds ps → (∀ p ∈ ps, W.sameAt W' p) → (∀ p ∈ ps, sp p.block = true) → DataW.TrodAll enc P W' 0 sp true ts vs ds ps
  | [], vs, ds, ps, _, hA, _, _ => by
    obtain ⟨rfl, rfl, rfl⟩ := trodAll_nil hA
    exact trodAll_mk0
  | t :: ts, vs, ds, ps, hr, hA, hs, hsp => by
    simp only [List.all_cons, Bool.and_eq_true, decide_eq_true_eq] at hr
    obtain ⟨v, vs, d, ds, p, q, rfl, rfl, rfl, h0, h1⟩ := trodAll_cons hA
    exact trodAll_cons_mk (WideElems.Trod_stays hl hr.1.1 hr.1.2 h0 (fun x hx => hs x (by simp [hx])) fun x hx => hsp x (by simp [hx])) (trodAll_stays hl hr.2 h1 (fun x hx => hs x (by simp [hx])) fun x hx => hsp x (by simp [hx]))
theorem law_walk2 {P : Program} {tab : Nat → Option RFunc} (htab : TabOk P [] tab) (hmix : P.follows .mixedOrders = true) {f : Nat} {args : List AV} {H0 : AH} {φ0 : Phi} {w : World} {cargs : Array Value}
    (hH : HRel w.heap.size w φ0 H0 w) (hargs : R2 (AVRel φ0) args cargs.toList) (h : CallP tab noExt f args H0 fun v _ => v = .s (.bool true)) :
    Calls P f cargs w fun e w' => e = .returned (.bool true) ∧ Grown w w' ∧ ∀ k, k < w.heap.size → w'.heap[k]? = w.heap[k]? := by
  obtain ⟨n, v, H', h1, rfl⟩ := h
  have hs := run_sound (G := []) (B := w.heap.size) (w0 := w) htab noExt_calls noExt_frame noExt_next hmix n
  refine (hs f args H0 _ H' h1 φ0 w cargs hH (fun _ hn => by cases hn) hargs).2.mono ?_
  rintro e w' ⟨φ', cv, rfl, _, h2, h3⟩
  have : cv = .bool true := h3
  subst this
  exact ⟨rfl, h2.grown, h2.old⟩
section
variable {C : Checked} {tab : Nat → Option RFunc} {f : FuncId} {fn : Func} {s : ChangeSpec}
theorem law_lifted (tys : List Ty) (N : Nat) (bt : TypeId)
    (own : ownKnob C.prog.godebug = none) (htab : TabOk C.prog [] tab) (hmix : C.prog.follows .mixedOrders = true) (hlaid : laidOutB C.prog = true)
    (noInit : C.prog.inits.idxOf? f = none) (hfn : C.prog.funcs[f]? = some fn)
    (hread : (fn.params.toList.all fun t => C.prog.readableRec t && decide (t < C.prog.types.size)) = true)
    (hlen : tys.length = fn.params.toList.length) (hfit : ((tys.zip fn.params.toList).all fun p => fits C.prog p.1 p.2) = true)
    (hN : (tys.all Ty.good && decide ((tys.map Ty.cnt).sum ≤ N)) = true)
    (hres : fn.resultTypes = #[bt]) (hbt : C.prog.underlying bt = some .bool)
    (hvars : s.vars = []) (hspec : ∀ (H : Type) (ds : List (DataW H)), ds.length = tys.length → s.fn H ds = { results := [.lit (.bool true)], args := ds })
    (walk : ∀ H avs, WF H → H.next = N → ArgsAt H.blk tys avs → CallP tab noExt f avs H fun v _ => v = .s (.bool true))
    (os : Os) (started : os.Started) (H : Type) (enc : TypeId × Value → H)
    (witness : ∃ (w : World) (tape : Tape) (i : Input), w.os = os ∧ (w.forCall tape i).Shaped C.prog ∧ i.vars = [] ∧ Input.okWide C.prog (w.forCall tape i) .any w.heap.size f i ∧
      s.pre6 enc C.prog fn [] false (w.forCall tape i).memory i.args ∧ ({} : Assume).holds C.prog (lone (Frame.enter C.prog f i.args .normal) [] (w.forCall tape i))) :
    ReturnsInHanded {} C os f .any (s.pre6 enc C.prog fn [] false) (s.post enc C.prog fn false true false false) := by
  refine returnsInHanded_of_change (C := C) own started noInit hfn witness ?_
  intro W base args ds gs before hval hW hcnd _
  have hW' := hW
  obtain ⟨p, q, hA, hV, rfl, hfz, hnd⟩ := hW
  rw [hvars] at hV
  obtain ⟨rfl, rfl⟩ := trodVars_none hV
  simp only [List.append_nil] at hW' hfz hnd
  have hfit' : R2 (fun ty t => fits C.prog ty t = true) tys fn.params.toList := R2_of_all (fun _ _ h => h) hlen hfit
  obtain ⟨M, avs, h1, h2, h3, h4⟩ := opens_args (L := []) hfit' (fun j t v ht hv => hval j t v (by simpa using ht) (by simpa using hv)) hA (fun e he => by cases he)
  simp only [List.nil_append] at h1 h2 h3
  simp only [Bool.and_eq_true, decide_eq_true_eq] at hN
  have hML : M.length ≤ N := Nat.le_trans (h4 hN.1) hN.2
  have hrel := roH_rel h1
  have hrel' : HRel W.heap.size W (roPhi M) ⟨roF M, N⟩ W := { hrel with lt := fun b hb => hrel.lt b (Nat.le_trans hML hb) }
  have hwf : WF ⟨roF M, N⟩ := fun b hb => hrel.lt b (Nat.le_trans hML hb)
  have hdl : ds.length = tys.length := by
    have key : ∀ {ts : List TypeId} {vs : List Value} {ds : List (DataW H)} {ps : List MemPlace}, DataW.TrodAll enc C.prog W 0 (fun _ => true) true ts vs ds ps → ds.length = ts.length := by
      intro ts
      induction ts with
      | nil => intro vs ds ps h; obtain ⟨_, rfl, _⟩ := trodAll_nil h; rfl
      | cons t ts ih => intro vs ds ps h; obtain ⟨v, vs, d, ds, p, q, rfl, rfl, rfl, _, hr⟩ := trodAll_cons h; simp [ih hr]
    rw [key hA, hlen]
  have hsp : s.fn H (ds ++ []) = { results := [.lit (.bool true)], args := ds } := by rw [List.append_nil]; exact hspec H ds hdl
  refine (law_walk2 htab hmix hrel' h2 (walk _ avs hwf rfl h3)).mono fun e W' ⟨he, hg, hold⟩ => ?_
  subst he
  have hlt : ∀ x ∈ p, x.block < W.heap.size := fun x hx => hW'.lt x hx
  have hsame : ∀ x ∈ p, W.sameAt W' x := fun x hx => by
    cases x with
    | cell b o => exact World.cell?_of_block (w := W) (hold b (hlt _ hx))
    | map b => exact hold b (hlt _ hx)
  refine ⟨_, rfl, post_of_same (pa := p) (pv := []) hW' (fun b sp hd => ?_) (fun sp hsp' => ?_) (fun _ _ => ?_) (by simp) (hg.frame _) hg.2.1 (ok_one hres rfl (okWide_bool_mk hbt _))⟩
  · rw [hsp, hres]
    exact trodAll_cons_mk (shut_bool hbt _) trodAll_mk0
  · rw [hsp]
    exact trodAll_stays hlaid hread hA hsame hsp'
  · rw [hvars, hsp]
    rfl
end
end Go.AM

/-
  The law ClockRounds, in the abstract machine.
-/
namespace Go.AM
attribute [local simp] AH.ld AH.ldn AH.stn AH.new Nat.add_assoc resA resA1 fillA buildA slSlA boundsA boundA callvP
theorem CallP_eval {f : Nat} {args : List AV} {H : AH} {v : AV} (n : Nat) (h : (run tab noExt n f args H).map (fun x => x.1) = some v) : CallP tab noExt f args H fun v' _ => v' = v := by
  cases hr : run tab noExt n f args H with
  | none => rw [hr] at h; cases h
  | some x => rw [hr] at h; exact ⟨n, x.1, x.2, hr, by simpa using h⟩
theorem lit_i64 {a : Int} (h : (Lit.int .i64 a).wf = true) : -9223372036854775808 ≤ a ∧ a < 9223372036854775808 := by
  simp [Lit.wf, IntKind.min, IntKind.max, IntKind.bits, IntKind.signed] at h
  omega
end Go.AM

/-
  The law TimerFull, in the abstract machine.
-/
namespace Go.AM
attribute [local simp] AH.ld AH.ldn AH.stn AH.new Nat.add_assoc resA resA1 fillA buildA slSlA boundsA boundA callvP
def sameL (a : Int) (n : Nat) : List Ent := (List.range n).map fun (i : Nat) => ⟨a, (i : Int) + 1, (i : Int)⟩
end Go.AM

/-
  What laws begin with: the arguments, the known case; what an argument tells.
-/
namespace Go.AM
attribute [local simp] AH.ld AH.ldn AH.stn AH.new Nat.add_assoc resA resA1 fillA buildA slSlA boundsA boundA callvP
theorem CallP.start {ρ : HF} {f : Nat} {args : List AV} {H : AH} (hw : WF H) (hr : RoOf ρ H) {K K' : AV → AH → Prop} (h : CallP tab noExt f args H K) (hk : ∀ v H', Sat ρ H' [] → K v H' → K' v H') : CallP tab noExt f args H K' :=
  (h.mono_wf tab_wf noExt_wf noExt_next hw (K' := fun v H' => WF H' ∧ K v H') fun _ _ a _ c => ⟨a, c⟩).mono_ro noExt_ro hr fun v H' hro ⟨a, c⟩ => hk v H' (.nil a hro) c
theorem CallP_evalAt {f : Nat} {args : List AV} {v : AV} (n m : Nat) (h : ∀ g : HF, (run tab noExt n f args ⟨fun b => if b < m then g b else none, m⟩).map (fun x => x.1) = some v) {H : AH} (hw : WF H) (hn : H.next = m) : CallP tab noExt f args H fun v' _ => v' = v := by
  have e : H = ⟨fun b => if b < m then H.blk b else none, m⟩ := by
    obtain ⟨g, k⟩ := H
    simp only at hn
    subst hn
    congr 1
    funext b
    split
    · rfl
    · rename_i hb; exact hw b (by simp at hb; exact hb)
  rw [e]
  exact CallP_eval n (h _)
theorem ArgsAt.cons_inv {f : HF} {t : Ty} {ts : List Ty} {l : List AV} (h : ArgsAt f (t :: ts) l) : ∃ x v vs, l = v :: vs ∧ AvAt f t x v ∧ ArgsAt f ts vs := by
  cases h with | cons h1 h2 => exact ⟨_, _, _, rfl, h1, h2⟩
theorem ArgsAt.nil_inv {f : HF} {l : List AV} (h : ArgsAt f [] l) : l = [] := by cases h; rfl
abbrev RoI (ρ : HF) (k : IntKind) (s : SV) (xs : List Int) : Prop := At ρ (.slice (.int k)) xs [s]
theorem ArgsAt.int {f : HF} {k : IntKind} {ts : List Ty} {l : List AV} (h : ArgsAt f (.int k :: ts) l) : ∃ (x : Int) (vs : List AV), l = .s (.int k x) :: vs ∧ (Lit.int k x).wf = true ∧ ArgsAt f ts vs := by
  cases h with | cons h1 h2 => exact ⟨_, _, by rw [h1.1], h1.2, h2⟩
theorem ArgsAt.bool {f : HF} {ts : List Ty} {l : List AV} (h : ArgsAt f (.bool :: ts) l) : ∃ (x : Bool) (vs : List AV), l = .s (.bool x) :: vs ∧ ArgsAt f ts vs := by
  cases h with | cons h1 h2 => exact ⟨_, _, by rw [show _ = _ from h1], h2⟩
section
variable {ρ : HF} {k : IntKind} {s : SV} {xs : List Int}
theorem RoI.len (h : RoI ρ k s xs) : lenA (.s s) = some (i64 xs.length) := by
  obtain ⟨s', h1, h2⟩ := h
  cases h1
  rcases h2 with ⟨o, rfl, rfl⟩ | ⟨b, c, j, ls, rfl, _⟩ <;> rfl
theorem flat1 {f : HF} : ∀ {xs : List Int} {ls : List (List SV)}, R2 (At f (.int k)) xs ls → ls.flatten = xs.map fun n => SV.int k n
  | [], [], _ => rfl
  | _ :: _, _ :: _, h => by
    have h1 := h.1.1
    subst h1
    simp [flat1 h.2]
theorem RoI.get (h : RoI ρ k s xs) {H : AH} (hr : RoOf ρ H) {i : Nat} (hi : i < xs.length) : ∃ b c l, s = .slice (some (b, 0)) xs.length c 1 ∧ H.blk b = some (.cells true l) ∧ l[i]? = some (.int k (xs.getD i 0)) ∧ (Lit.int k (xs.getD i 0)).wf = true := by
  rw [List.getD_eq_getElem?_getD, List.getElem?_eq_getElem hi]
  simp only [Option.getD_some]
  obtain ⟨s', h1, h2⟩ := h
  cases h1
  rcases h2 with ⟨o, rfl, rfl⟩ | ⟨b, c, j, ls, rfl, hb, h3, h4, h5⟩
  · simp at hi
  · refine ⟨b, c, _, rfl, hr b _ hb, ?_, ?_⟩
    · rw [flat1 h5, List.getElem?_append_left (by simpa using hi)]
      simp [hi]
    · obtain ⟨l, _, hx⟩ := h5.get i xs[i] (List.getElem?_eq_getElem hi)
      exact hx.2
end
end Go.AM

/-
  Elements of slices that are arguments.
-/
namespace Go.AM
theorem R2_flat_get {α : Type} {R : α → List SV → Prop} {k : Nat} (hk : ∀ x l, R x l → l.length = k) : ∀ {xs : List α} {ls : List (List SV)} (j : List SV), R2 R xs ls → ∀ {i : Nat}, i < xs.length → ∃ x li, xs[i]? = some x ∧ R x li ∧ ((ls.flatten ++ j).drop (i * k)).take k = li ∧ i * k + k ≤ (ls.flatten ++ j).length
  | [], _, _, _, i, hi => by simp at hi
  | x :: xs, l :: ls, j, h, 0, _ => by
    have hl := hk _ _ h.1
    refine ⟨x, l, rfl, h.1, ?_, ?_⟩
    · rw [Nat.zero_mul, List.drop_zero, List.flatten_cons, List.append_assoc, ← hl, List.take_left]
    · simp [List.flatten_cons, hl]
  | x :: xs, l :: ls, j, h, i + 1, hi => by
    have hl := hk _ _ h.1
    obtain ⟨y, li, h1, h2, h3, h4⟩ := R2_flat_get hk j h.2 (i := i) (by simpa using hi)
    refine ⟨y, li, by simpa using h1, h2, ?_, ?_⟩
    · rw [← h3, Nat.add_mul, Nat.one_mul, Nat.add_comm (i * k) k, ← List.drop_drop, List.flatten_cons, List.append_assoc]
      congr 1
      conv => lhs; rw [← hl, List.drop_left]
      rw [hl]
    · simp only [List.flatten_cons, List.length_append, hl] at h4 ⊢
      rw [Nat.add_mul]; omega
  | _ :: _, [], _, h, _, _ => h.elim
section
variable {ρ : HF} {a : Ty} {xs : List a.den} {s : SV}
theorem At.slLen (h : At ρ (.slice a) xs [s]) : lenA (.s s) = some (i64 xs.length) := by
  obtain ⟨s', h1, h2⟩ := h
  cases h1
  rcases h2 with ⟨o, rfl, rfl⟩ | ⟨b, c, j, ls, rfl, _⟩ <;> rfl
theorem At.slGet (h : At ρ (.slice a) xs [s]) {i : Nat} (hi : i < xs.length) : ∃ b c l x li, s = .slice (some (b, 0)) xs.length c a.size ∧ ρ b = some (.cells true l) ∧ xs[i]? = some x ∧ At ρ a x li ∧ (l.drop (i * a.size)).take a.size = li ∧ i * a.size + a.size ≤ l.length := by
  obtain ⟨s', h1, h2⟩ := h
  cases h1
  rcases h2 with ⟨o, rfl, rfl⟩ | ⟨b, c, j, ls, rfl, hb, h3, h4, h5⟩
  · simp at hi
  · obtain ⟨x, li, k1, k2, k3, k4⟩ := R2_flat_get (fun _ _ h => At.len h) j h5 hi
    exact ⟨b, c, _, x, li, rfl, hb, k1, k2, k3, k4⟩
end
theorem ArgsAt.slice {f : HF} {a : Ty} {ts : List Ty} {l : List AV} (h : ArgsAt f (.slice a :: ts) l) : ∃ (xs : List a.den) (s : SV) (vs : List AV), l = .s s :: vs ∧ At f (.slice a) xs [s] ∧ ArgsAt f ts vs := by
  cases h with | cons h1 h2 => obtain ⟨s, rfl, h⟩ := h1; exact ⟨_, s, _, rfl, h, h2⟩
theorem ArgsAt.nil' {f : HF} {l : List AV} (h : ArgsAt f [] l) : l = [] := by cases h; rfl
end Go.AM

/-
  The law HandCycles, in the abstract machine.
-/
set_option maxRecDepth 10000
namespace Go.AM
attribute [local simp] Nat.add_assoc resA resA1 fillA buildA callvP
theorem known20_at {m : Nat} {H : AH} (hw : WF H) (hn : H.next = m) (h : ∀ g : HF, (run tab noExt 60 F.detentlaw20_known [] ⟨fun b => if b < m then g b else none, m⟩).map (fun x => x.1) = some (bl true)) : CallP tab noExt F.detentlaw20_known [] H fun v _ => v = bl true :=
  CallP_evalAt 60 m h hw hn
section
variable {ρ : HF}
end
end Go.AM

/-
  The law HandPlays, in the abstract machine: what is compared behind each call.
-/
set_option maxRecDepth 10000
namespace Go.AM
attribute [local simp] Nat.add_assoc resA resA1 fillA buildA callvP
theorem Fired_tri (x y : SV) (z : List Fir) (hzl : z.length < 4611686018427387904) : Tri tab noExt F.detentlaw20_Fired [.s x, .s y] [Row encF 3 x z, Row encF 3 y z] fun v P' => v = bl true ∧ P' = [Row encF 3 x z, Row encF 3 y z] := by
  refine Tri.intro fun ρ H Rs K hs hk => ?_
  have hs : Sat ρ H (Row encF 3 x z :: Row encF 3 y z :: Rs) := hs
  apply detentlaw20_Fired_callw
  have l1 := hs.rowLen
  have l2 := hs.swap.rowLen
  simp [l1, l2]
  intro T1 hT1 hl
  simp only [Lvs] at hl
  obtain ⟨u0, u1, u4, u5, _⟩ := hl
  refine loopP_invK (I := fun n T H => T.length = 54 ∧ sl T 0 = .s x ∧ sl T 1 = .s y ∧ ∃ i : Nat, sl T 5 = i64 i ∧ i ≤ z.length ∧ n = z.length - i ∧ Sat ρ H (Row encF 3 x z :: Row encF 3 y z :: Rs)) ?_ z.length _ _ ⟨hT1, u0, u1, 0, u5, Nat.zero_le _, rfl, by (repeat refine Sat.bump ?_ _); exact hs⟩
  rintro n T H' ⟨hT, t0, t1, i, t5, hi, hn, hs⟩ K' kn kr ko
  apply detentlaw20_Fired_l0_w hT
  have l1 := hs.rowLen
  by_cases hlt : i < z.length
  · obtain ⟨e, he⟩ : ∃ e, z[i]? = some e := ⟨_, List.getElem?_eq_getElem hlt⟩
    obtain ⟨b, c, j, rfl, hb, _, _⟩ := hs.rowBlk (by omega)
    obtain ⟨b', c', j', rfl, hb', _, _⟩ := hs.swap.rowBlk (by omega)
    have x1 := ixEl (b := b) (c := c) (k := 3) hlt
    have x2 := ixEl (b := b') (c := c') (k := 3) hlt
    have p0 : ∀ m n, loadA none (.s (.ptr (some (b, i * 3 + 0)))) ((H'.bump m).bump n) = some (bl e.cyc) := fun m n => by rw [loadA_one, bump_ld, bump_ld, rdCell encF_len hb he 0 (by omega)]; rfl
    have p1 : ∀ m n, loadA none (.s (.ptr (some (b, i * 3 + 1)))) ((H'.bump m).bump n) = some (i64 e.no) := fun m n => by rw [loadA_one, bump_ld, bump_ld, rdCell encF_len hb he 1 (by omega)]; rfl
    have p2 : ∀ m n, loadA none (.s (.ptr (some (b, i * 3 + 2)))) ((H'.bump m).bump n) = some (u64 e.at_) := fun m n => by rw [loadA_one, bump_ld, bump_ld, rdCell encF_len hb he 2 (by omega)]; rfl
    have r0 : ∀ m n, loadA none (.s (.ptr (some (b', i * 3 + 0)))) ((H'.bump m).bump n) = some (bl e.cyc) := fun m n => by rw [loadA_one, bump_ld, bump_ld, rdCell encF_len hb' he 0 (by omega)]; rfl
    have r1 : ∀ m n, loadA none (.s (.ptr (some (b', i * 3 + 1)))) ((H'.bump m).bump n) = some (i64 e.no) := fun m n => by rw [loadA_one, bump_ld, bump_ld, rdCell encF_len hb' he 1 (by omega)]; rfl
    have r2 : ∀ m n, loadA none (.s (.ptr (some (b', i * 3 + 2)))) ((H'.bump m).bump n) = some (u64 e.at_) := fun m n => by rw [loadA_one, bump_ld, bump_ld, rdCell encF_len hb' he 2 (by omega)]; rfl
    have c0 : eqsA .bool true (bl e.cyc) (bl e.cyc) = some (bl false) := by cases e.cyc <;> rfl
    have c1 : binA .neq (i64 e.no) (i64 e.no) = some (bl false) := by rw [binA_neq, decide_eq_false (by simp)]
    have c2 : binA .neq (u64 e.at_) (u64 e.at_) = some (bl false) := by rw [binA_neq, decide_eq_false (by simp)]
    have w : binA .add (i64 i) (i64 1) = some (i64 (i + 1 : Nat)) := by rw [binA_add, wrapP1 i (by omega)]
    have hc : binA .lss (i64 i) (i64 z.length) = some (bl true) := by rw [binA_lss, decide_eq_true (by omega)]
    have hln : lenA (.s (.slice (some (b, 0)) z.length c 3)) = some (i64 z.length) := rfl
    simp only [t0, t1, t5]
    repeat (first | refine gP_t rfl ?_ | refine gP_f rfl ?_ | refine condP_t ?_ | refine condP_f ?_ | refine ⟨_, hln, ?_⟩ | refine ⟨_, hc, ?_⟩ | refine ⟨_, x1, ?_⟩ | refine ⟨_, x2, ?_⟩ | refine ⟨_, p0 _ _, ?_⟩ | refine ⟨_, p1 _ _, ?_⟩ | refine ⟨_, p2 _ _, ?_⟩ | refine ⟨_, r0 _ _, ?_⟩ | refine ⟨_, r1 _ _, ?_⟩ | refine ⟨_, r2 _ _, ?_⟩ | refine ⟨_, c0, ?_⟩ | refine ⟨_, c1, ?_⟩ | refine ⟨_, c2, ?_⟩ | refine ⟨_, w, ?_⟩ | refine ⟨_, rfl, ?_⟩)
    intro T' hT' hl
    simp only [Lvs] at hl
    exact kn (z.length - (i + 1)) _ _ (by omega) ⟨hT', hl.1, hl.2.1, i + 1, hl.2.2.2.1, hlt, rfl, by (repeat refine Sat.bump ?_ _); exact hs⟩
  · have hie : i = z.length := by omega
    subst hie
    simp only [t0, t1, t5, l1, andThen_some, binA_lss, condP_bool]
    rw [decide_eq_false (by omega)]
    simp only [Bool.false_eq_true, if_false]
    intro T' hT' hl
    simp only [Lvs] at hl
    refine ko _ _ _ ?_
    simp
    apply detentlaw20_Fired_s1_w hT'
    intro T2 hT2 hl2
    simp only [Lvs] at hl2
    have v4 : T2[4]?.getD undef = bl true := by rw [← List.getD_eq_getElem?_getD]; exact hl2.2.2.1
    simp [v4]
    exact hk _ _ _ ⟨rfl, rfl⟩ ((hs.bump _).bump _)
section
variable {ρ : HF}
theorem hp_s0 (h m : Nat) (cs : List Cyc) (al : List Alr) (L : List Ent) (last tic up : Int) (hu : 0 ≤ up ∧ up ≤ 1000000) (x n : Int) (Rs : List Asr) (T : List AV) (H : AH) (hT : T.length = 299) (A0 A1 A9 : AV) (t0 : sl T 0 = A0) (t1 : sl T 1 = A1) (t5 : sl T 5 = ptr h) (t7 : sl T 7 = ptr m) (t9 : sl T 9 = A9) (t11 : sl T 11 = i64 x) (t12 : sl T 12 = i64 x) (t13 : sl T 13 = i64 n) (t14 : sl T 14 = i64 n)
    (hs : Sat ρ H (HdA h cs al L last tic up 0 :: HrD m cs al L last tic up 0 :: Rs)) (K : Ex → List AV → AH → Prop)
    (hk : ∀ (T' : List AV) (H' : AH), T'.length = 299 → sl T' 0 = A0 → sl T' 1 = A1 → sl T' 5 = ptr h → sl T' 7 = ptr m → sl T' 9 = A9 → Sat ρ H' (HdA h cs al L last tic up 0 :: HrD m cs al L last tic up 0 :: Rs) → K .norm T' H') :
    wpC tab noExt R.detentlaw20_HandPlays_s0 T H K := by
  apply detentlaw20_HandPlays_s0_w hT
  have ex : binA .neq (i64 x) (i64 x) = some (bl false) := by rw [binA_neq, decide_eq_false (by simp)]
  have en : binA .neq (i64 n) (i64 n) = some (bl false) := by rw [binA_neq, decide_eq_false (by simp)]
  have eu : ∀ y, binA .neq (u64 y) (u64 y) = some (bl false) := fun y => by rw [binA_neq, decide_eq_false (by simp)]
  obtain ⟨ck, s1, s2, hs1⟩ := Sat.hdOpen hs
  have hs2 : Sat ρ H (HrD m cs al L last tic up 0 :: Cel h [.ptr (some (ck, 0)), .int .u64 tic, s1, s2] :: CkA ck L last tic up 0 :: Row encC 5 s1 cs :: Row encL 2 s2 al :: Rs) := Sat.re hs1 [4, 0, 1, 2, 3] (by simp) (by decide)
  obtain ⟨cm, r1, r2, hs3⟩ := Sat.hrOpen hs2
  have hs4 : Sat ρ H (CkA ck L last tic up 0 :: Cel h [.ptr (some (ck, 0)), .int .u64 tic, s1, s2] :: Cel m [.ptr (some (cm, 0)), r1, r2] :: RkA cm L last tic up 0 :: Row encC 5 s1 cs :: Row encL 2 s2 al :: Row encQ 5 r1 cs :: Row encL 2 r2 al :: Rs) := Sat.re hs3 [5, 4, 0, 1, 6, 7, 2, 3] (by simp) (by decide)
  have lh : ∀ {H' : AH} {R' : List Asr}, Sat ρ H' (CkA ck L last tic up 0 :: Cel h [.ptr (some (ck, 0)), .int .u64 tic, s1, s2] :: R') → H'.ld h 0 = some (.ptr (some (ck, 0))) := fun h' => by rw [ld_of _ h'.swap.cel]; rfl
  have lm : ∀ {H' : AH} {R' : List Asr}, Sat ρ H' (CkA ck L last tic up 0 :: Cel h [.ptr (some (ck, 0)), .int .u64 tic, s1, s2] :: Cel m [.ptr (some (cm, 0)), r1, r2] :: R') → H'.ld m 0 = some (.ptr (some (cm, 0))) := fun h' => by rw [ld_of _ (h'.front 2 (by simp)).cel]; rfl
  have lc : ∀ {H' : AH} {R' : List Asr}, Sat ρ H' (CkA ck L last tic up 0 :: Cel h [.ptr (some (ck, 0)), .int .u64 tic, s1, s2] :: Cel m [.ptr (some (cm, 0)), r1, r2] :: RkA cm L last tic up 0 :: R') → H'.ld cm 2 = some (.int .u64 up) := fun h' => by
    obtain ⟨t, h''⟩ := Sat.rkOpen (h'.front 3 (by simp))
    rw [ld_of _ h''.cel]; rfl
  have L1 : ∀ {H' : AH} {p o : Nat} {v : SV}, H'.ld p o = some v → loadA none (.s (.ptr (some (p, o)))) H' = some (.s v) := fun h' => by rw [loadA_one, h']; rfl
  have a1 := L1 (lh (hs4.bump 58))
  have a2 := L1 (lm (hs4.bump 58))
  have a3 := L1 (lc (hs4.bump 58))
  simp only [t0, t1, t5, t7, t9, t11, t12, t13, t14]
  repeat (first | refine gP_t rfl ?_ | refine gP_f rfl ?_ | refine condP_t ?_ | refine condP_f ?_ | refine ⟨_, ex, ?_⟩ | refine ⟨_, en, ?_⟩ | refine ⟨_, a1, ?_⟩ | refine ⟨_, a2, ?_⟩ | refine ⟨_, a3, ?_⟩ | refine ⟨_, rfl, ?_⟩)
  refine (Up_tri ck L last tic up 0).use (hs4.bump 58) ?_
  rintro v H2 P' ⟨rfl, rfl⟩ hs5
  have hs5 : Sat ρ H2 (CkA ck L last tic up 0 :: Cel h [.ptr (some (ck, 0)), .int .u64 tic, s1, s2] :: Cel m [.ptr (some (cm, 0)), r1, r2] :: RkA cm L last tic up 0 :: Row encC 5 s1 cs :: Row encL 2 s2 al :: Row encQ 5 r1 cs :: Row encL 2 r2 al :: Rs) := hs5
  have a1 := L1 (lh hs5)
  have a2 := L1 (lm hs5)
  have a3 := L1 (lc hs5)
  refine ⟨fun _ => a2, fun _ => a3, ?_⟩
  repeat (first | refine gP_t rfl ?_ | refine gP_f rfl ?_ | refine condP_t ?_ | refine condP_f ?_ | refine ⟨_, eu up, ?_⟩ | refine ⟨_, a1, ?_⟩ | refine ⟨_, a2, ?_⟩ | refine ⟨_, a3, ?_⟩ | refine ⟨_, rfl, ?_⟩)
  refine (Now_tri ck L last tic up 0).use hs5 ?_
  rintro v H3 P' ⟨rfl, rfl⟩ hs6
  have hs6 : Sat ρ H3 (CkA ck L last tic up 0 :: Cel h [.ptr (some (ck, 0)), .int .u64 tic, s1, s2] :: Cel m [.ptr (some (cm, 0)), r1, r2] :: RkA cm L last tic up 0 :: Row encC 5 s1 cs :: Row encL 2 s2 al :: Row encQ 5 r1 cs :: Row encL 2 r2 al :: Rs) := hs6
  have a2 := L1 (lm hs6)
  refine ⟨fun _ => a2, ?_⟩
  repeat (first | refine gP_t rfl ?_ | refine gP_f rfl ?_ | refine condP_t ?_ | refine condP_f ?_ | refine ⟨_, a2, ?_⟩ | refine ⟨_, rfl, ?_⟩)
  refine (RkNow_tri cm L last tic up 0 (by omega) hu).use (hs6.front 3 (by simp)) ?_
  rintro v H4 P' ⟨rfl, rfl⟩ hs7
  have hs7 : Sat ρ H4 (CkA ck L last tic up 0 :: Cel h [.ptr (some (ck, 0)), .int .u64 tic, s1, s2] :: Cel m [.ptr (some (cm, 0)), r1, r2] :: RkA cm L last tic up 0 :: Row encC 5 s1 cs :: Row encL 2 s2 al :: Row encQ 5 r1 cs :: Row encL 2 r2 al :: Rs) := Sat.re hs7 [1, 2, 3, 0] (by simp) (by decide)
  have a1 := L1 (lh hs7)
  have a2 := L1 (lm hs7)
  obtain ⟨tc, hs8⟩ := Sat.ckOpen hs7
  have k1 : loadA none (.s (.ptr (some (ck, 0)))) H4 = some (.s (.ptr (some (tc, 0)))) := L1 (by rw [ld_of H4 hs8.cel]; rfl)
  have hs9 : Sat ρ H4 (RkA cm L last tic up 0 :: TmA tc L last :: Cel ck [.ptr (some (tc, 0)), .int .u64 tic, .int .u64 up, .int .u64 0] :: Cel h [.ptr (some (ck, 0)), .int .u64 tic, s1, s2] :: Cel m [.ptr (some (cm, 0)), r1, r2] :: Row encC 5 s1 cs :: Row encL 2 s2 al :: Row encQ 5 r1 cs :: Row encL 2 r2 al :: Rs) := Sat.re hs8 [4, 1, 0, 2, 3] (by simp) (by decide)
  obtain ⟨t, hs10⟩ := Sat.rkOpen hs9
  have k2 : loadA none (.s (.ptr (some (cm, 0)))) H4 = some (.s (.ptr (some (t, 0)))) := L1 (by rw [ld_of H4 hs10.cel]; rfl)
  obtain ⟨r, hsT, hpr⟩ := Sat.rtOpen hs10.swap
  obtain ⟨sr, hsR⟩ := Sat.rfOpen hsT
  have k3 : loadA none (.s (.ptr (some (t, 0)))) H4 = some (.s sr) := L1 (by rw [ld_of H4 hsR.cel]; rfl)
  have k4 : lenA (.s sr) = some (i64 L.length) := by
    have := Sat.rowLen hsR.swap
    rw [hpr.1.length_eq] at this
    exact this
  have hs10b : Sat ρ H4 (TmA tc L last :: Cel t [sr, .int .i64 last] :: Row encR 3 sr r :: Cel cm [.ptr (some (t, 0)), .int .i64 tic, .int .u64 up, .int .u64 0] :: Cel ck [.ptr (some (tc, 0)), .int .u64 tic, .int .u64 up, .int .u64 0] :: Cel h [.ptr (some (ck, 0)), .int .u64 tic, s1, s2] :: Cel m [.ptr (some (cm, 0)), r1, r2] :: Row encC 5 s1 cs :: Row encL 2 s2 al :: Row encQ 5 r1 cs :: Row encL 2 r2 al :: Rs) := Sat.re hsR [3, 0, 1, 2] (by simp) (by decide)
  repeat (first | refine gP_t rfl ?_ | refine gP_f rfl ?_ | refine condP_t ?_ | refine condP_f ?_ | refine ⟨_, eu _, ?_⟩ | refine ⟨_, a1, ?_⟩ | refine ⟨_, a2, ?_⟩ | refine ⟨_, k1, ?_⟩ | refine ⟨_, k2, ?_⟩ | refine ⟨_, k3, ?_⟩ | refine ⟨_, k4, ?_⟩ | refine ⟨_, rfl, ?_⟩)
  refine (Len_tri tc L last).use hs10b ?_
  rintro v H5 P' ⟨rfl, rfl⟩ hs11
  have hs11 : Sat ρ H5 (TmA tc L last :: Cel t [sr, .int .i64 last] :: Row encR 3 sr r :: Cel cm [.ptr (some (t, 0)), .int .i64 tic, .int .u64 up, .int .u64 0] :: Cel ck [.ptr (some (tc, 0)), .int .u64 tic, .int .u64 up, .int .u64 0] :: Cel h [.ptr (some (ck, 0)), .int .u64 tic, s1, s2] :: Cel m [.ptr (some (cm, 0)), r1, r2] :: Row encC 5 s1 cs :: Row encL 2 s2 al :: Row encQ 5 r1 cs :: Row encL 2 r2 al :: Rs) := hs11
  have b2 : loadA none (.s (.ptr (some (m, 0)))) H5 = some (.s (.ptr (some (cm, 0)))) := L1 (by rw [ld_of H5 (hs11.front 6 (by simp)).cel]; rfl)
  have b3 : loadA none (.s (.ptr (some (cm, 0)))) H5 = some (.s (.ptr (some (t, 0)))) := L1 (by rw [ld_of H5 (hs11.front 3 (by simp)).cel]; rfl)
  have elen : binA .neq (i64 L.length) (i64 L.length) = some (bl false) := by rw [binA_neq, decide_eq_false (by simp)]
  have back : Sat ρ H5 (HdA h cs al L last tic up 0 :: HrD m cs al L last tic up 0 :: Rs) := by
    have j0 : Sat ρ H5 (RfT t L last :: TmA tc L last :: Cel cm [.ptr (some (t, 0)), .int .i64 tic, .int .u64 up, .int .u64 0] :: Cel ck [.ptr (some (tc, 0)), .int .u64 tic, .int .u64 up, .int .u64 0] :: Cel h [.ptr (some (ck, 0)), .int .u64 tic, s1, s2] :: Cel m [.ptr (some (cm, 0)), r1, r2] :: Row encC 5 s1 cs :: Row encL 2 s2 al :: Row encQ 5 r1 cs :: Row encL 2 r2 al :: Rs) := Sat.rtClose (Sat.rfClose (Sat.re hs11 [1, 2, 0] (by simp) (by decide))) hpr
    have j1 : Sat ρ H5 (RkA cm L last tic up 0 :: TmA tc L last :: Cel ck [.ptr (some (tc, 0)), .int .u64 tic, .int .u64 up, .int .u64 0] :: Cel h [.ptr (some (ck, 0)), .int .u64 tic, s1, s2] :: Cel m [.ptr (some (cm, 0)), r1, r2] :: Row encC 5 s1 cs :: Row encL 2 s2 al :: Row encQ 5 r1 cs :: Row encL 2 r2 al :: Rs) := Sat.rkClose (Sat.re j0 [2, 0, 1] (by simp) (by decide))
    have j2 : Sat ρ H5 (CkA ck L last tic up 0 :: RkA cm L last tic up 0 :: Cel h [.ptr (some (ck, 0)), .int .u64 tic, s1, s2] :: Cel m [.ptr (some (cm, 0)), r1, r2] :: Row encC 5 s1 cs :: Row encL 2 s2 al :: Row encQ 5 r1 cs :: Row encL 2 r2 al :: Rs) := Sat.ckClose (Sat.re j1 [2, 1, 0] (by simp) (by decide))
    have j3 : Sat ρ H5 (HrD m cs al L last tic up 0 :: CkA ck L last tic up 0 :: Cel h [.ptr (some (ck, 0)), .int .u64 tic, s1, s2] :: Row encC 5 s1 cs :: Row encL 2 s2 al :: Rs) := Sat.hrClose (Sat.re j2 [3, 1, 6, 7, 0, 2, 4, 5] (by simp) (by decide))
    exact Sat.hdClose (Sat.re j3 [2, 1, 3, 4, 0] (by simp) (by decide))
  have b4 : loadA none (.s (.ptr (some (t, 0)))) H5 = some (.s sr) := L1 (by rw [ld_of H5 (hs11.front 1 (by simp)).cel]; rfl)
  refine ⟨fun _ => b2, fun _ => b3, fun _ => b4, ?_⟩
  repeat (first | refine gP_t rfl ?_ | refine gP_f rfl ?_ | refine condP_t ?_ | refine condP_f ?_ | refine ⟨_, elen, ?_⟩ | refine ⟨_, rfl, ?_⟩)
  intro T' hT' hl
  simp only [Lvs] at hl
  obtain ⟨u0, u1, _, u5, u7, u9, _⟩ := hl
  exact hk T' _ hT' u0 u1 u5 u7 u9 back
end
end Go.AM

/-
  PLAIN: what the law HandPlays keeps.
-/
namespace Go.AM
structure HpI (cs : List Cyc) (al : List Alr) (L : List Ent) (last up : Int) (i : Nat) : Prop where
  i80 : i ≤ 80
  u0 : 0 ≤ up
  u1 : up ≤ i * 1000
  lc : cs.length ≤ 8
  lal : al.length ≤ 8
  l : L.length ≤ i
  la1 : last ≤ i
  c : ∀ c ∈ cs, (0 ≤ c.first ∧ c.first ≤ 3000000000) ∧ (0 ≤ c.next ∧ c.next ≤ 6000000000) ∧ (1 ≤ c.period ∧ c.period ≤ 2147483647)
  a : ∀ a ∈ al, 0 ≤ a.at_ ∧ a.at_ ≤ 3000000000
section
variable {cs : List Cyc} {al : List Alr} {L : List Ent} {last up : Int} {i : Nat}
theorem HpI.ok (h : HpI cs al L last up i) : HdOk cs al up := ⟨h.u0, by have := h.u1; have := h.i80; omega, h.lc, h.lal, fun c hc => by have := h.c c hc; omega, fun a ha => by have := h.a a ha; omega⟩
theorem mem_modR {α : Type} {l : List α} {no : Int} {f : α → α} {x : α} (h : x ∈ (modR l no f).2) : x ∈ l ∨ ∃ y ∈ l, x = f y := by
  unfold modR at h
  split at h
  · exact .inl h
  · rename_i k hk
    obtain ⟨_, hi⟩ := idxN_some hk
    have hx : l[k]? = some l[k] := List.getElem?_eq_getElem hi
    simp only at h
    rw [modify_set f hx] at h
    rcases List.mem_or_eq_of_mem_set h with h | h
    · exact .inl h
    · exact .inr ⟨_, List.getElem_mem hi, h⟩
theorem modR_len {α : Type} (l : List α) (no : Int) (f : α → α) : (modR l no f).2.length = l.length := by
  unfold modR; split <;> simp
variable (h : HpI cs al L last up i) (hi : i < 80)
include h hi
theorem HpI.same : HpI cs al L last up (i + 1) := ⟨by omega, h.u0, by have := h.u1; push_cast; omega, h.lc, h.lal, by have := h.l; omega, by have := h.la1; push_cast; omega, h.c, h.a⟩
theorem HpI.up80 : up ≤ 79000 := by have := h.u1; omega
theorem HpI.cyc (d e : Int) (f g : Bool) : HpI (cycR cs up d e f g).2 al L last up (i + 1) := by
  have b := h.same hi
  have hu := h.up80 hi
  unfold cycR
  split
  · exact b
  · rename_i hb
    split
    · exact b
    · rename_i h8
      refine ⟨b.i80, b.u0, b.u1, by rw [List.length_append]; simp; omega, b.lal, b.l, b.la1, fun c hc => ?_, b.a⟩
      have hu0 := h.u0
      rcases List.mem_append.1 hc with hc | hc
      · exact b.c c hc
      · rw [List.mem_singleton] at hc
        subst hc
        simp [badP] at hb
        simp only
        omega
theorem HpI.alm : HpI cs (almR al).2 L last up (i + 1) := by
  have b := h.same hi
  unfold almR
  split
  · exact b
  · rename_i h8
    refine ⟨b.i80, b.u0, b.u1, b.lc, by rw [List.length_append]; simp; omega, b.l, b.la1, b.c, fun c hc => ?_⟩
    rcases List.mem_append.1 hc with hc | hc
    · exact b.a c hc
    · rw [List.mem_singleton] at hc
      subst hc
      simp
theorem HpI.start (n : Int) : HpI (modR cs n (startC up)).2 al L last up (i + 1) := by
  have b := h.same hi
  have hu := h.up80 hi
  have hu0 := h.u0
  refine ⟨b.i80, b.u0, b.u1, by rw [modR_len]; exact b.lc, b.lal, b.l, b.la1, fun c hc => ?_, b.a⟩
  rcases mem_modR hc with hc | ⟨y, hy, rfl⟩
  · exact b.c c hc
  · have hb := b.c y hy
    refine ⟨hb.1, ?_, hb.2.2⟩
    simp only [startC]
    split
    · omega
    · split
      · omega
      · have h0 : 0 ≤ (up - y.first) / y.period := Int.ediv_nonneg (by omega) (by omega)
        have h1 : (up - y.first) / y.period * y.period ≤ up - y.first := Int.ediv_mul_le _ (by omega)
        have h2 : 0 ≤ (up - y.first) / y.period * y.period := Int.mul_nonneg h0 (by omega)
        rw [Int.add_mul, Int.one_mul]
        omega
theorem HpI.stop (n : Int) : HpI (modR cs n fun c => { c with on := false }).2 al L last up (i + 1) := by
  have b := h.same hi
  refine ⟨b.i80, b.u0, b.u1, by rw [modR_len]; exact b.lc, b.lal, b.l, b.la1, fun c hc => ?_, b.a⟩
  rcases mem_modR hc with hc | ⟨y, hy, rfl⟩
  · exact b.c c hc
  · exact b.c y hy
theorem HpI.set {tic : Int} (ht : 1 ≤ tic ∧ tic ≤ 1000) (n d : Int) : HpI cs (setR al up tic n d).2 L last up (i + 1) := by
  have b := h.same hi
  have hu := h.up80 hi
  have hu0 := h.u0
  unfold setR
  split
  · exact b
  · split
    · exact b
    · refine ⟨b.i80, b.u0, b.u1, b.lc, by rw [List.length_set]; exact b.lal, b.l, b.la1, b.c, fun c hc => ?_⟩
      rcases List.mem_or_eq_of_mem_set hc with hc | rfl
      · exact b.a c hc
      · simp only; omega
theorem HpI.clear (n : Int) : HpI cs (modR al n fun _ => ⟨false, 0⟩).2 L last up (i + 1) := by
  have b := h.same hi
  refine ⟨b.i80, b.u0, b.u1, b.lc, by rw [modR_len]; exact b.lal, b.l, b.la1, b.c, fun c hc => ?_⟩
  rcases mem_modR hc with hc | ⟨y, hy, rfl⟩
  · exact b.a c hc
  · simp
theorem HpI.wait (tic d n : Int) : HpI cs al (waitR L last tic up d n).2.1 (waitR L last tic up d n).2.2 up (i + 1) := by
  have b := h.same hi
  unfold waitR
  split
  · exact b
  · refine ⟨b.i80, b.u0, b.u1, b.lc, b.lal, ?_, by have := h.la1; push_cast; omega, b.c, b.a⟩
    rw [(insE_perm _ _).length_eq]
    have := h.l
    simp only [List.length_cons]
    omega
theorem HpI.tick {tic : Int} (ht : 1 ≤ tic ∧ tic ≤ 1000) : HpI (cs.map (cycT (up + tic))) (al.map (alrT (up + tic))) (toL L (up + tic)) last (up + tic) (i + 1) := by
  have b := h.same hi
  have hu := h.up80 hi
  have hu0 := h.u0
  have hu1 := h.u1
  refine ⟨b.i80, by omega, by push_cast; omega, by rw [List.length_map]; exact b.lc, by rw [List.length_map]; exact b.lal, Nat.le_trans (List.dropWhile_sublist _).length_le b.l, b.la1, fun c hc => ?_, fun c hc => ?_⟩
  · obtain ⟨y, hy, rfl⟩ := List.mem_map.1 hc
    have hb := b.c y hy
    have hn := cycT_next (up := up + tic) hb.2.2.1
    refine ⟨hb.1, ?_, hb.2.2⟩
    omega
  · obtain ⟨y, hy, rfl⟩ := List.mem_map.1 hc
    have hb := b.a y hy
    unfold alrT
    split
    · simp
    · exact hb
theorem HpI.cancel {L' : List Ent} (hle : L'.length ≤ L.length) : HpI cs al L' last up (i + 1) := by
  have b := h.same hi
  exact ⟨b.i80, b.u0, b.u1, b.lc, b.lal, Nat.le_trans hle b.l, b.la1, b.c, b.a⟩
theorem HpI.zlen {tic : Int} (ht : 1 ≤ tic ∧ tic ≤ 1000) {z : List Fir} (hz : z.Perm (genF cs al (up + tic))) : z.length < 4611686018427387904 := by
  rw [hz.length_eq, genF, List.length_append]
  have hu := h.up80 hi
  have hu0 := h.u0
  have h1 := genC_len (cs := cs) (up := up + tic) (by omega) (fun c hc => by have := h.c c hc; exact ⟨this.2.2.1, this.2.1.1⟩) cs.length
  have h2 := genA_len al (up + tic) al.length
  have h3 := h.lc
  have h4 := h.lal
  have h5 : (cs.length : Int) * (up + tic + 1) ≤ 8 * (up + tic + 1) := Int.mul_le_mul_of_nonneg_right (by omega) (by omega)
  omega
end
end Go.AM
