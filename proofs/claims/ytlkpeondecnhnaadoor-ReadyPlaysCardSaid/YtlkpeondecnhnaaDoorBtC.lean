/-
  bits: the law's own check; the ends.
-/
import Derived.Test.YtlkpeondecnhnaaDoorBtB
namespace Go.AM
attribute [local simp] AH.ld AH.ldn AH.stn AH.new Nat.add_assoc resA resA1 fillA buildA slSlA boundsA boundA callvP

/-- The table of the machine's words lies there. -/
def TzA : Asr := ⟨fun ρ _ S => S = [] ∧ ρ 0 = some (.cells true tzCells), fun _ h => h⟩

section
variable {ρ : HF} {H : AH} {R : List Asr}

theorem Sat.tz (h : Sat ρ H (TzA :: R)) : ρ 0 = some (.cells true tzCells) := by
  obtain ⟨_, S, h1, _⟩ := h
  obtain ⟨S1, S2, _, k1, _⟩ := h1.cons_inv
  exact k1.2

theorem Sat.mkTz (h : Sat ρ H R) (h0 : ρ 0 = some (.cells true tzCells)) : Sat ρ H (TzA :: R) := by
  obtain ⟨hw, S, h1, h2⟩ := h
  exact ⟨hw, [] ++ S, .cons (A := TzA) ⟨rfl, h0⟩ h1 (by simp), h2⟩

theorem Sat.newMap {b : Nat} (h : Sat ρ H (Fre b :: R)) (h0 : ρ 0 = some (.cells true tzCells)) : Sat ρ (H.set b (.cells false [.int .u64 0, .int .u64 0, .int .u64 0, .int .u64 0])) (MpA b (fun _ => false) [] :: R) :=
  Sat.mpClose (ws := [0, 0, 0, 0]) (h.mk _) h0 IsMap.zero

theorem Sat.litRow {b : Nat} {l : List SV} (xs : List Int) (h : Sat ρ H (Cel b l :: R)) (hl : l = flat encI xs) (n : Nat) (hn : n = xs.length) : Sat ρ H (RdI (.slice (some (b, 0)) n n 1) xs :: R) := by
  subst hl
  subst hn
  have h' : Sat ρ H (Cel b (flat encI xs ++ []) :: R) := by rw [List.append_nil]; exact h
  exact (h'.mkRow (c := xs.length) (k := 1) (by rw [List.append_nil, flat_len encI_len]; omega) (Nat.le_refl _)).rdRow
end

theorem hasOn_clear (on : Nat → Bool) (xs : List Int) (p : Int) : hasOn (onClear on xs) p = (hasOn on p && !xs.contains p) := by
  unfold hasOn onClear
  by_cases h : 1 ≤ p ∧ p ≤ 256
  · rw [show ((p.toNat : Nat) : Int) = p by omega]
    cases on p.toNat <;> simp [h]
  · simp [h]

theorem hasOn_set (on : Nat → Bool) (xs : List Int) (p : Int) : hasOn (onSet on xs) p = (hasOn on p || (decide (1 ≤ p ∧ p ≤ 256) && xs.contains p)) := by
  unfold hasOn onSet
  by_cases h : 1 ≤ p ∧ p ≤ 256
  · rw [show ((p.toNat : Nat) : Int) = p by omega]
    simp [h]
  · simp [h]

def kOn : Nat → Bool := onClear (onSet (fun _ => false) [5, 200, 64]) [64]

theorem k_first : nextOn kOn 0 = some 4 := by decide +kernel
theorem k_after : nextOn kOn 5 = some 199 := by decide +kernel
theorem k_row : (rowUpto kOn 256).length = 2 := by decide +kernel
theorem k_has : hasOn kOn 200 = true := by decide +kernel
theorem k_hasnt : hasOn kOn 64 = false := by decide +kernel

theorem known5_tri : Tri tab noExt F.detentlaw5_known [] [TzA] fun v P' => v = bl true ∧ P' = [TzA] := by
  refine Tri.intro fun ρ H Rs K hs hk => ?_
  apply detentlaw5_known_call
  have h0 := Sat.tz hs
  have hs1 := ((Sat.drop hs).bump 1).frees 1 [0] (by decide) (by decide)
  simp only [List.map_cons, List.map_nil, List.cons_append, List.nil_append, bump_next, Nat.add_assoc, Nat.reduceAdd, Nat.add_zero] at hs1
  simp [-AH.new]
  refine ⟨_, new_of _ hs1.fre, ?_⟩
  have hs2 := hs1.newMap h0
  have hs3 := hs2.frees 2 [0] (by decide) (by decide)
  simp only [List.map_cons, List.map_nil, List.cons_append, List.nil_append, bump_next, Nat.add_assoc, Nat.reduceAdd, Nat.add_zero] at hs3
  refine ⟨_, new_of _ hs3.fre, ?_⟩
  have hs4 := (hs3.mk [.int .i64 5, .int .i64 200, .int .i64 64]).litRow [5, 200, 64] rfl 3 rfl
  refine (MapSet_tri _ _ _ _ _ (by decide)).use hs4.swap ?_
  rintro v H1 P' ⟨rfl, rfl⟩ hs5
  have hs5 : Sat ρ H1 (MpA _ _ _ :: Rs) := hs5.sel [0] 2 (by simp) (by decide)
  have hs6 := hs5.frees 2 [0] (by decide) (by decide)
  simp only [List.map_cons, List.map_nil, List.cons_append, List.nil_append, bump_next, Nat.add_assoc, Nat.reduceAdd, Nat.add_zero] at hs6
  refine ⟨_, new_of _ hs6.fre, ?_⟩
  have hs7 := (hs6.mk [.int .i64 64]).litRow [64] rfl 1 rfl
  refine (MapClear_tri _ _ _ _ _ (by decide)).use hs7.swap ?_
  rintro v H2 P' ⟨rfl, rfl⟩ hs8
  have hs8 : Sat ρ H2 (MpA (H.next + 1) kOn [] :: Rs) := hs8.sel [0] 2 (by simp) (by decide)
  refine (MapFirst_tri _ _ _).use (hs8.bump 6) ?_
  rintro v H3 P' ⟨rfl, rfl⟩ hs9
  rw [k_first]
  simp [afterV, -AH.new]
  refine (MapAfter_tri _ _ _ _).use (hs9.bump 6) ?_
  rintro v H4 P' ⟨rfl, rfl⟩ hs10
  rw [show (5 : Int).toNat = 5 from rfl, k_after]
  simp [afterV]
  refine (MapLen_tri _ _ _).use (hs10.bump 29) ?_
  rintro v H5 P' ⟨rfl, rfl⟩ hs11
  rw [k_row]
  simp
  refine (MapHas_tri _ _ _ _).use hs11 ?_
  rintro v H6 P' ⟨rfl, rfl⟩ hs12
  rw [k_has]
  simp
  refine (MapHas_tri _ _ _ _).use hs12 ?_
  rintro v H7 P' ⟨rfl, rfl⟩ hs13
  rw [k_hasnt]
  simp
  refine (MapRow_tri _ _ _).use hs13 ?_
  rintro v H8 P' ⟨s, rfl, rfl⟩ hs14
  have hlen := Sat.rowLen hs14
  rw [k_row] at hlen
  simp [hlen]
  exact hk _ _ _ ⟨rfl, rfl⟩ (Sat.mkTz (Sat.drop (Sat.drop hs14)) h0)

theorem ends_row {p : Int} : rowUpto (onClear (onSet (fun _ => false) [p]) [p]) 256 = [] := by
  unfold rowUpto
  simp [onClear, onSet]

theorem ends_in {p : Int} (h : 1 ≤ p ∧ p ≤ 256) : nextOn (onSet (fun _ => false) [p]) 0 = some (p.toNat - 1) := by
  obtain ⟨q, rfl⟩ : ∃ q : Nat, p = ((q + 1 : Nat) : Int) := ⟨p.toNat - 1, by omega⟩
  simp only [Int.toNat_natCast, Nat.add_sub_cancel]
  refine nextOn_some (by omega) (by omega) (by simp [onSet]) fun i h1 h2 => ?_
  simp [onSet]; omega

theorem ends_out {p : Int} (h : ¬ (1 ≤ p ∧ p ≤ 256)) : nextOn (onSet (fun _ => false) [p]) 0 = none := by
  refine nextOn_none fun i h1 h2 => ?_
  simp [onSet]; omega

theorem BitsEnds_tri (p : Int) : Tri tab noExt F.detentlaw5_BitsEnds [i64 p] [TzA] fun v P' => v = bl true ∧ P' = [TzA] := by
  refine Tri.intro fun ρ H Rs K hs hk => ?_
  apply detentlaw5_BitsEnds_call
  refine known5_tri.use ((hs.bump 1).bump 2) ?_
  rintro v H0 P' ⟨rfl, rfl⟩ hs0
  have h0 := Sat.tz hs0
  have hs1 := ((Sat.drop hs0).bump 1).frees 3 [1] (by decide) (by decide)
  have hs1 := (Sat.drop hs0).frees 1 [0] (by decide) (by decide)
  simp only [List.map_cons, List.map_nil, List.cons_append, List.nil_append, bump_next, Nat.add_assoc, Nat.reduceAdd, Nat.add_zero] at hs1
  simp [-AH.new]
  refine ⟨_, new_of _ hs1.fre, ?_⟩
  have hs2 := hs1.newMap h0
  have hs3 := hs2.frees 3 [1] (by decide) (by decide)
  simp only [List.map_cons, List.map_nil, List.cons_append, List.nil_append, bump_next, set_next, Nat.add_assoc, Nat.reduceAdd, Nat.add_zero] at hs3
  refine ⟨_, new_of _ hs3.fre, ?_⟩
  have hs4 := (hs3.mk [.int .i64 p]).litRow [p] rfl 1 rfl
  refine (MapSet_tri _ _ _ _ _ (by simp)).use hs4.swap ?_
  rintro v H1 P' ⟨rfl, rfl⟩ hs5
  have hs5 : Sat ρ H1 (MpA H0.next (onSet (fun _ => false) [p]) [] :: Rs) := hs5.sel [0] 2 (by simp) (by decide)
  have hin : hasOn (onSet (fun _ => false) [p]) p = decide (1 ≤ p ∧ p ≤ 256) := by rw [hasOn_set]; simp [hasOn]
  have hout : hasOn (onClear (onSet (fun _ => false) [p]) [p]) p = false := by rw [hasOn_clear]; simp
  have fin : ∀ H2, Sat ρ H2 (MpA H0.next (onSet (fun _ => false) [p]) [] :: Rs) → andThen (fillA [.int .i64 0] [(0, 1, (i64 p))]) fun l79 => andThen (AH.new (H2.bump 3) (H2.next + 1) (.cells false l79)) fun H80 => CallP tab noExt F.bits_Map_Clear [ptr H0.next, .s (.slice (some (H2.next + 1, 0)) 1 1 1)] H80 fun v81 H82 => CallP tab noExt F.bits_Map_Len [ptr H0.next] (H82.bump 8) fun v83 H84 => andThen (binA .eql v83 (i64 0)) fun v85 => gP (gd v85 true) H84 (fun k86 => k86 (i64 p) H84) fun v87 H88 => gP (gd v85 true) H88 (fun k89 => CallP tab noExt F.bits_Map_Has [ptr H0.next, v87] H88 fun v92 H93 => k89 v92 H93) fun v90 H91 => gP (gd v85 true) H91 (fun k94 => andThen (unA .not v90) fun v97 => k94 v97 H91) fun v95 H96 => andThen (pickA v85 v95 (AV.s (SV.bool false))) fun v98 => andThen (some v98) fun v => K v H96 := by
    intro H2 hs6
    have hs7 := hs6.frees 3 [1] (by decide) (by decide)
    simp only [List.map_cons, List.map_nil, List.cons_append, List.nil_append, bump_next, Nat.add_assoc, Nat.reduceAdd, Nat.add_zero] at hs7
    simp [-AH.new]
    refine ⟨_, new_of _ hs7.fre, ?_⟩
    have hs8 := (hs7.mk [.int .i64 p]).litRow [p] rfl 1 rfl
    refine (MapClear_tri _ _ _ _ _ (by simp)).use hs8.swap ?_
    rintro v H3 P' ⟨rfl, rfl⟩ hs9
    have hs9 : Sat ρ H3 (MpA H0.next (onClear (onSet (fun _ => false) [p]) [p]) [] :: Rs) := hs9.sel [0] 2 (by simp) (by decide)
    refine (MapLen_tri _ _ _).use (hs9.bump 8) ?_
    rintro v H4 P' ⟨rfl, rfl⟩ hs10
    rw [ends_row]
    simp
    refine (MapHas_tri _ _ _ _).use hs10 ?_
    rintro v H5 P' ⟨rfl, rfl⟩ hs11
    rw [hout]
    simp
    exact hk _ _ _ ⟨rfl, rfl⟩ (Sat.mkTz (Sat.drop hs11) h0)
  by_cases h : 1 ≤ p ∧ p ≤ 256
  · have e1 : 1 ≤ p := h.1
    have e2 : p ≤ 256 := h.2
    simp [e1, e2]
    refine (MapFirst_tri _ _ _).use ((hs5.bump 7).bump 6) ?_
    rintro v H2 P' ⟨rfl, rfl⟩ hs6
    rw [ends_in h]
    simp [afterV]
    refine (MapHas_tri _ _ _ _).use (hs6.bump 25) ?_
    rintro v H3 P' ⟨rfl, rfl⟩ hs7
    have hp : ((p.toNat - 1 : Nat) : Int) + 1 = p := by omega
    rw [hin, decide_eq_true h, hp]
    simp [-AH.new]
    have := fin _ hs7
    simp [-AH.new] at this
    exact this
  · have hb : (decide (1 ≤ p) && decide (p ≤ 256)) = false := by simp; omega
    by_cases e1 : 1 ≤ p
    · have e2 : ¬ p ≤ 256 := by omega
      simp [e1, e2]
      refine (MapFirst_tri _ _ _).use ((hs5.bump 7).bump 6) ?_
      rintro v H2 P' ⟨rfl, rfl⟩ hs6
      rw [ends_out h]
      simp [afterV]
      refine (MapHas_tri _ _ _ _).use (hs6.bump 25) ?_
      rintro v H3 P' ⟨rfl, rfl⟩ hs7
      rw [hin, decide_eq_false h]
      simp [-AH.new]
      have := fin _ hs7
      simp [-AH.new] at this
      exact this
    · simp [e1]
      refine (MapFirst_tri _ _ _).use ((hs5.bump 7).bump 6) ?_
      rintro v H2 P' ⟨rfl, rfl⟩ hs6
      rw [ends_out h]
      simp [afterV]
      refine (MapHas_tri _ _ _ _).use (hs6.bump 25) ?_
      rintro v H3 P' ⟨rfl, rfl⟩ hs7
      rw [hin, decide_eq_false h]
      simp [-AH.new]
      have := fin _ hs7
      simp [-AH.new] at this
      exact this

theorem tz_start {H : AH} (hw : WF H) (h0 : H.blk 0 = some (.cells true tzCells)) : Sat H.blk H [TzA] := Sat.mkTz (Sat.nil hw fun _ _ h => h) h0

theorem BitsEnds_abs (H : AH) (hw : WF H) (h0 : H.blk 0 = some (.cells true tzCells)) (avs : List AV) (ha : ArgsAt H.blk [.int .i64] avs) : CallP tab noExt F.detentlaw5_BitsEnds avs H fun v _ => v = bl true := by
  obtain ⟨p, _, rfl, _, ha2⟩ := ha.int'
  obtain rfl := ha2.nil'
  exact (BitsEnds_tri p).use (R := []) (tz_start hw h0) fun v H' P' h _ => h.1
end Go.AM
