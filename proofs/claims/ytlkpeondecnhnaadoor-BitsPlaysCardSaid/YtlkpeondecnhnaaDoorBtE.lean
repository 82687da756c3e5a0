/-
  bits: any play.
-/
import Derived.Test.YtlkpeondecnhnaaDoorBtD
namespace Go.AM
attribute [local simp] AH.ld AH.ldn AH.stn AH.new Nat.add_assoc resA resA1 fillA buildA slSlA boundsA boundA callvP

def boolsC (h : Nat → Bool) : List SV := (List.range 258).map fun i => .bool (h i)

theorem boolsC_len (h : Nat → Bool) : (boolsC h).length = 258 := by simp [boolsC]
theorem boolsC_get (h : Nat → Bool) {i : Nat} (hi : i < 258) : (boolsC h)[i]? = some (.bool (h i)) := by
  simp [boolsC, hi]
theorem boolsC_set (h : Nat → Bool) {i : Nat} (hi : i < 258) (v : Bool) : splice (boolsC h) i [.bool v] = boolsC fun x => if x = i then v else h x := by
  unfold splice
  apply List.ext_getElem?
  intro j
  have e : ((boolsC h).take i ++ ([SV.bool v] ++ (boolsC h).drop (i + [SV.bool v].length))) = (boolsC h).set i (.bool v) := by
    rw [List.set_eq_take_append_cons_drop, if_pos (by rw [boolsC_len]; exact hi)]
    simp
  rw [e, List.getElem?_set]
  by_cases hj : j < 258
  · rw [boolsC_get _ hj, boolsC_get _ hj]
    by_cases hij : i = j
    · subst hij
      rw [if_pos rfl, if_pos (by rw [boolsC_len]; exact hi), if_pos rfl]
    · rw [if_neg hij, if_neg fun h => hij h.symm]
  · rw [List.getElem?_eq_none (by rw [boolsC_len]; omega), if_neg (by omega), List.getElem?_eq_none (by rw [boolsC_len]; omega)]

def updB (v : Bool) (h : Nat → Bool) (xs : List Int) : Nat → Bool := fun p => if xs.contains (p : Int) then v else h p

theorem updB_set (h : Nat → Bool) (xs : List Int) : onSet h xs = updB true h xs := by
  funext p; unfold onSet updB; cases xs.contains (p : Int) <;> cases h p <;> rfl
theorem updB_clear (h : Nat → Bool) (xs : List Int) : onClear h xs = updB false h xs := by
  funext p; unfold onClear updB; cases xs.contains (p : Int) <;> cases h p <;> rfl

/-- What one of a play is. -/
abbrev ActTy : Ty := .pair (.int .i64) (.pair (.slice (.int .i64)) .unit)

theorem act_get {ρ : HF} {l : List ActTy.den} {s : SV} (h : At ρ (.slice ActTy) l [s]) {i : Nat} (hi : i < l.length) : ∃ b c cells op xs sx, s = .slice (some (b, 0)) l.length c 2 ∧ ρ b = some (.cells true cells) ∧ l[i]? = some (op, xs, ()) ∧ cells[i * 2]? = some (.int .i64 op) ∧ cells[i * 2 + 1]? = some sx ∧ At ρ (.slice (.int .i64)) xs [sx] := by
  obtain ⟨b, c, cells, x, li, h1, h2, h3, ⟨l1, l2, e, ⟨e1, _⟩, l3, l4, e3, e4, e5⟩, h5, h6⟩ := At.slGet h hi
  obtain ⟨op, xs, u⟩ := x
  obtain ⟨sx, rfl, h7⟩ := e4
  have e5 : l4 = [] := e5
  subst e5
  have e1 : l1 = [SV.int .i64 op] := e1
  subst e1
  have h5 : (cells.drop (i * 2)).take 2 = li := h5
  have h6 : i * 2 + 2 ≤ cells.length := h6
  rw [e, e3] at h5
  refine ⟨b, c, cells, op, xs, sx, h1, h2, h3, ?_, ?_, ⟨sx, rfl, h7⟩⟩
  · have := congrArg (fun l => l[0]?) h5
    simpa using this
  · have := congrArg (fun l => l[1]?) h5
    simpa using this

def fo (h : Nat → Bool) (p : Int) (q : Nat) : Option Int := (rowUpto h q).find? fun x => decide (p < x)

theorem fo_succ (h : Nat → Bool) (p : Int) (q : Nat) : fo h p (q + 1) = if h (q + 1) = true then (fo h p q).or (if p < (q : Int) + 1 then some ((q : Int) + 1) else none) else fo h p q := by
  unfold fo
  rw [rowUpto_succ]
  by_cases hq : h (q + 1) = true
  · rw [if_pos hq, if_pos hq, List.find?_append]
    congr 1
    by_cases hp : p < (q : Int) + 1 <;> simp [hp]
  · rw [if_neg hq, if_neg hq, List.append_nil]

theorem fo_pos {h : Nat → Bool} {p : Int} {q : Nat} {x : Int} (he : fo h p q = some x) : 0 < x := by
  have := List.mem_of_find?_eq_some he
  unfold rowUpto at this
  simp only [List.mem_map] at this
  obtain ⟨i, _, rfl⟩ := this
  omega

theorem fo_next (h : Nat → Bool) (p : Int) : fo h p 256 = (nextOn h p.toNat).map fun (j : Nat) => ((j : Int) + 1) := by
  unfold fo rowUpto nextOn
  rw [List.find?_map, List.find?_filter]
  congr 1
  congr 1
  funext i
  simp only [Function.comp]
  have : decide (p < (i : Int) + 1) = decide (p.toNat ≤ i) := by rw [decide_eq_decide]; omega
  rw [← this, Bool.eq_iff_iff]
  simp only [decide_eq_true_eq, Bool.and_eq_true]
  exact ⟨fun h => ⟨h.2, h.1⟩, fun h => ⟨h.2, h.1⟩⟩

theorem fo_zero (h : Nat → Bool) (p : Int) : fo h p 0 = none := rfl

section
variable {ρ : HF} (l : List ActTy.den) (s : SV) (hx : At ρ (.slice ActTy) l [s]) (hll : l.length ≤ 40)
include hx hll

omit hll in
set_option maxRecDepth 4000 in
theorem play_s1 (b o : Nat) (i : Nat) (op pp : Int) (xs : List Int) (hl40 : xs.length ≤ 40) (hi : l[i]? = some (op, xs, ())) (h0 : Nat → Bool) {Rs : List Asr} (h : Nat → Bool)
    (he : ∀ p, 1 ≤ p → p ≤ 256 → h p = h0 p) (T : List AV) (H : AH) (hT : T.length = 184) (s0 : sl T 0 = .s s) (s1 : sl T 1 = i64 pp) (s5 : sl T 5 = ptr b) (s6 : sl T 6 = ptr o) (s7 : sl T 7 = i64 i)
    (hs : Sat ρ H (Cel o (boolsC h) :: Rs)) (K : Ex → List AV → AH → Prop)
    (hk : ∀ T' H' h', T'.length = 184 → sl T' 0 = .s s → sl T' 1 = i64 pp → sl T' 5 = ptr b → sl T' 6 = ptr o → sl T' 7 = i64 i → (∀ p, 1 ≤ p → p ≤ 256 → h' p = updB (decide (op = 1)) h0 xs p) → Sat ρ H' (Cel o (boolsC h') :: Rs) → K .norm T' H') :
    wpC tab noExt R.detentlaw5_BitsPlays_s1 T H K := by
  rw [detentlaw5_BitsPlays_s1_at hT]
  obtain ⟨b1, c, cells, op', xs', sx, rfl, hρ, hi', hc0, hc1, hxs⟩ := act_get hx (List.getElem?_eq_some_iff.1 hi).1
  rw [hi] at hi'
  cases hi'
  have hil := (List.getElem?_eq_some_iff.1 hi).1
  have hil' : (i : Int) < (l.length : Int) := by omega
  have hlenx := At.slLen hxs
  have hxl : xs.length ≤ 40 := hl40
  refine loopP_invK (I := fun n T' H' => T'.length = 184 ∧ sl T' 0 = .s (.slice (some (b1, 0)) l.length c 2) ∧ sl T' 1 = i64 pp ∧ sl T' 5 = ptr b ∧ sl T' 6 = ptr o ∧ sl T' 7 = i64 i ∧ ∃ k : Nat, sl T' 8 = i64 k ∧ k ≤ xs.length ∧ n = xs.length - k ∧ ∃ h', (∀ p, 1 ≤ p → p ≤ 256 → h' p = updB (decide (op = 1)) h0 (xs.take k) p) ∧ Sat ρ H' (Cel o (boolsC h') :: Rs)) ?_ xs.length _ _ ⟨rfl, s0, s1, s5, s6, s7, 0, rfl, Nat.zero_le _, rfl, h, fun p h1 h2 => by rw [List.take_zero]; exact he p h1 h2, hs.bump _⟩
  rintro n T' H' ⟨hT', t0, t1, t5, t6, t7, k, s8, hk8, hn, h', hh, hs⟩ K' kn kr ko
  rw [detentlaw5_BitsPlays_l0_at hT']
  have hb := hs.roOf _ _ hρ
  by_cases hlt : k < xs.length
  · have hlt' : (k : Int) < (xs.length : Int) := by omega
    obtain ⟨y, hy⟩ := get_ex hlt
    obtain ⟨b2, c2, ro2, l2, rfl, hb2, hli2, _⟩ := (hs.rdRo hxs).rdGet hy
    have w1 : IntKind.i64.wrap ((k : Int) + 1) = (k : Int) + 1 := wrap_i64 (by omega) (by omega)
    have htk : ∀ p : Nat, updB (decide (op = 1)) h0 (xs.take (k + 1)) p = if y = (p : Int) then decide (op = 1) else updB (decide (op = 1)) h0 (xs.take k) p := by
      intro p
      unfold updB
      rw [take_succ_mem hy]
      by_cases e : y = (p : Int)
      · rw [if_pos e, decide_eq_true e, Bool.or_true, if_pos rfl]
      · rw [if_neg e, decide_eq_false e, Bool.or_false]
    by_cases hyr : 1 ≤ y ∧ y ≤ 256
    · have hy1 := hyr.1
      have hy2 := hyr.2
      obtain ⟨q, rfl⟩ : ∃ q : Nat, y = (q : Int) := ⟨y.toNat, by omega⟩
      have hq : (q : Int) < 258 := by omega
      have hq' : q < 258 := by omega
      have hcel := hs.cel
      have hlc := boolsC_len h'
      have hq1 : q + 1 ≤ 258 := by omega
      have hset := boolsC_set h' hq' (decide (op = 1))
      simp [t0, t6, t7, s8, hil, hil', hb, hc1, hlt, hlt', hb2, hli2, hy1, hy2, w1, hc0, hq, hcel, hlc, hq1, hset]
      refine kn (xs.length - (k + 1)) _ _ (by omega) ⟨rfl, rfl, t1, t5, rfl, rfl, k + 1, rfl, hlt, rfl, (fun x => if x = q then decide (op = 1) else h' x), fun p p1 p2 => ?_, Sat.bump (Sat.set ((((hs.bump _).bump _).bump _).bump _) _) _⟩
      rw [htk]
      show (if p = q then decide (op = 1) else h' p) = _
      by_cases e : p = q
      · subst e
        rw [if_pos rfl, if_pos rfl]
      · rw [if_neg e, if_neg (by omega)]
        exact hh p p1 p2
    · have hfin : ∀ p, 1 ≤ p → p ≤ 256 → h' p = updB (decide (op = 1)) h0 (xs.take (k + 1)) p := fun p p1 p2 => by
        rw [htk, if_neg (by omega)]; exact hh p p1 p2
      by_cases hy1 : 1 ≤ y
      · have hy2 : ¬ y ≤ 256 := by omega
        simp [t0, t6, t7, s8, hil, hil', hb, hc1, hlt, hlt', hb2, hli2, hy1, hy2, w1]
        exact kn (xs.length - (k + 1)) _ _ (by omega) ⟨rfl, rfl, t1, t5, rfl, rfl, k + 1, rfl, hlt, rfl, h', hfin, by (repeat refine Sat.bump ?_ _); exact hs⟩
      · simp [t0, t6, t7, s8, hil, hil', hb, hc1, hlt, hlt', hb2, hli2, hy1, w1]
        exact kn (xs.length - (k + 1)) _ _ (by omega) ⟨rfl, rfl, t1, t5, rfl, rfl, k + 1, rfl, hlt, rfl, h', hfin, by (repeat refine Sat.bump ?_ _); exact hs⟩
  · have hke : k = xs.length := by omega
    subst hke
    simp [t0, t6, t7, s8, hil, hil', hb, hc1, hlenx]
    rw [List.take_length] at hh
    refine ko _ _ _ ?_
    simp
    exact hk _ _ h' rfl rfl t1 t5 rfl rfl hh (hs.bump _)

set_option maxRecDepth 4000 in
theorem play_l3 (b o : Nat) (pp : Int) (T : List AV) (H : AH) (hT : T.length = 184) (s0 : sl T 0 = .s s) (s1 : sl T 1 = i64 pp) (s5 : sl T 5 = ptr b) (s6 : sl T 6 = ptr o) (s7 : sl T 7 = i64 0)
    (h : Nat → Bool) (hs : Sat ρ H [MpA b h [], Cel o (boolsC h)]) (K : Ex → List AV → AH → Prop)
    (hr : ∀ T' H', sl T' 4 = bl true → K .ret T' H')
    (hk : ∀ T' H' h', T'.length = 184 → sl T' 1 = i64 pp → sl T' 5 = ptr b → sl T' 6 = ptr o → Sat ρ H' [MpA b h' [], Cel o (boolsC h')] → K (.out 0) T' H') :
    loopP tab noExt R.detentlaw5_BitsPlays_l3 T H K := by
  have hlens := At.slLen hx
  refine loopP_invK (I := fun n T' H' => T'.length = 184 ∧ sl T' 0 = .s s ∧ sl T' 1 = i64 pp ∧ sl T' 5 = ptr b ∧ sl T' 6 = ptr o ∧ ∃ i : Nat, sl T' 7 = i64 i ∧ i ≤ l.length ∧ n = l.length - i ∧ ∃ h, Sat ρ H' [MpA b h [], Cel o (boolsC h)]) ?_ l.length _ _ ⟨hT, s0, s1, s5, s6, 0, s7, Nat.zero_le _, rfl, h, hs⟩
  rintro n T' H' ⟨hT', t0, t1, t5, t6, i, t7, hi, hn, h, hs⟩ K' kn kr ko
  rw [detentlaw5_BitsPlays_l3_at hT']
  by_cases hlt : i < l.length
  · have hlt' : (i : Int) < (l.length : Int) := by omega
    obtain ⟨b1, c, cells, op, xs, sx, rfl, hρ, hli, hc0, hc1, hxs⟩ := act_get hx hlt
    have hb := hs.roOf _ _ hρ
    have hlenx := At.slLen hxs
    by_cases g40 : (40 : Int) < xs.length
    · simp [t0, t7, hlens, hlt, hlt', hb, hc1, hlenx, g40]
      exact kr _ _ (hr _ _ rfl)
    · have w1 : IntKind.i64.wrap ((i : Int) + 1) = (i : Int) + 1 := wrap_i64 (by omega) (by omega)
      have fin : ∀ (T : List AV) (H : AH), T.length = 184 → sl T 0 = .s (.slice (some (b1, 0)) l.length c 2) → sl T 1 = i64 pp → sl T 5 = ptr b → sl T 6 = ptr o → sl T 7 = i64 i → Sat ρ H [MpA b (updB (decide (op = 1)) h xs) [], RdI sx xs, Cel o (boolsC h)] → wpC tab noExt R.detentlaw5_BitsPlays_s1 T H (blockK 1 (seqK (fun T H => wpC tab noExt R.detentlaw5_BitsPlays_s2 T H K') K')) := by
        intro T H hT s0 s1 s5 s6 s7 hs
        have hs' : Sat ρ H (Cel o (boolsC h) :: [MpA b (updB (decide (op = 1)) h xs) []]) := hs.sel [2, 0] 3 (by simp) (by decide)
        refine play_s1 (l := l) (s := .slice (some (b1, 0)) l.length c 2) hx b o i op pp xs (by omega) hli h h (fun _ _ _ => rfl) T H hT s0 s1 s5 s6 s7 hs' _ ?_
        intro T2 H2 h2 hT2 u0 u1 u5 u6 u7 he hs2
        simp only [blockK_norm, seqK_norm]
        rw [detentlaw5_BitsPlays_s2_at hT2]
        simp [u7, w1]
        exact kn (l.length - (i + 1)) _ _ (by omega) ⟨rfl, u0, u1, u5, u6, i + 1, rfl, hlt, rfl, h2, ((hs2.swap).mpExt fun p p1 p2 => (he p p1 p2).symm).bump _⟩
      have hs1 : Sat ρ H' [MpA b h [], RdI sx xs, Cel o (boolsC h)] := (hs.rdRo hxs).swap
      by_cases hop : op = 1
      · simp [t0, t5, t7, hlens, hlt, hlt', hb, hc0, hc1, hlenx, g40, hop]
        refine (MapSet_tri _ _ _ _ _ (by omega)).use (((((hs1.bump 4).bump 7).bump 6).bump 6)) ?_
        rintro v H2 P' ⟨rfl, rfl⟩ hs2
        rw [updB_set] at hs2
        rw [decide_eq_true hop] at fin
        exact fin _ _ rfl rfl t1 rfl t6 rfl hs2
      · simp [t0, t5, t7, hlens, hlt, hlt', hb, hc0, hc1, hlenx, g40, hop]
        refine (MapClear_tri _ _ _ _ _ (by omega)).use (((((hs1.bump 4).bump 7).bump 6).bump 6)) ?_
        rintro v H2 P' ⟨rfl, rfl⟩ hs2
        rw [updB_clear] at hs2
        rw [decide_eq_false hop] at fin
        exact fin _ _ rfl rfl t1 rfl t6 rfl hs2
  · have hie : i = l.length := by omega
    subst hie
    simp [t0, t7, hlens]
    exact ko _ _ _ (hk _ _ h rfl t1 t5 t6 (hs.bump _))
end
end Go.AM
