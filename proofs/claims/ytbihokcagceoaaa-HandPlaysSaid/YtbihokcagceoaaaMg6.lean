/-
  The law HandPlays, in the abstract machine: calls 1 to 4.
-/
import Derived.Test.YtbihokcagceoaaaMg5
set_option maxRecDepth 10000
set_option maxHeartbeats 4000000
namespace Go.AM
attribute [local simp] Nat.add_assoc resA resA1 fillA buildA callvP
theorem hp_op1a {ρ : HF} (b cp : Nat) (cells : List SV) (len i : Nat) (hi : i < len) (hlen : len ≤ 80) (op n d e : Int) (f g : Bool) (hρ : ρ b = some (.cells true cells)) (hc1 : (cells.drop (i * 6)).take 6 = [.int .i64 op, .int .i64 n, .int .i64 d, .int .i64 e, .bool f, .bool g]) (hc2 : i * 6 + 6 ≤ cells.length) (hd : -9223372036854775808 ≤ d ∧ d < 9223372036854775808) (he : -9223372036854775808 ≤ e ∧ e < 9223372036854775808)
    (h m : Nat) (cs : List Cyc) (al : List Alr) (L : List Ent) (last tic up : Int) (hop : op = 1 ∧ d < 1) (ht : 1 ≤ tic ∧ tic ≤ 1000) (hI : HpI cs al L last up i) (Rs : List Asr) (T : List AV) (H : AH) (hT : T.length = 299) (t0 : sl T 0 = i64 tic) (t1 : sl T 1 = .s (.slice (some (b, 0)) len cp 6)) (t5 : sl T 5 = ptr h) (t7 : sl T 7 = ptr m) (t9 : sl T 9 = i64 i)
    (hs : Sat ρ H (HdA h cs al L last tic up 0 :: HrD m cs al L last tic up 0 :: Rs)) (K : Ex → List AV → AH → Prop) (kret : ∀ T' H', sl T' 4 = bl true → K .ret T' H')
    (tail : ∀ (T' : List AV) (H' : AH) (cs' : List Cyc) (al' : List Alr) (L' : List Ent) (last' up' x y : Int) (Rs' : List Asr), HpI cs' al' L' last' up' (i + 1) → T'.length = 299 → sl T' 0 = i64 tic → sl T' 1 = .s (.slice (some (b, 0)) len cp 6) → sl T' 5 = ptr h → sl T' 7 = ptr m → sl T' 9 = i64 i → sl T' 11 = i64 x → sl T' 12 = i64 x → sl T' 13 = i64 y → sl T' 14 = i64 y → Sat ρ H' (HdA h cs' al' L' last' tic up' 0 :: HrD m cs' al' L' last' tic up' 0 :: Rs') → wpC tab noExt R.detentlaw20_HandPlays_s0 T' H' (blockK 1 (seqK (fun T H => wpC tab noExt R.detentlaw20_HandPlays_s1 T H K) K))) :
    wpC tab noExt R.detentlaw20_HandPlays_l2 T H K := by
  apply detentlaw20_HandPlays_l2_w hT
  have hln : lenA (.s (.slice (some (b, 0)) len cp 6)) = some (i64 len) := rfl
  have hlss : binA .lss (i64 i) (i64 len) = some (bl true) := by rw [binA_lss, decide_eq_true (by omega)]
  have hix := ixEl (b := b) (c := cp) (k := 6) hi
  have hb := hs.roOf _ _ hρ
  have hld : loadA (some 6) (.s (.ptr (some (b, i * 6)))) ((H.bump 4).bump 6) = some (.agg [.int .i64 op, .int .i64 n, .int .i64 d, .int .i64 e, .bool f, .bool g]) := by
    rw [loadA_n, bump_ldn, bump_ldn, ldn_of H hb, if_pos hc2, hc1]; rfl
  have hs1 := Sat.frees (hs.bump 4) 6 [4] (by decide) (by decide)
  simp only [List.map_cons, List.map_nil, List.cons_append, List.nil_append] at hs1
  simp only [t0, t1, t5, t7, t9]
  refine ⟨_, hln, _, hlss, condP_t ?_⟩
  refine ⟨_, hix, _, hld, _, new_of _ hs1.fre, ?_⟩
  have hs2 := Sat.mk hs1 [.int .i64 0, .int .i64 0, .int .i64 0, .int .i64 0, .bool false, .bool false]
  generalize AH.set _ _ (Blk.cells false [SV.int .i64 0, SV.int .i64 0, SV.int .i64 0, SV.int .i64 0, SV.bool false, SV.bool false]) = H5 at *
  generalize (H.bump 4).next + 4 = X at *
  have hst : storeA 6 (.s (.ptr (some (X, 0)))) (.agg [.int .i64 op, .int .i64 n, .int .i64 d, .int .i64 e, .bool f, .bool g]) H5 = some (H5.set X (.cells false [.int .i64 op, .int .i64 n, .int .i64 d, .int .i64 e, .bool f, .bool g])) := by
    have e6 : ([.int .i64 op, .int .i64 n, .int .i64 d, .int .i64 e, .bool f, .bool g] : List SV).length = 6 := rfl
    rw [storeA_agg, if_pos e6, stn_of H5 hs2.cel (by simp)]
    simp [splice]
  refine ⟨_, hst, ?_⟩
  have hs3 := Sat.re (Sat.set hs2 [.int .i64 op, .int .i64 n, .int .i64 d, .int .i64 e, .bool f, .bool g]) [1, 2, 0] (by simp) (by decide)
  generalize H5.set X (.cells false [.int .i64 op, .int .i64 n, .int .i64 d, .int .i64 e, .bool f, .bool g]) = H6 at *
  have hs3 : Sat ρ H6 (HdA h cs al L last tic up 0 :: HrD m cs al L last tic up 0 :: Cel X [.int .i64 op, .int .i64 n, .int .i64 d, .int .i64 e, .bool f, .bool g] :: Rs) := hs3
  have fX : ∀ (HX : AH) (A B : Asr) (R' : List Asr), Sat ρ HX (A :: B :: Cel X [.int .i64 op, .int .i64 n, .int .i64 d, .int .i64 e, .bool f, .bool g] :: R') → ∀ (H' : AH), H'.blk = HX.blk →
      loadA none (.s (.ptr (some (X, 0)))) H' = some (i64 op) ∧ loadA none (.s (.ptr (some (X, 1)))) H' = some (i64 n) ∧ loadA none (.s (.ptr (some (X, 2)))) H' = some (i64 d) ∧ loadA none (.s (.ptr (some (X, 3)))) H' = some (i64 e) ∧ loadA none (.s (.ptr (some (X, 4)))) H' = some (bl f) ∧ loadA none (.s (.ptr (some (X, 5)))) H' = some (bl g) := by
    intro HX A B R' hX H' hb'
    have hc' : H'.blk X = some (.cells false [.int .i64 op, .int .i64 n, .int .i64 d, .int .i64 e, .bool f, .bool g]) := by rw [hb']; exact (hX.front 2 (by simp)).cel
    refine ⟨?_, ?_, ?_, ?_, ?_, ?_⟩ <;> (rw [loadA_one, ld_of H' hc']; rfl)
  have qn : ∀ j : Int, op ≠ j → binA .eql (i64 op) (i64 j) = some (bl false) := fun j hj => by rw [binA_eql, decide_eq_false hj]
  have fA := fX _ _ _ _ hs3
  have hok := hI.ok
  have hi80 : i < 80 := by omega
  obtain ⟨hop, hd1⟩ := hop
  have qe : binA .eql (i64 op) (i64 1) = some (bl true) := by rw [binA_eql, decide_eq_true hop]
  have gge : binA .geq (i64 d) (i64 1) = some (bl false) := by rw [binA_geq, decide_eq_false (by omega)]
  have gq : True ∧ True := ⟨trivial, trivial⟩
  have glt : True ∧ True := ⟨trivial, trivial⟩
  repeat (first | refine gP_t rfl ?_ | refine gP_f rfl ?_ | refine condP_t ?_ | refine condP_f ?_ | refine ⟨_, qe, ?_⟩ | refine ⟨_, qn _ (by omega), ?_⟩ | refine ⟨_, (fA _ rfl).1, ?_⟩ | refine ⟨_, (fA _ rfl).2.1, ?_⟩ | refine ⟨_, (fA _ rfl).2.2.1, ?_⟩ | refine ⟨_, (fA _ rfl).2.2.2.1, ?_⟩ | refine ⟨_, (fA _ rfl).2.2.2.2.1, ?_⟩ | refine ⟨_, (fA _ rfl).2.2.2.2.2, ?_⟩ | refine ⟨_, gge, ?_⟩ | refine ⟨_, gq, ?_⟩ | refine ⟨_, glt, ?_⟩ | refine ⟨_, rfl, ?_⟩)
  have hs3b : Sat ρ H6 ([HdA h cs al L last tic up 0] ++ (HrD m cs al L last tic up 0 :: Cel X [.int .i64 op, .int .i64 n, .int .i64 d, .int .i64 e, .bool f, .bool g] :: Rs)) := hs3
  refine (Cyclic_tri h cs al L last tic up 0 hok d e f g hd.1 hd.2 he.1 he.2).use (ρ := ρ) (R := HrD m cs al L last tic up 0 :: Cel X [.int .i64 op, .int .i64 n, .int .i64 d, .int .i64 e, .bool f, .bool g] :: Rs) (by (repeat refine Sat.bump ?_ _); exact hs3b) ?_
  rintro v H7 P' ⟨rfl, rfl⟩ hs4
  have hs4 : Sat ρ H7 (HdA h (cycR cs up d e f g).2 al L last tic up 0 :: HrD m cs al L last tic up 0 :: Cel X [.int .i64 op, .int .i64 n, .int .i64 d, .int .i64 e, .bool f, .bool g] :: Rs) := hs4
  have fB := fX _ _ _ _ hs4
  repeat (first | refine gP_t rfl ?_ | refine gP_f rfl ?_ | refine condP_t ?_ | refine condP_f ?_ | refine ⟨_, (fB _ rfl).1, ?_⟩ | refine ⟨_, (fB _ rfl).2.1, ?_⟩ | refine ⟨_, (fB _ rfl).2.2.1, ?_⟩ | refine ⟨_, (fB _ rfl).2.2.2.1, ?_⟩ | refine ⟨_, (fB _ rfl).2.2.2.2.1, ?_⟩ | refine ⟨_, (fB _ rfl).2.2.2.2.2, ?_⟩ | refine ⟨_, rfl, ?_⟩)
  have hs4b : Sat ρ H7 ([HrD m cs al L last tic up 0] ++ (HdA h (cycR cs up d e f g).2 al L last tic up 0 :: Cel X [.int .i64 op, .int .i64 n, .int .i64 d, .int .i64 e, .bool f, .bool g] :: Rs)) := hs4.swap
  refine (RhCyclic_tri m cs al L last tic up 0 hok d e f g hd.1 hd.2 he.1 he.2).use (ρ := ρ) (R := HdA h (cycR cs up d e f g).2 al L last tic up 0 :: Cel X [.int .i64 op, .int .i64 n, .int .i64 d, .int .i64 e, .bool f, .bool g] :: Rs) (by (repeat refine Sat.bump ?_ _); exact hs4b) ?_
  rintro v H8 P' ⟨rfl, rfl⟩ hs5
  have hs5 : Sat ρ H8 (HrD m (cycR cs up d e f g).2 al L last tic up 0 :: HdA h (cycR cs up d e f g).2 al L last tic up 0 :: Cel X [.int .i64 op, .int .i64 n, .int .i64 d, .int .i64 e, .bool f, .bool g] :: Rs) := hs5
  repeat (first | refine gP_t rfl ?_ | refine gP_f rfl ?_ | refine condP_t ?_ | refine condP_f ?_ | refine ⟨_, rfl, ?_⟩)
  intro T' hT' hl
  simp only [Lvs] at hl
  obtain ⟨u0, u1, _, u5, u7, u9, u11, u12, u13, u14, _⟩ := hl
  exact tail T' _ _ al L last up _ _ _ (hI.cyc hi80 d e f g) hT' u0 u1 u5 u7 u9 u11 u12 u13 u14 (by (repeat refine Sat.bump ?_ _); exact hs5.swap)
theorem hp_op1b {ρ : HF} (b cp : Nat) (cells : List SV) (len i : Nat) (hi : i < len) (hlen : len ≤ 80) (op n d e : Int) (f g : Bool) (hρ : ρ b = some (.cells true cells)) (hc1 : (cells.drop (i * 6)).take 6 = [.int .i64 op, .int .i64 n, .int .i64 d, .int .i64 e, .bool f, .bool g]) (hc2 : i * 6 + 6 ≤ cells.length) (hd : -9223372036854775808 ≤ d ∧ d < 9223372036854775808) (he : -9223372036854775808 ≤ e ∧ e < 9223372036854775808)
    (h m : Nat) (cs : List Cyc) (al : List Alr) (L : List Ent) (last tic up : Int) (hop : op = 1 ∧ ¬ d < 1 ∧ d < tic.tdiv 20) (ht : 1 ≤ tic ∧ tic ≤ 1000) (hI : HpI cs al L last up i) (Rs : List Asr) (T : List AV) (H : AH) (hT : T.length = 299) (t0 : sl T 0 = i64 tic) (t1 : sl T 1 = .s (.slice (some (b, 0)) len cp 6)) (t5 : sl T 5 = ptr h) (t7 : sl T 7 = ptr m) (t9 : sl T 9 = i64 i)
    (hs : Sat ρ H (HdA h cs al L last tic up 0 :: HrD m cs al L last tic up 0 :: Rs)) (K : Ex → List AV → AH → Prop) (kret : ∀ T' H', sl T' 4 = bl true → K .ret T' H')
    (tail : ∀ (T' : List AV) (H' : AH) (cs' : List Cyc) (al' : List Alr) (L' : List Ent) (last' up' x y : Int) (Rs' : List Asr), HpI cs' al' L' last' up' (i + 1) → T'.length = 299 → sl T' 0 = i64 tic → sl T' 1 = .s (.slice (some (b, 0)) len cp 6) → sl T' 5 = ptr h → sl T' 7 = ptr m → sl T' 9 = i64 i → sl T' 11 = i64 x → sl T' 12 = i64 x → sl T' 13 = i64 y → sl T' 14 = i64 y → Sat ρ H' (HdA h cs' al' L' last' tic up' 0 :: HrD m cs' al' L' last' tic up' 0 :: Rs') → wpC tab noExt R.detentlaw20_HandPlays_s0 T' H' (blockK 1 (seqK (fun T H => wpC tab noExt R.detentlaw20_HandPlays_s1 T H K) K))) :
    wpC tab noExt R.detentlaw20_HandPlays_l2 T H K := by
  apply detentlaw20_HandPlays_l2_w hT
  have hln : lenA (.s (.slice (some (b, 0)) len cp 6)) = some (i64 len) := rfl
  have hlss : binA .lss (i64 i) (i64 len) = some (bl true) := by rw [binA_lss, decide_eq_true (by omega)]
  have hix := ixEl (b := b) (c := cp) (k := 6) hi
  have hb := hs.roOf _ _ hρ
  have hld : loadA (some 6) (.s (.ptr (some (b, i * 6)))) ((H.bump 4).bump 6) = some (.agg [.int .i64 op, .int .i64 n, .int .i64 d, .int .i64 e, .bool f, .bool g]) := by
    rw [loadA_n, bump_ldn, bump_ldn, ldn_of H hb, if_pos hc2, hc1]; rfl
  have hs1 := Sat.frees (hs.bump 4) 6 [4] (by decide) (by decide)
  simp only [List.map_cons, List.map_nil, List.cons_append, List.nil_append] at hs1
  simp only [t0, t1, t5, t7, t9]
  refine ⟨_, hln, _, hlss, condP_t ?_⟩
  refine ⟨_, hix, _, hld, _, new_of _ hs1.fre, ?_⟩
  have hs2 := Sat.mk hs1 [.int .i64 0, .int .i64 0, .int .i64 0, .int .i64 0, .bool false, .bool false]
  generalize AH.set _ _ (Blk.cells false [SV.int .i64 0, SV.int .i64 0, SV.int .i64 0, SV.int .i64 0, SV.bool false, SV.bool false]) = H5 at *
  generalize (H.bump 4).next + 4 = X at *
  have hst : storeA 6 (.s (.ptr (some (X, 0)))) (.agg [.int .i64 op, .int .i64 n, .int .i64 d, .int .i64 e, .bool f, .bool g]) H5 = some (H5.set X (.cells false [.int .i64 op, .int .i64 n, .int .i64 d, .int .i64 e, .bool f, .bool g])) := by
    have e6 : ([.int .i64 op, .int .i64 n, .int .i64 d, .int .i64 e, .bool f, .bool g] : List SV).length = 6 := rfl
    rw [storeA_agg, if_pos e6, stn_of H5 hs2.cel (by simp)]
    simp [splice]
  refine ⟨_, hst, ?_⟩
  have hs3 := Sat.re (Sat.set hs2 [.int .i64 op, .int .i64 n, .int .i64 d, .int .i64 e, .bool f, .bool g]) [1, 2, 0] (by simp) (by decide)
  generalize H5.set X (.cells false [.int .i64 op, .int .i64 n, .int .i64 d, .int .i64 e, .bool f, .bool g]) = H6 at *
  have hs3 : Sat ρ H6 (HdA h cs al L last tic up 0 :: HrD m cs al L last tic up 0 :: Cel X [.int .i64 op, .int .i64 n, .int .i64 d, .int .i64 e, .bool f, .bool g] :: Rs) := hs3
  have fX : ∀ (HX : AH) (A B : Asr) (R' : List Asr), Sat ρ HX (A :: B :: Cel X [.int .i64 op, .int .i64 n, .int .i64 d, .int .i64 e, .bool f, .bool g] :: R') → ∀ (H' : AH), H'.blk = HX.blk →
      loadA none (.s (.ptr (some (X, 0)))) H' = some (i64 op) ∧ loadA none (.s (.ptr (some (X, 1)))) H' = some (i64 n) ∧ loadA none (.s (.ptr (some (X, 2)))) H' = some (i64 d) ∧ loadA none (.s (.ptr (some (X, 3)))) H' = some (i64 e) ∧ loadA none (.s (.ptr (some (X, 4)))) H' = some (bl f) ∧ loadA none (.s (.ptr (some (X, 5)))) H' = some (bl g) := by
    intro HX A B R' hX H' hb'
    have hc' : H'.blk X = some (.cells false [.int .i64 op, .int .i64 n, .int .i64 d, .int .i64 e, .bool f, .bool g]) := by rw [hb']; exact (hX.front 2 (by simp)).cel
    refine ⟨?_, ?_, ?_, ?_, ?_, ?_⟩ <;> (rw [loadA_one, ld_of H' hc']; rfl)
  have qn : ∀ j : Int, op ≠ j → binA .eql (i64 op) (i64 j) = some (bl false) := fun j hj => by rw [binA_eql, decide_eq_false hj]
  have fA := fX _ _ _ _ hs3
  have hok := hI.ok
  have hi80 : i < 80 := by omega
  obtain ⟨hop, hd1, hd2⟩ := hop
  have qe : binA .eql (i64 op) (i64 1) = some (bl true) := by rw [binA_eql, decide_eq_true hop]
  have gge : binA .geq (i64 d) (i64 1) = some (bl true) := by rw [binA_geq, decide_eq_true (by omega)]
  have hq0 : 0 ≤ tic.tdiv 20 := Int.tdiv_nonneg (by omega) (by omega)
  have hq1 : tic.tdiv 20 ≤ tic := by rw [Int.tdiv_eq_ediv_of_nonneg (by omega)]; omega
  have gq : binA .quo (i64 tic) (i64 20) = some (i64 (tic.tdiv 20)) := by rw [binA_quo, if_neg (by omega), wrap_i64 (by omega) (by omega)]
  have glt : binA .lss (i64 d) (i64 (tic.tdiv 20)) = some (bl true) := by rw [binA_lss, decide_eq_true (by omega)]
  repeat (first | refine gP_t rfl ?_ | refine gP_f rfl ?_ | refine condP_t ?_ | refine condP_f ?_ | refine ⟨_, qe, ?_⟩ | refine ⟨_, qn _ (by omega), ?_⟩ | refine ⟨_, (fA _ rfl).1, ?_⟩ | refine ⟨_, (fA _ rfl).2.1, ?_⟩ | refine ⟨_, (fA _ rfl).2.2.1, ?_⟩ | refine ⟨_, (fA _ rfl).2.2.2.1, ?_⟩ | refine ⟨_, (fA _ rfl).2.2.2.2.1, ?_⟩ | refine ⟨_, (fA _ rfl).2.2.2.2.2, ?_⟩ | refine ⟨_, gge, ?_⟩ | refine ⟨_, gq, ?_⟩ | refine ⟨_, glt, ?_⟩ | refine ⟨_, rfl, ?_⟩)
  intro T' hT' hl
  simp only [Lvs] at hl
  exact kret _ _ hl.2.2.1
theorem hp_op1c {ρ : HF} (b cp : Nat) (cells : List SV) (len i : Nat) (hi : i < len) (hlen : len ≤ 80) (op n d e : Int) (f g : Bool) (hρ : ρ b = some (.cells true cells)) (hc1 : (cells.drop (i * 6)).take 6 = [.int .i64 op, .int .i64 n, .int .i64 d, .int .i64 e, .bool f, .bool g]) (hc2 : i * 6 + 6 ≤ cells.length) (hd : -9223372036854775808 ≤ d ∧ d < 9223372036854775808) (he : -9223372036854775808 ≤ e ∧ e < 9223372036854775808)
    (h m : Nat) (cs : List Cyc) (al : List Alr) (L : List Ent) (last tic up : Int) (hop : op = 1 ∧ ¬ d < 1 ∧ ¬ d < tic.tdiv 20) (ht : 1 ≤ tic ∧ tic ≤ 1000) (hI : HpI cs al L last up i) (Rs : List Asr) (T : List AV) (H : AH) (hT : T.length = 299) (t0 : sl T 0 = i64 tic) (t1 : sl T 1 = .s (.slice (some (b, 0)) len cp 6)) (t5 : sl T 5 = ptr h) (t7 : sl T 7 = ptr m) (t9 : sl T 9 = i64 i)
    (hs : Sat ρ H (HdA h cs al L last tic up 0 :: HrD m cs al L last tic up 0 :: Rs)) (K : Ex → List AV → AH → Prop) (kret : ∀ T' H', sl T' 4 = bl true → K .ret T' H')
    (tail : ∀ (T' : List AV) (H' : AH) (cs' : List Cyc) (al' : List Alr) (L' : List Ent) (last' up' x y : Int) (Rs' : List Asr), HpI cs' al' L' last' up' (i + 1) → T'.length = 299 → sl T' 0 = i64 tic → sl T' 1 = .s (.slice (some (b, 0)) len cp 6) → sl T' 5 = ptr h → sl T' 7 = ptr m → sl T' 9 = i64 i → sl T' 11 = i64 x → sl T' 12 = i64 x → sl T' 13 = i64 y → sl T' 14 = i64 y → Sat ρ H' (HdA h cs' al' L' last' tic up' 0 :: HrD m cs' al' L' last' tic up' 0 :: Rs') → wpC tab noExt R.detentlaw20_HandPlays_s0 T' H' (blockK 1 (seqK (fun T H => wpC tab noExt R.detentlaw20_HandPlays_s1 T H K) K))) :
    wpC tab noExt R.detentlaw20_HandPlays_l2 T H K := by
  apply detentlaw20_HandPlays_l2_w hT
  have hln : lenA (.s (.slice (some (b, 0)) len cp 6)) = some (i64 len) := rfl
  have hlss : binA .lss (i64 i) (i64 len) = some (bl true) := by rw [binA_lss, decide_eq_true (by omega)]
  have hix := ixEl (b := b) (c := cp) (k := 6) hi
  have hb := hs.roOf _ _ hρ
  have hld : loadA (some 6) (.s (.ptr (some (b, i * 6)))) ((H.bump 4).bump 6) = some (.agg [.int .i64 op, .int .i64 n, .int .i64 d, .int .i64 e, .bool f, .bool g]) := by
    rw [loadA_n, bump_ldn, bump_ldn, ldn_of H hb, if_pos hc2, hc1]; rfl
  have hs1 := Sat.frees (hs.bump 4) 6 [4] (by decide) (by decide)
  simp only [List.map_cons, List.map_nil, List.cons_append, List.nil_append] at hs1
  simp only [t0, t1, t5, t7, t9]
  refine ⟨_, hln, _, hlss, condP_t ?_⟩
  refine ⟨_, hix, _, hld, _, new_of _ hs1.fre, ?_⟩
  have hs2 := Sat.mk hs1 [.int .i64 0, .int .i64 0, .int .i64 0, .int .i64 0, .bool false, .bool false]
  generalize AH.set _ _ (Blk.cells false [SV.int .i64 0, SV.int .i64 0, SV.int .i64 0, SV.int .i64 0, SV.bool false, SV.bool false]) = H5 at *
  generalize (H.bump 4).next + 4 = X at *
  have hst : storeA 6 (.s (.ptr (some (X, 0)))) (.agg [.int .i64 op, .int .i64 n, .int .i64 d, .int .i64 e, .bool f, .bool g]) H5 = some (H5.set X (.cells false [.int .i64 op, .int .i64 n, .int .i64 d, .int .i64 e, .bool f, .bool g])) := by
    have e6 : ([.int .i64 op, .int .i64 n, .int .i64 d, .int .i64 e, .bool f, .bool g] : List SV).length = 6 := rfl
    rw [storeA_agg, if_pos e6, stn_of H5 hs2.cel (by simp)]
    simp [splice]
  refine ⟨_, hst, ?_⟩
  have hs3 := Sat.re (Sat.set hs2 [.int .i64 op, .int .i64 n, .int .i64 d, .int .i64 e, .bool f, .bool g]) [1, 2, 0] (by simp) (by decide)
  generalize H5.set X (.cells false [.int .i64 op, .int .i64 n, .int .i64 d, .int .i64 e, .bool f, .bool g]) = H6 at *
  have hs3 : Sat ρ H6 (HdA h cs al L last tic up 0 :: HrD m cs al L last tic up 0 :: Cel X [.int .i64 op, .int .i64 n, .int .i64 d, .int .i64 e, .bool f, .bool g] :: Rs) := hs3
  have fX : ∀ (HX : AH) (A B : Asr) (R' : List Asr), Sat ρ HX (A :: B :: Cel X [.int .i64 op, .int .i64 n, .int .i64 d, .int .i64 e, .bool f, .bool g] :: R') → ∀ (H' : AH), H'.blk = HX.blk →
      loadA none (.s (.ptr (some (X, 0)))) H' = some (i64 op) ∧ loadA none (.s (.ptr (some (X, 1)))) H' = some (i64 n) ∧ loadA none (.s (.ptr (some (X, 2)))) H' = some (i64 d) ∧ loadA none (.s (.ptr (some (X, 3)))) H' = some (i64 e) ∧ loadA none (.s (.ptr (some (X, 4)))) H' = some (bl f) ∧ loadA none (.s (.ptr (some (X, 5)))) H' = some (bl g) := by
    intro HX A B R' hX H' hb'
    have hc' : H'.blk X = some (.cells false [.int .i64 op, .int .i64 n, .int .i64 d, .int .i64 e, .bool f, .bool g]) := by rw [hb']; exact (hX.front 2 (by simp)).cel
    refine ⟨?_, ?_, ?_, ?_, ?_, ?_⟩ <;> (rw [loadA_one, ld_of H' hc']; rfl)
  have qn : ∀ j : Int, op ≠ j → binA .eql (i64 op) (i64 j) = some (bl false) := fun j hj => by rw [binA_eql, decide_eq_false hj]
  have fA := fX _ _ _ _ hs3
  have hok := hI.ok
  have hi80 : i < 80 := by omega
  obtain ⟨hop, hd1, hd2⟩ := hop
  have qe : binA .eql (i64 op) (i64 1) = some (bl true) := by rw [binA_eql, decide_eq_true hop]
  have gge : binA .geq (i64 d) (i64 1) = some (bl true) := by rw [binA_geq, decide_eq_true (by omega)]
  have hq0 : 0 ≤ tic.tdiv 20 := Int.tdiv_nonneg (by omega) (by omega)
  have hq1 : tic.tdiv 20 ≤ tic := by rw [Int.tdiv_eq_ediv_of_nonneg (by omega)]; omega
  have gq : binA .quo (i64 tic) (i64 20) = some (i64 (tic.tdiv 20)) := by rw [binA_quo, if_neg (by omega), wrap_i64 (by omega) (by omega)]
  have glt : binA .lss (i64 d) (i64 (tic.tdiv 20)) = some (bl false) := by rw [binA_lss, decide_eq_false (by omega)]
  repeat (first | refine gP_t rfl ?_ | refine gP_f rfl ?_ | refine condP_t ?_ | refine condP_f ?_ | refine ⟨_, qe, ?_⟩ | refine ⟨_, qn _ (by omega), ?_⟩ | refine ⟨_, (fA _ rfl).1, ?_⟩ | refine ⟨_, (fA _ rfl).2.1, ?_⟩ | refine ⟨_, (fA _ rfl).2.2.1, ?_⟩ | refine ⟨_, (fA _ rfl).2.2.2.1, ?_⟩ | refine ⟨_, (fA _ rfl).2.2.2.2.1, ?_⟩ | refine ⟨_, (fA _ rfl).2.2.2.2.2, ?_⟩ | refine ⟨_, gge, ?_⟩ | refine ⟨_, gq, ?_⟩ | refine ⟨_, glt, ?_⟩ | refine ⟨_, rfl, ?_⟩)
  have hs3b : Sat ρ H6 ([HdA h cs al L last tic up 0] ++ (HrD m cs al L last tic up 0 :: Cel X [.int .i64 op, .int .i64 n, .int .i64 d, .int .i64 e, .bool f, .bool g] :: Rs)) := hs3
  refine (Cyclic_tri h cs al L last tic up 0 hok d e f g hd.1 hd.2 he.1 he.2).use (ρ := ρ) (R := HrD m cs al L last tic up 0 :: Cel X [.int .i64 op, .int .i64 n, .int .i64 d, .int .i64 e, .bool f, .bool g] :: Rs) (by (repeat refine Sat.bump ?_ _); exact hs3b) ?_
  rintro v H7 P' ⟨rfl, rfl⟩ hs4
  have hs4 : Sat ρ H7 (HdA h (cycR cs up d e f g).2 al L last tic up 0 :: HrD m cs al L last tic up 0 :: Cel X [.int .i64 op, .int .i64 n, .int .i64 d, .int .i64 e, .bool f, .bool g] :: Rs) := hs4
  have fB := fX _ _ _ _ hs4
  repeat (first | refine gP_t rfl ?_ | refine gP_f rfl ?_ | refine condP_t ?_ | refine condP_f ?_ | refine ⟨_, (fB _ rfl).1, ?_⟩ | refine ⟨_, (fB _ rfl).2.1, ?_⟩ | refine ⟨_, (fB _ rfl).2.2.1, ?_⟩ | refine ⟨_, (fB _ rfl).2.2.2.1, ?_⟩ | refine ⟨_, (fB _ rfl).2.2.2.2.1, ?_⟩ | refine ⟨_, (fB _ rfl).2.2.2.2.2, ?_⟩ | refine ⟨_, rfl, ?_⟩)
  have hs4b : Sat ρ H7 ([HrD m cs al L last tic up 0] ++ (HdA h (cycR cs up d e f g).2 al L last tic up 0 :: Cel X [.int .i64 op, .int .i64 n, .int .i64 d, .int .i64 e, .bool f, .bool g] :: Rs)) := hs4.swap
  refine (RhCyclic_tri m cs al L last tic up 0 hok d e f g hd.1 hd.2 he.1 he.2).use (ρ := ρ) (R := HdA h (cycR cs up d e f g).2 al L last tic up 0 :: Cel X [.int .i64 op, .int .i64 n, .int .i64 d, .int .i64 e, .bool f, .bool g] :: Rs) (by (repeat refine Sat.bump ?_ _); exact hs4b) ?_
  rintro v H8 P' ⟨rfl, rfl⟩ hs5
  have hs5 : Sat ρ H8 (HrD m (cycR cs up d e f g).2 al L last tic up 0 :: HdA h (cycR cs up d e f g).2 al L last tic up 0 :: Cel X [.int .i64 op, .int .i64 n, .int .i64 d, .int .i64 e, .bool f, .bool g] :: Rs) := hs5
  repeat (first | refine gP_t rfl ?_ | refine gP_f rfl ?_ | refine condP_t ?_ | refine condP_f ?_ | refine ⟨_, rfl, ?_⟩)
  intro T' hT' hl
  simp only [Lvs] at hl
  obtain ⟨u0, u1, _, u5, u7, u9, u11, u12, u13, u14, _⟩ := hl
  exact tail T' _ _ al L last up _ _ _ (hI.cyc hi80 d e f g) hT' u0 u1 u5 u7 u9 u11 u12 u13 u14 (by (repeat refine Sat.bump ?_ _); exact hs5.swap)
theorem hp_op2 {ρ : HF} (b cp : Nat) (cells : List SV) (len i : Nat) (hi : i < len) (hlen : len ≤ 80) (op n d e : Int) (f g : Bool) (hρ : ρ b = some (.cells true cells)) (hc1 : (cells.drop (i * 6)).take 6 = [.int .i64 op, .int .i64 n, .int .i64 d, .int .i64 e, .bool f, .bool g]) (hc2 : i * 6 + 6 ≤ cells.length) (hd : -9223372036854775808 ≤ d ∧ d < 9223372036854775808) (he : -9223372036854775808 ≤ e ∧ e < 9223372036854775808)
    (h m : Nat) (cs : List Cyc) (al : List Alr) (L : List Ent) (last tic up : Int) (hop : op = 2) (ht : 1 ≤ tic ∧ tic ≤ 1000) (hI : HpI cs al L last up i) (Rs : List Asr) (T : List AV) (H : AH) (hT : T.length = 299) (t0 : sl T 0 = i64 tic) (t1 : sl T 1 = .s (.slice (some (b, 0)) len cp 6)) (t5 : sl T 5 = ptr h) (t7 : sl T 7 = ptr m) (t9 : sl T 9 = i64 i)
    (hs : Sat ρ H (HdA h cs al L last tic up 0 :: HrD m cs al L last tic up 0 :: Rs)) (K : Ex → List AV → AH → Prop) (kret : ∀ T' H', sl T' 4 = bl true → K .ret T' H')
    (tail : ∀ (T' : List AV) (H' : AH) (cs' : List Cyc) (al' : List Alr) (L' : List Ent) (last' up' x y : Int) (Rs' : List Asr), HpI cs' al' L' last' up' (i + 1) → T'.length = 299 → sl T' 0 = i64 tic → sl T' 1 = .s (.slice (some (b, 0)) len cp 6) → sl T' 5 = ptr h → sl T' 7 = ptr m → sl T' 9 = i64 i → sl T' 11 = i64 x → sl T' 12 = i64 x → sl T' 13 = i64 y → sl T' 14 = i64 y → Sat ρ H' (HdA h cs' al' L' last' tic up' 0 :: HrD m cs' al' L' last' tic up' 0 :: Rs') → wpC tab noExt R.detentlaw20_HandPlays_s0 T' H' (blockK 1 (seqK (fun T H => wpC tab noExt R.detentlaw20_HandPlays_s1 T H K) K))) :
    wpC tab noExt R.detentlaw20_HandPlays_l2 T H K := by
  apply detentlaw20_HandPlays_l2_w hT
  have hln : lenA (.s (.slice (some (b, 0)) len cp 6)) = some (i64 len) := rfl
  have hlss : binA .lss (i64 i) (i64 len) = some (bl true) := by rw [binA_lss, decide_eq_true (by omega)]
  have hix := ixEl (b := b) (c := cp) (k := 6) hi
  have hb := hs.roOf _ _ hρ
  have hld : loadA (some 6) (.s (.ptr (some (b, i * 6)))) ((H.bump 4).bump 6) = some (.agg [.int .i64 op, .int .i64 n, .int .i64 d, .int .i64 e, .bool f, .bool g]) := by
    rw [loadA_n, bump_ldn, bump_ldn, ldn_of H hb, if_pos hc2, hc1]; rfl
  have hs1 := Sat.frees (hs.bump 4) 6 [4] (by decide) (by decide)
  simp only [List.map_cons, List.map_nil, List.cons_append, List.nil_append] at hs1
  simp only [t0, t1, t5, t7, t9]
  refine ⟨_, hln, _, hlss, condP_t ?_⟩
  refine ⟨_, hix, _, hld, _, new_of _ hs1.fre, ?_⟩
  have hs2 := Sat.mk hs1 [.int .i64 0, .int .i64 0, .int .i64 0, .int .i64 0, .bool false, .bool false]
  generalize AH.set _ _ (Blk.cells false [SV.int .i64 0, SV.int .i64 0, SV.int .i64 0, SV.int .i64 0, SV.bool false, SV.bool false]) = H5 at *
  generalize (H.bump 4).next + 4 = X at *
  have hst : storeA 6 (.s (.ptr (some (X, 0)))) (.agg [.int .i64 op, .int .i64 n, .int .i64 d, .int .i64 e, .bool f, .bool g]) H5 = some (H5.set X (.cells false [.int .i64 op, .int .i64 n, .int .i64 d, .int .i64 e, .bool f, .bool g])) := by
    have e6 : ([.int .i64 op, .int .i64 n, .int .i64 d, .int .i64 e, .bool f, .bool g] : List SV).length = 6 := rfl
    rw [storeA_agg, if_pos e6, stn_of H5 hs2.cel (by simp)]
    simp [splice]
  refine ⟨_, hst, ?_⟩
  have hs3 := Sat.re (Sat.set hs2 [.int .i64 op, .int .i64 n, .int .i64 d, .int .i64 e, .bool f, .bool g]) [1, 2, 0] (by simp) (by decide)
  generalize H5.set X (.cells false [.int .i64 op, .int .i64 n, .int .i64 d, .int .i64 e, .bool f, .bool g]) = H6 at *
  have hs3 : Sat ρ H6 (HdA h cs al L last tic up 0 :: HrD m cs al L last tic up 0 :: Cel X [.int .i64 op, .int .i64 n, .int .i64 d, .int .i64 e, .bool f, .bool g] :: Rs) := hs3
  have fX : ∀ (HX : AH) (A B : Asr) (R' : List Asr), Sat ρ HX (A :: B :: Cel X [.int .i64 op, .int .i64 n, .int .i64 d, .int .i64 e, .bool f, .bool g] :: R') → ∀ (H' : AH), H'.blk = HX.blk →
      loadA none (.s (.ptr (some (X, 0)))) H' = some (i64 op) ∧ loadA none (.s (.ptr (some (X, 1)))) H' = some (i64 n) ∧ loadA none (.s (.ptr (some (X, 2)))) H' = some (i64 d) ∧ loadA none (.s (.ptr (some (X, 3)))) H' = some (i64 e) ∧ loadA none (.s (.ptr (some (X, 4)))) H' = some (bl f) ∧ loadA none (.s (.ptr (some (X, 5)))) H' = some (bl g) := by
    intro HX A B R' hX H' hb'
    have hc' : H'.blk X = some (.cells false [.int .i64 op, .int .i64 n, .int .i64 d, .int .i64 e, .bool f, .bool g]) := by rw [hb']; exact (hX.front 2 (by simp)).cel
    refine ⟨?_, ?_, ?_, ?_, ?_, ?_⟩ <;> (rw [loadA_one, ld_of H' hc']; rfl)
  have qn : ∀ j : Int, op ≠ j → binA .eql (i64 op) (i64 j) = some (bl false) := fun j hj => by rw [binA_eql, decide_eq_false hj]
  have fA := fX _ _ _ _ hs3
  have hok := hI.ok
  have hi80 : i < 80 := by omega
  have qe : binA .eql (i64 op) (i64 2) = some (bl true) := by rw [binA_eql, decide_eq_true hop]
  repeat (first | refine gP_t rfl ?_ | refine gP_f rfl ?_ | refine condP_t ?_ | refine condP_f ?_ | refine ⟨_, qe, ?_⟩ | refine ⟨_, qn _ (by omega), ?_⟩ | refine ⟨_, (fA _ rfl).1, ?_⟩ | refine ⟨_, (fA _ rfl).2.1, ?_⟩ | refine ⟨_, (fA _ rfl).2.2.1, ?_⟩ | refine ⟨_, (fA _ rfl).2.2.2.1, ?_⟩ | refine ⟨_, (fA _ rfl).2.2.2.2.1, ?_⟩ | refine ⟨_, (fA _ rfl).2.2.2.2.2, ?_⟩ | refine ⟨_, rfl, ?_⟩)
  have hs3b : Sat ρ H6 ([HdA h cs al L last tic up 0] ++ (HrD m cs al L last tic up 0 :: Cel X [.int .i64 op, .int .i64 n, .int .i64 d, .int .i64 e, .bool f, .bool g] :: Rs)) := hs3
  refine (Alarm_tri h cs al L last tic up 0 hok).use (ρ := ρ) (R := HrD m cs al L last tic up 0 :: Cel X [.int .i64 op, .int .i64 n, .int .i64 d, .int .i64 e, .bool f, .bool g] :: Rs) (by (repeat refine Sat.bump ?_ _); exact hs3b) ?_
  rintro v H7 P' ⟨rfl, rfl⟩ hs4
  have hs4 : Sat ρ H7 (HdA h cs (almR al).2 L last tic up 0 :: HrD m cs al L last tic up 0 :: Cel X [.int .i64 op, .int .i64 n, .int .i64 d, .int .i64 e, .bool f, .bool g] :: Rs) := hs4
  have fB := fX _ _ _ _ hs4
  repeat (first | refine gP_t rfl ?_ | refine gP_f rfl ?_ | refine condP_t ?_ | refine condP_f ?_ | refine ⟨_, (fB _ rfl).1, ?_⟩ | refine ⟨_, (fB _ rfl).2.1, ?_⟩ | refine ⟨_, (fB _ rfl).2.2.1, ?_⟩ | refine ⟨_, (fB _ rfl).2.2.2.1, ?_⟩ | refine ⟨_, (fB _ rfl).2.2.2.2.1, ?_⟩ | refine ⟨_, (fB _ rfl).2.2.2.2.2, ?_⟩ | refine ⟨_, rfl, ?_⟩)
  have hs4b : Sat ρ H7 ([HrD m cs al L last tic up 0] ++ (HdA h cs (almR al).2 L last tic up 0 :: Cel X [.int .i64 op, .int .i64 n, .int .i64 d, .int .i64 e, .bool f, .bool g] :: Rs)) := hs4.swap
  refine (RhAlarm_tri m cs al L last tic up 0 hok).use (ρ := ρ) (R := HdA h cs (almR al).2 L last tic up 0 :: Cel X [.int .i64 op, .int .i64 n, .int .i64 d, .int .i64 e, .bool f, .bool g] :: Rs) (by (repeat refine Sat.bump ?_ _); exact hs4b) ?_
  rintro v H8 P' ⟨rfl, rfl⟩ hs5
  have hs5 : Sat ρ H8 (HrD m cs (almR al).2 L last tic up 0 :: HdA h cs (almR al).2 L last tic up 0 :: Cel X [.int .i64 op, .int .i64 n, .int .i64 d, .int .i64 e, .bool f, .bool g] :: Rs) := hs5
  repeat (first | refine gP_t rfl ?_ | refine gP_f rfl ?_ | refine condP_t ?_ | refine condP_f ?_ | refine ⟨_, rfl, ?_⟩)
  intro T' hT' hl
  simp only [Lvs] at hl
  obtain ⟨u0, u1, _, u5, u7, u9, u11, u12, u13, u14, _⟩ := hl
  exact tail T' _ cs _ L last up _ _ _ (hI.alm hi80) hT' u0 u1 u5 u7 u9 u11 u12 u13 u14 (by (repeat refine Sat.bump ?_ _); exact hs5.swap)
theorem hp_op3 {ρ : HF} (b cp : Nat) (cells : List SV) (len i : Nat) (hi : i < len) (hlen : len ≤ 80) (op n d e : Int) (f g : Bool) (hρ : ρ b = some (.cells true cells)) (hc1 : (cells.drop (i * 6)).take 6 = [.int .i64 op, .int .i64 n, .int .i64 d, .int .i64 e, .bool f, .bool g]) (hc2 : i * 6 + 6 ≤ cells.length) (hd : -9223372036854775808 ≤ d ∧ d < 9223372036854775808) (he : -9223372036854775808 ≤ e ∧ e < 9223372036854775808)
    (h m : Nat) (cs : List Cyc) (al : List Alr) (L : List Ent) (last tic up : Int) (hop : op = 3) (ht : 1 ≤ tic ∧ tic ≤ 1000) (hI : HpI cs al L last up i) (Rs : List Asr) (T : List AV) (H : AH) (hT : T.length = 299) (t0 : sl T 0 = i64 tic) (t1 : sl T 1 = .s (.slice (some (b, 0)) len cp 6)) (t5 : sl T 5 = ptr h) (t7 : sl T 7 = ptr m) (t9 : sl T 9 = i64 i)
    (hs : Sat ρ H (HdA h cs al L last tic up 0 :: HrD m cs al L last tic up 0 :: Rs)) (K : Ex → List AV → AH → Prop) (kret : ∀ T' H', sl T' 4 = bl true → K .ret T' H')
    (tail : ∀ (T' : List AV) (H' : AH) (cs' : List Cyc) (al' : List Alr) (L' : List Ent) (last' up' x y : Int) (Rs' : List Asr), HpI cs' al' L' last' up' (i + 1) → T'.length = 299 → sl T' 0 = i64 tic → sl T' 1 = .s (.slice (some (b, 0)) len cp 6) → sl T' 5 = ptr h → sl T' 7 = ptr m → sl T' 9 = i64 i → sl T' 11 = i64 x → sl T' 12 = i64 x → sl T' 13 = i64 y → sl T' 14 = i64 y → Sat ρ H' (HdA h cs' al' L' last' tic up' 0 :: HrD m cs' al' L' last' tic up' 0 :: Rs') → wpC tab noExt R.detentlaw20_HandPlays_s0 T' H' (blockK 1 (seqK (fun T H => wpC tab noExt R.detentlaw20_HandPlays_s1 T H K) K))) :
    wpC tab noExt R.detentlaw20_HandPlays_l2 T H K := by
  apply detentlaw20_HandPlays_l2_w hT
  have hln : lenA (.s (.slice (some (b, 0)) len cp 6)) = some (i64 len) := rfl
  have hlss : binA .lss (i64 i) (i64 len) = some (bl true) := by rw [binA_lss, decide_eq_true (by omega)]
  have hix := ixEl (b := b) (c := cp) (k := 6) hi
  have hb := hs.roOf _ _ hρ
  have hld : loadA (some 6) (.s (.ptr (some (b, i * 6)))) ((H.bump 4).bump 6) = some (.agg [.int .i64 op, .int .i64 n, .int .i64 d, .int .i64 e, .bool f, .bool g]) := by
    rw [loadA_n, bump_ldn, bump_ldn, ldn_of H hb, if_pos hc2, hc1]; rfl
  have hs1 := Sat.frees (hs.bump 4) 6 [4] (by decide) (by decide)
  simp only [List.map_cons, List.map_nil, List.cons_append, List.nil_append] at hs1
  simp only [t0, t1, t5, t7, t9]
  refine ⟨_, hln, _, hlss, condP_t ?_⟩
  refine ⟨_, hix, _, hld, _, new_of _ hs1.fre, ?_⟩
  have hs2 := Sat.mk hs1 [.int .i64 0, .int .i64 0, .int .i64 0, .int .i64 0, .bool false, .bool false]
  generalize AH.set _ _ (Blk.cells false [SV.int .i64 0, SV.int .i64 0, SV.int .i64 0, SV.int .i64 0, SV.bool false, SV.bool false]) = H5 at *
  generalize (H.bump 4).next + 4 = X at *
  have hst : storeA 6 (.s (.ptr (some (X, 0)))) (.agg [.int .i64 op, .int .i64 n, .int .i64 d, .int .i64 e, .bool f, .bool g]) H5 = some (H5.set X (.cells false [.int .i64 op, .int .i64 n, .int .i64 d, .int .i64 e, .bool f, .bool g])) := by
    have e6 : ([.int .i64 op, .int .i64 n, .int .i64 d, .int .i64 e, .bool f, .bool g] : List SV).length = 6 := rfl
    rw [storeA_agg, if_pos e6, stn_of H5 hs2.cel (by simp)]
    simp [splice]
  refine ⟨_, hst, ?_⟩
  have hs3 := Sat.re (Sat.set hs2 [.int .i64 op, .int .i64 n, .int .i64 d, .int .i64 e, .bool f, .bool g]) [1, 2, 0] (by simp) (by decide)
  generalize H5.set X (.cells false [.int .i64 op, .int .i64 n, .int .i64 d, .int .i64 e, .bool f, .bool g]) = H6 at *
  have hs3 : Sat ρ H6 (HdA h cs al L last tic up 0 :: HrD m cs al L last tic up 0 :: Cel X [.int .i64 op, .int .i64 n, .int .i64 d, .int .i64 e, .bool f, .bool g] :: Rs) := hs3
  have fX : ∀ (HX : AH) (A B : Asr) (R' : List Asr), Sat ρ HX (A :: B :: Cel X [.int .i64 op, .int .i64 n, .int .i64 d, .int .i64 e, .bool f, .bool g] :: R') → ∀ (H' : AH), H'.blk = HX.blk →
      loadA none (.s (.ptr (some (X, 0)))) H' = some (i64 op) ∧ loadA none (.s (.ptr (some (X, 1)))) H' = some (i64 n) ∧ loadA none (.s (.ptr (some (X, 2)))) H' = some (i64 d) ∧ loadA none (.s (.ptr (some (X, 3)))) H' = some (i64 e) ∧ loadA none (.s (.ptr (some (X, 4)))) H' = some (bl f) ∧ loadA none (.s (.ptr (some (X, 5)))) H' = some (bl g) := by
    intro HX A B R' hX H' hb'
    have hc' : H'.blk X = some (.cells false [.int .i64 op, .int .i64 n, .int .i64 d, .int .i64 e, .bool f, .bool g]) := by rw [hb']; exact (hX.front 2 (by simp)).cel
    refine ⟨?_, ?_, ?_, ?_, ?_, ?_⟩ <;> (rw [loadA_one, ld_of H' hc']; rfl)
  have qn : ∀ j : Int, op ≠ j → binA .eql (i64 op) (i64 j) = some (bl false) := fun j hj => by rw [binA_eql, decide_eq_false hj]
  have fA := fX _ _ _ _ hs3
  have hok := hI.ok
  have hi80 : i < 80 := by omega
  have qe : binA .eql (i64 op) (i64 3) = some (bl true) := by rw [binA_eql, decide_eq_true hop]
  repeat (first | refine gP_t rfl ?_ | refine gP_f rfl ?_ | refine condP_t ?_ | refine condP_f ?_ | refine ⟨_, qe, ?_⟩ | refine ⟨_, qn _ (by omega), ?_⟩ | refine ⟨_, (fA _ rfl).1, ?_⟩ | refine ⟨_, (fA _ rfl).2.1, ?_⟩ | refine ⟨_, (fA _ rfl).2.2.1, ?_⟩ | refine ⟨_, (fA _ rfl).2.2.2.1, ?_⟩ | refine ⟨_, (fA _ rfl).2.2.2.2.1, ?_⟩ | refine ⟨_, (fA _ rfl).2.2.2.2.2, ?_⟩ | refine ⟨_, rfl, ?_⟩)
  have hs3b : Sat ρ H6 ([HdA h cs al L last tic up 0] ++ (HrD m cs al L last tic up 0 :: Cel X [.int .i64 op, .int .i64 n, .int .i64 d, .int .i64 e, .bool f, .bool g] :: Rs)) := hs3
  refine (Start_tri h cs al L last tic up 0 hok n).use (ρ := ρ) (R := HrD m cs al L last tic up 0 :: Cel X [.int .i64 op, .int .i64 n, .int .i64 d, .int .i64 e, .bool f, .bool g] :: Rs) (by (repeat refine Sat.bump ?_ _); exact hs3b) ?_
  rintro v H7 P' ⟨rfl, rfl⟩ hs4
  have hs4 : Sat ρ H7 (HdA h (modR cs n (startC up)).2 al L last tic up 0 :: HrD m cs al L last tic up 0 :: Cel X [.int .i64 op, .int .i64 n, .int .i64 d, .int .i64 e, .bool f, .bool g] :: Rs) := hs4
  have fB := fX _ _ _ _ hs4
  repeat (first | refine gP_t rfl ?_ | refine gP_f rfl ?_ | refine condP_t ?_ | refine condP_f ?_ | refine ⟨_, (fB _ rfl).1, ?_⟩ | refine ⟨_, (fB _ rfl).2.1, ?_⟩ | refine ⟨_, (fB _ rfl).2.2.1, ?_⟩ | refine ⟨_, (fB _ rfl).2.2.2.1, ?_⟩ | refine ⟨_, (fB _ rfl).2.2.2.2.1, ?_⟩ | refine ⟨_, (fB _ rfl).2.2.2.2.2, ?_⟩ | refine ⟨_, rfl, ?_⟩)
  have hs4b : Sat ρ H7 ([HrD m cs al L last tic up 0] ++ (HdA h (modR cs n (startC up)).2 al L last tic up 0 :: Cel X [.int .i64 op, .int .i64 n, .int .i64 d, .int .i64 e, .bool f, .bool g] :: Rs)) := hs4.swap
  refine (RhStart_tri m cs al L last tic up 0 hok n).use (ρ := ρ) (R := HdA h (modR cs n (startC up)).2 al L last tic up 0 :: Cel X [.int .i64 op, .int .i64 n, .int .i64 d, .int .i64 e, .bool f, .bool g] :: Rs) (by (repeat refine Sat.bump ?_ _); exact hs4b) ?_
  rintro v H8 P' ⟨rfl, rfl⟩ hs5
  have hs5 : Sat ρ H8 (HrD m (modR cs n (startC up)).2 al L last tic up 0 :: HdA h (modR cs n (startC up)).2 al L last tic up 0 :: Cel X [.int .i64 op, .int .i64 n, .int .i64 d, .int .i64 e, .bool f, .bool g] :: Rs) := hs5
  repeat (first | refine gP_t rfl ?_ | refine gP_f rfl ?_ | refine condP_t ?_ | refine condP_f ?_ | refine ⟨_, rfl, ?_⟩)
  intro T' hT' hl
  simp only [Lvs] at hl
  obtain ⟨u0, u1, _, u5, u7, u9, u11, u12, u13, u14, _⟩ := hl
  exact tail T' _ _ al L last up _ 0 _ (hI.start hi80 n) hT' u0 u1 u5 u7 u9 u11 u12 u13 u14 (by (repeat refine Sat.bump ?_ _); exact hs5.swap)
theorem hp_op4 {ρ : HF} (b cp : Nat) (cells : List SV) (len i : Nat) (hi : i < len) (hlen : len ≤ 80) (op n d e : Int) (f g : Bool) (hρ : ρ b = some (.cells true cells)) (hc1 : (cells.drop (i * 6)).take 6 = [.int .i64 op, .int .i64 n, .int .i64 d, .int .i64 e, .bool f, .bool g]) (hc2 : i * 6 + 6 ≤ cells.length) (hd : -9223372036854775808 ≤ d ∧ d < 9223372036854775808) (he : -9223372036854775808 ≤ e ∧ e < 9223372036854775808)
    (h m : Nat) (cs : List Cyc) (al : List Alr) (L : List Ent) (last tic up : Int) (hop : op = 4) (ht : 1 ≤ tic ∧ tic ≤ 1000) (hI : HpI cs al L last up i) (Rs : List Asr) (T : List AV) (H : AH) (hT : T.length = 299) (t0 : sl T 0 = i64 tic) (t1 : sl T 1 = .s (.slice (some (b, 0)) len cp 6)) (t5 : sl T 5 = ptr h) (t7 : sl T 7 = ptr m) (t9 : sl T 9 = i64 i)
    (hs : Sat ρ H (HdA h cs al L last tic up 0 :: HrD m cs al L last tic up 0 :: Rs)) (K : Ex → List AV → AH → Prop) (kret : ∀ T' H', sl T' 4 = bl true → K .ret T' H')
    (tail : ∀ (T' : List AV) (H' : AH) (cs' : List Cyc) (al' : List Alr) (L' : List Ent) (last' up' x y : Int) (Rs' : List Asr), HpI cs' al' L' last' up' (i + 1) → T'.length = 299 → sl T' 0 = i64 tic → sl T' 1 = .s (.slice (some (b, 0)) len cp 6) → sl T' 5 = ptr h → sl T' 7 = ptr m → sl T' 9 = i64 i → sl T' 11 = i64 x → sl T' 12 = i64 x → sl T' 13 = i64 y → sl T' 14 = i64 y → Sat ρ H' (HdA h cs' al' L' last' tic up' 0 :: HrD m cs' al' L' last' tic up' 0 :: Rs') → wpC tab noExt R.detentlaw20_HandPlays_s0 T' H' (blockK 1 (seqK (fun T H => wpC tab noExt R.detentlaw20_HandPlays_s1 T H K) K))) :
    wpC tab noExt R.detentlaw20_HandPlays_l2 T H K := by
  apply detentlaw20_HandPlays_l2_w hT
  have hln : lenA (.s (.slice (some (b, 0)) len cp 6)) = some (i64 len) := rfl
  have hlss : binA .lss (i64 i) (i64 len) = some (bl true) := by rw [binA_lss, decide_eq_true (by omega)]
  have hix := ixEl (b := b) (c := cp) (k := 6) hi
  have hb := hs.roOf _ _ hρ
  have hld : loadA (some 6) (.s (.ptr (some (b, i * 6)))) ((H.bump 4).bump 6) = some (.agg [.int .i64 op, .int .i64 n, .int .i64 d, .int .i64 e, .bool f, .bool g]) := by
    rw [loadA_n, bump_ldn, bump_ldn, ldn_of H hb, if_pos hc2, hc1]; rfl
  have hs1 := Sat.frees (hs.bump 4) 6 [4] (by decide) (by decide)
  simp only [List.map_cons, List.map_nil, List.cons_append, List.nil_append] at hs1
  simp only [t0, t1, t5, t7, t9]
  refine ⟨_, hln, _, hlss, condP_t ?_⟩
  refine ⟨_, hix, _, hld, _, new_of _ hs1.fre, ?_⟩
  have hs2 := Sat.mk hs1 [.int .i64 0, .int .i64 0, .int .i64 0, .int .i64 0, .bool false, .bool false]
  generalize AH.set _ _ (Blk.cells false [SV.int .i64 0, SV.int .i64 0, SV.int .i64 0, SV.int .i64 0, SV.bool false, SV.bool false]) = H5 at *
  generalize (H.bump 4).next + 4 = X at *
  have hst : storeA 6 (.s (.ptr (some (X, 0)))) (.agg [.int .i64 op, .int .i64 n, .int .i64 d, .int .i64 e, .bool f, .bool g]) H5 = some (H5.set X (.cells false [.int .i64 op, .int .i64 n, .int .i64 d, .int .i64 e, .bool f, .bool g])) := by
    have e6 : ([.int .i64 op, .int .i64 n, .int .i64 d, .int .i64 e, .bool f, .bool g] : List SV).length = 6 := rfl
    rw [storeA_agg, if_pos e6, stn_of H5 hs2.cel (by simp)]
    simp [splice]
  refine ⟨_, hst, ?_⟩
  have hs3 := Sat.re (Sat.set hs2 [.int .i64 op, .int .i64 n, .int .i64 d, .int .i64 e, .bool f, .bool g]) [1, 2, 0] (by simp) (by decide)
  generalize H5.set X (.cells false [.int .i64 op, .int .i64 n, .int .i64 d, .int .i64 e, .bool f, .bool g]) = H6 at *
  have hs3 : Sat ρ H6 (HdA h cs al L last tic up 0 :: HrD m cs al L last tic up 0 :: Cel X [.int .i64 op, .int .i64 n, .int .i64 d, .int .i64 e, .bool f, .bool g] :: Rs) := hs3
  have fX : ∀ (HX : AH) (A B : Asr) (R' : List Asr), Sat ρ HX (A :: B :: Cel X [.int .i64 op, .int .i64 n, .int .i64 d, .int .i64 e, .bool f, .bool g] :: R') → ∀ (H' : AH), H'.blk = HX.blk →
      loadA none (.s (.ptr (some (X, 0)))) H' = some (i64 op) ∧ loadA none (.s (.ptr (some (X, 1)))) H' = some (i64 n) ∧ loadA none (.s (.ptr (some (X, 2)))) H' = some (i64 d) ∧ loadA none (.s (.ptr (some (X, 3)))) H' = some (i64 e) ∧ loadA none (.s (.ptr (some (X, 4)))) H' = some (bl f) ∧ loadA none (.s (.ptr (some (X, 5)))) H' = some (bl g) := by
    intro HX A B R' hX H' hb'
    have hc' : H'.blk X = some (.cells false [.int .i64 op, .int .i64 n, .int .i64 d, .int .i64 e, .bool f, .bool g]) := by rw [hb']; exact (hX.front 2 (by simp)).cel
    refine ⟨?_, ?_, ?_, ?_, ?_, ?_⟩ <;> (rw [loadA_one, ld_of H' hc']; rfl)
  have qn : ∀ j : Int, op ≠ j → binA .eql (i64 op) (i64 j) = some (bl false) := fun j hj => by rw [binA_eql, decide_eq_false hj]
  have fA := fX _ _ _ _ hs3
  have hok := hI.ok
  have hi80 : i < 80 := by omega
  have qe : binA .eql (i64 op) (i64 4) = some (bl true) := by rw [binA_eql, decide_eq_true hop]
  repeat (first | refine gP_t rfl ?_ | refine gP_f rfl ?_ | refine condP_t ?_ | refine condP_f ?_ | refine ⟨_, qe, ?_⟩ | refine ⟨_, qn _ (by omega), ?_⟩ | refine ⟨_, (fA _ rfl).1, ?_⟩ | refine ⟨_, (fA _ rfl).2.1, ?_⟩ | refine ⟨_, (fA _ rfl).2.2.1, ?_⟩ | refine ⟨_, (fA _ rfl).2.2.2.1, ?_⟩ | refine ⟨_, (fA _ rfl).2.2.2.2.1, ?_⟩ | refine ⟨_, (fA _ rfl).2.2.2.2.2, ?_⟩ | refine ⟨_, rfl, ?_⟩)
  have hs3b : Sat ρ H6 ([HdA h cs al L last tic up 0] ++ (HrD m cs al L last tic up 0 :: Cel X [.int .i64 op, .int .i64 n, .int .i64 d, .int .i64 e, .bool f, .bool g] :: Rs)) := hs3
  refine (Stop_tri h cs al L last tic up 0 hok n).use (ρ := ρ) (R := HrD m cs al L last tic up 0 :: Cel X [.int .i64 op, .int .i64 n, .int .i64 d, .int .i64 e, .bool f, .bool g] :: Rs) (by (repeat refine Sat.bump ?_ _); exact hs3b) ?_
  rintro v H7 P' ⟨rfl, rfl⟩ hs4
  have hs4 : Sat ρ H7 (HdA h (modR cs n fun c => { c with on := false }).2 al L last tic up 0 :: HrD m cs al L last tic up 0 :: Cel X [.int .i64 op, .int .i64 n, .int .i64 d, .int .i64 e, .bool f, .bool g] :: Rs) := hs4
  have fB := fX _ _ _ _ hs4
  repeat (first | refine gP_t rfl ?_ | refine gP_f rfl ?_ | refine condP_t ?_ | refine condP_f ?_ | refine ⟨_, (fB _ rfl).1, ?_⟩ | refine ⟨_, (fB _ rfl).2.1, ?_⟩ | refine ⟨_, (fB _ rfl).2.2.1, ?_⟩ | refine ⟨_, (fB _ rfl).2.2.2.1, ?_⟩ | refine ⟨_, (fB _ rfl).2.2.2.2.1, ?_⟩ | refine ⟨_, (fB _ rfl).2.2.2.2.2, ?_⟩ | refine ⟨_, rfl, ?_⟩)
  have hs4b : Sat ρ H7 ([HrD m cs al L last tic up 0] ++ (HdA h (modR cs n fun c => { c with on := false }).2 al L last tic up 0 :: Cel X [.int .i64 op, .int .i64 n, .int .i64 d, .int .i64 e, .bool f, .bool g] :: Rs)) := hs4.swap
  refine (RhStop_tri m cs al L last tic up 0 hok n).use (ρ := ρ) (R := HdA h (modR cs n fun c => { c with on := false }).2 al L last tic up 0 :: Cel X [.int .i64 op, .int .i64 n, .int .i64 d, .int .i64 e, .bool f, .bool g] :: Rs) (by (repeat refine Sat.bump ?_ _); exact hs4b) ?_
  rintro v H8 P' ⟨rfl, rfl⟩ hs5
  have hs5 : Sat ρ H8 (HrD m (modR cs n fun c => { c with on := false }).2 al L last tic up 0 :: HdA h (modR cs n fun c => { c with on := false }).2 al L last tic up 0 :: Cel X [.int .i64 op, .int .i64 n, .int .i64 d, .int .i64 e, .bool f, .bool g] :: Rs) := hs5
  repeat (first | refine gP_t rfl ?_ | refine gP_f rfl ?_ | refine condP_t ?_ | refine condP_f ?_ | refine ⟨_, rfl, ?_⟩)
  intro T' hT' hl
  simp only [Lvs] at hl
  obtain ⟨u0, u1, _, u5, u7, u9, u11, u12, u13, u14, _⟩ := hl
  exact tail T' _ _ al L last up _ 0 _ (hI.stop hi80 n) hT' u0 u1 u5 u7 u9 u11 u12 u13 u14 (by (repeat refine Sat.bump ?_ _); exact hs5.swap)
end Go.AM

/-
  The law HandPlays, in the abstract machine: calls 5 to 9, and none.
-/
set_option maxRecDepth 10000
set_option maxHeartbeats 4000000
namespace Go.AM
attribute [local simp] Nat.add_assoc resA resA1 fillA buildA callvP
theorem hp_op5 {ρ : HF} (b cp : Nat) (cells : List SV) (len i : Nat) (hi : i < len) (hlen : len ≤ 80) (op n d e : Int) (f g : Bool) (hρ : ρ b = some (.cells true cells)) (hc1 : (cells.drop (i * 6)).take 6 = [.int .i64 op, .int .i64 n, .int .i64 d, .int .i64 e, .bool f, .bool g]) (hc2 : i * 6 + 6 ≤ cells.length) (hd : -9223372036854775808 ≤ d ∧ d < 9223372036854775808) (he : -9223372036854775808 ≤ e ∧ e < 9223372036854775808)
    (h m : Nat) (cs : List Cyc) (al : List Alr) (L : List Ent) (last tic up : Int) (hop : op = 5) (ht : 1 ≤ tic ∧ tic ≤ 1000) (hI : HpI cs al L last up i) (Rs : List Asr) (T : List AV) (H : AH) (hT : T.length = 299) (t0 : sl T 0 = i64 tic) (t1 : sl T 1 = .s (.slice (some (b, 0)) len cp 6)) (t5 : sl T 5 = ptr h) (t7 : sl T 7 = ptr m) (t9 : sl T 9 = i64 i)
    (hs : Sat ρ H (HdA h cs al L last tic up 0 :: HrD m cs al L last tic up 0 :: Rs)) (K : Ex → List AV → AH → Prop) (kret : ∀ T' H', sl T' 4 = bl true → K .ret T' H')
    (tail : ∀ (T' : List AV) (H' : AH) (cs' : List Cyc) (al' : List Alr) (L' : List Ent) (last' up' x y : Int) (Rs' : List Asr), HpI cs' al' L' last' up' (i + 1) → T'.length = 299 → sl T' 0 = i64 tic → sl T' 1 = .s (.slice (some (b, 0)) len cp 6) → sl T' 5 = ptr h → sl T' 7 = ptr m → sl T' 9 = i64 i → sl T' 11 = i64 x → sl T' 12 = i64 x → sl T' 13 = i64 y → sl T' 14 = i64 y → Sat ρ H' (HdA h cs' al' L' last' tic up' 0 :: HrD m cs' al' L' last' tic up' 0 :: Rs') → wpC tab noExt R.detentlaw20_HandPlays_s0 T' H' (blockK 1 (seqK (fun T H => wpC tab noExt R.detentlaw20_HandPlays_s1 T H K) K))) :
    wpC tab noExt R.detentlaw20_HandPlays_l2 T H K := by
  apply detentlaw20_HandPlays_l2_w hT
  have hln : lenA (.s (.slice (some (b, 0)) len cp 6)) = some (i64 len) := rfl
  have hlss : binA .lss (i64 i) (i64 len) = some (bl true) := by rw [binA_lss, decide_eq_true (by omega)]
  have hix := ixEl (b := b) (c := cp) (k := 6) hi
  have hb := hs.roOf _ _ hρ
  have hld : loadA (some 6) (.s (.ptr (some (b, i * 6)))) ((H.bump 4).bump 6) = some (.agg [.int .i64 op, .int .i64 n, .int .i64 d, .int .i64 e, .bool f, .bool g]) := by
    rw [loadA_n, bump_ldn, bump_ldn, ldn_of H hb, if_pos hc2, hc1]; rfl
  have hs1 := Sat.frees (hs.bump 4) 6 [4] (by decide) (by decide)
  simp only [List.map_cons, List.map_nil, List.cons_append, List.nil_append] at hs1
  simp only [t0, t1, t5, t7, t9]
  refine ⟨_, hln, _, hlss, condP_t ?_⟩
  refine ⟨_, hix, _, hld, _, new_of _ hs1.fre, ?_⟩
  have hs2 := Sat.mk hs1 [.int .i64 0, .int .i64 0, .int .i64 0, .int .i64 0, .bool false, .bool false]
  generalize AH.set _ _ (Blk.cells false [SV.int .i64 0, SV.int .i64 0, SV.int .i64 0, SV.int .i64 0, SV.bool false, SV.bool false]) = H5 at *
  generalize (H.bump 4).next + 4 = X at *
  have hst : storeA 6 (.s (.ptr (some (X, 0)))) (.agg [.int .i64 op, .int .i64 n, .int .i64 d, .int .i64 e, .bool f, .bool g]) H5 = some (H5.set X (.cells false [.int .i64 op, .int .i64 n, .int .i64 d, .int .i64 e, .bool f, .bool g])) := by
    have e6 : ([.int .i64 op, .int .i64 n, .int .i64 d, .int .i64 e, .bool f, .bool g] : List SV).length = 6 := rfl
    rw [storeA_agg, if_pos e6, stn_of H5 hs2.cel (by simp)]
    simp [splice]
  refine ⟨_, hst, ?_⟩
  have hs3 := Sat.re (Sat.set hs2 [.int .i64 op, .int .i64 n, .int .i64 d, .int .i64 e, .bool f, .bool g]) [1, 2, 0] (by simp) (by decide)
  generalize H5.set X (.cells false [.int .i64 op, .int .i64 n, .int .i64 d, .int .i64 e, .bool f, .bool g]) = H6 at *
  have hs3 : Sat ρ H6 (HdA h cs al L last tic up 0 :: HrD m cs al L last tic up 0 :: Cel X [.int .i64 op, .int .i64 n, .int .i64 d, .int .i64 e, .bool f, .bool g] :: Rs) := hs3
  have fX : ∀ (HX : AH) (A B : Asr) (R' : List Asr), Sat ρ HX (A :: B :: Cel X [.int .i64 op, .int .i64 n, .int .i64 d, .int .i64 e, .bool f, .bool g] :: R') → ∀ (H' : AH), H'.blk = HX.blk →
      loadA none (.s (.ptr (some (X, 0)))) H' = some (i64 op) ∧ loadA none (.s (.ptr (some (X, 1)))) H' = some (i64 n) ∧ loadA none (.s (.ptr (some (X, 2)))) H' = some (i64 d) ∧ loadA none (.s (.ptr (some (X, 3)))) H' = some (i64 e) ∧ loadA none (.s (.ptr (some (X, 4)))) H' = some (bl f) ∧ loadA none (.s (.ptr (some (X, 5)))) H' = some (bl g) := by
    intro HX A B R' hX H' hb'
    have hc' : H'.blk X = some (.cells false [.int .i64 op, .int .i64 n, .int .i64 d, .int .i64 e, .bool f, .bool g]) := by rw [hb']; exact (hX.front 2 (by simp)).cel
    refine ⟨?_, ?_, ?_, ?_, ?_, ?_⟩ <;> (rw [loadA_one, ld_of H' hc']; rfl)
  have qn : ∀ j : Int, op ≠ j → binA .eql (i64 op) (i64 j) = some (bl false) := fun j hj => by rw [binA_eql, decide_eq_false hj]
  have fA := fX _ _ _ _ hs3
  have hok := hI.ok
  have hi80 : i < 80 := by omega
  have qe : binA .eql (i64 op) (i64 5) = some (bl true) := by rw [binA_eql, decide_eq_true hop]
  repeat (first | refine gP_t rfl ?_ | refine gP_f rfl ?_ | refine condP_t ?_ | refine condP_f ?_ | refine ⟨_, qe, ?_⟩ | refine ⟨_, qn _ (by omega), ?_⟩ | refine ⟨_, (fA _ rfl).1, ?_⟩ | refine ⟨_, (fA _ rfl).2.1, ?_⟩ | refine ⟨_, (fA _ rfl).2.2.1, ?_⟩ | refine ⟨_, (fA _ rfl).2.2.2.1, ?_⟩ | refine ⟨_, (fA _ rfl).2.2.2.2.1, ?_⟩ | refine ⟨_, (fA _ rfl).2.2.2.2.2, ?_⟩ | refine ⟨_, rfl, ?_⟩)
  have hs3b : Sat ρ H6 ([HdA h cs al L last tic up 0] ++ (HrD m cs al L last tic up 0 :: Cel X [.int .i64 op, .int .i64 n, .int .i64 d, .int .i64 e, .bool f, .bool g] :: Rs)) := hs3
  refine (HdSet_tri h cs al L last tic up 0 hok ht n d hd.1 hd.2).use (ρ := ρ) (R := HrD m cs al L last tic up 0 :: Cel X [.int .i64 op, .int .i64 n, .int .i64 d, .int .i64 e, .bool f, .bool g] :: Rs) (by (repeat refine Sat.bump ?_ _); exact hs3b) ?_
  rintro v H7 P' ⟨rfl, rfl⟩ hs4
  have hs4 : Sat ρ H7 (HdA h cs (setR al up tic n d).2 L last tic up 0 :: HrD m cs al L last tic up 0 :: Cel X [.int .i64 op, .int .i64 n, .int .i64 d, .int .i64 e, .bool f, .bool g] :: Rs) := hs4
  have fB := fX _ _ _ _ hs4
  repeat (first | refine gP_t rfl ?_ | refine gP_f rfl ?_ | refine condP_t ?_ | refine condP_f ?_ | refine ⟨_, (fB _ rfl).1, ?_⟩ | refine ⟨_, (fB _ rfl).2.1, ?_⟩ | refine ⟨_, (fB _ rfl).2.2.1, ?_⟩ | refine ⟨_, (fB _ rfl).2.2.2.1, ?_⟩ | refine ⟨_, (fB _ rfl).2.2.2.2.1, ?_⟩ | refine ⟨_, (fB _ rfl).2.2.2.2.2, ?_⟩ | refine ⟨_, rfl, ?_⟩)
  have hs4b : Sat ρ H7 ([HrD m cs al L last tic up 0] ++ (HdA h cs (setR al up tic n d).2 L last tic up 0 :: Cel X [.int .i64 op, .int .i64 n, .int .i64 d, .int .i64 e, .bool f, .bool g] :: Rs)) := hs4.swap
  refine (RhSet_tri m cs al L last tic up 0 hok ht n d hd.1 hd.2).use (ρ := ρ) (R := HdA h cs (setR al up tic n d).2 L last tic up 0 :: Cel X [.int .i64 op, .int .i64 n, .int .i64 d, .int .i64 e, .bool f, .bool g] :: Rs) (by (repeat refine Sat.bump ?_ _); exact hs4b) ?_
  rintro v H8 P' ⟨rfl, rfl⟩ hs5
  have hs5 : Sat ρ H8 (HrD m cs (setR al up tic n d).2 L last tic up 0 :: HdA h cs (setR al up tic n d).2 L last tic up 0 :: Cel X [.int .i64 op, .int .i64 n, .int .i64 d, .int .i64 e, .bool f, .bool g] :: Rs) := hs5
  repeat (first | refine gP_t rfl ?_ | refine gP_f rfl ?_ | refine condP_t ?_ | refine condP_f ?_ | refine ⟨_, rfl, ?_⟩)
  intro T' hT' hl
  simp only [Lvs] at hl
  obtain ⟨u0, u1, _, u5, u7, u9, u11, u12, u13, u14, _⟩ := hl
  exact tail T' _ cs _ L last up _ 0 _ (hI.set hi80 ht n d) hT' u0 u1 u5 u7 u9 u11 u12 u13 u14 (by (repeat refine Sat.bump ?_ _); exact hs5.swap)
theorem hp_op6 {ρ : HF} (b cp : Nat) (cells : List SV) (len i : Nat) (hi : i < len) (hlen : len ≤ 80) (op n d e : Int) (f g : Bool) (hρ : ρ b = some (.cells true cells)) (hc1 : (cells.drop (i * 6)).take 6 = [.int .i64 op, .int .i64 n, .int .i64 d, .int .i64 e, .bool f, .bool g]) (hc2 : i * 6 + 6 ≤ cells.length) (hd : -9223372036854775808 ≤ d ∧ d < 9223372036854775808) (he : -9223372036854775808 ≤ e ∧ e < 9223372036854775808)
    (h m : Nat) (cs : List Cyc) (al : List Alr) (L : List Ent) (last tic up : Int) (hop : op = 6) (ht : 1 ≤ tic ∧ tic ≤ 1000) (hI : HpI cs al L last up i) (Rs : List Asr) (T : List AV) (H : AH) (hT : T.length = 299) (t0 : sl T 0 = i64 tic) (t1 : sl T 1 = .s (.slice (some (b, 0)) len cp 6)) (t5 : sl T 5 = ptr h) (t7 : sl T 7 = ptr m) (t9 : sl T 9 = i64 i)
    (hs : Sat ρ H (HdA h cs al L last tic up 0 :: HrD m cs al L last tic up 0 :: Rs)) (K : Ex → List AV → AH → Prop) (kret : ∀ T' H', sl T' 4 = bl true → K .ret T' H')
    (tail : ∀ (T' : List AV) (H' : AH) (cs' : List Cyc) (al' : List Alr) (L' : List Ent) (last' up' x y : Int) (Rs' : List Asr), HpI cs' al' L' last' up' (i + 1) → T'.length = 299 → sl T' 0 = i64 tic → sl T' 1 = .s (.slice (some (b, 0)) len cp 6) → sl T' 5 = ptr h → sl T' 7 = ptr m → sl T' 9 = i64 i → sl T' 11 = i64 x → sl T' 12 = i64 x → sl T' 13 = i64 y → sl T' 14 = i64 y → Sat ρ H' (HdA h cs' al' L' last' tic up' 0 :: HrD m cs' al' L' last' tic up' 0 :: Rs') → wpC tab noExt R.detentlaw20_HandPlays_s0 T' H' (blockK 1 (seqK (fun T H => wpC tab noExt R.detentlaw20_HandPlays_s1 T H K) K))) :
    wpC tab noExt R.detentlaw20_HandPlays_l2 T H K := by
  apply detentlaw20_HandPlays_l2_w hT
  have hln : lenA (.s (.slice (some (b, 0)) len cp 6)) = some (i64 len) := rfl
  have hlss : binA .lss (i64 i) (i64 len) = some (bl true) := by rw [binA_lss, decide_eq_true (by omega)]
  have hix := ixEl (b := b) (c := cp) (k := 6) hi
  have hb := hs.roOf _ _ hρ
  have hld : loadA (some 6) (.s (.ptr (some (b, i * 6)))) ((H.bump 4).bump 6) = some (.agg [.int .i64 op, .int .i64 n, .int .i64 d, .int .i64 e, .bool f, .bool g]) := by
    rw [loadA_n, bump_ldn, bump_ldn, ldn_of H hb, if_pos hc2, hc1]; rfl
  have hs1 := Sat.frees (hs.bump 4) 6 [4] (by decide) (by decide)
  simp only [List.map_cons, List.map_nil, List.cons_append, List.nil_append] at hs1
  simp only [t0, t1, t5, t7, t9]
  refine ⟨_, hln, _, hlss, condP_t ?_⟩
  refine ⟨_, hix, _, hld, _, new_of _ hs1.fre, ?_⟩
  have hs2 := Sat.mk hs1 [.int .i64 0, .int .i64 0, .int .i64 0, .int .i64 0, .bool false, .bool false]
  generalize AH.set _ _ (Blk.cells false [SV.int .i64 0, SV.int .i64 0, SV.int .i64 0, SV.int .i64 0, SV.bool false, SV.bool false]) = H5 at *
  generalize (H.bump 4).next + 4 = X at *
  have hst : storeA 6 (.s (.ptr (some (X, 0)))) (.agg [.int .i64 op, .int .i64 n, .int .i64 d, .int .i64 e, .bool f, .bool g]) H5 = some (H5.set X (.cells false [.int .i64 op, .int .i64 n, .int .i64 d, .int .i64 e, .bool f, .bool g])) := by
    have e6 : ([.int .i64 op, .int .i64 n, .int .i64 d, .int .i64 e, .bool f, .bool g] : List SV).length = 6 := rfl
    rw [storeA_agg, if_pos e6, stn_of H5 hs2.cel (by simp)]
    simp [splice]
  refine ⟨_, hst, ?_⟩
  have hs3 := Sat.re (Sat.set hs2 [.int .i64 op, .int .i64 n, .int .i64 d, .int .i64 e, .bool f, .bool g]) [1, 2, 0] (by simp) (by decide)
  generalize H5.set X (.cells false [.int .i64 op, .int .i64 n, .int .i64 d, .int .i64 e, .bool f, .bool g]) = H6 at *
  have hs3 : Sat ρ H6 (HdA h cs al L last tic up 0 :: HrD m cs al L last tic up 0 :: Cel X [.int .i64 op, .int .i64 n, .int .i64 d, .int .i64 e, .bool f, .bool g] :: Rs) := hs3
  have fX : ∀ (HX : AH) (A B : Asr) (R' : List Asr), Sat ρ HX (A :: B :: Cel X [.int .i64 op, .int .i64 n, .int .i64 d, .int .i64 e, .bool f, .bool g] :: R') → ∀ (H' : AH), H'.blk = HX.blk →
      loadA none (.s (.ptr (some (X, 0)))) H' = some (i64 op) ∧ loadA none (.s (.ptr (some (X, 1)))) H' = some (i64 n) ∧ loadA none (.s (.ptr (some (X, 2)))) H' = some (i64 d) ∧ loadA none (.s (.ptr (some (X, 3)))) H' = some (i64 e) ∧ loadA none (.s (.ptr (some (X, 4)))) H' = some (bl f) ∧ loadA none (.s (.ptr (some (X, 5)))) H' = some (bl g) := by
    intro HX A B R' hX H' hb'
    have hc' : H'.blk X = some (.cells false [.int .i64 op, .int .i64 n, .int .i64 d, .int .i64 e, .bool f, .bool g]) := by rw [hb']; exact (hX.front 2 (by simp)).cel
    refine ⟨?_, ?_, ?_, ?_, ?_, ?_⟩ <;> (rw [loadA_one, ld_of H' hc']; rfl)
  have qn : ∀ j : Int, op ≠ j → binA .eql (i64 op) (i64 j) = some (bl false) := fun j hj => by rw [binA_eql, decide_eq_false hj]
  have fA := fX _ _ _ _ hs3
  have hok := hI.ok
  have hi80 : i < 80 := by omega
  have qe : binA .eql (i64 op) (i64 6) = some (bl true) := by rw [binA_eql, decide_eq_true hop]
  repeat (first | refine gP_t rfl ?_ | refine gP_f rfl ?_ | refine condP_t ?_ | refine condP_f ?_ | refine ⟨_, qe, ?_⟩ | refine ⟨_, qn _ (by omega), ?_⟩ | refine ⟨_, (fA _ rfl).1, ?_⟩ | refine ⟨_, (fA _ rfl).2.1, ?_⟩ | refine ⟨_, (fA _ rfl).2.2.1, ?_⟩ | refine ⟨_, (fA _ rfl).2.2.2.1, ?_⟩ | refine ⟨_, (fA _ rfl).2.2.2.2.1, ?_⟩ | refine ⟨_, (fA _ rfl).2.2.2.2.2, ?_⟩ | refine ⟨_, rfl, ?_⟩)
  have hs3b : Sat ρ H6 ([HdA h cs al L last tic up 0] ++ (HrD m cs al L last tic up 0 :: Cel X [.int .i64 op, .int .i64 n, .int .i64 d, .int .i64 e, .bool f, .bool g] :: Rs)) := hs3
  refine (Clear_tri h cs al L last tic up 0 hok n).use (ρ := ρ) (R := HrD m cs al L last tic up 0 :: Cel X [.int .i64 op, .int .i64 n, .int .i64 d, .int .i64 e, .bool f, .bool g] :: Rs) (by (repeat refine Sat.bump ?_ _); exact hs3b) ?_
  rintro v H7 P' ⟨rfl, rfl⟩ hs4
  have hs4 : Sat ρ H7 (HdA h cs (modR al n fun _ => ⟨false, 0⟩).2 L last tic up 0 :: HrD m cs al L last tic up 0 :: Cel X [.int .i64 op, .int .i64 n, .int .i64 d, .int .i64 e, .bool f, .bool g] :: Rs) := hs4
  have fB := fX _ _ _ _ hs4
  repeat (first | refine gP_t rfl ?_ | refine gP_f rfl ?_ | refine condP_t ?_ | refine condP_f ?_ | refine ⟨_, (fB _ rfl).1, ?_⟩ | refine ⟨_, (fB _ rfl).2.1, ?_⟩ | refine ⟨_, (fB _ rfl).2.2.1, ?_⟩ | refine ⟨_, (fB _ rfl).2.2.2.1, ?_⟩ | refine ⟨_, (fB _ rfl).2.2.2.2.1, ?_⟩ | refine ⟨_, (fB _ rfl).2.2.2.2.2, ?_⟩ | refine ⟨_, rfl, ?_⟩)
  have hs4b : Sat ρ H7 ([HrD m cs al L last tic up 0] ++ (HdA h cs (modR al n fun _ => ⟨false, 0⟩).2 L last tic up 0 :: Cel X [.int .i64 op, .int .i64 n, .int .i64 d, .int .i64 e, .bool f, .bool g] :: Rs)) := hs4.swap
  refine (RhClear_tri m cs al L last tic up 0 hok n).use (ρ := ρ) (R := HdA h cs (modR al n fun _ => ⟨false, 0⟩).2 L last tic up 0 :: Cel X [.int .i64 op, .int .i64 n, .int .i64 d, .int .i64 e, .bool f, .bool g] :: Rs) (by (repeat refine Sat.bump ?_ _); exact hs4b) ?_
  rintro v H8 P' ⟨rfl, rfl⟩ hs5
  have hs5 : Sat ρ H8 (HrD m cs (modR al n fun _ => ⟨false, 0⟩).2 L last tic up 0 :: HdA h cs (modR al n fun _ => ⟨false, 0⟩).2 L last tic up 0 :: Cel X [.int .i64 op, .int .i64 n, .int .i64 d, .int .i64 e, .bool f, .bool g] :: Rs) := hs5
  repeat (first | refine gP_t rfl ?_ | refine gP_f rfl ?_ | refine condP_t ?_ | refine condP_f ?_ | refine ⟨_, rfl, ?_⟩)
  intro T' hT' hl
  simp only [Lvs] at hl
  obtain ⟨u0, u1, _, u5, u7, u9, u11, u12, u13, u14, _⟩ := hl
  exact tail T' _ cs _ L last up _ 0 _ (hI.clear hi80 n) hT' u0 u1 u5 u7 u9 u11 u12 u13 u14 (by (repeat refine Sat.bump ?_ _); exact hs5.swap)
theorem hp_op7 {ρ : HF} (b cp : Nat) (cells : List SV) (len i : Nat) (hi : i < len) (hlen : len ≤ 80) (op n d e : Int) (f g : Bool) (hρ : ρ b = some (.cells true cells)) (hc1 : (cells.drop (i * 6)).take 6 = [.int .i64 op, .int .i64 n, .int .i64 d, .int .i64 e, .bool f, .bool g]) (hc2 : i * 6 + 6 ≤ cells.length) (hd : -9223372036854775808 ≤ d ∧ d < 9223372036854775808) (he : -9223372036854775808 ≤ e ∧ e < 9223372036854775808)
    (h m : Nat) (cs : List Cyc) (al : List Alr) (L : List Ent) (last tic up : Int) (hop : op = 7) (ht : 1 ≤ tic ∧ tic ≤ 1000) (hI : HpI cs al L last up i) (Rs : List Asr) (T : List AV) (H : AH) (hT : T.length = 299) (t0 : sl T 0 = i64 tic) (t1 : sl T 1 = .s (.slice (some (b, 0)) len cp 6)) (t5 : sl T 5 = ptr h) (t7 : sl T 7 = ptr m) (t9 : sl T 9 = i64 i)
    (hs : Sat ρ H (HdA h cs al L last tic up 0 :: HrD m cs al L last tic up 0 :: Rs)) (K : Ex → List AV → AH → Prop) (kret : ∀ T' H', sl T' 4 = bl true → K .ret T' H')
    (tail : ∀ (T' : List AV) (H' : AH) (cs' : List Cyc) (al' : List Alr) (L' : List Ent) (last' up' x y : Int) (Rs' : List Asr), HpI cs' al' L' last' up' (i + 1) → T'.length = 299 → sl T' 0 = i64 tic → sl T' 1 = .s (.slice (some (b, 0)) len cp 6) → sl T' 5 = ptr h → sl T' 7 = ptr m → sl T' 9 = i64 i → sl T' 11 = i64 x → sl T' 12 = i64 x → sl T' 13 = i64 y → sl T' 14 = i64 y → Sat ρ H' (HdA h cs' al' L' last' tic up' 0 :: HrD m cs' al' L' last' tic up' 0 :: Rs') → wpC tab noExt R.detentlaw20_HandPlays_s0 T' H' (blockK 1 (seqK (fun T H => wpC tab noExt R.detentlaw20_HandPlays_s1 T H K) K))) :
    wpC tab noExt R.detentlaw20_HandPlays_l2 T H K := by
  apply detentlaw20_HandPlays_l2_w hT
  have hln : lenA (.s (.slice (some (b, 0)) len cp 6)) = some (i64 len) := rfl
  have hlss : binA .lss (i64 i) (i64 len) = some (bl true) := by rw [binA_lss, decide_eq_true (by omega)]
  have hix := ixEl (b := b) (c := cp) (k := 6) hi
  have hb := hs.roOf _ _ hρ
  have hld : loadA (some 6) (.s (.ptr (some (b, i * 6)))) ((H.bump 4).bump 6) = some (.agg [.int .i64 op, .int .i64 n, .int .i64 d, .int .i64 e, .bool f, .bool g]) := by
    rw [loadA_n, bump_ldn, bump_ldn, ldn_of H hb, if_pos hc2, hc1]; rfl
  have hs1 := Sat.frees (hs.bump 4) 6 [4] (by decide) (by decide)
  simp only [List.map_cons, List.map_nil, List.cons_append, List.nil_append] at hs1
  simp only [t0, t1, t5, t7, t9]
  refine ⟨_, hln, _, hlss, condP_t ?_⟩
  refine ⟨_, hix, _, hld, _, new_of _ hs1.fre, ?_⟩
  have hs2 := Sat.mk hs1 [.int .i64 0, .int .i64 0, .int .i64 0, .int .i64 0, .bool false, .bool false]
  generalize AH.set _ _ (Blk.cells false [SV.int .i64 0, SV.int .i64 0, SV.int .i64 0, SV.int .i64 0, SV.bool false, SV.bool false]) = H5 at *
  generalize (H.bump 4).next + 4 = X at *
  have hst : storeA 6 (.s (.ptr (some (X, 0)))) (.agg [.int .i64 op, .int .i64 n, .int .i64 d, .int .i64 e, .bool f, .bool g]) H5 = some (H5.set X (.cells false [.int .i64 op, .int .i64 n, .int .i64 d, .int .i64 e, .bool f, .bool g])) := by
    have e6 : ([.int .i64 op, .int .i64 n, .int .i64 d, .int .i64 e, .bool f, .bool g] : List SV).length = 6 := rfl
    rw [storeA_agg, if_pos e6, stn_of H5 hs2.cel (by simp)]
    simp [splice]
  refine ⟨_, hst, ?_⟩
  have hs3 := Sat.re (Sat.set hs2 [.int .i64 op, .int .i64 n, .int .i64 d, .int .i64 e, .bool f, .bool g]) [1, 2, 0] (by simp) (by decide)
  generalize H5.set X (.cells false [.int .i64 op, .int .i64 n, .int .i64 d, .int .i64 e, .bool f, .bool g]) = H6 at *
  have hs3 : Sat ρ H6 (HdA h cs al L last tic up 0 :: HrD m cs al L last tic up 0 :: Cel X [.int .i64 op, .int .i64 n, .int .i64 d, .int .i64 e, .bool f, .bool g] :: Rs) := hs3
  have fX : ∀ (HX : AH) (A B : Asr) (R' : List Asr), Sat ρ HX (A :: B :: Cel X [.int .i64 op, .int .i64 n, .int .i64 d, .int .i64 e, .bool f, .bool g] :: R') → ∀ (H' : AH), H'.blk = HX.blk →
      loadA none (.s (.ptr (some (X, 0)))) H' = some (i64 op) ∧ loadA none (.s (.ptr (some (X, 1)))) H' = some (i64 n) ∧ loadA none (.s (.ptr (some (X, 2)))) H' = some (i64 d) ∧ loadA none (.s (.ptr (some (X, 3)))) H' = some (i64 e) ∧ loadA none (.s (.ptr (some (X, 4)))) H' = some (bl f) ∧ loadA none (.s (.ptr (some (X, 5)))) H' = some (bl g) := by
    intro HX A B R' hX H' hb'
    have hc' : H'.blk X = some (.cells false [.int .i64 op, .int .i64 n, .int .i64 d, .int .i64 e, .bool f, .bool g]) := by rw [hb']; exact (hX.front 2 (by simp)).cel
    refine ⟨?_, ?_, ?_, ?_, ?_, ?_⟩ <;> (rw [loadA_one, ld_of H' hc']; rfl)
  have qn : ∀ j : Int, op ≠ j → binA .eql (i64 op) (i64 j) = some (bl false) := fun j hj => by rw [binA_eql, decide_eq_false hj]
  have fA := fX _ _ _ _ hs3
  have hok := hI.ok
  have hi80 : i < 80 := by omega
  have qe : binA .eql (i64 op) (i64 7) = some (bl true) := by rw [binA_eql, decide_eq_true hop]
  have hLl : L.length < 256 := by have := hI.l; omega
  have hla : last < 4611686018427387904 := by have := hI.la1; omega
  have hu : 0 ≤ up ∧ up < 68719476736 := ⟨hok.up0, hok.up1⟩
  repeat (first | refine gP_t rfl ?_ | refine gP_f rfl ?_ | refine condP_t ?_ | refine condP_f ?_ | refine ⟨_, qe, ?_⟩ | refine ⟨_, qn _ (by omega), ?_⟩ | refine ⟨_, (fA _ rfl).1, ?_⟩ | refine ⟨_, (fA _ rfl).2.1, ?_⟩ | refine ⟨_, (fA _ rfl).2.2.1, ?_⟩ | refine ⟨_, (fA _ rfl).2.2.2.1, ?_⟩ | refine ⟨_, (fA _ rfl).2.2.2.2.1, ?_⟩ | refine ⟨_, (fA _ rfl).2.2.2.2.2, ?_⟩ | refine ⟨_, rfl, ?_⟩)
  have hs3b : Sat ρ H6 ([HdA h cs al L last tic up 0] ++ (HrD m cs al L last tic up 0 :: Cel X [.int .i64 op, .int .i64 n, .int .i64 d, .int .i64 e, .bool f, .bool g] :: Rs)) := hs3
  refine (Wait_tri h cs al L last tic up 0 hu ht hLl hla d n hd.1 hd.2).use (ρ := ρ) (R := HrD m cs al L last tic up 0 :: Cel X [.int .i64 op, .int .i64 n, .int .i64 d, .int .i64 e, .bool f, .bool g] :: Rs) (by (repeat refine Sat.bump ?_ _); exact hs3b) ?_
  rintro v H7 P' ⟨rfl, rfl⟩ hs4
  have hs4 : Sat ρ H7 (HdA h cs al (waitR L last tic up d n).2.1 (waitR L last tic up d n).2.2 tic up 0 :: HrD m cs al L last tic up 0 :: Cel X [.int .i64 op, .int .i64 n, .int .i64 d, .int .i64 e, .bool f, .bool g] :: Rs) := hs4
  have fB := fX _ _ _ _ hs4
  repeat (first | refine gP_t rfl ?_ | refine gP_f rfl ?_ | refine condP_t ?_ | refine condP_f ?_ | refine ⟨_, (fB _ rfl).1, ?_⟩ | refine ⟨_, (fB _ rfl).2.1, ?_⟩ | refine ⟨_, (fB _ rfl).2.2.1, ?_⟩ | refine ⟨_, (fB _ rfl).2.2.2.1, ?_⟩ | refine ⟨_, (fB _ rfl).2.2.2.2.1, ?_⟩ | refine ⟨_, (fB _ rfl).2.2.2.2.2, ?_⟩ | refine ⟨_, rfl, ?_⟩)
  have hs4b : Sat ρ H7 ([HrD m cs al L last tic up 0] ++ (HdA h cs al (waitR L last tic up d n).2.1 (waitR L last tic up d n).2.2 tic up 0 :: Cel X [.int .i64 op, .int .i64 n, .int .i64 d, .int .i64 e, .bool f, .bool g] :: Rs)) := hs4.swap
  refine (RhWait_tri m cs al L last tic up 0 hu ht hLl hla d n hd.1 hd.2).use (ρ := ρ) (R := HdA h cs al (waitR L last tic up d n).2.1 (waitR L last tic up d n).2.2 tic up 0 :: Cel X [.int .i64 op, .int .i64 n, .int .i64 d, .int .i64 e, .bool f, .bool g] :: Rs) (by (repeat refine Sat.bump ?_ _); exact hs4b) ?_
  rintro v H8 P' ⟨rfl, rfl⟩ hs5
  have hs5 : Sat ρ H8 (HrD m cs al (waitR L last tic up d n).2.1 (waitR L last tic up d n).2.2 tic up 0 :: HdA h cs al (waitR L last tic up d n).2.1 (waitR L last tic up d n).2.2 tic up 0 :: Cel X [.int .i64 op, .int .i64 n, .int .i64 d, .int .i64 e, .bool f, .bool g] :: Rs) := hs5
  repeat (first | refine gP_t rfl ?_ | refine gP_f rfl ?_ | refine condP_t ?_ | refine condP_f ?_ | refine ⟨_, rfl, ?_⟩)
  intro T' hT' hl
  simp only [Lvs] at hl
  obtain ⟨u0, u1, _, u5, u7, u9, u11, u12, u13, u14, _⟩ := hl
  exact tail T' _ cs al _ _ up _ _ _ (hI.wait hi80 tic d n) hT' u0 u1 u5 u7 u9 u11 u12 u13 u14 (by (repeat refine Sat.bump ?_ _); exact hs5.swap)
theorem hp_op8 {ρ : HF} (b cp : Nat) (cells : List SV) (len i : Nat) (hi : i < len) (hlen : len ≤ 80) (op n d e : Int) (f g : Bool) (hρ : ρ b = some (.cells true cells)) (hc1 : (cells.drop (i * 6)).take 6 = [.int .i64 op, .int .i64 n, .int .i64 d, .int .i64 e, .bool f, .bool g]) (hc2 : i * 6 + 6 ≤ cells.length) (hd : -9223372036854775808 ≤ d ∧ d < 9223372036854775808) (he : -9223372036854775808 ≤ e ∧ e < 9223372036854775808)
    (h m : Nat) (cs : List Cyc) (al : List Alr) (L : List Ent) (last tic up : Int) (hop : op = 8) (ht : 1 ≤ tic ∧ tic ≤ 1000) (hI : HpI cs al L last up i) (Rs : List Asr) (T : List AV) (H : AH) (hT : T.length = 299) (t0 : sl T 0 = i64 tic) (t1 : sl T 1 = .s (.slice (some (b, 0)) len cp 6)) (t5 : sl T 5 = ptr h) (t7 : sl T 7 = ptr m) (t9 : sl T 9 = i64 i)
    (hs : Sat ρ H (HdA h cs al L last tic up 0 :: HrD m cs al L last tic up 0 :: Rs)) (K : Ex → List AV → AH → Prop) (kret : ∀ T' H', sl T' 4 = bl true → K .ret T' H')
    (tail : ∀ (T' : List AV) (H' : AH) (cs' : List Cyc) (al' : List Alr) (L' : List Ent) (last' up' x y : Int) (Rs' : List Asr), HpI cs' al' L' last' up' (i + 1) → T'.length = 299 → sl T' 0 = i64 tic → sl T' 1 = .s (.slice (some (b, 0)) len cp 6) → sl T' 5 = ptr h → sl T' 7 = ptr m → sl T' 9 = i64 i → sl T' 11 = i64 x → sl T' 12 = i64 x → sl T' 13 = i64 y → sl T' 14 = i64 y → Sat ρ H' (HdA h cs' al' L' last' tic up' 0 :: HrD m cs' al' L' last' tic up' 0 :: Rs') → wpC tab noExt R.detentlaw20_HandPlays_s0 T' H' (blockK 1 (seqK (fun T H => wpC tab noExt R.detentlaw20_HandPlays_s1 T H K) K))) :
    wpC tab noExt R.detentlaw20_HandPlays_l2 T H K := by
  apply detentlaw20_HandPlays_l2_w hT
  have hln : lenA (.s (.slice (some (b, 0)) len cp 6)) = some (i64 len) := rfl
  have hlss : binA .lss (i64 i) (i64 len) = some (bl true) := by rw [binA_lss, decide_eq_true (by omega)]
  have hix := ixEl (b := b) (c := cp) (k := 6) hi
  have hb := hs.roOf _ _ hρ
  have hld : loadA (some 6) (.s (.ptr (some (b, i * 6)))) ((H.bump 4).bump 6) = some (.agg [.int .i64 op, .int .i64 n, .int .i64 d, .int .i64 e, .bool f, .bool g]) := by
    rw [loadA_n, bump_ldn, bump_ldn, ldn_of H hb, if_pos hc2, hc1]; rfl
  have hs1 := Sat.frees (hs.bump 4) 6 [4] (by decide) (by decide)
  simp only [List.map_cons, List.map_nil, List.cons_append, List.nil_append] at hs1
  simp only [t0, t1, t5, t7, t9]
  refine ⟨_, hln, _, hlss, condP_t ?_⟩
  refine ⟨_, hix, _, hld, _, new_of _ hs1.fre, ?_⟩
  have hs2 := Sat.mk hs1 [.int .i64 0, .int .i64 0, .int .i64 0, .int .i64 0, .bool false, .bool false]
  generalize AH.set _ _ (Blk.cells false [SV.int .i64 0, SV.int .i64 0, SV.int .i64 0, SV.int .i64 0, SV.bool false, SV.bool false]) = H5 at *
  generalize (H.bump 4).next + 4 = X at *
  have hst : storeA 6 (.s (.ptr (some (X, 0)))) (.agg [.int .i64 op, .int .i64 n, .int .i64 d, .int .i64 e, .bool f, .bool g]) H5 = some (H5.set X (.cells false [.int .i64 op, .int .i64 n, .int .i64 d, .int .i64 e, .bool f, .bool g])) := by
    have e6 : ([.int .i64 op, .int .i64 n, .int .i64 d, .int .i64 e, .bool f, .bool g] : List SV).length = 6 := rfl
    rw [storeA_agg, if_pos e6, stn_of H5 hs2.cel (by simp)]
    simp [splice]
  refine ⟨_, hst, ?_⟩
  have hs3 := Sat.re (Sat.set hs2 [.int .i64 op, .int .i64 n, .int .i64 d, .int .i64 e, .bool f, .bool g]) [1, 2, 0] (by simp) (by decide)
  generalize H5.set X (.cells false [.int .i64 op, .int .i64 n, .int .i64 d, .int .i64 e, .bool f, .bool g]) = H6 at *
  have hs3 : Sat ρ H6 (HdA h cs al L last tic up 0 :: HrD m cs al L last tic up 0 :: Cel X [.int .i64 op, .int .i64 n, .int .i64 d, .int .i64 e, .bool f, .bool g] :: Rs) := hs3
  have fX : ∀ (HX : AH) (A B : Asr) (R' : List Asr), Sat ρ HX (A :: B :: Cel X [.int .i64 op, .int .i64 n, .int .i64 d, .int .i64 e, .bool f, .bool g] :: R') → ∀ (H' : AH), H'.blk = HX.blk →
      loadA none (.s (.ptr (some (X, 0)))) H' = some (i64 op) ∧ loadA none (.s (.ptr (some (X, 1)))) H' = some (i64 n) ∧ loadA none (.s (.ptr (some (X, 2)))) H' = some (i64 d) ∧ loadA none (.s (.ptr (some (X, 3)))) H' = some (i64 e) ∧ loadA none (.s (.ptr (some (X, 4)))) H' = some (bl f) ∧ loadA none (.s (.ptr (some (X, 5)))) H' = some (bl g) := by
    intro HX A B R' hX H' hb'
    have hc' : H'.blk X = some (.cells false [.int .i64 op, .int .i64 n, .int .i64 d, .int .i64 e, .bool f, .bool g]) := by rw [hb']; exact (hX.front 2 (by simp)).cel
    refine ⟨?_, ?_, ?_, ?_, ?_, ?_⟩ <;> (rw [loadA_one, ld_of H' hc']; rfl)
  have qn : ∀ j : Int, op ≠ j → binA .eql (i64 op) (i64 j) = some (bl false) := fun j hj => by rw [binA_eql, decide_eq_false hj]
  have fA := fX _ _ _ _ hs3
  have hok := hI.ok
  have hi80 : i < 80 := by omega
  have qe : binA .eql (i64 op) (i64 8) = some (bl true) := by rw [binA_eql, decide_eq_true hop]
  have hul := hI.u1
  have hu0 := hok.up0
  repeat (first | refine gP_t rfl ?_ | refine gP_f rfl ?_ | refine condP_t ?_ | refine condP_f ?_ | refine ⟨_, qe, ?_⟩ | refine ⟨_, qn _ (by omega), ?_⟩ | refine ⟨_, (fA _ rfl).1, ?_⟩ | refine ⟨_, (fA _ rfl).2.1, ?_⟩ | refine ⟨_, (fA _ rfl).2.2.1, ?_⟩ | refine ⟨_, (fA _ rfl).2.2.2.1, ?_⟩ | refine ⟨_, (fA _ rfl).2.2.2.2.1, ?_⟩ | refine ⟨_, (fA _ rfl).2.2.2.2.2, ?_⟩ | refine ⟨_, rfl, ?_⟩)
  refine (Pass_tri h cs al L last tic up 0 hok ht (by omega)).use (ρ := ρ) (R := HrD m cs al L last tic up 0 :: Cel X [.int .i64 op, .int .i64 n, .int .i64 d, .int .i64 e, .bool f, .bool g] :: Rs) (by (repeat refine Sat.bump ?_ _); exact hs3) ?_
  rintro v H7 P' ⟨so, sa, z, rfl, hz, hzp, rfl⟩ hs4
  have hs4 : Sat ρ H7 (Row encF 3 so z :: Row encI 1 sa ((dueL L (up + tic)).map Ent.arg) :: HdA h (cs.map (cycT (up + tic))) (al.map (alrT (up + tic))) (toL L (up + tic)) last tic (up + tic) 0 :: HrD m cs al L last tic up 0 :: Cel X [.int .i64 op, .int .i64 n, .int .i64 d, .int .i64 e, .bool f, .bool g] :: Rs) := hs4
  repeat (first | refine gP_t rfl ?_ | refine gP_f rfl ?_ | refine condP_t ?_ | refine condP_f ?_ | refine ⟨_, rfl, ?_⟩)
  refine (RhPass_tri m cs al L last tic up 0 hok ht (by omega)).use (Sat.bump (Sat.front hs4 3 (by simp)) _) ?_
  rintro v H8 P' ⟨so2, sa2, z2, rfl, hz2, hzp2, rfl⟩ hs5
  have hze : z2 = z := srtL_uniq ltF_tot hz2 hz (hzp2.trans hzp.symm)
  subst hze
  have hs5 : Sat ρ H8 (Row encF 3 so2 z2 :: Row encI 1 sa2 ((dueL L (up + tic)).map Ent.arg) :: HrD m (cs.map (cycT (up + tic))) (al.map (alrT (up + tic))) (toL L (up + tic)) last tic (up + tic) 0 :: Row encF 3 so z2 :: Row encI 1 sa ((dueL L (up + tic)).map Ent.arg) :: HdA h (cs.map (cycT (up + tic))) (al.map (alrT (up + tic))) (toL L (up + tic)) last tic (up + tic) 0 :: Cel X [.int .i64 op, .int .i64 n, .int .i64 d, .int .i64 e, .bool f, .bool g] :: Rs) := hs5
  repeat (first | refine gP_t rfl ?_ | refine gP_f rfl ?_ | refine condP_t ?_ | refine condP_f ?_ | refine ⟨_, rfl, ?_⟩)
  refine (Fired_tri so so2 z2 (hI.zlen hi80 ht hzp)).use (Sat.bump (Sat.re hs5 [3, 0, 1, 2] (by simp) (by decide)) _) ?_
  rintro v H9 P' ⟨rfl, rfl⟩ hs6
  have hs6 : Sat ρ H9 (Row encF 3 so z2 :: Row encF 3 so2 z2 :: Row encI 1 sa2 ((dueL L (up + tic)).map Ent.arg) :: HrD m (cs.map (cycT (up + tic))) (al.map (alrT (up + tic))) (toL L (up + tic)) last tic (up + tic) 0 :: Row encI 1 sa ((dueL L (up + tic)).map Ent.arg) :: HdA h (cs.map (cycT (up + tic))) (al.map (alrT (up + tic))) (toL L (up + tic)) last tic (up + tic) 0 :: Cel X [.int .i64 op, .int .i64 n, .int .i64 d, .int .i64 e, .bool f, .bool g] :: Rs) := hs6
  repeat (first | refine gP_t rfl ?_ | refine gP_f rfl ?_ | refine condP_t ?_ | refine condP_f ?_ | refine ⟨_, rfl, ?_⟩)
  have hdl : (dueL L (up + tic)).length ≤ L.length := (List.takeWhile_sublist _).length_le
  refine (Same3_tri sa sa2 _ (by rw [List.length_map]; have := hI.l; omega)).use (Sat.re hs6 [4, 2, 0, 1, 3] (by simp) (by decide)) ?_
  rintro v H10 P' ⟨rfl, rfl⟩ hs7
  have hs7 : Sat ρ H10 (Row encI 1 sa ((dueL L (up + tic)).map Ent.arg) :: Row encI 1 sa2 ((dueL L (up + tic)).map Ent.arg) :: Row encF 3 so z2 :: Row encF 3 so2 z2 :: HrD m (cs.map (cycT (up + tic))) (al.map (alrT (up + tic))) (toL L (up + tic)) last tic (up + tic) 0 :: HdA h (cs.map (cycT (up + tic))) (al.map (alrT (up + tic))) (toL L (up + tic)) last tic (up + tic) 0 :: Cel X [.int .i64 op, .int .i64 n, .int .i64 d, .int .i64 e, .bool f, .bool g] :: Rs) := hs7
  repeat (first | refine gP_t rfl ?_ | refine gP_f rfl ?_ | refine condP_t ?_ | refine condP_f ?_ | refine ⟨_, rfl, ?_⟩)
  intro T' hT' hl
  simp only [Lvs] at hl
  obtain ⟨u0, u1, _, u5, u7, u9, u11, u12, u13, u14, _⟩ := hl
  exact tail T' _ _ _ _ last _ 0 0 _ (hI.tick hi80 ht) hT' u0 u1 u5 u7 u9 u11 u12 u13 u14 (by (repeat refine Sat.bump ?_ _); exact Sat.sel hs7 [5, 4] 6 (by simp) (by decide))
theorem hp_op9 {ρ : HF} (b cp : Nat) (cells : List SV) (len i : Nat) (hi : i < len) (hlen : len ≤ 80) (op n d e : Int) (f g : Bool) (hρ : ρ b = some (.cells true cells)) (hc1 : (cells.drop (i * 6)).take 6 = [.int .i64 op, .int .i64 n, .int .i64 d, .int .i64 e, .bool f, .bool g]) (hc2 : i * 6 + 6 ≤ cells.length) (hd : -9223372036854775808 ≤ d ∧ d < 9223372036854775808) (he : -9223372036854775808 ≤ e ∧ e < 9223372036854775808)
    (h m : Nat) (cs : List Cyc) (al : List Alr) (L : List Ent) (last tic up : Int) (hop : op = 9) (ht : 1 ≤ tic ∧ tic ≤ 1000) (hI : HpI cs al L last up i) (Rs : List Asr) (T : List AV) (H : AH) (hT : T.length = 299) (t0 : sl T 0 = i64 tic) (t1 : sl T 1 = .s (.slice (some (b, 0)) len cp 6)) (t5 : sl T 5 = ptr h) (t7 : sl T 7 = ptr m) (t9 : sl T 9 = i64 i)
    (hs : Sat ρ H (HdA h cs al L last tic up 0 :: HrD m cs al L last tic up 0 :: Rs)) (K : Ex → List AV → AH → Prop) (kret : ∀ T' H', sl T' 4 = bl true → K .ret T' H')
    (tail : ∀ (T' : List AV) (H' : AH) (cs' : List Cyc) (al' : List Alr) (L' : List Ent) (last' up' x y : Int) (Rs' : List Asr), HpI cs' al' L' last' up' (i + 1) → T'.length = 299 → sl T' 0 = i64 tic → sl T' 1 = .s (.slice (some (b, 0)) len cp 6) → sl T' 5 = ptr h → sl T' 7 = ptr m → sl T' 9 = i64 i → sl T' 11 = i64 x → sl T' 12 = i64 x → sl T' 13 = i64 y → sl T' 14 = i64 y → Sat ρ H' (HdA h cs' al' L' last' tic up' 0 :: HrD m cs' al' L' last' tic up' 0 :: Rs') → wpC tab noExt R.detentlaw20_HandPlays_s0 T' H' (blockK 1 (seqK (fun T H => wpC tab noExt R.detentlaw20_HandPlays_s1 T H K) K))) :
    wpC tab noExt R.detentlaw20_HandPlays_l2 T H K := by
  apply detentlaw20_HandPlays_l2_w hT
  have hln : lenA (.s (.slice (some (b, 0)) len cp 6)) = some (i64 len) := rfl
  have hlss : binA .lss (i64 i) (i64 len) = some (bl true) := by rw [binA_lss, decide_eq_true (by omega)]
  have hix := ixEl (b := b) (c := cp) (k := 6) hi
  have hb := hs.roOf _ _ hρ
  have hld : loadA (some 6) (.s (.ptr (some (b, i * 6)))) ((H.bump 4).bump 6) = some (.agg [.int .i64 op, .int .i64 n, .int .i64 d, .int .i64 e, .bool f, .bool g]) := by
    rw [loadA_n, bump_ldn, bump_ldn, ldn_of H hb, if_pos hc2, hc1]; rfl
  have hs1 := Sat.frees (hs.bump 4) 6 [4] (by decide) (by decide)
  simp only [List.map_cons, List.map_nil, List.cons_append, List.nil_append] at hs1
  simp only [t0, t1, t5, t7, t9]
  refine ⟨_, hln, _, hlss, condP_t ?_⟩
  refine ⟨_, hix, _, hld, _, new_of _ hs1.fre, ?_⟩
  have hs2 := Sat.mk hs1 [.int .i64 0, .int .i64 0, .int .i64 0, .int .i64 0, .bool false, .bool false]
  generalize AH.set _ _ (Blk.cells false [SV.int .i64 0, SV.int .i64 0, SV.int .i64 0, SV.int .i64 0, SV.bool false, SV.bool false]) = H5 at *
  generalize (H.bump 4).next + 4 = X at *
  have hst : storeA 6 (.s (.ptr (some (X, 0)))) (.agg [.int .i64 op, .int .i64 n, .int .i64 d, .int .i64 e, .bool f, .bool g]) H5 = some (H5.set X (.cells false [.int .i64 op, .int .i64 n, .int .i64 d, .int .i64 e, .bool f, .bool g])) := by
    have e6 : ([.int .i64 op, .int .i64 n, .int .i64 d, .int .i64 e, .bool f, .bool g] : List SV).length = 6 := rfl
    rw [storeA_agg, if_pos e6, stn_of H5 hs2.cel (by simp)]
    simp [splice]
  refine ⟨_, hst, ?_⟩
  have hs3 := Sat.re (Sat.set hs2 [.int .i64 op, .int .i64 n, .int .i64 d, .int .i64 e, .bool f, .bool g]) [1, 2, 0] (by simp) (by decide)
  generalize H5.set X (.cells false [.int .i64 op, .int .i64 n, .int .i64 d, .int .i64 e, .bool f, .bool g]) = H6 at *
  have hs3 : Sat ρ H6 (HdA h cs al L last tic up 0 :: HrD m cs al L last tic up 0 :: Cel X [.int .i64 op, .int .i64 n, .int .i64 d, .int .i64 e, .bool f, .bool g] :: Rs) := hs3
  have fX : ∀ (HX : AH) (A B : Asr) (R' : List Asr), Sat ρ HX (A :: B :: Cel X [.int .i64 op, .int .i64 n, .int .i64 d, .int .i64 e, .bool f, .bool g] :: R') → ∀ (H' : AH), H'.blk = HX.blk →
      loadA none (.s (.ptr (some (X, 0)))) H' = some (i64 op) ∧ loadA none (.s (.ptr (some (X, 1)))) H' = some (i64 n) ∧ loadA none (.s (.ptr (some (X, 2)))) H' = some (i64 d) ∧ loadA none (.s (.ptr (some (X, 3)))) H' = some (i64 e) ∧ loadA none (.s (.ptr (some (X, 4)))) H' = some (bl f) ∧ loadA none (.s (.ptr (some (X, 5)))) H' = some (bl g) := by
    intro HX A B R' hX H' hb'
    have hc' : H'.blk X = some (.cells false [.int .i64 op, .int .i64 n, .int .i64 d, .int .i64 e, .bool f, .bool g]) := by rw [hb']; exact (hX.front 2 (by simp)).cel
    refine ⟨?_, ?_, ?_, ?_, ?_, ?_⟩ <;> (rw [loadA_one, ld_of H' hc']; rfl)
  have qn : ∀ j : Int, op ≠ j → binA .eql (i64 op) (i64 j) = some (bl false) := fun j hj => by rw [binA_eql, decide_eq_false hj]
  have fA := fX _ _ _ _ hs3
  have hok := hI.ok
  have hi80 : i < 80 := by omega
  have qe : binA .eql (i64 op) (i64 9) = some (bl true) := by rw [binA_eql, decide_eq_true hop]
  obtain ⟨ck, s1, s2, hs4⟩ := Sat.hdOpen hs3
  obtain ⟨cm, r1, r2, hs5⟩ := Sat.hrOpen (Sat.front hs4 4 (by simp))
  have hs6 : Sat ρ H6 (CkA ck L last tic up 0 :: RkA cm L last tic up 0 :: Cel X [.int .i64 op, .int .i64 n, .int .i64 d, .int .i64 e, .bool f, .bool g] :: Cel h [.ptr (some (ck, 0)), .int .u64 tic, s1, s2] :: Cel m [.ptr (some (cm, 0)), r1, r2] :: Row encC 5 s1 cs :: Row encL 2 s2 al :: Row encQ 5 r1 cs :: Row encL 2 r2 al :: Rs) := Sat.re hs5 [5, 1, 8, 4, 0, 6, 7, 2, 3] (by simp) (by decide)
  obtain ⟨tc, hs7⟩ := Sat.ckOpen hs6
  obtain ⟨tm, hs8⟩ := Sat.rkOpen (Sat.front hs7 2 (by simp))
  have hs9 : Sat ρ H6 (TmA tc L last :: RfT tm L last :: Cel X [.int .i64 op, .int .i64 n, .int .i64 d, .int .i64 e, .bool f, .bool g] :: Cel h [.ptr (some (ck, 0)), .int .u64 tic, s1, s2] :: Cel m [.ptr (some (cm, 0)), r1, r2] :: Cel ck [.ptr (some (tc, 0)), .int .u64 tic, .int .u64 up, .int .u64 0] :: Cel cm [.ptr (some (tm, 0)), .int .i64 tic, .int .u64 up, .int .u64 0] :: Row encC 5 s1 cs :: Row encL 2 s2 al :: Row encQ 5 r1 cs :: Row encL 2 r2 al :: Rs) := Sat.re hs8 [3, 1, 4, 5, 6, 2, 0] (by simp) (by decide)
  have LB : ∀ {HX H' : AH} {p o : Nat} {v : SV}, H'.blk = HX.blk → HX.ld p o = some v → loadA none (.s (.ptr (some (p, o)))) H' = some (.s v) := fun hb h' => by
    rw [loadA_one]
    unfold AH.ld at h' ⊢
    rw [hb, h']; rfl
  have l1 : H6.ld h 0 = some (.ptr (some (ck, 0))) := by rw [ld_of _ (hs9.front 3 (by simp)).cel]; rfl
  have l2 : H6.ld m 0 = some (.ptr (some (cm, 0))) := by rw [ld_of _ (hs9.front 4 (by simp)).cel]; rfl
  have l3 : H6.ld ck 0 = some (.ptr (some (tc, 0))) := by rw [ld_of _ (hs9.front 5 (by simp)).cel]; rfl
  have l4 : H6.ld cm 0 = some (.ptr (some (tm, 0))) := by rw [ld_of _ (hs9.front 6 (by simp)).cel]; rfl
  repeat (first | refine gP_t rfl ?_ | refine gP_f rfl ?_ | refine condP_t ?_ | refine condP_f ?_ | refine ⟨_, qe, ?_⟩ | refine ⟨_, qn _ (by omega), ?_⟩ | refine ⟨_, (fA _ rfl).1, ?_⟩ | refine ⟨_, (fA _ rfl).2.1, ?_⟩ | refine ⟨_, (fA _ rfl).2.2.1, ?_⟩ | refine ⟨_, (fA _ rfl).2.2.2.1, ?_⟩ | refine ⟨_, (fA _ rfl).2.2.2.2.1, ?_⟩ | refine ⟨_, (fA _ rfl).2.2.2.2.2, ?_⟩ | refine ⟨_, LB rfl l1, ?_⟩ | refine ⟨_, LB rfl l2, ?_⟩ | refine ⟨_, LB rfl l3, ?_⟩ | refine ⟨_, LB rfl l4, ?_⟩ | refine ⟨_, rfl, ?_⟩)
  refine (Cancel_tri tc L last n).use (ρ := ρ) (R := RfT tm L last :: Cel X [.int .i64 op, .int .i64 n, .int .i64 d, .int .i64 e, .bool f, .bool g] :: Cel h [.ptr (some (ck, 0)), .int .u64 tic, s1, s2] :: Cel m [.ptr (some (cm, 0)), r1, r2] :: Cel ck [.ptr (some (tc, 0)), .int .u64 tic, .int .u64 up, .int .u64 0] :: Cel cm [.ptr (some (tm, 0)), .int .i64 tic, .int .u64 up, .int .u64 0] :: Row encC 5 s1 cs :: Row encL 2 s2 al :: Row encQ 5 r1 cs :: Row encL 2 r2 al :: Rs) (by (repeat refine Sat.bump ?_ _); exact hs9) ?_
  rintro v H7 P' ⟨rfl, rfl⟩ hs10
  have hs10 : Sat ρ H7 (TmA tc (L.filter fun e => decide (e.handle ≠ n)) last :: RfT tm L last :: Cel X [.int .i64 op, .int .i64 n, .int .i64 d, .int .i64 e, .bool f, .bool g] :: Cel h [.ptr (some (ck, 0)), .int .u64 tic, s1, s2] :: Cel m [.ptr (some (cm, 0)), r1, r2] :: Cel ck [.ptr (some (tc, 0)), .int .u64 tic, .int .u64 up, .int .u64 0] :: Cel cm [.ptr (some (tm, 0)), .int .i64 tic, .int .u64 up, .int .u64 0] :: Row encC 5 s1 cs :: Row encL 2 s2 al :: Row encQ 5 r1 cs :: Row encL 2 r2 al :: Rs) := hs10
  have fB := fX _ _ _ _ hs10
  have l2 : H7.ld m 0 = some (.ptr (some (cm, 0))) := by rw [ld_of _ (hs10.front 4 (by simp)).cel]; rfl
  have l4 : H7.ld cm 0 = some (.ptr (some (tm, 0))) := by rw [ld_of _ (hs10.front 6 (by simp)).cel]; rfl
  refine ⟨LB rfl l2, LB rfl l4, (fB _ rfl).2.1, ?_⟩
  refine (RtCancel_tri tm L last n).use hs10.swap ?_
  rintro v H8 P' ⟨rfl, rfl⟩ hs11
  generalize hLf : (L.filter fun e => decide (e.handle ≠ n)) = L' at *
  have hs11 : Sat ρ H8 (RfT tm L' last :: TmA tc L' last :: Cel X [.int .i64 op, .int .i64 n, .int .i64 d, .int .i64 e, .bool f, .bool g] :: Cel h [.ptr (some (ck, 0)), .int .u64 tic, s1, s2] :: Cel m [.ptr (some (cm, 0)), r1, r2] :: Cel ck [.ptr (some (tc, 0)), .int .u64 tic, .int .u64 up, .int .u64 0] :: Cel cm [.ptr (some (tm, 0)), .int .i64 tic, .int .u64 up, .int .u64 0] :: Row encC 5 s1 cs :: Row encL 2 s2 al :: Row encQ 5 r1 cs :: Row encL 2 r2 al :: Rs) := hs11
  have hcb : eqsA .bool true (bl (byH L n).isSome) (bl (byH L n).isSome) = some (bl false) := by cases (byH L n).isSome <;> rfl
  repeat (first | refine gP_t rfl ?_ | refine gP_f rfl ?_ | refine condP_t ?_ | refine condP_f ?_ | refine ⟨_, hcb, ?_⟩ | refine ⟨_, rfl, ?_⟩)
  intro T' hT' hl
  simp only [Lvs] at hl
  obtain ⟨u0, u1, _, u5, u7, u9, u11, u12, u13, u14, _⟩ := hl
  have j1 : Sat ρ H8 (RkA cm L' last tic up 0 :: TmA tc L' last :: Cel X [.int .i64 op, .int .i64 n, .int .i64 d, .int .i64 e, .bool f, .bool g] :: Cel h [.ptr (some (ck, 0)), .int .u64 tic, s1, s2] :: Cel m [.ptr (some (cm, 0)), r1, r2] :: Cel ck [.ptr (some (tc, 0)), .int .u64 tic, .int .u64 up, .int .u64 0] :: Row encC 5 s1 cs :: Row encL 2 s2 al :: Row encQ 5 r1 cs :: Row encL 2 r2 al :: Rs) := Sat.rkClose (Sat.re hs11 [6, 0, 1, 2, 3, 4, 5] (by simp) (by decide))
  have j2 : Sat ρ H8 (CkA ck L' last tic up 0 :: RkA cm L' last tic up 0 :: Cel X [.int .i64 op, .int .i64 n, .int .i64 d, .int .i64 e, .bool f, .bool g] :: Cel h [.ptr (some (ck, 0)), .int .u64 tic, s1, s2] :: Cel m [.ptr (some (cm, 0)), r1, r2] :: Row encC 5 s1 cs :: Row encL 2 s2 al :: Row encQ 5 r1 cs :: Row encL 2 r2 al :: Rs) := Sat.ckClose (Sat.re j1 [5, 1, 0, 2, 3, 4] (by simp) (by decide))
  have j3 : Sat ρ H8 (HrD m cs al L' last tic up 0 :: CkA ck L' last tic up 0 :: Cel X [.int .i64 op, .int .i64 n, .int .i64 d, .int .i64 e, .bool f, .bool g] :: Cel h [.ptr (some (ck, 0)), .int .u64 tic, s1, s2] :: Row encC 5 s1 cs :: Row encL 2 s2 al :: Rs) := Sat.hrClose (Sat.re j2 [4, 1, 7, 8, 0, 2, 3, 5, 6] (by simp) (by decide))
  have j4 : Sat ρ H8 (HdA h cs al L' last tic up 0 :: HrD m cs al L' last tic up 0 :: Cel X [.int .i64 op, .int .i64 n, .int .i64 d, .int .i64 e, .bool f, .bool g] :: Rs) := Sat.hdClose (Sat.re j3 [3, 1, 4, 5, 0, 2] (by simp) (by decide))
  exact tail T' _ cs al L' last up 0 0 _ (hI.cancel hi80 (by rw [← hLf]; exact List.length_filter_le _ _)) hT' u0 u1 u5 u7 u9 u11 u12 u13 u14 j4
theorem hp_op0 {ρ : HF} (b cp : Nat) (cells : List SV) (len i : Nat) (hi : i < len) (hlen : len ≤ 80) (op n d e : Int) (f g : Bool) (hρ : ρ b = some (.cells true cells)) (hc1 : (cells.drop (i * 6)).take 6 = [.int .i64 op, .int .i64 n, .int .i64 d, .int .i64 e, .bool f, .bool g]) (hc2 : i * 6 + 6 ≤ cells.length) (hd : -9223372036854775808 ≤ d ∧ d < 9223372036854775808) (he : -9223372036854775808 ≤ e ∧ e < 9223372036854775808)
    (h m : Nat) (cs : List Cyc) (al : List Alr) (L : List Ent) (last tic up : Int) (hop : op ≠ 1 ∧ op ≠ 2 ∧ op ≠ 3 ∧ op ≠ 4 ∧ op ≠ 5 ∧ op ≠ 6 ∧ op ≠ 7 ∧ op ≠ 8 ∧ op ≠ 9) (ht : 1 ≤ tic ∧ tic ≤ 1000) (hI : HpI cs al L last up i) (Rs : List Asr) (T : List AV) (H : AH) (hT : T.length = 299) (t0 : sl T 0 = i64 tic) (t1 : sl T 1 = .s (.slice (some (b, 0)) len cp 6)) (t5 : sl T 5 = ptr h) (t7 : sl T 7 = ptr m) (t9 : sl T 9 = i64 i)
    (hs : Sat ρ H (HdA h cs al L last tic up 0 :: HrD m cs al L last tic up 0 :: Rs)) (K : Ex → List AV → AH → Prop) (kret : ∀ T' H', sl T' 4 = bl true → K .ret T' H')
    (tail : ∀ (T' : List AV) (H' : AH) (cs' : List Cyc) (al' : List Alr) (L' : List Ent) (last' up' x y : Int) (Rs' : List Asr), HpI cs' al' L' last' up' (i + 1) → T'.length = 299 → sl T' 0 = i64 tic → sl T' 1 = .s (.slice (some (b, 0)) len cp 6) → sl T' 5 = ptr h → sl T' 7 = ptr m → sl T' 9 = i64 i → sl T' 11 = i64 x → sl T' 12 = i64 x → sl T' 13 = i64 y → sl T' 14 = i64 y → Sat ρ H' (HdA h cs' al' L' last' tic up' 0 :: HrD m cs' al' L' last' tic up' 0 :: Rs') → wpC tab noExt R.detentlaw20_HandPlays_s0 T' H' (blockK 1 (seqK (fun T H => wpC tab noExt R.detentlaw20_HandPlays_s1 T H K) K))) :
    wpC tab noExt R.detentlaw20_HandPlays_l2 T H K := by
  apply detentlaw20_HandPlays_l2_w hT
  have hln : lenA (.s (.slice (some (b, 0)) len cp 6)) = some (i64 len) := rfl
  have hlss : binA .lss (i64 i) (i64 len) = some (bl true) := by rw [binA_lss, decide_eq_true (by omega)]
  have hix := ixEl (b := b) (c := cp) (k := 6) hi
  have hb := hs.roOf _ _ hρ
  have hld : loadA (some 6) (.s (.ptr (some (b, i * 6)))) ((H.bump 4).bump 6) = some (.agg [.int .i64 op, .int .i64 n, .int .i64 d, .int .i64 e, .bool f, .bool g]) := by
    rw [loadA_n, bump_ldn, bump_ldn, ldn_of H hb, if_pos hc2, hc1]; rfl
  have hs1 := Sat.frees (hs.bump 4) 6 [4] (by decide) (by decide)
  simp only [List.map_cons, List.map_nil, List.cons_append, List.nil_append] at hs1
  simp only [t0, t1, t5, t7, t9]
  refine ⟨_, hln, _, hlss, condP_t ?_⟩
  refine ⟨_, hix, _, hld, _, new_of _ hs1.fre, ?_⟩
  have hs2 := Sat.mk hs1 [.int .i64 0, .int .i64 0, .int .i64 0, .int .i64 0, .bool false, .bool false]
  generalize AH.set _ _ (Blk.cells false [SV.int .i64 0, SV.int .i64 0, SV.int .i64 0, SV.int .i64 0, SV.bool false, SV.bool false]) = H5 at *
  generalize (H.bump 4).next + 4 = X at *
  have hst : storeA 6 (.s (.ptr (some (X, 0)))) (.agg [.int .i64 op, .int .i64 n, .int .i64 d, .int .i64 e, .bool f, .bool g]) H5 = some (H5.set X (.cells false [.int .i64 op, .int .i64 n, .int .i64 d, .int .i64 e, .bool f, .bool g])) := by
    have e6 : ([.int .i64 op, .int .i64 n, .int .i64 d, .int .i64 e, .bool f, .bool g] : List SV).length = 6 := rfl
    rw [storeA_agg, if_pos e6, stn_of H5 hs2.cel (by simp)]
    simp [splice]
  refine ⟨_, hst, ?_⟩
  have hs3 := Sat.re (Sat.set hs2 [.int .i64 op, .int .i64 n, .int .i64 d, .int .i64 e, .bool f, .bool g]) [1, 2, 0] (by simp) (by decide)
  generalize H5.set X (.cells false [.int .i64 op, .int .i64 n, .int .i64 d, .int .i64 e, .bool f, .bool g]) = H6 at *
  have hs3 : Sat ρ H6 (HdA h cs al L last tic up 0 :: HrD m cs al L last tic up 0 :: Cel X [.int .i64 op, .int .i64 n, .int .i64 d, .int .i64 e, .bool f, .bool g] :: Rs) := hs3
  have fX : ∀ (HX : AH) (A B : Asr) (R' : List Asr), Sat ρ HX (A :: B :: Cel X [.int .i64 op, .int .i64 n, .int .i64 d, .int .i64 e, .bool f, .bool g] :: R') → ∀ (H' : AH), H'.blk = HX.blk →
      loadA none (.s (.ptr (some (X, 0)))) H' = some (i64 op) ∧ loadA none (.s (.ptr (some (X, 1)))) H' = some (i64 n) ∧ loadA none (.s (.ptr (some (X, 2)))) H' = some (i64 d) ∧ loadA none (.s (.ptr (some (X, 3)))) H' = some (i64 e) ∧ loadA none (.s (.ptr (some (X, 4)))) H' = some (bl f) ∧ loadA none (.s (.ptr (some (X, 5)))) H' = some (bl g) := by
    intro HX A B R' hX H' hb'
    have hc' : H'.blk X = some (.cells false [.int .i64 op, .int .i64 n, .int .i64 d, .int .i64 e, .bool f, .bool g]) := by rw [hb']; exact (hX.front 2 (by simp)).cel
    refine ⟨?_, ?_, ?_, ?_, ?_, ?_⟩ <;> (rw [loadA_one, ld_of H' hc']; rfl)
  have qn : ∀ j : Int, op ≠ j → binA .eql (i64 op) (i64 j) = some (bl false) := fun j hj => by rw [binA_eql, decide_eq_false hj]
  have fA := fX _ _ _ _ hs3
  have hok := hI.ok
  have hi80 : i < 80 := by omega
  repeat (first | refine gP_t rfl ?_ | refine gP_f rfl ?_ | refine condP_t ?_ | refine condP_f ?_ | refine ⟨_, qn _ (by omega), ?_⟩ | refine ⟨_, (fA _ rfl).1, ?_⟩ | refine ⟨_, (fA _ rfl).2.1, ?_⟩ | refine ⟨_, (fA _ rfl).2.2.1, ?_⟩ | refine ⟨_, (fA _ rfl).2.2.2.1, ?_⟩ | refine ⟨_, (fA _ rfl).2.2.2.2.1, ?_⟩ | refine ⟨_, (fA _ rfl).2.2.2.2.2, ?_⟩ | refine ⟨_, rfl, ?_⟩)
  intro T' hT' hl
  simp only [Lvs] at hl
  obtain ⟨u0, u1, _, u5, u7, u9, u11, u12, u13, u14, _⟩ := hl
  exact tail T' _ cs al L last up 0 0 _ (hI.same hi80) hT' u0 u1 u5 u7 u9 u11 u12 u13 u14 (by (repeat refine Sat.bump ?_ _); exact hs3)
end Go.AM

/-
  The law HandPlays, in the abstract machine: the whole.
-/
namespace Go.AM
abbrev tyActH : Ty := .pair (.int .i64) (.pair (.int .i64) (.pair (.int .i64) (.pair (.int .i64) (.pair .bool (.pair .bool .unit)))))
theorem actH {ρ : HF} {xs : List tyActH.den} {s : SV} (h : At ρ (.slice tyActH) xs [s]) {i : Nat} (hi : i < xs.length) : ∃ b c l op n d e f g, s = .slice (some (b, 0)) xs.length c 6 ∧ ρ b = some (.cells true l) ∧ (l.drop (i * 6)).take 6 = [.int .i64 op, .int .i64 n, .int .i64 d, .int .i64 e, .bool f, .bool g] ∧ i * 6 + 6 ≤ l.length ∧ (-9223372036854775808 ≤ d ∧ d < 9223372036854775808) ∧ (-9223372036854775808 ≤ e ∧ e < 9223372036854775808) := by
  obtain ⟨b, c, l, x, li, h1, h2, _, h4, h5, h6⟩ := At.slGet h hi
  obtain ⟨l1, l2, rfl, ⟨rfl, _⟩, l3, l4, rfl, ⟨rfl, _⟩, l5, l6, rfl, ⟨rfl, hd⟩, l7, l8, rfl, ⟨rfl, he⟩, l9, l10, rfl, rfl, l11, l12, rfl, rfl, rfl⟩ := h4
  exact ⟨b, c, l, _, _, _, _, _, _, h1, h2, h5, h6, lit_i64 hd, lit_i64 he⟩
section
variable {ρ : HF}
theorem hp_loop (xs : List tyActH.den) (s : SV) (hx : At ρ (.slice tyActH) xs [s]) (h80 : xs.length ≤ 80) (h m : Nat) (tic : Int) (ht : 1 ≤ tic ∧ tic ≤ 1000) (T : List AV) (H : AH) (hT : T.length = 299) (t0 : sl T 0 = i64 tic) (t1 : sl T 1 = .s s) (t5 : sl T 5 = ptr h) (t7 : sl T 7 = ptr m) (t9 : sl T 9 = i64 0) (Rs : List Asr) (hs : Sat ρ H (HdA h [] [] [] 0 tic 0 0 :: HrD m [] [] [] 0 tic 0 0 :: Rs))
    (K : AV → AH → Prop) (hk : ∀ H', K (bl true) H') :
    loopP tab noExt R.detentlaw20_HandPlays_l2 T H (blockK 0 (seqK (fun T H => wpC tab noExt R.detentlaw20_HandPlays_s3 T H (retK [.tmp 4] K)) (retK [.tmp 4] K))) := by
  have hlen := At.slLen hx
  refine loopP_invK (I := fun n T H' => T.length = 299 ∧ sl T 0 = i64 tic ∧ sl T 1 = .s s ∧ sl T 5 = ptr h ∧ sl T 7 = ptr m ∧ ∃ i : Nat, sl T 9 = i64 i ∧ i ≤ xs.length ∧ n = xs.length - i ∧ ∃ cs al L last up Rs, HpI cs al L last up i ∧ Sat ρ H' (HdA h cs al L last tic up 0 :: HrD m cs al L last tic up 0 :: Rs)) ?_ xs.length _ _ ⟨hT, t0, t1, t5, t7, 0, t9, Nat.zero_le _, rfl, [], [], [], 0, 0, Rs, ⟨by omega, by omega, by omega, by simp, by simp, by simp, by simp, by simp, by simp⟩, hs⟩
  intro n T H ⟨hT, t0, t1, t5, t7, i, t9, hi, hn, cs, al, L, last, up, Rs, hI, hs⟩ K2 kn kr ko
  by_cases hlt : i < xs.length
  · obtain ⟨b, cp, l, op, num, d, e, f, g, rfl, hρ, hl1, hl2, hd, he⟩ := actH hx hlt
    have w1 : binA .add (i64 i) (i64 1) = some (i64 ((i + 1 : Nat) : Int)) := by rw [binA_add, wrap_i64 (by omega) (by omega)]; rfl
    have kret : ∀ T' H', sl T' 4 = bl true → K2 .ret T' H' := by
      intro T' H' h4
      refine kr _ _ ?_
      simp only [blockK_ret, seqK_ret, retK_ret]
      exact ⟨_, by show some (sl T' 4) = some (bl true); rw [h4], hk _⟩
    have tail : ∀ (T' : List AV) (H' : AH) (cs' : List Cyc) (al' : List Alr) (L' : List Ent) (last' up' x y : Int) (Rs' : List Asr), HpI cs' al' L' last' up' (i + 1) → T'.length = 299 → sl T' 0 = i64 tic → sl T' 1 = .s (.slice (some (b, 0)) xs.length cp 6) → sl T' 5 = ptr h → sl T' 7 = ptr m → sl T' 9 = i64 i → sl T' 11 = i64 x → sl T' 12 = i64 x → sl T' 13 = i64 y → sl T' 14 = i64 y → Sat ρ H' (HdA h cs' al' L' last' tic up' 0 :: HrD m cs' al' L' last' tic up' 0 :: Rs') → wpC tab noExt R.detentlaw20_HandPlays_s0 T' H' (blockK 1 (seqK (fun T H => wpC tab noExt R.detentlaw20_HandPlays_s1 T H K2) K2)) := by
      intro T' H' cs' al' L' last' up' x y Rs' hI' hT' u0 u1 u5 u7 u9 u11 u12 u13 u14 hs'
      refine hp_s0 h m cs' al' L' last' tic up' (by have := hI'.u0; have := hI'.u1; have := hI'.i80; omega) x y Rs' T' H' hT' _ _ _ u0 u1 u5 u7 u9 u11 u12 u13 u14 hs' _ ?_
      intro T2 H2 hT2 w0 w1' w5 w7 w9 hs2
      simp only [blockK_norm, seqK_norm]
      apply detentlaw20_HandPlays_s1_w hT2
      rw [w9]
      refine ⟨_, w1, ?_⟩
      intro T3 hT3 hl
      simp only [Lvs] at hl
      obtain ⟨v0, v1, _, v5, v7, v9, _⟩ := hl
      exact kn (xs.length - (i + 1)) _ _ (by omega) ⟨hT3, v0.trans w0, v1.trans w1', v5.trans w5, v7.trans w7, i + 1, v9, hlt, rfl, cs', al', L', last', up', Rs', hI', hs2.bump _⟩
    by_cases o1 : op = 1
    · by_cases o1a : d < 1
      · exact hp_op1a b cp l xs.length i hlt h80 op num d e f g hρ hl1 hl2 hd he h m cs al L last tic up ⟨o1, o1a⟩ ht hI Rs T H hT t0 t1 t5 t7 t9 hs K2 kret tail
      by_cases o1b : d < tic.tdiv 20
      · exact hp_op1b b cp l xs.length i hlt h80 op num d e f g hρ hl1 hl2 hd he h m cs al L last tic up ⟨o1, o1a, o1b⟩ ht hI Rs T H hT t0 t1 t5 t7 t9 hs K2 kret tail
      · exact hp_op1c b cp l xs.length i hlt h80 op num d e f g hρ hl1 hl2 hd he h m cs al L last tic up ⟨o1, o1a, o1b⟩ ht hI Rs T H hT t0 t1 t5 t7 t9 hs K2 kret tail
    by_cases o2 : op = 2
    · exact hp_op2 b cp l xs.length i hlt h80 op num d e f g hρ hl1 hl2 hd he h m cs al L last tic up o2 ht hI Rs T H hT t0 t1 t5 t7 t9 hs K2 kret tail
    by_cases o3 : op = 3
    · exact hp_op3 b cp l xs.length i hlt h80 op num d e f g hρ hl1 hl2 hd he h m cs al L last tic up o3 ht hI Rs T H hT t0 t1 t5 t7 t9 hs K2 kret tail
    by_cases o4 : op = 4
    · exact hp_op4 b cp l xs.length i hlt h80 op num d e f g hρ hl1 hl2 hd he h m cs al L last tic up o4 ht hI Rs T H hT t0 t1 t5 t7 t9 hs K2 kret tail
    by_cases o5 : op = 5
    · exact hp_op5 b cp l xs.length i hlt h80 op num d e f g hρ hl1 hl2 hd he h m cs al L last tic up o5 ht hI Rs T H hT t0 t1 t5 t7 t9 hs K2 kret tail
    by_cases o6 : op = 6
    · exact hp_op6 b cp l xs.length i hlt h80 op num d e f g hρ hl1 hl2 hd he h m cs al L last tic up o6 ht hI Rs T H hT t0 t1 t5 t7 t9 hs K2 kret tail
    by_cases o7 : op = 7
    · exact hp_op7 b cp l xs.length i hlt h80 op num d e f g hρ hl1 hl2 hd he h m cs al L last tic up o7 ht hI Rs T H hT t0 t1 t5 t7 t9 hs K2 kret tail
    by_cases o8 : op = 8
    · exact hp_op8 b cp l xs.length i hlt h80 op num d e f g hρ hl1 hl2 hd he h m cs al L last tic up o8 ht hI Rs T H hT t0 t1 t5 t7 t9 hs K2 kret tail
    by_cases o9 : op = 9
    · exact hp_op9 b cp l xs.length i hlt h80 op num d e f g hρ hl1 hl2 hd he h m cs al L last tic up o9 ht hI Rs T H hT t0 t1 t5 t7 t9 hs K2 kret tail
    · exact hp_op0 b cp l xs.length i hlt h80 op num d e f g hρ hl1 hl2 hd he h m cs al L last tic up ⟨o1, o2, o3, o4, o5, o6, o7, o8, o9⟩ ht hI Rs T H hT t0 t1 t5 t7 t9 hs K2 kret tail
  · have hie : i = xs.length := by omega
    subst hie
    have hlss : binA .lss (i64 (xs.length : Int)) (i64 (xs.length : Int)) = some (bl false) := by rw [binA_lss, decide_eq_false (by omega)]
    apply detentlaw20_HandPlays_l2_w hT
    rw [t1, t9]
    refine ⟨_, hlen, _, hlss, condP_f ?_⟩
    intro T2 hT2 hl
    refine ko _ _ _ ?_
    simp only [blockK_out, if_true, seqK_norm]
    apply detentlaw20_HandPlays_s3_w hT2
    intro T3 hT3 hl3
    simp only [Lvs] at hl3
    simp only [retK_ret]
    exact ⟨_, by show some (sl T3 4) = some (bl true); rw [hl3.2.2.1], hk _⟩
end
theorem HandPlays_abs (H : AH) (hw : WF H) (hn : H.next = 1) (avs : List AV) (ha : ArgsAt H.blk [.int .i64, .slice tyActH] avs) :
    CallP tab noExt F.detentlaw20_HandPlays avs H fun v _ => v = bl true := by
  obtain ⟨tic, _, rfl, _, ha1⟩ := ha.int
  obtain ⟨xs, s, _, rfl, hx, ha2⟩ := ha1.slice
  obtain rfl := ha2.nil'
  have hlen := At.slLen hx
  apply detentlaw20_HandPlays_callw
  refine (known20_at ((hw.bump _).bump _) (m := 4) (by simp [hn]) (fun g => by kernel_rfl)).start (ρ := H.blk) ((hw.bump _).bump _) (fun _ _ h => h) ?_
  rintro v H1 hs rfl
  refine ⟨_, rfl, condP_f ?_⟩
  by_cases g7 : (80 : Int) < xs.length
  · have hgt : binA .gtr (i64 (xs.length : Int)) (i64 80) = some (bl true) := by rw [binA_gtr, decide_eq_true g7]
    exact ⟨_, hlen, _, hgt, condP_t ⟨_, rfl, rfl⟩⟩
  have hgt : binA .gtr (i64 (xs.length : Int)) (i64 80) = some (bl false) := by rw [binA_gtr, decide_eq_false g7]
  refine ⟨_, hlen, _, hgt, condP_f ?_⟩
  by_cases ht : tic < 1 ∨ 1000 < tic
  · refine (NewHands_no tic ht).use (R := []) ((hs.bump _).bump _) ?_
    rintro v H2 P' ⟨rfl, rfl⟩ hs1
    refine ⟨_, rfl, _, rfl, ?_⟩
    refine (RhNew_no tic ht).use (R := []) (hs1.bump _) ?_
    rintro v H3 P' ⟨rfl, rfl⟩ hs2
    repeat (first | refine gP_t rfl ?_ | refine gP_f rfl ?_ | refine condP_t ?_ | refine condP_f ?_ | refine ⟨_, rfl, ?_⟩)
    rfl
  · refine (NewHands_tri tic (by omega) (by omega)).use (R := []) ((hs.bump _).bump _) ?_
    rintro v H2 P' ⟨h, rfl, rfl⟩ hs1
    refine ⟨_, rfl, _, rfl, ?_⟩
    refine (RhNew_tri tic (by omega) (by omega)).use (R := [HdA h [] [] [] 0 tic 0 0]) (hs1.bump _) ?_
    rintro v H3 P' ⟨m, rfl, rfl⟩ hs2
    repeat (first | refine gP_t rfl ?_ | refine gP_f rfl ?_ | refine condP_t ?_ | refine condP_f ?_ | refine ⟨_, rfl, ?_⟩)
    intro T hT hl
    simp only [Lvs] at hl
    obtain ⟨u0, u1, _, u5, u7, u9, _⟩ := hl
    exact hp_loop xs s hx (by omega) h m tic (by omega) T _ hT u0 u1 u5 u7 u9 [] (by (repeat refine Sat.bump ?_ _); exact hs2.swap) _ (fun _ => rfl)
end Go.AM
