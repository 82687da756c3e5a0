/-
  Those that are ready: who comes back: the law.
-/
import Derived.Test.YtlkpeondecnhnaaDoorRqJ
namespace Go.AM
attribute [local simp] AH.ld AH.ldn Nat.add_assoc resA resA1 fillA buildA slSlA boundsA boundA callvP

theorem again_s1 {ρ : HF} (xs : List Int) (s : SV) (hx : At ρ (.slice (.int .u8)) xs [s]) (hl : xs.length ≤ 16) (k : Nat) (hk : k < xs.length) (a b : Nat) (L : List Asr) (T : List AV) (H : AH) (hT : T.length = 104) (s0 : sl T 0 = .s s) (s1 : sl T 1 = i64 ((k : Int) + 1)) (s5 : sl T 5 = ptr a) (s6 : sl T 6 = ptr b)
    (hs : Sat ρ H (QA a (fillR (priF xs 4) xs.length) :: QA b (fillR (priF xs 4) xs.length) :: L)) (K : Ex → List AV → AH → Prop) (hK : ∀ T' H', sl T' 4 = bl true → K .ret T' H') :
    wpC tab noExt R.detentlaw9_ReadyAgain_s1 T H K := by
  have hf := priF_ok (xs := xs) (m := 4) (by omega)
  rw [detentlaw9_ReadyAgain_s1_at hT]
  obtain ⟨b1, c, cells, x, rfl, hρ, hxi, hci, hx0, hx1⟩ := u8_get hx hk
  have hb := hs.roOf _ _ hρ
  have hfi : (priF xs 4 k : Int) = 1 + x % 4 := by
    unfold priF
    rw [List.getD_eq_getElem?_getD, hxi]
    have := Int.emod_nonneg x (show (4 : Int) ≠ 0 by omega)
    simp only [Option.getD_some]
    omega
  have e1 : x.tmod 4 = x % 4 := Int.tmod_eq_emod_of_nonneg hx0
  have h4 := Int.emod_lt_of_pos x (show (0 : Int) < 4 by omega)
  have h40 := Int.emod_nonneg x (show (4 : Int) ≠ 0 by omega)
  have w1 : IntKind.i64.wrap ((k : Int) + 1 - 1) = (k : Int) := by rw [wrap_i64 (by omega) (by omega)]; omega
  have w2 : IntKind.i64.wrap (x % 4) = x % 4 := wrap_i64 (by omega) (by omega)
  have w3 : IntKind.i64.wrap (1 + x % 4) = 1 + x % 4 := wrap_i64 (by omega) (by omega)
  obtain ⟨R, r1, r2, r3, r4, r, r5⟩ := again_rows hf hl hk
  obtain ⟨p, hp⟩ : ∃ p, p = priF xs 4 k := ⟨_, rfl⟩
  have hfk := hf k
  rw [← hp] at hfi hfk r5
  have r1' := r1
  have r3' := r3
  rw [← hp, hfi] at r1' r3'
  generalize x % 4 = y at *
  have w1' : IntKind.i64.wrap (k : Int) = (k : Int) := wrap_i64 (by omega) (by omega)
  have hlt : (k : Int) < (xs.length : Int) := by omega
  simp [s0, s1, s5, s6, w1, w1', w2, w3, e1, hk, hlt, hb, hci]
  refine (RemQ a (fillR (priF xs 4) xs.length) ((k : Int) + 1)).use (hs.bump 9 |>.bump 18) ?_
  rintro v H2 P' ⟨rfl, rfl⟩ hs2
  rw [r2]
  simp
  refine (AddQ a _ ((k : Int) + 1) (1 + y)).use hs2 ?_
  rintro v H3 P' ⟨rfl, rfl⟩ hs3
  rw [r1'] at hs3 ⊢
  have hs3 : Sat ρ H3 (QA a R :: QA b (fillR (priF xs 4) xs.length) :: L) := hs3
  simp
  refine (ChgQ b _ ((k : Int) + 1) (1 + y)).use hs3.swap ?_
  rintro v H4 P' ⟨rfl, rfl⟩ hs4
  rw [r3'] at hs4 ⊢
  have hs4 : Sat ρ H4 (QA b R :: QA a R :: L) := hs4
  simp
  refine (RowQ_tri a R (1 + y)).use (hs4.swap.bump 4) ?_
  rintro v H5 P' ⟨t, rfl, rfl⟩ hs5
  rw [if_pos (by omega), show (1 + y).toNat = p by omega, r5] at hs5
  have hs5 : Sat ρ H5 (QA a R :: Row encI 1 t (r ++ [(k : Int) + 1]) :: QA b R :: L) := Sat.swap hs5
  refine (AllQ_tri a R).use (hs5.bump 16) ?_
  rintro v H6 P' ⟨t2, rfl, rfl⟩ hs6
  have hs6 : Sat ρ H6 (QA b R :: Row encI 1 t2 R.flatten :: QA a R :: Row encI 1 t (r ++ [(k : Int) + 1]) :: L) := Sat.re hs6 [3, 0, 1, 2] (by simp) (by decide)
  refine (AllQ_tri b R).use hs6 ?_
  rintro v H7 P' ⟨t3, rfl, rfl⟩ hs7
  have hs8 : Sat ρ H7 (Row encI 1 t2 R.flatten :: Row encI 1 t3 R.flatten :: Row encI 1 t (r ++ [(k : Int) + 1]) :: L) := Sat.sel hs7 [2, 0, 4] 5 (by simp) (by decide)
  have hfl := r4.flat
  refine (Same_tri t2 t3 R.flatten R.flatten (by omega)).use (R := Row encI 1 t (r ++ [(k : Int) + 1]) :: L) (Sat.rdRow (Sat.rdRow hs8).swap).swap ?_
  rintro v H8 P' ⟨rfl, rfl⟩ hs9
  rw [decide_eq_true rfl]
  have hs10 : Sat ρ H8 (Row encI 1 t (r ++ [(k : Int) + 1]) :: L) := Sat.drop (Sat.drop hs9)
  have l1 := Sat.rowLen hs10
  have hrl : (r ++ [(k : Int) + 1]).length = r.length + 1 := by simp
  rw [hrl] at l1
  obtain ⟨b2, c2, ro, l, rfl, h5, h6, _⟩ := RowI.get hs10 (i := r.length) (x := (k : Int) + 1) (by simp)
  have hsr : r.length ≤ 16 := by
    have := r4.short p
    rw [r5, hrl] at this; omega
  have w4 : IntKind.i64.wrap (((r.length + 1 : Nat) : Int) - 1) = (r.length : Int) := by rw [wrap_i64 (by omega) (by omega)]; omega
  have w5 : IntKind.i64.wrap ((r.length : Int) + 1 - 1) = (r.length : Int) := by rw [wrap_i64 (by omega) (by omega)]; omega
  have w6 : IntKind.i64.wrap (r.length : Int) = (r.length : Int) := wrap_i64 (by omega) (by omega)
  have b1 : (r.length : Int) < (r.length : Int) + 1 := by omega
  simp [l1, w4, w5, w6, b1, h5, h6]
  exact hK _ _ rfl

set_option maxRecDepth 4000 in
theorem ReadyAgain_abs (H : AH) (hw : WF H) (h0 : H.blk 0 = some (.cells true tzCells)) (avs : List AV) (ha : ArgsAt H.blk [.slice (.int .u8), .int .i64] avs) : CallP tab noExt F.detentlaw9_ReadyAgain avs H fun v _ => v = bl true := by
  obtain ⟨xs, s, _, rfl, hx, ha2⟩ := ha.slice
  obtain ⟨w, _, rfl, _, ha2⟩ := ha2.int'
  obtain rfl := ha2.nil'
  have hlen := At.slLen hx
  apply detentlaw9_ReadyAgain_call
  refine known9_tri.use (R := []) (((tz_start hw h0).bump 1).bump 2) ?_
  rintro v H1 P' ⟨rfl, rfl⟩ hs1
  by_cases g1 : xs = []
  · have : xs.length = 0 := by rw [g1]; rfl
    simp [hlen, g1]
  have g1' : ¬ (xs.length : Int) = 0 := fun h => g1 (List.length_eq_zero_iff.1 (by omega))
  by_cases g2 : (16 : Int) < xs.length
  · simp [hlen, g1, g2]
  by_cases g3 : w < 1
  · simp [hlen, g1, g2, g3]
  by_cases g4 : (xs.length : Int) < w
  · simp [hlen, g1, g2, g3, g4]
  simp [hlen, g1, g2, g3, g4]
  obtain ⟨k, rfl⟩ : ∃ k : Nat, w = (k : Int) + 1 := ⟨w.toNat - 1, by omega⟩
  refine NewQ_tri.use (ρ := H.blk) (R := []) (by (repeat refine Sat.bump ?_ _); exact hs1) ?_
  rintro v H2 P' ⟨a, rfl, rfl⟩ hs2
  have hs2 : Sat H.blk H2 [TzA, QA a noRows] := Sat.swap hs2
  refine NewQ_tri.use (R := [QA a noRows]) (hs2.bump 2) ?_
  rintro v H3 P' ⟨b, rfl, rfl⟩ hs3
  have hs3 : Sat H.blk H3 [QA a noRows, QA b noRows, TzA] := Sat.re hs3 [2, 0, 1] (by simp) (by decide)
  refine again_l0 (ρ := H.blk) xs s hx (by omega) ((k : Int) + 1) a b [TzA] _ _ ?_ ?_ ?_ ?_ ?_ ?_ (hs3.bump 1) _ ?_
  · rfl
  · rfl
  · rfl
  · rfl
  · rfl
  · rfl
  intro T' H' hT' u0 u1 u5 u6 hs4
  simp
  refine again_s1 (ρ := H.blk) xs s hx (by omega) k (by omega) a b [TzA] _ _ hT' u0 u1 u5 u6 hs4 _ fun T2 H4 e => ?_
  simp
  exact e
end Go.AM
