/-
  Those that are ready: who comes back.
-/
import Derived.Test.YtlkpeondecnhnaaDoorRqI
namespace Go.AM
attribute [local simp] AH.ld AH.ldn Nat.add_assoc resA resA1 fillA buildA slSlA boundsA boundA callvP

theorem u8_get {ρ : HF} {xs : List Int} {s : SV} (h : At ρ (.slice (.int .u8)) xs [s]) {i : Nat} (hi : i < xs.length) : ∃ b c cells x, s = .slice (some (b, 0)) xs.length c 1 ∧ ρ b = some (.cells true cells) ∧ xs[i]? = some x ∧ cells[i]? = some (.int .u8 x) ∧ 0 ≤ x ∧ x ≤ 255 := by
  obtain ⟨b, c, cells, x, li, h1, h2, h3, ⟨e, hwf⟩, h5, h6⟩ := At.slGet h hi
  have h5 : (cells.drop (i * 1)).take 1 = li := h5
  rw [Nat.mul_one, e] at h5
  have hb : (0 : Int) ≤ x ∧ x ≤ 255 := by simpa [Lit.wf, IntKind.min, IntKind.max, IntKind.signed, IntKind.bits] using hwf
  refine ⟨b, c, cells, x, h1, h2, h3, ?_, hb⟩
  have := congrArg (fun l => l[0]?) h5
  simpa using this

theorem again_l0 {ρ : HF} (xs : List Int) (s : SV) (hx : At ρ (.slice (.int .u8)) xs [s]) (hl : xs.length ≤ 16) (who : Int) (a b : Nat) (L : List Asr) (T : List AV) (H : AH) (hT : T.length = 104) (s0 : sl T 0 = .s s) (s1 : sl T 1 = i64 who) (s5 : sl T 5 = ptr a) (s6 : sl T 6 = ptr b) (s7 : sl T 7 = i64 0)
    (hs : Sat ρ H (QA a noRows :: QA b noRows :: L)) (K : Ex → List AV → AH → Prop)
    (hk : ∀ T' H', T'.length = 104 → sl T' 0 = .s s → sl T' 1 = i64 who → sl T' 5 = ptr a → sl T' 6 = ptr b → Sat ρ H' (QA a (fillR (priF xs 4) xs.length) :: QA b (fillR (priF xs 4) xs.length) :: L) → K (.out 0) T' H') :
    loopP tab noExt R.detentlaw9_ReadyAgain_l0 T H K := by
  have hlen := At.slLen hx
  have hf := priF_ok (xs := xs) (m := 4) (by omega)
  refine loopP_invK (I := fun n T' H' => T'.length = 104 ∧ sl T' 0 = .s s ∧ sl T' 1 = i64 who ∧ sl T' 5 = ptr a ∧ sl T' 6 = ptr b ∧ ∃ i : Nat, sl T' 7 = i64 i ∧ i ≤ xs.length ∧ n = xs.length - i ∧ Sat ρ H' (QA a (fillR (priF xs 4) i) :: QA b (fillR (priF xs 4) i) :: L)) ?_ xs.length _ _ ⟨hT, s0, s1, s5, s6, 0, s7, Nat.zero_le _, rfl, hs⟩
  rintro n T' H' ⟨hT', t0, t1, t5, t6, i, t7, hi, hn, hs⟩ K' kn kr ko
  rw [detentlaw9_ReadyAgain_l0_at hT']
  by_cases hlt : i < xs.length
  · have hlt' : (i : Int) < (xs.length : Int) := by omega
    obtain ⟨b1, c, cells, x, rfl, hρ, hxi, hci, hx0, hx1⟩ := u8_get hx hlt
    have hb := hs.roOf _ _ hρ
    have hfi : (priF xs 4 i : Int) = 1 + x % 4 := by
      unfold priF
      rw [List.getD_eq_getElem?_getD, hxi]
      have := Int.emod_nonneg x (show (4 : Int) ≠ 0 by omega)
      simp only [Option.getD_some]
      omega
    have e1 : x.tmod 4 = x % 4 := Int.tmod_eq_emod_of_nonneg hx0
    have h4 := Int.emod_lt_of_pos x (show (0 : Int) < 4 by omega)
    have h40 := Int.emod_nonneg x (show (4 : Int) ≠ 0 by omega)
    have w1 : IntKind.i64.wrap ((i : Int) + 1) = (i : Int) + 1 := wrap_i64 (by omega) (by omega)
    have w2 : IntKind.i64.wrap (x % 4) = x % 4 := wrap_i64 (by omega) (by omega)
    have w3 : IntKind.i64.wrap (1 + x % 4) = 1 + x % 4 := wrap_i64 (by omega) (by omega)
    have hadd := fillR_add hf (show i < 16 by omega)
    rw [hfi] at hadd
    generalize x % 4 = y at *
    simp [t0, t5, t6, t7, hlen, hlt, hlt', hb, hci, e1, w1, w2, w3]
    refine (AddQ a (fillR (priF xs 4) i) ((i : Int) + 1) (1 + y)).use ((hs.bump 4).bump 11) ?_
    rintro v H2 P' ⟨rfl, rfl⟩ hs2
    rw [hadd] at hs2
    have hs2 : Sat ρ H2 (QA a (fillR (priF xs 4) (i + 1)) :: QA b (fillR (priF xs 4) i) :: L) := hs2
    have hb2 := hs2.roOf _ _ hρ
    simp [hb2, hci, e1, w2, w3]
    refine (AddQ b (fillR (priF xs 4) i) ((i : Int) + 1) (1 + y)).use (hs2.swap.bump 11) ?_
    rintro v H3 P' ⟨rfl, rfl⟩ hs3
    rw [hadd] at hs3
    have hs3 : Sat ρ H3 (QA b (fillR (priF xs 4) (i + 1)) :: QA a (fillR (priF xs 4) (i + 1)) :: L) := hs3
    exact kn (xs.length - (i + 1)) _ _ (by omega) ⟨rfl, rfl, t1, rfl, rfl, i + 1, rfl, hlt, rfl, hs3.swap.bump 3⟩
  · have hie : i = xs.length := by omega
    subst hie
    simp [t0, t7, hlen]
    exact ko _ _ _ (hk _ _ rfl rfl t1 t5 t6 (hs.bump 4))

/-- What both give: taken out and put back; changed to the same. -/
theorem again_rows {f : Nat → Nat} (hf : ∀ k, 1 ≤ f k ∧ f k ≤ 16) {n k : Nat} (hn : n ≤ 16) (hk : k < n) :
    ∃ R : QRows, (addQ (remQ (fillR f n) ((k : Int) + 1)).2 ((k : Int) + 1) (f k : Int)) = (0, R) ∧ (remQ (fillR f n) ((k : Int) + 1)).1 = true ∧ chgQ (fillR f n) ((k : Int) + 1) (f k : Int) = (true, R) ∧ GoodQ R ∧ ∃ r, rowAt R (f k) = r ++ [(k : Int) + 1] := by
  obtain ⟨g, hm⟩ := fillR_ok hf n hn
  have hpri := fillR_pri hf hn hk
  have hmem : ((k : Int) + 1) ∈ rowAt (fillR f n) (f k) := (hm _ _).2 ⟨k, hk, rfl, rfl⟩
  have hfk := hf k
  have hrem : remQ (fillR f n) ((k : Int) + 1) = (true, delR (fillR f n) ((k : Int) + 1) (f k)) := by
    unfold remQ; rw [hpri, if_neg (by omega)]
  have g' := g.del hfk.1 hfk.2 hmem
  have hno : ∀ q, ((k : Int) + 1) ∉ rowAt (delR (fillR f n) ((k : Int) + 1) (f k)) q := fun q hq => ((mem_del g hfk.2 hmem _ _).1 hq).2 rfl
  refine ⟨putR (delR (fillR f n) ((k : Int) + 1) (f k)) ((k : Int) + 1) (f k), ?_, by rw [hrem], ?_, g'.put hfk.1 hfk.2 (by omega) hno, ?_⟩
  · rw [hrem]
    unfold addQ
    rw [if_pos (by omega), if_pos (priQ_none g' hno), Int.toNat_natCast]
  · unfold chgQ
    rw [hpri, if_pos (by omega), Int.toNat_natCast]
  · exact ⟨_, by rw [put_at g' hfk.2, if_pos rfl]⟩
end Go.AM
