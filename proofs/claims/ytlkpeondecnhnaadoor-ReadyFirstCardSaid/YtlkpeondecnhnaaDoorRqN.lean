/-
  Those that are ready: taken one by one: the law.
-/
import Derived.Test.YtlkpeondecnhnaaDoorRqM
namespace Go.AM
attribute [local simp] AH.ld AH.ldn Nat.add_assoc resA resA1 fillA buildA slSlA boundsA boundA callvP

theorem first_l0 {ρ : HF} (xs : List Int) (s : SV) (hx : At ρ (.slice (.int .u8)) xs [s]) (hl : xs.length ≤ 16) (a : Nat) (L : List Asr) (T : List AV) (H : AH) (hT : T.length = 120) (s0 : sl T 0 = .s s) (s3 : sl T 3 = ptr a) (s4 : sl T 4 = i64 0)
    (hs : Sat ρ H (QA a noRows :: L)) (K : Ex → List AV → AH → Prop)
    (hk : ∀ T' H', T'.length = 120 → sl T' 0 = .s s → sl T' 3 = ptr a → Sat ρ H' (QA a (fillR (priF xs 16) xs.length) :: L) → K (.out 0) T' H') :
    loopP tab noExt R.detentlaw9_ReadyFirst_l0 T H K := by
  have hlen := At.slLen hx
  have hf := priF_ok (xs := xs) (m := 16) (by omega)
  refine loopP_invK (I := fun n T' H' => T'.length = 120 ∧ sl T' 0 = .s s ∧ sl T' 3 = ptr a ∧ ∃ i : Nat, sl T' 4 = i64 i ∧ i ≤ xs.length ∧ n = xs.length - i ∧ Sat ρ H' (QA a (fillR (priF xs 16) i) :: L)) ?_ xs.length _ _ ⟨hT, s0, s3, 0, s4, Nat.zero_le _, rfl, hs⟩
  rintro n T' H' ⟨hT', t0, t3, i, t4, hi, hn, hs⟩ K' kn kr ko
  rw [detentlaw9_ReadyFirst_l0_at hT']
  by_cases hlt : i < xs.length
  · have hlt' : (i : Int) < (xs.length : Int) := by omega
    obtain ⟨b1, c, cells, x, rfl, hρ, hxi, hci, hx0, hx1⟩ := u8_get hx hlt
    have hb := hs.roOf _ _ hρ
    have hfi : (priF xs 16 i : Int) = 1 + x % 16 := by
      unfold priF
      rw [List.getD_eq_getElem?_getD, hxi]
      have := Int.emod_nonneg x (show (16 : Int) ≠ 0 by omega)
      simp only [Option.getD_some]
      omega
    have e1 : x.tmod 16 = x % 16 := Int.tmod_eq_emod_of_nonneg hx0
    have h4 := Int.emod_lt_of_pos x (show (0 : Int) < 16 by omega)
    have h40 := Int.emod_nonneg x (show (16 : Int) ≠ 0 by omega)
    have w1 : IntKind.i64.wrap ((i : Int) + 1) = (i : Int) + 1 := wrap_i64 (by omega) (by omega)
    have w2 : IntKind.i64.wrap (x % 16) = x % 16 := wrap_i64 (by omega) (by omega)
    have w3 : IntKind.i64.wrap (1 + x % 16) = 1 + x % 16 := wrap_i64 (by omega) (by omega)
    have hadd := fillR_add hf (show i < 16 by omega)
    rw [hfi] at hadd
    generalize x % 16 = y at *
    simp [t0, t3, t4, hlen, hlt, hlt', hb, hci, e1, w1, w2, w3]
    refine (AddQ a (fillR (priF xs 16) i) ((i : Int) + 1) (1 + y)).use ((hs.bump 4).bump 12) ?_
    rintro v H2 P' ⟨rfl, rfl⟩ hs2
    rw [hadd] at hs2 ⊢
    have hs2 : Sat ρ H2 (QA a (fillR (priF xs 16) (i + 1)) :: L) := hs2
    simp [w1]
    exact kn (xs.length - (i + 1)) _ _ (by omega) ⟨rfl, rfl, rfl, i + 1, rfl, hlt, rfl, hs2.bump 3⟩
  · have hie : i = xs.length := by omega
    subst hie
    simp [t0, t4, hlen]
    exact ko _ _ _ (hk _ _ rfl rfl t3 (hs.bump 4))

theorem first_s2 {ρ : HF} (Q : QRows) (hQ : Q.flatten = []) (a : Nat) (L : List Asr) (T : List AV) (H : AH) (hT : T.length = 120) (s3 : sl T 3 = ptr a) (hs : Sat ρ H (QA a Q :: L)) (K : Ex → List AV → AH → Prop) (hK : ∀ T' H', sl T' 2 = bl true → K .ret T' H') :
    wpC tab noExt R.detentlaw9_ReadyFirst_s2 T H K := by
  rw [detentlaw9_ReadyFirst_s2_at hT]
  simp only [s3]
  refine (FirstQ_tri a Q).use (hs.bump 7) ?_
  rintro v H2 P' ⟨rfl, rfl⟩ hs2
  rw [hQ]
  simp [firstV]
  refine (AllQ_tri a Q).use (hs2.bump 9) ?_
  rintro v H3 P' ⟨t, rfl, rfl⟩ hs3
  have l1 := Sat.rowLen hs3
  rw [hQ] at l1
  simp [l1]
  exact hK _ _ rfl

/-- A task's byte. -/
theorem pris_get {ρ : HF} {xs : List Int} {s : SV} (hx : At ρ (.slice (.int .u8)) xs [s]) {y : Int} (h1 : 1 ≤ y) (h2 : y ≤ xs.length) : ∃ b c cells x, s = .slice (some (b, 0)) xs.length c 1 ∧ ρ b = some (.cells true cells) ∧ cells[(y - 1).toNat]? = some (.int .u8 x) ∧ x.tmod 16 = x % 16 ∧ (priF xs 16 (y.toNat - 1) : Int) = 1 + x % 16 ∧ 0 ≤ x % 16 ∧ x % 16 < 16 := by
  obtain ⟨b, c, cells, x, e1, e2, e3, e4, e5, e6⟩ := u8_get hx (i := (y - 1).toNat) (by omega)
  refine ⟨b, c, cells, x, e1, e2, e4, Int.tmod_eq_emod_of_nonneg e5, ?_, Int.emod_nonneg _ (by omega), Int.emod_lt_of_pos _ (by omega)⟩
  unfold priF
  rw [show y.toNat - 1 = (y - 1).toNat by omega, List.getD_eq_getElem?_getD, e3]
  have := Int.emod_nonneg x (show (16 : Int) ≠ 0 by omega)
  simp only [Option.getD_some]
  omega

set_option maxRecDepth 4000 in
theorem first_l1 {ρ : HF} (xs : List Int) (s : SV) (hx : At ρ (.slice (.int .u8)) xs [s]) (hl : xs.length ≤ 16) (a : Nat) (al : SV) (all : List Int) (hall : all = (fillR (priF xs 16) xs.length).flatten) (L : List Asr) (T : List AV) (H : AH) (hT : T.length = 120) (s0 : sl T 0 = .s s) (s3 : sl T 3 = ptr a) (s5 : sl T 5 = .s al) (s6 : sl T 6 = i64 0)
    (hs : Sat ρ H (QA a (fillR (priF xs 16) xs.length) :: RdI al all :: L)) (K : Ex → List AV → AH → Prop)
    (hk : ∀ T' H' Q, T'.length = 120 → sl T' 3 = ptr a → Q.flatten = [] → Sat ρ H' (QA a Q :: RdI al all :: L) → K (.out 2) T' H') :
    loopP tab noExt R.detentlaw9_ReadyFirst_l1 T H K := by
  have hlen := At.slLen hx
  have hf := priF_ok (xs := xs) (m := 16) (by omega)
  have hord := fillR_order hf hl
  obtain ⟨gf, hm⟩ := fillR_ok hf xs.length hl
  have hlal : all.length = xs.length := by rw [hall, fillR_len hf _ hl]
  rw [← hall] at hord
  have hin : ∀ (i : Nat) y, all[i]? = some y → 1 ≤ y ∧ y ≤ (xs.length : Int) := fun i y hy => by
    have := List.mem_of_getElem? hy
    rw [hall] at this
    obtain ⟨r, hr, hyr⟩ := List.mem_flatten.1 this
    obtain ⟨p, hp, rfl⟩ := List.mem_iff_getElem.1 hr
    have e := rowAt_get hp
    rw [List.getElem?_eq_getElem hp] at e
    rw [Option.some.inj e] at hyr
    obtain ⟨k, h1, h2, _⟩ := (hm _ _).1 hyr
    omega
  refine loopP_invK (I := fun n T' H' => T'.length = 120 ∧ sl T' 0 = .s s ∧ sl T' 3 = ptr a ∧ sl T' 5 = .s al ∧ ∃ (i : Nat) (Q : QRows), sl T' 6 = i64 i ∧ i ≤ xs.length ∧ n = xs.length - i ∧ Q.flatten = all.drop i ∧ Sat ρ H' (QA a Q :: RdI al all :: L)) ?_ xs.length _ _ ⟨hT, s0, s3, s5, 0, _, s6, Nat.zero_le _, rfl, by rw [List.drop_zero]; exact hall.symm, hs⟩
  rintro n T' H' ⟨hT', t0, t3, t5, i, Q, t6, hi, hn, hQ, hs⟩ K' kn kr ko
  rw [detentlaw9_ReadyFirst_l1_at hT']
  by_cases hlt : i < xs.length
  · have hlt' : (i : Int) < (xs.length : Int) := by omega
    obtain ⟨y, hy⟩ := get_ex (r := all) (i := i) (by omega)
    have hQc : Q.flatten = y :: all.drop (i + 1) := by
      rw [hQ, List.drop_eq_getElem_cons (by omega : i < all.length)]
      congr 1
      exact (List.getElem?_eq_some_iff.1 hy).2
    obtain ⟨_, _, _, g, _, _⟩ := Sat.qOpen hs
    obtain ⟨Q', r1, r2, r3⟩ := rem_head g hQc
    have w1 : IntKind.i64.wrap ((i : Int) + 1) = (i : Int) + 1 := wrap_i64 (by omega) (by omega)
    simp [t0, t3, t5, t6, hlen, hlt', -callvP]
    refine (FirstQ_tri a Q).use ((hs.bump 4).bump 7) ?_
    rintro v H2 P' ⟨rfl, rfl⟩ hs2
    rw [hQc]
    have hs2 : Sat ρ H2 (QA a Q :: RdI al all :: L) := hs2
    obtain ⟨ba, ca, roa, la, rfl, hba, hla, _⟩ := hs2.swap.rdGet hy
    have hia : (i : Int) < (all.length : Int) := by omega
    have hia2 : i < all.length := by omega
    simp [firstV, hba, hla, hia, hia2]
    refine (RemQ a Q y).use (hs2.bump 16) ?_
    rintro v H3 P' ⟨rfl, rfl⟩ hs3
    rw [r1] at hs3 ⊢
    have hs3 : Sat ρ H3 (QA a Q' :: RdI (.slice (some (ba, 0)) all.length ca 1) all :: L) := hs3
    simp
    have fin : ∀ H5, Sat ρ H5 (QA a Q' :: RdI (.slice (some (ba, 0)) all.length ca 1) all :: L) → ∀ T2 : List AV, T2.length = 120 → sl T2 0 = .s s → sl T2 3 = ptr a → sl T2 5 = .s (.slice (some (ba, 0)) all.length ca 1) → sl T2 6 = i64 ((i : Int) + 1) → K' .norm T2 H5 := fun H5 h T2 u0 u1 u3 u5 u6 => kn (xs.length - (i + 1)) _ _ (by omega) ⟨u0, u1, u3, u5, i + 1, Q', u6, hlt, rfl, r3, h⟩
    by_cases hi0 : i = 0
    · subst hi0
      simp
      refine fin _ (Sat.bump (Sat.bump hs3 2) 3) _ ?_ ?_ ?_ ?_ ?_
      · rfl
      · rfl
      · rfl
      · rfl
      · rfl
    · have hi1 : (0 : Int) < (i : Int) := by omega
      obtain ⟨j, rfl⟩ : ∃ j, i = j + 1 := ⟨i - 1, by omega⟩
      obtain ⟨z, hz⟩ := get_ex (r := all) (i := j) (by omega)
      have hyr := hin _ y hy
      have hzr := hin _ z hz
      have hlt2 := (List.pairwise_iff_getElem.1 hord) j (j + 1) (by omega) (by omega) (by omega)
      rw [(List.getElem?_eq_some_iff.1 hy).2, (List.getElem?_eq_some_iff.1 hz).2] at hlt2
      obtain ⟨bp, cp, cells, xy, rfl, hρ, hcy, ey, fy, y0, y1⟩ := pris_get hx hyr.1 hyr.2
      obtain ⟨_, _, _, xz, e2, hρ2, hcz, ez, fz, z0, z1⟩ := pris_get hx hzr.1 hzr.2
      cases e2
      rw [hρ] at hρ2
      cases hρ2
      obtain ⟨_, _, _, la2, e3, hba2, hlz, _⟩ := hs3.swap.rdGet hz
      cases e3
      obtain ⟨_, _, _, la3, e4, hba3, hly, _⟩ := hs3.swap.rdGet hy
      cases e4
      rw [hba2] at hba3
      cases hba3
      have hbp := hs3.roOf _ _ hρ
      have v1 : IntKind.i64.wrap (((j + 1 : Nat) : Int) - 1) = (j : Int) := by rw [wrap_i64 (by omega) (by omega)]; omega
      have v2 : IntKind.i64.wrap ((j : Int) + 1 - 1) = (j : Int) := by rw [wrap_i64 (by omega) (by omega)]; omega
      have v3 : IntKind.i64.wrap (z - 1) = z - 1 := wrap_i64 (by omega) (by omega)
      have v4 : IntKind.i64.wrap (y - 1) = y - 1 := wrap_i64 (by omega) (by omega)
      have c1 : 0 ≤ z - 1 ∧ z - 1 < (xs.length : Int) := by omega
      have c2 : 0 ≤ y - 1 ∧ y - 1 < (xs.length : Int) := by omega
      have c3 : (j : Int) < (all.length : Int) := by omega
      have c4 : j < all.length := by omega
      have hord2 : xz % 16 < xy % 16 ∨ (xz % 16 = xy % 16 ∧ z < y) := by
        rcases hlt2 with h | ⟨h, h'⟩
        · left; omega
        · right; omega
      generalize xz % 16 = oz at *
      generalize xy % 16 = oy at *
      have v5 : IntKind.i64.wrap (j : Int) = (j : Int) := wrap_i64 (by omega) (by omega)
      have hcy' : cells[y.toNat - 1]? = some (.int .u8 xy) := by rw [show y.toNat - 1 = (y - 1).toNat by omega]; exact hcy
      have hcz' : cells[z.toNat - 1]? = some (.int .u8 xz) := by rw [show z.toNat - 1 = (z - 1).toNat by omega]; exact hcz
      have d1 : ¬ oy < oz := by omega
      have d2 := hyr.1
      have d3 := hzr.1
      have c3' : (j : Int) + 1 < (all.length : Int) := by omega
      have w7 : IntKind.i64.wrap ((j : Int) + 1 + 1) = ((j + 1 : Nat) : Int) + 1 := by rw [wrap_i64 (by omega) (by omega)]; omega
      by_cases heq : oz = oy
      · have d4 : ¬ y < z := by omega
        simp [v1, v2, v3, v4, v5, c1, c2, c3, c3', c4, d1, d2, d3, d4, heq, hba2, hlz, hly, hbp, hcz', hcy', ez, ey, w1]
        refine ⟨by omega, fin _ (Sat.bump (Sat.bump (Sat.bump (Sat.bump (Sat.bump hs3 2) 11) 10) 20) 3) _ ?_ ?_ ?_ ?_ ?_⟩
        · rfl
        · rfl
        · rfl
        · rfl
        · exact congrArg (fun x => AV.s (SV.int IntKind.i64 x)) w7
      · simp [v1, v2, v3, v4, v5, c1, c2, c3, c3', c4, d1, d2, d3, heq, hba2, hlz, hly, hbp, hcz', hcy', ez, ey, w1]
        refine fin _ (Sat.bump (Sat.bump (Sat.bump (Sat.bump (Sat.bump hs3 2) 11) 10) 20) 3) _ ?_ ?_ ?_ ?_ ?_
        · rfl
        · rfl
        · rfl
        · rfl
        · exact congrArg (fun x => AV.s (SV.int IntKind.i64 x)) w7
  · have hie : i = xs.length := by omega
    subst hie
    simp [t0, t6, hlen]
    exact ko _ _ _ (hk _ _ Q rfl t3 (by rw [hQ, List.drop_of_length_le (by omega)]) (hs.bump 4))
set_option maxRecDepth 4000 in
theorem ReadyFirst_abs (H : AH) (hw : WF H) (h0 : H.blk 0 = some (.cells true tzCells)) (avs : List AV) (ha : ArgsAt H.blk [.slice (.int .u8)] avs) : CallP tab noExt F.detentlaw9_ReadyFirst avs H fun v _ => v = bl true := by
  obtain ⟨xs, s, _, rfl, hx, ha2⟩ := ha.slice
  obtain rfl := ha2.nil'
  have hlen := At.slLen hx
  apply detentlaw9_ReadyFirst_call
  refine known9_tri.use (R := []) (((tz_start hw h0).bump 1).bump 2) ?_
  rintro v H1 P' ⟨rfl, rfl⟩ hs1
  by_cases g2 : (16 : Int) < xs.length
  · simp [hlen, g2]
  simp [hlen, g2]
  refine NewQ_tri.use (ρ := H.blk) (R := []) (by (repeat refine Sat.bump ?_ _); exact hs1) ?_
  rintro v H2 P' ⟨a, rfl, rfl⟩ hs2
  have hs2 : Sat H.blk H2 [QA a noRows, TzA] := hs2
  refine first_l0 (ρ := H.blk) xs s hx (by omega) a [TzA] _ _ ?_ ?_ ?_ ?_ (hs2.bump 1) _ ?_
  · rfl
  · rfl
  · rfl
  · rfl
  intro T' H' hT' u0 u3 hs3
  simp
  rw [detentlaw9_ReadyFirst_s3_at hT']
  simp only [u3]
  refine (AllQ_tri a _).use (hs3.bump 3) ?_
  rintro v H3 P' ⟨al, rfl, rfl⟩ hs4
  have hs4 : Sat H.blk H3 [QA a (fillR (priF xs 16) xs.length), RdI al (fillR (priF xs 16) xs.length).flatten, TzA] := (Sat.rdRow hs4).swap
  refine first_l1 (ρ := H.blk) xs s hx (by omega) a al _ rfl [TzA] _ _ ?_ ?_ ?_ ?_ ?_ (hs4.bump 1) _ ?_
  · rfl
  · exact u0
  · rfl
  · rfl
  · rfl
  intro T2 H4 Q hT2 w3 hQ hs5
  simp
  refine first_s2 (ρ := H.blk) Q hQ a [RdI al (fillR (priF xs 16) xs.length).flatten, TzA] _ _ hT2 w3 hs5 _ fun T3 H5 e => ?_
  simp
  exact e
end Go.AM
