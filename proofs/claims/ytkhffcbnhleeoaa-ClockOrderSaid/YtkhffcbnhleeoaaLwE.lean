/-
  The laws ClockSets and ClockOrder, in the abstract machine.
-/
import Derived.Test.YtkhffcbnhleeoaaLwC
import Derived.Test.YtkhffcbnhleeoaaPlC
namespace Go.AM
attribute [local simp] AH.ld AH.ldn AH.stn AH.new Nat.add_assoc resA resA1 fillA buildA slSlA boundsA boundA callvP

/- ---- ClockOrder ---- -/

section
variable {ρ : HF}

theorem order_l2 (xs : List Int) (s0' : SV) (hx : RoI ρ .u8 s0' xs) (D : List Int) (s : SV) (hD : ∀ i, i < D.length → 0 ≤ D.getD i 0 ∧ D.getD i 0 < xs.length)
    (hlen60 : D.length ≤ 60)
    (hO : ∀ i, i + 1 < D.length → xs.getD (D.getD i 0).toNat 0 < xs.getD (D.getD (i + 1) 0).toNat 0 ∨ (xs.getD (D.getD i 0).toNat 0 = xs.getD (D.getD (i + 1) 0).toNat 0 ∧ D.getD i 0 < D.getD (i + 1) 0))
    (T : List AV) (H : AH) (hT : T.length = 97) (s0 : sl T 0 = .s s0') (s6 : sl T 6 = .s s) (hs : Sat ρ H [RowA encI 1 s D]) (s9 : sl T 9 = i64 1) :
    loopP tab noExt R.detentlaw8_ClockOrder_l2 T H (blockK 4 (seqK (fun T H => wpC tab noExt R.detentlaw8_ClockOrder_s3 T H (retK [.tmp 2] fun v _ => v = bl true)) (retK [.tmp 2] fun v _ => v = bl true))) := by
  have hlD := hs.row.1
  refine loopP_inv (I := fun m T H => T.length = 97 ∧ sl T 0 = .s s0' ∧ sl T 6 = .s s ∧ ∃ i : Nat, sl T 9 = i64 ((i : Int) + 1) ∧ m = D.length - i ∧ Sat ρ H [RowA encI 1 s D]) ?_ D.length _ _ ⟨hT, s0, s6, 0, s9, rfl, hs⟩
  intro m T H ⟨hT, s0, s6, i, s9, hm, hs⟩
  rw [detentlaw8_ClockOrder_l2_at hT]
  by_cases hi : i + 1 < D.length
  · have hi' : (i : Int) + 1 < (D.length : Int) := by omega
    obtain ⟨b, c, l, rfl, hb, hl1⟩ := hs.rowI (i := i) (by omega)
    obtain ⟨b', c', l', he, hb', hl2⟩ := hs.rowI (i := i + 1) hi
    cases he
    rw [hb] at hb'; cases hb'
    obtain ⟨d1, d2⟩ := hD i (by omega)
    obtain ⟨e1, e2⟩ := hD (i + 1) hi
    obtain ⟨b2, c2, l2, rfl, hb2, hx1, hw1⟩ := hx.get hs.roOf (i := (D.getD i 0).toNat) (by omega)
    obtain ⟨b3, c3, l3, he, hb3, hx2, hw2⟩ := hx.get hs.roOf (i := (D.getD (i + 1) 0).toNat) (by omega)
    cases he
    rw [hb2] at hb3; cases hb3
    have w1 : IntKind.i64.wrap (i : Int) = (i : Int) := wrap_i64 (by omega) (by omega)
    have w2 : IntKind.i64.wrap ((i : Int) + 1 + 1) = (i : Int) + 1 + 1 := by rw [wrap_i64 (by omega) (by omega)]
    have o := hO i hi
    have tn : ((i : Int) + 1).toNat = i + 1 := by omega
    have hi0 : i < D.length := by omega
    have hi0' : (i : Int) < (D.length : Int) := by omega
    have hge : (0 : Int) ≤ (i : Int) + 1 := by omega
    generalize xs.getD (D.getD i 0).toNat 0 = X at *
    generalize xs.getD (D.getD (i + 1) 0).toNat 0 = Y at *
    generalize D.getD i 0 = A at *
    generalize D.getD (i + 1) 0 = B at *
    have n1 : ¬ Y < X := by omega
    have hb0 : Sat ρ (((((H.bump 4).bump 9).bump 8).bump 20).bump 3) [RowA encI 1 (.slice (some (b, 0)) D.length c 1) D] := by
      (repeat refine Sat.bump ?_ _); exact hs
    by_cases hxy : X = Y
    · have n2 : ¬ B ≤ A := by omega
      simp [s0, s6, s9, hi, hi', hi0, hi0', tn, hge, w1, w2, hb, hl1, hl2, d1, d2, e1, e2, hb2, hx1, hx2, n1, hxy, n2]
      exact ⟨D.length - (i + 1), by omega, rfl, rfl, i + 1, rfl, rfl, hb0⟩
    · simp [s0, s6, s9, hi, hi', hi0, hi0', tn, hge, w1, w2, hb, hl1, hl2, d1, d2, e1, e2, hb2, hx1, hx2, n1, hxy]
      exact ⟨D.length - (i + 1), by omega, rfl, rfl, i + 1, rfl, rfl, hb0⟩
  · have hi' : ¬ (i : Int) + 1 < (D.length : Int) := by omega
    simp [s0, s6, s9, hlD, hi']
    rw [detentlaw8_ClockOrder_s3_at rfl]
    simp

/-- How many are over nought. -/
def cntPos (xs : List Int) (i : Nat) : Nat := ((List.range i).filter fun k => decide (0 < xs.getD k 0)).length

theorem cntPos_succ (xs : List Int) (i : Nat) : cntPos xs (i + 1) = cntPos xs i + if 0 < xs.getD i 0 then 1 else 0 := by
  unfold cntPos
  rw [List.range_succ, List.filter_append, List.length_append]
  simp only [List.filter_cons, List.filter_nil]
  split <;> simp_all

theorem cntPos_le (xs : List Int) (i : Nat) : cntPos xs i ≤ i := by
  have := List.length_filter_le (fun k => decide (0 < xs.getD k 0)) (List.range i)
  simpa [cntPos] using this

theorem order_plain (xs : List Int) (hr : ∀ i, i < xs.length → 0 ≤ xs.getD i 0 ∧ xs.getD i 0 ≤ 255) (L : List Ent) (hp : L.Perm (entsOf (fun i => 1000 + xs.getD i 0) xs.length)) (hs : Srt L) (D : List Int) (hD : D = (dueL (toL L 1000) 2000).map Ent.arg) :
    (∀ i, i < D.length → 0 ≤ D.getD i 0 ∧ D.getD i 0 < xs.length) ∧
    (∀ i, i + 1 < D.length → xs.getD (D.getD i 0).toNat 0 < xs.getD (D.getD (i + 1) 0).toNat 0 ∨ (xs.getD (D.getD i 0).toNat 0 = xs.getD (D.getD (i + 1) 0).toNat 0 ∧ D.getD i 0 < D.getD (i + 1) 0)) ∧
    D.length = cntPos xs xs.length := by
  obtain ⟨_, ht⟩ := due_filter hs 1000
  have hsub : (toL L 1000).Sublist L := by rw [ht]; exact List.filter_sublist
  have hsM : Srt (toL L 1000) := hs.sublist hsub
  have hmem : ∀ e ∈ toL L 1000, ∃ i, i < xs.length ∧ e = ⟨1000 + xs.getD i 0, (i : Int) + 1, i⟩ := fun e he => entsOf_mem.1 (hp.mem_iff.1 (hsub.subset he))
  have hdue : dueL (toL L 1000) 2000 = toL L 1000 := by
    rw [(due_filter hsM 2000).1, List.filter_eq_self]
    intro e he
    obtain ⟨i, hi, rfl⟩ := hmem e he
    have := hr i hi
    simp only [decide_eq_true_eq]; omega
  rw [hdue] at hD
  have hlen : (toL L 1000).length = cntPos xs xs.length := by
    rw [ht]
    have := count_filter hp (fun x => decide (1000 < x))
    rw [this]
    unfold cntPos
    congr 1
    apply List.filter_congr
    intro i _
    rw [decide_eq_decide]; omega
  generalize toL L 1000 = M at *
  subst hD
  have hget : ∀ i (h : i < M.length), (M.map Ent.arg).getD i 0 = M[i].arg := fun i h => by
    rw [List.getD_eq_getElem?_getD, List.getElem?_map, List.getElem?_eq_getElem h]; rfl
  refine ⟨fun i hi => ?_, fun i hi => ?_, by simpa using hlen⟩
  · rw [List.length_map] at hi
    rw [hget i hi]
    obtain ⟨k, hk, he⟩ := hmem M[i] (List.getElem_mem hi)
    rw [he]; simp; exact hk
  · rw [List.length_map] at hi
    rw [hget i (by omega), hget (i + 1) hi]
    obtain ⟨k, hk, he⟩ := hmem M[i] (List.getElem_mem (by omega))
    obtain ⟨m, hm, he'⟩ := hmem M[i + 1] (List.getElem_mem hi)
    have h1 := srt_get hsM (Nat.lt_succ_self i) hi
    rw [he, he', ahead_iff] at h1
    rw [he, he']
    simp only [Int.toNat_natCast] at h1 ⊢
    omega

theorem order_s4 (xs : List Int) (s0' : SV) (hx : RoI ρ .u8 s0' xs) (D : List Int) (s : SV) (hD : ∀ i, i < D.length → 0 ≤ D.getD i 0 ∧ D.getD i 0 < xs.length)
    (hlen60 : D.length ≤ 60)
    (hO : ∀ i, i + 1 < D.length → xs.getD (D.getD i 0).toNat 0 < xs.getD (D.getD (i + 1) 0).toNat 0 ∨ (xs.getD (D.getD i 0).toNat 0 = xs.getD (D.getD (i + 1) 0).toNat 0 ∧ D.getD i 0 < D.getD (i + 1) 0))
    (T : List AV) (H : AH) (hT : T.length = 97) (s0 : sl T 0 = .s s0') (s6 : sl T 6 = .s s) (s7 : sl T 7 = i64 D.length) (hs : Sat ρ H [RowA encI 1 s D]) :
    wpC tab noExt R.detentlaw8_ClockOrder_s4 T H (retK [.tmp 2] fun v _ => v = bl true) := by
  rw [detentlaw8_ClockOrder_s4_at hT]
  have hlD := hs.row.1
  simp [s0, s6, s7, hlD]
  exact order_l2 xs s0' hx D s hD hlen60 hO _ _ rfl rfl rfl ((hs.bump _).bump _) rfl

theorem order_s5 (xs : List Int) (s0' : SV) (hx : RoI ρ .u8 s0' xs) (hr : ∀ i, i < xs.length → 0 ≤ xs.getD i 0 ∧ xs.getD i 0 ≤ 255) (hl60 : xs.length ≤ 60) (c : Nat) (L : List Ent) (hp : L.Perm (entsOf (fun i => 1000 + xs.getD i 0) xs.length)) (hsr : Srt L) (last : Int)
    (T : List AV) (H : AH) (hT : T.length = 97) (s0 : sl T 0 = .s s0') (s3 : sl T 3 = ptr c) (hs : Sat ρ H [CkA c L last 1000 0 0]) :
    wpC tab noExt R.detentlaw8_ClockOrder_s5 T H (retK [.tmp 2] fun v _ => v = bl true) := by
  rw [detentlaw8_ClockOrder_s5_at hT]
  simp [s0, s3]
  refine (Tick_tri c L last 1000 0 0).use (hs.bump 2) ?_
  rintro v H1 P' ⟨s1, rfl, rfl⟩ hs1
  rw [show IntKind.u64.wrap (0 + 1000) = 1000 from rfl] at hs1
  refine (Tick_tri c (toL L 1000) last 1000 1000 0).use (hs1.drop.bump 3) ?_
  rintro v H2 P' ⟨s2, rfl, rfl⟩ hs2
  rw [show IntKind.u64.wrap (1000 + 1000) = 2000 from rfl] at hs2
  obtain ⟨o1, o2, o3⟩ := order_plain xs hr L hp hsr _ rfl
  have hs2 : Sat ρ H2 [RowA encI 1 s2 ((dueL (toL L 1000) 2000).map Ent.arg)] := hs2.perm (l' := [CkA c _ last 1000 2000 0, RowA encI 1 s2 _]) (List.Perm.swap _ _ _) |>.drop
  generalize (dueL (toL L 1000) 2000).map Ent.arg = D at *
  have hD60 : D.length ≤ 60 := by rw [o3]; exact Nat.le_trans (cntPos_le _ _) hl60
  have hlen := hx.len
  refine loopP_inv (I := fun m T H => T.length = 97 ∧ sl T 0 = .s s0' ∧ sl T 6 = .s s2 ∧ ∃ i : Nat, sl T 7 = i64 (cntPos xs i) ∧ sl T 8 = i64 i ∧ i ≤ xs.length ∧ m = xs.length - i ∧ Sat ρ H [RowA encI 1 s2 D]) ?_ xs.length _ _ ⟨rfl, rfl, rfl, 0, rfl, rfl, Nat.zero_le _, rfl, (hs2.bump _).bump _⟩
  intro m T H ⟨hT, s0, s6, i, s7, s8, hi, hm, hs⟩
  rw [detentlaw8_ClockOrder_l1_at hT]
  by_cases hlt : i < xs.length
  · have hlt' : (i : Int) < (xs.length : Int) := by omega
    obtain ⟨b, cp, l, rfl, hb, hl1, hw⟩ := hx.get hs.roOf hlt
    have hcs := cntPos_succ xs i
    have hcl := cntPos_le xs i
    have w1 : IntKind.i64.wrap ((i : Int) + 1) = (i : Int) + 1 := wrap_i64 (by omega) (by omega)
    have w2 : IntKind.i64.wrap ((cntPos xs i : Int) + 1) = (cntPos xs i : Int) + 1 := wrap_i64 (by omega) (by omega)
    by_cases hp0 : 0 < xs.getD i 0
    · rw [if_pos hp0] at hcs
      generalize xs.getD i 0 = X at *
      simp [s0, s6, s7, s8, hlt, hlt', hb, hl1, w1, w2, hp0]
      exact ⟨xs.length - (i + 1), by omega, rfl, rfl, i + 1, by rw [hcs]; rfl, rfl, hlt, rfl, by (repeat refine Sat.bump ?_ _); exact hs⟩
    · rw [if_neg hp0] at hcs
      generalize xs.getD i 0 = X at *
      simp [s0, s6, s7, s8, hlt, hlt', hb, hl1, w1, hp0]
      exact ⟨xs.length - (i + 1), by omega, rfl, rfl, i + 1, by rw [hcs]; rfl, rfl, hlt, rfl, by (repeat refine Sat.bump ?_ _); exact hs⟩
  · have hie : i = xs.length := by omega
    subst hie
    simp [s0, s6, s7, s8, hlen]
    exact order_s4 xs s0' hx D s2 o1 hD60 o2 _ _ rfl rfl rfl (by rw [o3]; rfl) (hs.bump _)
end

theorem ClockOrder_abs (H : AH) (hw : WF H) (hn : H.next = 2) (avs : List AV) (ha : ArgsAt H.blk [.slice (.int .u8)] avs) :
    CallP tab noExt F.detentlaw8_ClockOrder avs H fun v _ => v = bl true := by
  obtain ⟨xs, s, _, rfl, hx, ha4⟩ := ha.ints
  obtain rfl := ha4.nil_inv
  have hlen := RoI.len hx
  have hr : ∀ i, i < xs.length → 0 ≤ xs.getD i 0 ∧ xs.getD i 0 ≤ 255 := fun i hi => by
    obtain ⟨_, _, _, _, _, _, h⟩ := hx.get (H := H) (fun _ _ h => h) hi
    have := Go.bounds_u8 h
    exact this
  apply detentlaw8_ClockOrder_call
  refine (known8_at2 ((hw.bump _).bump _) (by simp [hn])).start (ρ := H.blk) ((hw.bump _).bump _) (fun _ _ h => h) ?_
  rintro v H1 hs rfl
  by_cases g7 : (60 : Int) < xs.length
  · simp [g7, hlen]
  simp [g7, hlen]
  refine (NewClock_tri 1000 (by omega) (by omega)).use ((hs.bump _).bump _) ?_
  rintro v H2 P' ⟨c, rfl, rfl⟩ hs
  simp
  refine loopP_inv (I := fun m T H' => T.length = 97 ∧ sl T 0 = .s s ∧ sl T 3 = ptr c ∧ ∃ i : Nat, sl T 5 = i64 i ∧ i ≤ xs.length ∧ m = xs.length - i ∧ ∃ L, L.Perm (entsOf (fun i => 1000 + xs.getD i 0) i) ∧ Good L i ∧ Sat H.blk H' [CkA c L i 1000 0 0]) ?_ xs.length _ _ ⟨rfl, rfl, rfl, 0, rfl, Nat.zero_le _, rfl, [], List.Perm.refl _, Good.nil, hs.bump 1⟩
  intro m T H' ⟨hT, s0, s3, i, s5, hi, hm, L, hp, hg, hs⟩
  rw [detentlaw8_ClockOrder_l0_at hT]
  by_cases hlt : i < xs.length
  · have hlt' : (i : Int) < (xs.length : Int) := by omega
    obtain ⟨b, cp, l, rfl, hb, hl1, hwf⟩ := hx.get hs.roOf hlt
    obtain ⟨r1, r2⟩ := hr i hlt
    have w1 : IntKind.i64.wrap ((i : Int) + 1) = (i : Int) + 1 := wrap_i64 (by omega) (by omega)
    have hins := ins_perm (f := fun i => 1000 + xs.getD i 0) hp
    have hll : L.length < 256 := by rw [hp.length_eq, entsOf_len]; omega
    generalize xs.getD i 0 = X at *
    have w2 : IntKind.i64.wrap X = X := wrap_i64 (by omega) (by omega)
    simp [s0, s3, s5, hlt, hlt', hb, hl1, w1, w2]
    refine (After_tri c L i 1000 0 0 X i r1 (by omega) hll (by omega)).use ((hs.bump _).bump _) ?_
    rintro v H3 P' ⟨rfl, rfl⟩ hs
    have e1 : IntKind.u64.wrap (IntKind.u64.wrap (0 + X) + 1000) = 1000 + X := by rw [wrap_u64 (x := 0 + X) (by omega) (by omega), wrap_u64 (by omega) (by omega)]; omega
    rw [e1] at hs
    exact ⟨xs.length - (i + 1), by omega, rfl, rfl, i + 1, rfl, hlt, rfl, _, hins, hg.ins _ _ hll, hs.bump 3⟩
  · have hie : i = xs.length := by omega
    subst hie
    simp [s0, s3, s5, hlen]
    exact order_s5 xs s hx hr (by omega) c L hp hg.srt _ _ _ rfl rfl rfl (hs.bump _)

end Go.AM
