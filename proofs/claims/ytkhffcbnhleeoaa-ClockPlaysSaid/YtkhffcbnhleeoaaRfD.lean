/-
  The document's clock; clocks told apart; what is refused.
-/
import Derived.Test.YtkhffcbnhleeoaaRfC
import Derived.Test.YtkhffcbnhleeoaaLwF
namespace Go.AM
attribute [local simp] AH.ld AH.ldn AH.stn AH.new Nat.add_assoc resA resA1 fillA buildA slSlA boundsA boundA callvP

/-- The document's clock. -/
def RkA (m : Nat) (L : List Ent) (last tic up base : Int) : Asr := .ex fun t => .all [Cel m [.ptr (some (t, 0)), .int .i64 tic, .int .u64 up, .int .u64 base], RfT t L last]

section
variable {ρ : HF} {H : AH} {Rs : List Asr} {m : Nat} {L : List Ent} {last tic up base : Int}
theorem Sat.rkOpen (h : Sat ρ H (RkA m L last tic up base :: Rs)) : ∃ t, Sat ρ H (Cel m [.ptr (some (t, 0)), .int .i64 tic, .int .u64 up, .int .u64 base] :: RfT t L last :: Rs) := by
  obtain ⟨t, h⟩ := h.ex
  exact ⟨t, h.all⟩
theorem Sat.rkClose {t : Nat} (h : Sat ρ H (Cel m [.ptr (some (t, 0)), .int .i64 tic, .int .u64 up, .int .u64 base] :: RfT t L last :: Rs)) : Sat ρ H (RkA m L last tic up base :: Rs) :=
  Sat.mkEx t (Sat.mkAll h)
end

theorem NewClock_no (tic : Int) (h : tic < 1 ∨ 1000 < tic) : Tri tab noExt F.clock_NewClock [i64 tic] [] fun v P' => v = .tup [.s (.ptr none), .s (.int .i64 (-17))] ∧ P' = [] := by
  intro ρ H Rs hs
  apply clock_NewClock_call
  by_cases g1 : tic < 1
  · simp [g1]
    exact (by (repeat refine Sat.bump ?_ _); exact hs)
  · have g2 : 1000 < tic := by omega
    simp [g1, g2]
    exact (by (repeat refine Sat.bump ?_ _); exact hs)

theorem RkNew_no (tic : Int) (h : tic < 1 ∨ 1000 < tic) : Tri tab noExt F.detentref8_New [i64 tic] [] fun v P' => v = .tup [.s (.ptr none), .s (.int .i64 (-17))] ∧ P' = [] := by
  intro ρ H Rs hs
  apply detentref8_New_call
  by_cases g1 : tic < 1
  · simp [g1]
    exact (by (repeat refine Sat.bump ?_ _); exact hs)
  · have g2 : 1000 < tic := by omega
    simp [g1, g2]
    exact (by (repeat refine Sat.bump ?_ _); exact hs)

theorem RkNew_tri (tic : Int) (h1 : 1 ≤ tic) (h2 : tic ≤ 1000) : Tri tab noExt F.detentref8_New [i64 tic] [] fun v P' => ∃ m, v = .tup [.s (.ptr (some (m, 0))), .s (.int .i64 0)] ∧ P' = [RkA m [] 0 tic 0 0] := by
  intro ρ H Rs hs
  apply detentref8_New_call
  have g1 : ¬ tic < 1 := by omega
  have g2 : ¬ 1000 < tic := by omega
  simp [g1, g2, -AH.new]
  have hs1 := ((Sat.bump (l := Rs) hs 2).bump 6).frees 7 [1, 4] (by decide) (by decide)
  simp only [List.map_cons, List.map_nil, List.cons_append, List.nil_append, bump_next, Nat.add_assoc, Nat.reduceAdd] at hs1
  refine ⟨_, new_of _ hs1.fre, ?_⟩
  have hs2 := (Sat.mk hs1 [.slice none 0 0 1, .int .i64 0]).swap
  refine ⟨_, new_of _ hs2.fre, ?_⟩
  have hs3 := Sat.mk hs2 [.ptr (some (H.next + 9, 0)), .int .i64 tic, .int .u64 0, .int .u64 0]
  simp
  refine Sat.rkClose (t := H.next + 9) ?_
  have hs4 : Sat ρ _ (RfT (H.next + 9) [] 0 :: Cel (H.next + 12) _ :: Rs) := Sat.rtClose (r := []) (Sat.rfClose (r := []) (s := .slice none 0 0 1) (Sat.mkNil hs3.swap 1).swap) ⟨List.Perm.refl _, List.Pairwise.nil, Good.nil⟩
  exact hs4.swap

theorem tmod48 {x : Int} (h : 0 ≤ x) : x.tmod 281474976710656 = x % 281474976710656 := Int.tmod_eq_emod_of_nonneg h

theorem wrapU (y : Int) : IntKind.u64.wrap y = y % 18446744073709551616 := by simp [IntKind.wrap, IntKind.bits, IntKind.signed]

section
variable (m : Nat) (L : List Ent) (last tic up base : Int)

theorem RefAdd_tri (a b : Int) (ha : 0 ≤ a) (hb : 0 ≤ b) : Tri tab noExt F.detentref1_Add [u64 a, u64 b] [] fun v P' => v = u64 ((a + b) % 281474976710656) ∧ P' = [] := by
  refine Tri.intro fun ρ H Rs K hs hk => ?_
  apply detentref1_Add_call
  have w : IntKind.u64.wrap (a % 281474976710656 + b % 281474976710656) = a % 281474976710656 + b % 281474976710656 := by rw [wrapU]; omega
  have e : (a % 281474976710656 + b % 281474976710656).tmod 281474976710656 = (a + b) % 281474976710656 := by rw [tmod48 (by omega)]; omega
  simp [tmod48 ha, tmod48 hb, w, e]
  exact hk _ _ _ ⟨rfl, rfl⟩ (by (repeat refine Sat.bump ?_ _); exact hs)

theorem RefRel_tri (d : Int) (h1 : -9223372036854775808 ≤ d) (h2 : d < 9223372036854775808) :
    Tri tab noExt F.detentref1_Rel [i64 d] [] fun v P' => v = (if d < 0 ∨ 2147483647 < d then .tup [.s (.int .u64 0), .s (.int .i64 (-17))] else .tup [.s (.int .u64 d), .s (.int .i64 0)]) ∧ P' = [] := by
  intro ρ H Rs hs
  apply detentref1_Rel_call
  by_cases h : d < 0
  · simp [h]
    exact (by (repeat refine Sat.bump ?_ _); exact hs)
  · by_cases h' : 2147483647 < d
    · simp [h, h']
      exact (by (repeat refine Sat.bump ?_ _); exact hs)
    · have hw : IntKind.u64.wrap d = d := wrap_u64 (by omega) (by omega)
      simp [h, h', hw]
      exact (by (repeat refine Sat.bump ?_ _); exact hs)

theorem RkNow_tri (hb : 0 ≤ base ∧ base < 281474976710656) (hu : 0 ≤ up ∧ up ≤ 1000000) : Tri tab noExt F.detentref8_Clock_Now [ptr m] [RkA m L last tic up base] fun v P' => v = u64 ((IntKind.u64.wrap (base + up)).tmod 281474976710656) ∧ P' = [RkA m L last tic up base] := by
  refine Tri.intro fun ρ H Rs K hs hk => ?_
  obtain ⟨t, hs⟩ := Sat.rkOpen hs
  have hc := hs.cel
  apply detentref8_Clock_Now_call
  simp [hc]
  refine (RefAdd_tri base up hb.1 hu.1).use (R := _ :: _ :: Rs) ((hs.bump 1).bump 10) ?_
  rintro v H1 P' ⟨rfl, rfl⟩ hs1
  refine hk _ _ _ ⟨?_, rfl⟩ (Sat.rkClose hs1)
  rw [wrapU, tmod48 (by omega)]
  congr 2; omega

theorem RkSet_tri (hu : 0 ≤ up ∧ up ≤ 1000000) (x : Int) (hx : 0 ≤ x ∧ x < 18446744073709551616) : Tri tab noExt F.detentref8_Clock_Set [ptr m, u64 x] [RkA m L last tic up base] fun v P' => v = unit ∧ P' = [RkA m L last tic up ((IntKind.u64.wrap (x + IntKind.u64.wrap (0 - up))).tmod 281474976710656)] := by
  refine Tri.intro fun ρ H Rs K hs hk => ?_
  obtain ⟨t, hs⟩ := Sat.rkOpen hs
  have hc := hs.cel
  apply detentref8_Clock_Set_call
  have w : IntKind.u64.wrap (281474976710656 - up.tmod 281474976710656) = 281474976710656 - up := by rw [tmod48 hu.1, wrapU]; omega
  simp [hc, w]
  refine (RefAdd_tri x (281474976710656 - up) hx.1 (by omega)).use (R := _ :: _ :: Rs) (hs.bump 12) ?_
  rintro v H1 P' ⟨rfl, rfl⟩ hs1
  have e : (x + (281474976710656 - up)) % 281474976710656 = (IntKind.u64.wrap (x + IntKind.u64.wrap (0 - up))).tmod 281474976710656 := by
    rw [wrapU, wrapU, tmod48 (by omega)]
    omega
  rw [e]
  generalize (IntKind.u64.wrap (x + IntKind.u64.wrap (0 - up))).tmod 281474976710656 = nb at *
  have hc1 := hs1.cel
  simp [hc1]
  exact hk _ _ _ ⟨rfl, rfl⟩ (Sat.rkClose (Sat.set hs1 _))

theorem RkTick_tri (ht : 1 ≤ tic ∧ tic ≤ 1000) (hu : 0 ≤ up ∧ up ≤ 1000000) : Tri tab noExt F.detentref8_Clock_Tick [ptr m] [RkA m L last tic up base] fun v P' => ∃ s, v = .s s ∧ P' = [Row encI 1 s ((dueL L (IntKind.u64.wrap (up + tic))).map Ent.arg), RkA m (toL L (IntKind.u64.wrap (up + tic))) last tic (IntKind.u64.wrap (up + tic)) base] := by
  refine Tri.intro fun ρ H Rs K hs hk => ?_
  obtain ⟨t, hs⟩ := Sat.rkOpen hs
  have hc := hs.cel
  apply detentref8_Clock_Tick_call
  have w : IntKind.u64.wrap tic = tic := wrap_u64 (by omega) (by omega)
  simp [hc, w]
  have hs1 := Sat.set ((hs.bump 1).bump 14) [.ptr (some (t, 0)), .int .i64 tic, .int .u64 (IntKind.u64.wrap (up + tic)), .int .u64 base]
  refine (RtDue_tri t L last (IntKind.u64.wrap (up + tic))).use (hs1.swap.bump 10) ?_
  rintro v H1 P' ⟨s, rfl, rfl⟩ hs2
  refine hk _ _ _ ⟨s, rfl, rfl⟩ ?_
  have hs3 : Sat ρ H1 (Cel m _ :: Row encI 1 s _ :: RfT t _ last :: Rs) := hs2.front 2 (by simp)
  have hs4 : Sat ρ H1 (RfT t _ last :: Cel m _ :: Row encI 1 s _ :: Rs) := hs3.front 2 (by simp)
  exact (Sat.rkClose hs4.swap).swap

theorem RkAfter_tri (ht : 1 ≤ tic ∧ tic ≤ 1000) (d x : Int) (hd : 0 ≤ d) (hd2 : d ≤ 2147483647) (hl : L.length < 256) (hlast : last < 4611686018427387904) :
    Tri tab noExt F.detentref8_Clock_After [ptr m, i64 d, i64 x] [RkA m L last tic up base] fun v P' => v = .tup [.s (.int .i64 (last + 1)), .s (.int .i64 0)] ∧ P' = [RkA m (insE ⟨IntKind.u64.wrap (IntKind.u64.wrap (up + d) + tic), last + 1, x⟩ L) (last + 1) tic up base] := by
  intro ρ H Rs hs
  obtain ⟨t, hs⟩ := Sat.rkOpen hs
  apply detentref8_Clock_After_call
  refine (RefRel_tri d (by omega) (by omega)).use (R := _ :: _ :: Rs) ((hs.bump 2).bump 7) ?_
  rintro v H1 P' ⟨rfl, rfl⟩ hs1
  rw [if_neg (by omega)]
  have hc := hs1.cel
  have w : IntKind.u64.wrap tic = tic := wrap_u64 (by omega) (by omega)
  simp [hc, w]
  refine (RtInsert_tri t L last _ x hl hlast).use (hs1.swap.bump 2 |>.bump 22) ?_
  rintro v H2 P' ⟨rfl, rfl⟩ hs2
  simp
  exact Sat.rkClose hs2.swap

theorem RkAfter_no (d x : Int) (hd : d < 0 ∨ 2147483647 < d) (h1 : -9223372036854775808 ≤ d) (h2 : d < 9223372036854775808) :
    Tri tab noExt F.detentref8_Clock_After [ptr m, i64 d, i64 x] [RkA m L last tic up base] fun v P' => v = .tup [.s (.int .i64 0), .s (.int .i64 (-17))] ∧ P' = [RkA m L last tic up base] := by
  intro ρ H Rs hs
  apply detentref8_Clock_After_call
  refine (RefRel_tri d h1 h2).use (R := _ :: Rs) ((hs.bump 2).bump 7) ?_
  rintro v H1 P' ⟨rfl, rfl⟩ hs1
  rw [if_pos hd]
  simp
  exact (hs1.bump 2).bump 3

theorem After_no (d x : Int) (hd : d < 0 ∨ 2147483647 < d) (h1 : -9223372036854775808 ≤ d) (h2 : d < 9223372036854775808) :
    Tri tab noExt F.clock_Clock_After [ptr m, i64 d, i64 x] [CkA m L last tic up base] fun v P' => v = .tup [.s (.int .i64 0), .s (.int .i64 (-17))] ∧ P' = [CkA m L last tic up base] := by
  intro ρ H Rs hs
  apply clock_Clock_After_call
  have hrel : Tri tab noExt F.nums_Rel [i64 d] [] fun v P' => v = .tup [.s (.int .u64 0), .s (.int .i64 (-17))] ∧ P' = [] :=
    Tri.of tab_wf noExt_wf noExt_next noExt_ro fun H S hw hs hb => (nums_Rel_spec d H h1 h2).mono fun v H' ⟨k1, k2⟩ => ⟨[], ⟨by rw [k1, if_pos hd], rfl⟩, [], .nil, by simp, by simp, fun b hb _ => k2.2 b hb⟩
  refine hrel.use (R := _ :: Rs) ((hs.bump 2).bump 7) ?_
  rintro v H1 P' ⟨rfl, rfl⟩ hs1
  simp
  exact (by (repeat refine Sat.bump ?_ _); exact hs1)

theorem Apart_tri : Tri tab noExt F.clock_Clock_Apart [ptr m] [CkA m L last tic up base] fun v P' => ∃ c, v = ptr c ∧ P' = [CkA c L last tic up base, CkA m L last tic up base] := by
  intro ρ H Rs hs
  apply clock_Clock_Apart_call
  obtain ⟨t, hs⟩ := Sat.ckOpen hs
  have hb := hs.cel
  simp [hb, -AH.new]
  have hs1 := (hs.bump 1).free 20 18 (by decide)
  rw [bump_next] at hs1
  refine (Twin_tri t L last).use (hs1.front 2 (by simp)) ?_
  rintro v H1 P' ⟨t', rfl, rfl⟩ hs2
  have hs3 : Sat ρ H1 (Cel m [.ptr (some (t, 0)), .int .u64 tic, .int .u64 up, .int .u64 base] :: TmA t' L last :: TmA t L last :: Fre (H.next + 1 + 18) :: Rs) := hs2.front 3 (by simp)
  have hb3 := hs3.cel
  simp [hb3, -AH.new]
  have hs4 : Sat ρ H1 (Fre (H.next + 1 + 18) :: Cel m _ :: TmA t' L last :: TmA t L last :: Rs) := hs3.front 3 (by simp)
  rw [show H.next + 19 = H.next + 1 + 18 by omega]
  refine ⟨_, new_of _ hs4.fre, ?_⟩
  have hs5 := Sat.mk hs4 [.ptr (some (t', 0)), .int .u64 tic, .int .u64 up, .int .u64 base]
  show Sat ρ _ _
  have hs6 : Sat ρ _ (TmA t' L last :: Cel (H.next + 1 + 18) _ :: Cel m _ :: TmA t L last :: Rs) := hs5.front 2 (by simp)
  have hs7 : Sat ρ _ (CkA (H.next + 1 + 18) L last tic up base :: Cel m _ :: TmA t L last :: Rs) := Sat.ckClose hs6.swap
  have hs8 : Sat ρ _ (TmA t L last :: CkA (H.next + 1 + 18) L last tic up base :: Cel m _ :: Rs) := hs7.front 2 (by simp)
  exact (Sat.ckClose (hs8.front 2 (by simp))).swap
end

end Go.AM
