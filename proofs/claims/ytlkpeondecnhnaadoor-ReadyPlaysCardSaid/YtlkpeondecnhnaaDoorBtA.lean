/-
  bits: what the methods of a map of bits give.
-/
import Derived.Test.YtlkpeondecnhnaaDoorWp
import Derived.Test.YtlkpeondecnhnaaDoorBtP
import Derived.Test.YtlkpeondecnhnaaDoorAmV
namespace Go.AM
attribute [local simp] AH.ld AH.ldn AH.stn AH.new Nat.add_assoc resA resA1 fillA buildA slSlA boundsA boundA callvP

/-- A number as a row's element. -/
def encI (x : Int) : List SV := [.int .i64 x]
theorem encI_len (x : Int) : (encI x).length = 1 := rfl

theorem get_ex {α : Type} {r : List α} {i : Nat} (h : i < r.length) : ∃ e, r[i]? = some e := ⟨_, List.getElem?_eq_getElem h⟩
theorem andThen_of' {α : Type} {o : Option α} {a : α} {K : α → Prop} (h : o = some a) (hk : K a) : andThen o K := ⟨a, h, hk⟩

/-- Numbers behind a slice that are only read here. -/
def RdI (s : SV) (xs : List Int) : Asr := ⟨fun ρ f S => (S = [] ∧ At ρ (.slice (.int .i64)) xs [s]) ∨ (Row encI 1 s xs).p ρ f S, fun hg h => h.elim .inl fun h => .inr ((Row encI 1 s xs).loc hg h)⟩

section
variable {ρ : HF} {H : AH} {Rs : List Asr} {s : SV} {xs : List Int}

theorem Sat.rdRow (h : Sat ρ H (Row encI 1 s xs :: Rs)) : Sat ρ H (RdI s xs :: Rs) := Sat.imp (A := Row encI 1 s xs) (B := RdI s xs) (fun _ _ h => .inr h) h

theorem Sat.rdRo (h : Sat ρ H Rs) (hx : At ρ (.slice (.int .i64)) xs [s]) : Sat ρ H (RdI s xs :: Rs) := by
  obtain ⟨hw, S, h1, h2⟩ := h
  exact ⟨hw, [] ++ S, .cons (A := RdI s xs) (.inl ⟨rfl, hx⟩) h1 (by simp), h2⟩

theorem flat1 {f : HF} {k : IntKind} : ∀ {xs : List Int} {ls : List (List SV)}, R2 (At f (.int k)) xs ls → ls.flatten = xs.map fun n => SV.int k n
  | [], [], _ => rfl
  | _ :: _, _ :: _, h => by
    have h1 := h.1.1
    subst h1
    simp [flat1 h.2]

theorem Sat.rdLen (h : Sat ρ H (RdI s xs :: Rs)) : lenA (.s s) = some (i64 xs.length) := by
  obtain ⟨hw, S, h1, h2⟩ := h
  obtain ⟨S1, S2, rfl, k1, k2, k3⟩ := h1.cons_inv
  rcases k1 with ⟨_, h⟩ | h
  · exact At.slLen h
  · rcases h with ⟨e, rfl, rfl, _⟩ | ⟨b, c, j, rfl, _⟩ <;> rfl

theorem Sat.rdGet (h : Sat ρ H (RdI s xs :: Rs)) {i : Nat} {x : Int} (hx : xs[i]? = some x) : ∃ b c ro l, s = .slice (some (b, 0)) xs.length c 1 ∧ H.blk b = some (.cells ro l) ∧ l[i]? = some (.int .i64 x) ∧ b < H.next := by
  obtain ⟨hw, S, h1, h2⟩ := h
  obtain ⟨S1, S2, rfl, k1, k2, k3⟩ := h1.cons_inv
  obtain ⟨hi, rfl⟩ := List.getElem?_eq_some_iff.1 hx
  rcases k1 with ⟨_, h⟩ | h
  · obtain ⟨s', e1, e2⟩ := h
    cases e1
    rcases e2 with ⟨o, rfl, rfl⟩ | ⟨b, c, j, ls, rfl, hb, h3, h4, h5⟩
    · simp at hi
    · have hbk := hw.2 b _ hb
      refine ⟨b, c, true, _, rfl, hbk, ?_, ?_⟩
      · rw [flat1 h5, List.getElem?_append_left (by simpa using hi)]
        simp [hi]
      · apply Classical.byContradiction
        intro hn
        rw [hw.1 b (by omega)] at hbk; cases hbk
  · rcases h with ⟨e, rfl, rfl, _⟩ | ⟨b, c, j, rfl, rfl, h3, h4, h5⟩
    · simp at hi
    · refine ⟨b, c, false, _, rfl, h3, ?_, h2 b (by simp)⟩
      have := flat_cell encI_len (j := j) hx 0 (by omega)
      simpa [encI] using this
end

/- ---- maps ---- -/

def wordsC (ws : List Nat) : List SV := ws.map fun (w : Nat) => SV.int .u64 (w : Int)

def IsMap (ws : List Nat) (on : Nat → Bool) : Prop := ws.length = 4 ∧ (∀ (i w : Nat), ws[i]? = some w → w < 18446744073709551616) ∧ ∀ p, 1 ≤ p → p ≤ 256 → (ws.getD ((p - 1) / 64) 0).testBit ((p - 1) % 64) = on p

def tzCells : List SV := tzTab.map fun n => SV.int .u8 n

/-- A map of bits, in a block's first cells. -/
def MpA (b : Nat) (on : Nat → Bool) (post : List SV) : Asr := ⟨fun ρ f S => S = [b] ∧ ρ 0 = some (.cells true tzCells) ∧ ∃ ws, IsMap ws on ∧ f b = some (.cells false (wordsC ws ++ post)), fun hg ⟨h1, h2, ws, h3, h4⟩ => ⟨h1, h2, ws, h3, by rw [hg b (by simp [h1])]; exact h4⟩⟩

theorem IsMap.zero : IsMap [0, 0, 0, 0] fun _ => false := by
  refine ⟨rfl, fun i w h => ?_, fun p h1 h2 => ?_⟩
  · rcases i with _ | _ | _ | _ | i <;> simp at h <;> omega
  · have : ([0, 0, 0, 0] : List Nat).getD ((p - 1) / 64) 0 = 0 := by
      rcases h : (p - 1) / 64 with _ | _ | _ | _ | n <;> simp
    rw [this]; exact Nat.zero_testBit _

section
variable {ρ : HF} {H : AH} {Rs : List Asr} {b : Nat} {on : Nat → Bool} {post : List SV}

theorem Sat.mpOpen (h : Sat ρ H (MpA b on post :: Rs)) : ρ 0 = some (.cells true tzCells) ∧ ∃ ws, IsMap ws on ∧ Sat ρ H (Cel b (wordsC ws ++ post) :: Rs) := by
  obtain ⟨hw, S, h1, h2⟩ := h
  obtain ⟨S1, S2, rfl, ⟨k1, k0, ws, k2, k3⟩, k4, k5⟩ := h1.cons_inv
  exact ⟨k0, ws, k2, hw, _, .cons (A := Cel b _) ⟨k1, k3⟩ k4 k5, h2⟩

theorem Sat.mpClose {ws : List Nat} (h : Sat ρ H (Cel b (wordsC ws ++ post) :: Rs)) (h0 : ρ 0 = some (.cells true tzCells)) (hm : IsMap ws on) : Sat ρ H (MpA b on post :: Rs) :=
  Sat.imp (A := Cel b (wordsC ws ++ post)) (B := MpA b on post) (fun _ _ ⟨h1, h2⟩ => ⟨h1, h0, ws, hm, h2⟩) h

theorem Sat.mpExt {on' : Nat → Bool} (h : Sat ρ H (MpA b on post :: Rs)) (he : ∀ p, 1 ≤ p → p ≤ 256 → on p = on' p) : Sat ρ H (MpA b on' post :: Rs) := by
  obtain ⟨h0, ws, ⟨m1, m2, m3⟩, hs⟩ := Sat.mpOpen h
  exact Sat.mpClose hs h0 ⟨m1, m2, fun p h1 h2 => (m3 p h1 h2).trans (he p h1 h2)⟩
end

theorem place_tri (p : Int) : Tri tab noExt F.bits_place [i64 p] [] fun v P' => v = (if 1 ≤ p ∧ p ≤ 256 then .tup [.s (.int .i64 (((p.toNat - 1) / 64 : Nat) : Int)), .s (.int .u64 ((2 ^ ((p.toNat - 1) % 64) : Nat) : Int)), .s (.bool true)] else .tup [.s (.int .i64 0), .s (.int .u64 0), .s (.bool false)]) ∧ P' = [] := by
  refine Tri.intro fun ρ H Rs K hs hk => ?_
  apply bits_place_call
  by_cases h1 : p < 1
  · have : ¬ (1 ≤ p ∧ p ≤ 256) := by omega
    simp [h1]
    exact hk _ _ _ ⟨by rw [if_neg this], rfl⟩ (by (repeat refine Sat.bump ?_ _); exact hs)
  · by_cases h2 : 256 < p
    · have : ¬ (1 ≤ p ∧ p ≤ 256) := by omega
      simp [h1, h2]
      exact hk _ _ _ ⟨by rw [if_neg this], rfl⟩ (by (repeat refine Sat.bump ?_ _); exact hs)
    · have h3 : 1 ≤ p ∧ p ≤ 256 := by omega
      obtain ⟨n, rfl⟩ : ∃ n : Nat, p = ((n + 1 : Nat) : Int) := ⟨p.toNat - 1, by omega⟩
      simp only [if_pos h3, Int.toNat_natCast, Nat.add_sub_cancel] at hk
      obtain ⟨a, ha⟩ : ∃ a, a = n / 64 := ⟨_, rfl⟩
      obtain ⟨c, hc⟩ : ∃ c, c = n % 64 := ⟨_, rfl⟩
      rw [← ha, ← hc] at hk
      have w1 : IntKind.i64.wrap (((n + 1 : Nat) : Int) - 1) = (n : Int) := by rw [wrap_i64 (by omega) (by omega)]; omega
      have e1 : (n : Int).tdiv 64 = (a : Int) := by rw [Int.tdiv_eq_ediv_of_nonneg (by omega)]; omega
      have e2 : (n : Int).tmod 64 = (c : Int) := by rw [Int.tmod_eq_emod_of_nonneg (by omega)]; omega
      have w2 : IntKind.i64.wrap (a : Int) = (a : Int) := wrap_i64 (by omega) (by omega)
      have e3 := binA_shl1 (k := c) (by omega)
      have g1 : ¬ (((n + 1 : Nat) : Int) < 1) := by omega
      have g2 : ¬ (256 < ((n + 1 : Nat) : Int)) := by omega
      generalize ((n + 1 : Nat) : Int) = p at *
      generalize 2 ^ c = pw at *
      simp [g1, g2, w1, e1, e2, w2, e3]
      exact hk _ _ _ ⟨rfl, rfl⟩ (by (repeat refine Sat.bump ?_ _); exact hs)

theorem words_get {ws : List Nat} {post : List SV} {k w : Nat} (h : ws[k]? = some w) : (wordsC ws ++ post)[k]? = some (.int .u64 (w : Int)) := by
  have hk := (List.getElem?_eq_some_iff.1 h).1
  rw [List.getElem?_append_left (by simpa [wordsC] using hk)]
  simp [wordsC, h]

theorem words_set {ws : List Nat} {post : List SV} {k w : Nat} (h : k < ws.length) : splice (wordsC ws ++ post) k [.int .u64 (w : Int)] = wordsC (ws.set k w) ++ post := by
  unfold splice wordsC
  rw [List.map_set, List.set_eq_take_append_cons_drop, if_pos (by simpa using h)]
  generalize hm : (ws.map fun (w : Nat) => SV.int .u64 (w : Int)) = m
  have h1 : m.length = ws.length := by rw [← hm]; simp
  rw [List.take_append_of_le_length (by omega), List.drop_append_of_le_length (by rw [List.length_singleton]; omega), List.length_singleton, List.append_assoc]
  rfl

def onSet (on : Nat → Bool) (xs : List Int) : Nat → Bool := fun p => on p || xs.contains (p : Int)
def onClear (on : Nat → Bool) (xs : List Int) : Nat → Bool := fun p => on p && !xs.contains (p : Int)

theorem onSet_nil (on : Nat → Bool) : onSet on [] = on := by funext p; simp [onSet]
theorem onClear_nil (on : Nat → Bool) : onClear on [] = on := by funext p; simp [onClear]

theorem IsMap.get {ws : List Nat} {on : Nat → Bool} (h : IsMap ws on) {k : Nat} (hk : k < 4) : ∃ w, ws[k]? = some w ∧ w < 18446744073709551616 ∧ ∀ j, j < 64 → w.testBit j = on (64 * k + j + 1) := by
  obtain ⟨h1, h2, h3⟩ := h
  obtain ⟨w, hw⟩ := get_ex (r := ws) (i := k) (by omega)
  refine ⟨w, hw, h2 k w hw, fun j hj => ?_⟩
  have := h3 (64 * k + j + 1) (by omega) (by omega)
  rw [show (64 * k + j + 1 - 1) / 64 = k by omega, show (64 * k + j + 1 - 1) % 64 = j by omega, List.getD_eq_getElem?_getD, hw] at this
  exact this

theorem IsMap.set {ws : List Nat} {on on' : Nat → Bool} (h : IsMap ws on) {k w : Nat} (hk : k < 4) (hw : w < 18446744073709551616) (h1 : ∀ j, j < 64 → w.testBit j = on' (64 * k + j + 1)) (h2 : ∀ p, (p - 1) / 64 ≠ k → on p = on' p) : IsMap (ws.set k w) on' := by
  obtain ⟨m1, m2, m3⟩ := h
  refine ⟨by simpa using m1, fun i x hx => ?_, fun p p1 p2 => ?_⟩
  · rw [List.getElem?_set] at hx
    split at hx
    · split at hx
      · cases hx; exact hw
      · cases hx
    · exact m2 i x hx
  · rw [List.getD_eq_getElem?_getD, List.getElem?_set]
    by_cases hp : k = (p - 1) / 64
    · rw [if_pos hp, if_pos (by omega)]
      have := h1 ((p - 1) % 64) (by omega)
      rw [show 64 * k + (p - 1) % 64 + 1 = p by omega] at this
      exact this
    · rw [if_neg hp, ← List.getD_eq_getElem?_getD, m3 p p1 p2, h2 p (fun h => hp h.symm)]

theorem take_succ_mem {xs : List Int} {i : Nat} {x : Int} (h : xs[i]? = some x) (p : Int) : (xs.take (i + 1)).contains p = ((xs.take i).contains p || decide (x = p)) := by
  rw [List.take_add_one, h]
  simp only [Option.toList_some, List.contains_append, List.contains_cons, List.contains_nil, Bool.or_false]
  congr 1
  rw [Bool.eq_iff_iff, beq_iff_eq, decide_eq_true_iff]
  exact eq_comm

section
variable (b : Nat) (on : Nat → Bool) (post : List SV) (s : SV) (xs : List Int) (hl : xs.length ≤ 1000000)
include hl

theorem MapSet_tri : Tri tab noExt F.bits_Map_Set [ptr b, .s s] [MpA b on post, RdI s xs] fun v P' => v = unit ∧ P' = [MpA b (onSet on xs) post, RdI s xs] := by
  refine Tri.intro fun ρ H Rs K hs hk => ?_
  apply bits_Map_Set_call
  have hs : Sat ρ H (MpA b on post :: RdI s xs :: Rs) := hs
  have hlen := hs.swap.rdLen
  simp [hlen]
  refine loopP_invK (I := fun n T H => T.length = 34 ∧ sl T 0 = ptr b ∧ sl T 9 = .s s ∧ sl T 10 = i64 xs.length ∧ ∃ i : Nat, sl T 11 = i64 i ∧ i ≤ xs.length ∧ n = xs.length - i ∧ Sat ρ H (MpA b (onSet on (xs.take i)) post :: RdI s xs :: Rs)) ?_ xs.length _ _ ⟨rfl, rfl, rfl, rfl, 0, rfl, Nat.zero_le _, rfl, (by rw [List.take_zero, onSet_nil]; exact hs.bump 3)⟩
  intro n T H ⟨hT, s0, s9, s10, i, s11, hi, hn, hs⟩ K' kn kr ko
  rw [bits_Map_Set_l0_at hT]
  by_cases hlt : i < xs.length
  · have hlt' : (i : Int) < (xs.length : Int) := by omega
    obtain ⟨x, hx⟩ := get_ex hlt
    obtain ⟨bs, c, ro, l, rfl, hb, hli, _⟩ := hs.swap.rdGet hx
    have w1 : IntKind.i64.wrap ((i : Int) + 1) = (i : Int) + 1 := wrap_i64 (by omega) (by omega)
    have hm1 : xs.length - (i + 1) < n := by omega
    simp [s0, s9, s10, s11, hlt, hlt', hb, hli]
    refine (place_tri x).use (R := _ :: _ :: Rs) (((hs.bump 1).bump 3).bump 9) ?_
    rintro v H1 P' ⟨rfl, rfl⟩ hs1
    have hs1 : Sat ρ H1 (MpA b (onSet on (xs.take i)) post :: RdI _ xs :: Rs) := hs1
    by_cases hp : 1 ≤ x ∧ x ≤ 256
    · rw [if_pos hp]
      obtain ⟨q, rfl⟩ : ∃ q : Nat, x = ((q + 1 : Nat) : Int) := ⟨x.toNat - 1, by omega⟩
      simp only [Int.toNat_natCast, Nat.add_sub_cancel]
      obtain ⟨h0, ws, hm, hs2⟩ := Sat.mpOpen hs1
      have hq : q / 64 < 4 := by omega
      obtain ⟨w, hw, hwl, hwb⟩ := hm.get hq
      have hc := hs2.cel
      have hcell := words_get (post := post) hw
      have hpow : 2 ^ (q % 64) < 2 ^ 64 := Nat.pow_lt_pow_right (by omega) (by omega)
      have hpow : 2 ^ (q % 64) < 18446744073709551616 := hpow
      have eor := binA_or64 hwl hpow
      have hq' : ((q / 64 : Nat) : Int) < 4 := by omega
      have hspl := words_set (post := post) (w := w ||| 2 ^ (q % 64)) (by rw [hm.1]; exact hq : q / 64 < ws.length)
      have hlen4 : q / 64 + 1 ≤ (wordsC ws).length + post.length := by have := hm.1; simp [wordsC]; omega
      have q0 : (0 : Int) ≤ ((q / 64 : Nat) : Int) := by omega
      generalize hk64 : q / 64 = k64 at *
      generalize hj64 : q % 64 = j64 at *
      generalize hp2 : 2 ^ j64 = pw at *
      simp [hc, hcell, hq, hq', q0, eor, hspl, hlen4, w1]
      have hs3 := Sat.set ((hs2.bump 1).bump 12) (wordsC (ws.set k64 (w ||| pw)) ++ post)
      refine kn (xs.length - (i + 1)) _ _ hm1 ⟨rfl, rfl, rfl, rfl, i + 1, rfl, hlt, rfl, ?_⟩
      refine Sat.bump (Sat.mpClose hs3 h0 (hm.set hq ?_ (fun j hj => ?_) fun p hpne => ?_)) 2
      · have := Nat.or_lt_two_pow (n := 64) (x := w) (y := pw) (by omega) (by omega)
        omega
      · rw [Nat.testBit_or, hwb j hj, ← hp2, Nat.testBit_two_pow]
        unfold onSet
        rw [take_succ_mem hx, ← Bool.or_assoc]
        congr 1
        rw [decide_eq_decide]
        omega
      · unfold onSet
        rw [take_succ_mem hx, ← Bool.or_assoc]
        have : ¬ ((q + 1 : Nat) : Int) = (p : Int) := by omega
        rw [decide_eq_false this, Bool.or_false]
    · rw [if_neg hp]
      simp [w1]
      refine kn (xs.length - (i + 1)) _ _ hm1 ⟨rfl, rfl, rfl, rfl, i + 1, rfl, hlt, rfl, ?_⟩
      refine Sat.mpExt ((hs1.bump _).bump _) fun p p1 p2 => ?_
      unfold onSet
      rw [take_succ_mem hx, ← Bool.or_assoc]
      have : ¬ x = (p : Int) := by omega
      rw [decide_eq_false this, Bool.or_false]
  · have hie : i = xs.length := by omega
    subst hie
    simp [s10, s11]
    refine ko _ _ _ ?_
    simp
    rw [List.take_length] at hs
    exact hk _ _ _ ⟨rfl, rfl⟩ (hs.bump _)
theorem MapClear_tri : Tri tab noExt F.bits_Map_Clear [ptr b, .s s] [MpA b on post, RdI s xs] fun v P' => v = unit ∧ P' = [MpA b (onClear on xs) post, RdI s xs] := by
  refine Tri.intro fun ρ H Rs K hs hk => ?_
  apply bits_Map_Clear_call
  have hs : Sat ρ H (MpA b on post :: RdI s xs :: Rs) := hs
  have hlen := hs.swap.rdLen
  simp [hlen]
  refine loopP_invK (I := fun n T H => T.length = 34 ∧ sl T 0 = ptr b ∧ sl T 9 = .s s ∧ sl T 10 = i64 xs.length ∧ ∃ i : Nat, sl T 11 = i64 i ∧ i ≤ xs.length ∧ n = xs.length - i ∧ Sat ρ H (MpA b (onClear on (xs.take i)) post :: RdI s xs :: Rs)) ?_ xs.length _ _ ⟨rfl, rfl, rfl, rfl, 0, rfl, Nat.zero_le _, rfl, (by rw [List.take_zero, onClear_nil]; exact hs.bump 3)⟩
  intro n T H ⟨hT, s0, s9, s10, i, s11, hi, hn, hs⟩ K' kn kr ko
  rw [bits_Map_Clear_l0_at hT]
  by_cases hlt : i < xs.length
  · have hlt' : (i : Int) < (xs.length : Int) := by omega
    obtain ⟨x, hx⟩ := get_ex hlt
    obtain ⟨bs, c, ro, l, rfl, hb, hli, _⟩ := hs.swap.rdGet hx
    have w1 : IntKind.i64.wrap ((i : Int) + 1) = (i : Int) + 1 := wrap_i64 (by omega) (by omega)
    have hm1 : xs.length - (i + 1) < n := by omega
    simp [s0, s9, s10, s11, hlt, hlt', hb, hli]
    refine (place_tri x).use (R := _ :: _ :: Rs) (((hs.bump 1).bump 3).bump 9) ?_
    rintro v H1 P' ⟨rfl, rfl⟩ hs1
    have hs1 : Sat ρ H1 (MpA b (onClear on (xs.take i)) post :: RdI _ xs :: Rs) := hs1
    by_cases hp : 1 ≤ x ∧ x ≤ 256
    · rw [if_pos hp]
      obtain ⟨q, rfl⟩ : ∃ q : Nat, x = ((q + 1 : Nat) : Int) := ⟨x.toNat - 1, by omega⟩
      simp only [Int.toNat_natCast, Nat.add_sub_cancel]
      obtain ⟨h0, ws, hm, hs2⟩ := Sat.mpOpen hs1
      have hq : q / 64 < 4 := by omega
      obtain ⟨w, hw, hwl, hwb⟩ := hm.get hq
      have hc := hs2.cel
      have hcell := words_get (post := post) hw
      have hpow : 2 ^ (q % 64) < 2 ^ 64 := Nat.pow_lt_pow_right (by omega) (by omega)
      have hpow : 2 ^ (q % 64) < 18446744073709551616 := hpow
      have eor := binA_andNot64 w (2 ^ (q % 64))
      have hq' : ((q / 64 : Nat) : Int) < 4 := by omega
      have hspl := words_set (post := post) (w := andNot64 w (2 ^ (q % 64))) (by rw [hm.1]; exact hq : q / 64 < ws.length)
      have hlen4 : q / 64 + 1 ≤ (wordsC ws).length + post.length := by have := hm.1; simp [wordsC]; omega
      have q0 : (0 : Int) ≤ ((q / 64 : Nat) : Int) := by omega
      generalize hk64 : q / 64 = k64 at *
      generalize hj64 : q % 64 = j64 at *
      generalize hp2 : 2 ^ j64 = pw at *
      simp [hc, hcell, hq, hq', q0, eor, hspl, hlen4, w1]
      have hs3 := Sat.set ((hs2.bump 1).bump 12) (wordsC (ws.set k64 (andNot64 w pw)) ++ post)
      refine kn (xs.length - (i + 1)) _ _ hm1 ⟨rfl, rfl, rfl, rfl, i + 1, rfl, hlt, rfl, ?_⟩
      refine Sat.bump (Sat.mpClose hs3 h0 (hm.set hq ?_ (fun j hj => ?_) fun p hpne => ?_)) 2
      · exact andNot64_lt _ _
      · rw [andNot64_bit _ _ _ hj, hwb j hj, ← hp2, Nat.testBit_two_pow]
        unfold onClear
        rw [take_succ_mem hx, Bool.not_or, ← Bool.and_assoc]
        congr 2
        rw [decide_eq_decide]
        omega
      · unfold onClear
        rw [take_succ_mem hx, Bool.not_or, ← Bool.and_assoc]
        have : ¬ ((q + 1 : Nat) : Int) = (p : Int) := by omega
        rw [decide_eq_false this, Bool.not_false, Bool.and_true]
    · rw [if_neg hp]
      simp [w1]
      refine kn (xs.length - (i + 1)) _ _ hm1 ⟨rfl, rfl, rfl, rfl, i + 1, rfl, hlt, rfl, ?_⟩
      refine Sat.mpExt ((hs1.bump _).bump _) fun p p1 p2 => ?_
      unfold onClear
      rw [take_succ_mem hx, Bool.not_or, ← Bool.and_assoc]
      have : ¬ x = (p : Int) := by omega
      rw [decide_eq_false this, Bool.not_false, Bool.and_true]
  · have hie : i = xs.length := by omega
    subst hie
    simp [s10, s11]
    refine ko _ _ _ ?_
    simp
    rw [List.take_length] at hs
    exact hk _ _ _ ⟨rfl, rfl⟩ (hs.bump _)
end

theorem and_pow_ne (w j : Nat) : w.testBit j = true ↔ (w &&& 2 ^ j) ≠ 0 := by
  constructor
  · intro h h0
    have h1 : (w &&& 2 ^ j).testBit j = true := by rw [Nat.testBit_and, h, Nat.testBit_two_pow]; simp
    rw [h0, Nat.zero_testBit] at h1; cases h1
  · intro h
    cases hb : w.testBit j with
    | true => rfl
    | false =>
      refine absurd ?_ h
      apply Nat.eq_of_testBit_eq
      intro i
      rw [Nat.testBit_and, Nat.testBit_two_pow, Nat.zero_testBit]
      by_cases hi : j = i
      · subst hi; rw [hb]; rfl
      · simp [hi]

/-- Is it there? -/
def hasOn (on : Nat → Bool) (p : Int) : Bool := decide (1 ≤ p ∧ p ≤ 256) && on p.toNat

theorem MapHas_tri (b : Nat) (on : Nat → Bool) (post : List SV) (p : Int) : Tri tab noExt F.bits_Map_Has [ptr b, i64 p] [MpA b on post] fun v P' => v = bl (hasOn on p) ∧ P' = [MpA b on post] := by
  refine Tri.intro fun ρ H Rs K hs hk => ?_
  apply bits_Map_Has_call
  refine (place_tri p).use (R := _ :: Rs) ((hs.bump 1).bump 9) ?_
  rintro v H1 P' ⟨rfl, rfl⟩ hs1
  have hs1 : Sat ρ H1 (MpA b on post :: Rs) := hs1
  by_cases hp : 1 ≤ p ∧ p ≤ 256
  · rw [if_pos hp]
    obtain ⟨q, rfl⟩ : ∃ q : Nat, p = ((q + 1 : Nat) : Int) := ⟨p.toNat - 1, by omega⟩
    simp only [Int.toNat_natCast, Nat.add_sub_cancel]
    obtain ⟨h0, ws, hm, hs2⟩ := Sat.mpOpen hs1
    have hq : q / 64 < 4 := by omega
    obtain ⟨w, hw, hwl, hwb⟩ := hm.get hq
    have hc := hs2.cel
    have hcell := words_get (post := post) hw
    have hpow : 2 ^ (q % 64) < 2 ^ 64 := Nat.pow_lt_pow_right (by omega) (by omega)
    have hpow : 2 ^ (q % 64) < 18446744073709551616 := hpow
    have eand := binA_and64 hwl hpow
    have hq' : ((q / 64 : Nat) : Int) < 4 := by omega
    have q0 : (0 : Int) ≤ ((q / 64 : Nat) : Int) := by omega
    have hres : hasOn on ((q + 1 : Nat) : Int) = decide (¬ ((w &&& 2 ^ (q % 64) : Nat) : Int) = 0) := by
      unfold hasOn
      rw [decide_eq_true hp, Bool.true_and, Int.toNat_natCast]
      have := hwb (q % 64) (by omega)
      rw [show 64 * (q / 64) + q % 64 + 1 = q + 1 by omega] at this
      rw [← this, Bool.eq_iff_iff, decide_eq_true_iff, and_pow_ne]
      omega
    rw [hres] at hk
    generalize q / 64 = k64 at *
    generalize 2 ^ (q % 64) = pw at *
    generalize w &&& pw = wp at *
    simp [hc, hcell, hq, hq', q0, eand]
    refine hk _ _ _ ⟨?_, rfl⟩ (Sat.mpClose ((hs2.bump 13)) h0 hm)
    simp
  · rw [if_neg hp]
    have hres : hasOn on p = false := by unfold hasOn; rw [decide_eq_false hp]; rfl
    rw [hres] at hk
    simp
    exact hk _ _ _ ⟨rfl, rfl⟩ (hs1.bump 13)

end Go.AM
