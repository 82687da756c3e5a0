/-
  Words of bits: what the machine's operations on them give.
-/
import Derived.Test.YtlkpeondecnhnaaDoorAmU
namespace Go.AM

theorem ofInt_nat (n a : Nat) : BitVec.ofInt n (a : Int) = BitVec.ofNat n a := by simp

theorem u64_nat {a : Nat} (h : a < 18446744073709551616) : IntKind.u64.wrap (a : Int) = (a : Int) := wrap_u64 (by omega) (by omega)

theorem binA_or64 {a b : Nat} (ha : a < 18446744073709551616) (hb : b < 18446744073709551616) : binA .or (u64 a) (u64 b) = some (u64 ((a ||| b : Nat) : Int)) := by
  have h : (a ||| b) < 2 ^ 64 := Nat.or_lt_two_pow (by omega) (by omega)
  have e : (BitVec.ofNat 64 a ||| BitVec.ofNat 64 b).toNat = a ||| b := by
    rw [BitVec.toNat_or, BitVec.toNat_ofNat, BitVec.toNat_ofNat, Nat.mod_eq_of_lt (by omega), Nat.mod_eq_of_lt (by omega)]
  have e2 : binA .or (u64 a) (u64 b) = some (u64 (IntKind.u64.wrap (((BitVec.ofInt 64 (a : Int) ||| BitVec.ofInt 64 (b : Int)).toNat : Nat) : Int))) := by
    simp [binA, arithA]; rfl
  rw [e2, ofInt_nat, ofInt_nat, e, u64_nat (by omega)]

theorem binA_and64 {a b : Nat} (ha : a < 18446744073709551616) (hb : b < 18446744073709551616) : binA .and (u64 a) (u64 b) = some (u64 ((a &&& b : Nat) : Int)) := by
  have h : (a &&& b) ≤ a := Nat.and_le_left
  have e : (BitVec.ofNat 64 a &&& BitVec.ofNat 64 b).toNat = a &&& b := by
    rw [BitVec.toNat_and, BitVec.toNat_ofNat, BitVec.toNat_ofNat, Nat.mod_eq_of_lt (by omega), Nat.mod_eq_of_lt (by omega)]
  have e2 : binA .and (u64 a) (u64 b) = some (u64 (IntKind.u64.wrap (((BitVec.ofInt 64 (a : Int) &&& BitVec.ofInt 64 (b : Int)).toNat : Nat) : Int))) := by
    simp [binA, arithA]; rfl
  rw [e2, ofInt_nat, ofInt_nat, e, u64_nat (by omega)]

/-- a but for b. -/
def andNot64 (a b : Nat) : Nat := (BitVec.ofNat 64 a &&& ~~~ BitVec.ofNat 64 b).toNat

theorem andNot64_lt (a b : Nat) : andNot64 a b < 18446744073709551616 := (BitVec.ofNat 64 a &&& ~~~ BitVec.ofNat 64 b).isLt

theorem andNot64_bit (a b k : Nat) (hk : k < 64) : (andNot64 a b).testBit k = (a.testBit k && !b.testBit k) := by
  unfold andNot64
  rw [BitVec.testBit_toNat, BitVec.getLsbD_and, BitVec.getLsbD_not, BitVec.getLsbD_ofNat, BitVec.getLsbD_ofNat]
  simp [hk]

theorem binA_andNot64 (a b : Nat) : binA .andNot (u64 a) (u64 b) = some (u64 (andNot64 a b : Nat)) := by
  have e2 : binA .andNot (u64 a) (u64 b) = some (u64 (IntKind.u64.wrap (((BitVec.ofInt 64 (a : Int) &&& ~~~ BitVec.ofInt 64 (b : Int)).toNat : Nat) : Int))) := by
    simp [binA, arithA]; rfl
  rw [e2, ofInt_nat, ofInt_nat]
  exact congrArg (fun x => some (u64 x)) (u64_nat (andNot64_lt a b))

theorem binA_shl1 {k : Nat} (hk : k < 64) : binA .shl (u64 1) (i64 k) = some (u64 ((2 ^ k : Nat) : Int)) := by
  have h : 2 ^ k < 2 ^ 64 := Nat.pow_lt_pow_right (by omega) hk
  have e : binA .shl (u64 1) (i64 k) = some (u64 (IntKind.u64.wrap (1 * 2 ^ (min k 64)))) := by
    have hn : ¬ (k : Int) < 0 := by omega
    simp [binA, shiftA, hn, IntKind.bits]
  rw [e, Nat.min_eq_left (by omega), Int.one_mul]
  have e2 : ((2 : Int) ^ k) = ((2 ^ k : Nat) : Int) := by norm_cast
  rw [e2, u64_nat (by omega)]

theorem binA_shr64 {a k : Nat} (kd : IntKind) (hk : k < 64) : binA .shr (u64 a) (.s (.int kd k)) = some (u64 ((a / 2 ^ k : Nat) : Int)) := by
  have e : binA .shr (u64 a) (.s (.int kd k)) = some (u64 ((a : Int).fdiv (2 ^ (min k 64)))) := by
    have hn : ¬ (k : Int) < 0 := by omega
    simp [binA, shiftA, hn, IntKind.bits]
  have e2 : ((2 : Int) ^ k) = ((2 ^ k : Nat) : Int) := by norm_cast
  rw [e, Nat.min_eq_left (by omega), e2, Int.fdiv_eq_ediv_of_nonneg _ (Int.natCast_nonneg _)]
  rfl

theorem binA_shl64 {a k : Nat} (kd : IntKind) (hk : k < 64) (ha : a * 2 ^ k < 18446744073709551616) : binA .shl (u64 a) (.s (.int kd k)) = some (u64 ((a * 2 ^ k : Nat) : Int)) := by
  have e : binA .shl (u64 a) (.s (.int kd k)) = some (u64 (IntKind.u64.wrap ((a : Int) * 2 ^ (min k 64)))) := by
    have hn : ¬ (k : Int) < 0 := by omega
    simp [binA, shiftA, hn, IntKind.bits]
  rw [e, Nat.min_eq_left (by omega)]
  have e2 : (a : Int) * (2 : Int) ^ k = ((a * 2 ^ k : Nat) : Int) := by norm_cast
  rw [e2, u64_nat ha]

/-- The low bits are struck. -/
theorem strike_bit (a k j : Nat) : (a / 2 ^ k * 2 ^ k).testBit j = (decide (k ≤ j) && a.testBit j) := by
  rw [← Nat.shiftLeft_eq, ← Nat.shiftRight_eq_div_pow, Nat.testBit_shiftLeft, Nat.testBit_shiftRight]
  by_cases h : k ≤ j
  · simp [h]
  · simp [h]

/- ---- trailing zeros ---- -/

/-- The lowest bit. -/
def Low (w k : Nat) : Prop := k < 64 ∧ w.testBit k = true ∧ ∀ j, j < k → w.testBit j = false

theorem low_ex {w : Nat} (h0 : 0 < w) (h : w < 18446744073709551616) : ∃ k, Low w k := by
  have h1 : ∃ k, k < 64 ∧ w.testBit k = true := by
    apply Classical.byContradiction
    intro hc
    have : w = 0 := by
      apply Nat.eq_of_testBit_eq
      intro i
      rw [Nat.zero_testBit]
      by_cases hi : i < 64
      · cases hb : w.testBit i with
        | false => rfl
        | true => exact absurd ⟨i, hi, hb⟩ hc
      · exact Nat.testBit_lt_two_pow (Nat.lt_of_lt_of_le (show w < 2 ^ 64 by omega) (Nat.pow_le_pow_right (by omega) (by omega)))
    omega
  obtain ⟨k, hk, hb⟩ := h1
  induction k using Nat.strongRecOn with
  | _ k ih =>
    by_cases hc : ∃ j, j < k ∧ w.testBit j = true
    · obtain ⟨j, hj, hjb⟩ := hc
      exact ih j hj (by omega) hjb
    · refine ⟨k, hk, hb, fun j hj => ?_⟩
      cases hjb : w.testBit j with
      | false => rfl
      | true => exact absurd ⟨j, hj, hjb⟩ hc

theorem low_form {w k : Nat} (h : Low w k) : ∃ m, w = 2 ^ k * (2 * m + 1) := by
  refine ⟨w / 2 ^ (k + 1), ?_⟩
  apply Nat.eq_of_testBit_eq
  intro i
  rw [Nat.testBit_two_pow_mul]
  by_cases hik : k ≤ i
  · simp only [ge_iff_le, hik, decide_true, Bool.true_and]
    by_cases he : i = k
    · subst he
      rw [Nat.sub_self, h.2.1]
      simp [Nat.testBit_zero]
    · obtain ⟨d, rfl⟩ : ∃ d, i = k + (d + 1) := ⟨i - k - 1, by omega⟩
      rw [show k + (d + 1) - k = d + 1 by omega, Nat.testBit_succ, show (2 * (w / 2 ^ (k + 1)) + 1) / 2 = w / 2 ^ (k + 1) by omega, Nat.testBit_div_two_pow]
      congr 1; omega
  · have : w.testBit i = false := h.2.2 i (by omega)
    simp [hik, this]

theorem two_and (a b : Nat) : (2 * a + 1) &&& (2 * b + 1) = 2 * (a &&& b) + 1 := by
  apply Nat.eq_of_testBit_eq
  intro i
  rw [Nat.testBit_and]
  cases i with
  | zero => simp [Nat.testBit_zero]
  | succ i =>
    rw [Nat.testBit_succ, Nat.testBit_succ, Nat.testBit_succ, show (2 * a + 1) / 2 = a by omega, show (2 * b + 1) / 2 = b by omega, show (2 * (a &&& b) + 1) / 2 = a &&& b by omega, Nat.testBit_and]

theorem pow_and (k a b : Nat) : (2 ^ k * a) &&& (2 ^ k * b) = 2 ^ k * (a &&& b) := by
  apply Nat.eq_of_testBit_eq
  intro i
  rw [Nat.testBit_and, Nat.testBit_two_pow_mul, Nat.testBit_two_pow_mul, Nat.testBit_two_pow_mul, Nat.testBit_and]
  cases decide (i ≥ k) <;> simp

theorem low_and {w k : Nat} (h : Low w k) (hw : w < 18446744073709551616) : w &&& (18446744073709551616 - w) = 2 ^ k := by
  obtain ⟨m, rfl⟩ := low_form h
  have hk := h.1
  have e64 : 2 ^ k * 2 ^ (64 - k) = 18446744073709551616 := by rw [← Nat.pow_add, show k + (64 - k) = 64 by omega]
  have hpos : 0 < 2 ^ k := Nat.pow_pos (by omega)
  have e63 : 2 ^ (64 - k) = 2 * 2 ^ (63 - k) := by rw [show 64 - k = (63 - k) + 1 by omega, Nat.pow_succ]; omega
  have hm : 2 * m + 1 < 2 ^ (64 - k) := by
    rw [← e64] at hw
    exact Nat.lt_of_mul_lt_mul_left hw
  have hm2 : m < 2 ^ (63 - k) := by omega
  have e1 : 18446744073709551616 - 2 ^ k * (2 * m + 1) = 2 ^ k * (2 * (2 ^ (63 - k) - (m + 1)) + 1) := by
    rw [← e64, ← Nat.mul_sub]
    congr 1; omega
  rw [e1, pow_and, two_and]
  have e0 : m &&& (2 ^ (63 - k) - (m + 1)) = 0 := by
    apply Nat.eq_of_testBit_eq
    intro i
    rw [Nat.testBit_and, Nat.testBit_two_pow_sub_succ hm2, Nat.zero_testBit]
    cases m.testBit i <;> simp
  rw [e0]; omega

/-- math/bits' table. -/
def tzTab : List Int := [0, 1, 56, 2, 57, 49, 28, 3, 61, 58, 42, 50, 38, 29, 17, 4, 62, 47, 59, 36, 45, 43, 51, 22, 53, 39, 33, 30, 24, 18, 12, 5, 63, 55, 48, 27, 60, 41, 37, 16, 46, 35, 44, 21, 52, 32, 23, 11, 54, 26, 40, 15, 34, 20, 31, 10, 25, 14, 19, 9, 13, 8, 7, 6]

theorem tz_index : ∀ k : Nat, k < 64 → tzTab[(2 ^ k * 285870213051353865 % 18446744073709551616) / 2 ^ 58]? = some (k : Int) ∧ (2 ^ k * 285870213051353865 % 18446744073709551616) / 2 ^ 58 < 64 := by decide +kernel

/- ---- how many bits ---- -/

def pop : Nat → Nat → Nat
  | 0, _ => 0
  | n + 1, w => w % 2 + pop n (w / 2)

theorem pop_count (n w : Nat) : pop n w = ((List.range n).filter fun i => w.testBit i).length := by
  induction n generalizing w with
  | zero => rfl
  | succ n ih =>
    rw [pop, ih, List.range_succ_eq_map, List.filter_cons, List.filter_map]
    have e : ((fun i => w.testBit i) ∘ Nat.succ) = fun i => (w / 2).testBit i := by
      funext i; exact Nat.testBit_succ w i
    rw [e]
    have h0 : w.testBit 0 = decide (w % 2 = 1) := Nat.testBit_zero w
    by_cases h : w % 2 = 1
    · simp [h0, h]; omega
    · have : w % 2 = 0 := by omega
      simp [h0, this]

theorem pop_add (a b w : Nat) : pop (a + b) w = pop a w + pop b (w / 2 ^ a) := by
  induction a generalizing w with
  | zero => simp [pop]
  | succ a ih =>
    rw [show a + 1 + b = (a + b) + 1 by omega, pop, pop, ih, Nat.div_div_eq_div_mul, Nat.pow_succ, Nat.mul_comm 2]
    omega

theorem pop_mod (n w : Nat) : pop n (w % 2 ^ n) = pop n w := by
  induction n generalizing w with
  | zero => rfl
  | succ n ih =>
    rw [pop, pop]
    have h1 : w % 2 ^ (n + 1) % 2 = w % 2 := Nat.mod_mod_of_dvd _ (by rw [Nat.pow_succ]; exact Nat.dvd_mul_left 2 _)
    have h2 : w % 2 ^ (n + 1) / 2 = w / 2 % 2 ^ n := by
      rw [Nat.pow_succ, Nat.mul_comm, Nat.mod_mul_right_div_self]
    rw [h1, h2, ih]

theorem and_split (a b c d : Nat) (ha : a < 256) (hc : c < 256) : (a + 256 * b) &&& (c + 256 * d) = (a &&& c) + 256 * (b &&& d) := by
  have hac : (a &&& c) < 256 := Nat.lt_of_le_of_lt Nat.and_le_left ha
  apply Nat.eq_of_testBit_eq
  intro i
  have key : ∀ x y : Nat, x < 256 → (x + 256 * y).testBit i = if i < 8 then x.testBit i else y.testBit (i - 8) := by
    intro x y hx
    rw [show x + 256 * y = 2 ^ 8 * y + x by omega, Nat.testBit_two_pow_mul_add _ (by omega)]
  rw [Nat.testBit_and, key a b ha, key c d hc, key _ _ hac]
  split <;> rw [Nat.testBit_and]

def msk (c : Nat) : Nat → Nat
  | 0 => 0
  | n + 1 => c + 256 * msk c n

def mapB (g : Nat → Nat) : Nat → Nat → Nat
  | 0, _ => 0
  | n + 1, x => g (x % 256) + 256 * mapB g n (x / 256)

theorem split256 (x : Nat) : x = x % 256 + 256 * (x / 256) := by omega

def g1 (a : Nat) : Nat := (a / 2 &&& 85) + (a &&& 85)
def g2 (a : Nat) : Nat := (a / 4 &&& 51) + (a &&& 51)
def g3 (a : Nat) : Nat := (a / 16 + a) % 16

theorem g1_carry : ∀ a : Nat, a < 256 → ∀ t : Nat, t < 2 → ((a / 2 + 128 * t) &&& 85) = (a / 2 &&& 85) := by decide +kernel
theorem g2_carry : ∀ a : Nat, a < 256 → ∀ t : Nat, t < 4 → ((a / 4 + 64 * t) &&& 51) = (a / 4 &&& 51) := by decide +kernel
theorem g_all : ∀ a : Nat, a < 256 → g1 a < 256 ∧ g2 (g1 a) < 256 ∧ g2 (g1 a) % 16 ≤ 4 ∧ g2 (g1 a) / 16 ≤ 4 ∧ g3 (g2 (g1 a)) = pop 8 a ∧ pop 8 a ≤ 8 := by decide +kernel

theorem step1 : ∀ n x : Nat, (x / 2 &&& msk 85 n) + (x &&& msk 85 n) = mapB g1 n x
  | 0, x => by simp [msk, mapB]
  | n + 1, x => by
    have ih := step1 n (x / 256)
    have e1 : x / 2 = (x % 256 / 2 + 128 * (x / 256 % 2)) + 256 * (x / 256 / 2) := by omega
    rw [msk, mapB, ← ih]
    have e2 : (x / 2 &&& (85 + 256 * msk 85 n)) = (x % 256 / 2 &&& 85) + 256 * (x / 256 / 2 &&& msk 85 n) := by
      conv => lhs; rw [e1]
      rw [and_split _ _ _ _ (by omega) (by omega), g1_carry _ (by omega) _ (by omega)]
    have e3 : (x &&& (85 + 256 * msk 85 n)) = (x % 256 &&& 85) + 256 * (x / 256 &&& msk 85 n) := by
      conv => lhs; rw [split256 x]
      rw [and_split _ _ _ _ (by omega) (by omega)]
    rw [e2, e3, g1]; omega

theorem step2 : ∀ n x : Nat, (x / 4 &&& msk 51 n) + (x &&& msk 51 n) = mapB g2 n x
  | 0, x => by simp [msk, mapB]
  | n + 1, x => by
    have ih := step2 n (x / 256)
    have e1 : x / 4 = (x % 256 / 4 + 64 * (x / 256 % 4)) + 256 * (x / 256 / 4) := by omega
    rw [msk, mapB, ← ih]
    have e2 : (x / 4 &&& (51 + 256 * msk 51 n)) = (x % 256 / 4 &&& 51) + 256 * (x / 256 / 4 &&& msk 51 n) := by
      conv => lhs; rw [e1]
      rw [and_split _ _ _ _ (by omega) (by omega), g2_carry _ (by omega) _ (by omega)]
    have e3 : (x &&& (51 + 256 * msk 51 n)) = (x % 256 &&& 51) + 256 * (x / 256 &&& msk 51 n) := by
      conv => lhs; rw [split256 x]
      rw [and_split _ _ _ _ (by omega) (by omega)]
    rw [e2, e3, g2]; omega

/-- Each byte's halves are small. -/
def small : Nat → Nat → Prop
  | 0, _ => True
  | n + 1, x => x % 256 % 16 ≤ 4 ∧ x % 256 / 16 ≤ 4 ∧ small n (x / 256)

theorem and15 (a : Nat) : a &&& 15 = a % 16 := Nat.and_two_pow_sub_one_eq_mod a 4

theorem step3 : ∀ n x : Nat, small n x → x < 256 ^ n → ((x / 16 + x) &&& msk 15 n) = mapB g3 n x
  | 0, x, _, _ => by simp [msk, mapB]
  | n + 1, x, ⟨h1, h2, h3⟩, hx => by
    have hx' : x / 256 < 256 ^ n := by rw [Nat.pow_succ] at hx; omega
    have ih := step3 n (x / 256) h3 hx'
    have hn : x / 256 % 16 ≤ 4 := by
      cases n with
      | zero => have : x / 256 = 0 := by simpa using hx'
                omega
      | succ n => have := h3.1; omega
    have e1 : x / 16 + x = (x % 256 / 16 + x % 256 + 16 * (x / 256 % 16)) + 256 * (x / 256 / 16 + x / 256) := by omega
    rw [msk, mapB, ← ih]
    conv => lhs; rw [e1]
    rw [and_split _ _ _ _ (by omega) (by omega), and15, g3]
    congr 1
    omega

theorem mapB_comp (g h : Nat → Nat) (hg : ∀ a, a < 256 → g a < 256) : ∀ n x, mapB h n (mapB g n x) = mapB (fun a => h (g a)) n x
  | 0, _ => rfl
  | n + 1, x => by
    have h1 := hg (x % 256) (by omega)
    rw [mapB, mapB, mapB, show (g (x % 256) + 256 * mapB g n (x / 256)) % 256 = g (x % 256) by omega, show (g (x % 256) + 256 * mapB g n (x / 256)) / 256 = mapB g n (x / 256) by omega, mapB_comp g h hg]

theorem mapB_small (g : Nat → Nat) (hg : ∀ a, a < 256 → g a < 256 ∧ g a % 16 ≤ 4 ∧ g a / 16 ≤ 4) : ∀ n x, small n (mapB g n x) ∧ mapB g n x < 256 ^ n
  | 0, _ => ⟨trivial, by simp [mapB]⟩
  | n + 1, x => by
    obtain ⟨h1, h2, h3⟩ := hg (x % 256) (by omega)
    obtain ⟨i1, i2⟩ := mapB_small g hg n (x / 256)
    rw [mapB]
    refine ⟨⟨by omega, by omega, ?_⟩, by rw [Nat.pow_succ]; omega⟩
    rw [show (g (x % 256) + 256 * mapB g n (x / 256)) / 256 = mapB g n (x / 256) by omega]; exact i1

theorem mapB_congr (g h : Nat → Nat) (hg : ∀ a, a < 256 → g a = h a) : ∀ n x, mapB g n x = mapB h n x
  | 0, _ => rfl
  | n + 1, x => by rw [mapB, mapB, hg _ (by omega), mapB_congr g h hg]

theorem pop8 (x : Nat) : mapB (pop 8) 8 x = pop 8 x + 256 * (pop 8 (x / 256) + 256 * (pop 8 (x / 65536) + 256 * (pop 8 (x / 16777216) + 256 * (pop 8 (x / 4294967296) + 256 * (pop 8 (x / 1099511627776) + 256 * (pop 8 (x / 281474976710656) + 256 * pop 8 (x / 72057594037927936))))))) := by
  have hm : ∀ y, pop 8 (y % 256) = pop 8 y := fun y => pop_mod 8 y
  simp only [mapB, hm, Nat.div_div_eq_div_mul, Nat.mul_zero, Nat.add_zero]

theorem pop64 (x : Nat) : pop 64 x = pop 8 x + pop 8 (x / 256) + pop 8 (x / 65536) + pop 8 (x / 16777216) + pop 8 (x / 4294967296) + pop 8 (x / 1099511627776) + pop 8 (x / 281474976710656) + pop 8 (x / 72057594037927936) := by
  rw [show 64 = 8 + (8 + (8 + (8 + (8 + (8 + (8 + 8)))))) from rfl]
  simp only [pop_add, Nat.div_div_eq_div_mul, Nat.reducePow, Nat.reduceMul, Nat.add_assoc]

theorem pop8_le (x : Nat) : pop 8 x ≤ 8 := by
  rw [← pop_mod]; exact (g_all _ (Nat.mod_lt _ (by decide))).2.2.2.2.2

/-- A number by its bytes. -/
def V : List Nat → Nat
  | [] => 0
  | x :: l => x + 256 * V l

def addL : List Nat → List Nat → List Nat
  | [], m => m
  | l, [] => l
  | x :: l, y :: m => (x + y) :: addL l m

theorem V_add : ∀ l m, V l + V m = V (addL l m)
  | [], m => by simp [V, addL]
  | x :: l, [] => by simp [V, addL]
  | x :: l, y :: m => by
    rw [addL, V, V, V, ← V_add l m]; omega

theorem V_div : ∀ (k : Nat) (l : List Nat), (∀ x ∈ l, x < 256) → V l / 256 ^ k = V (l.drop k)
  | 0, l, _ => by simp
  | k + 1, [], _ => by simp [V]
  | k + 1, x :: l, h => by
    have hx := h x (by simp)
    rw [Nat.pow_succ, Nat.mul_comm, ← Nat.div_div_eq_div_mul, V, show (x + 256 * V l) / 256 = V l by omega, List.drop_succ_cons]
    exact V_div k l fun y hy => h y (by simp [hy])

theorem V_lt : ∀ (l : List Nat), (∀ x ∈ l, x < 100) → V l < 128 * 256 ^ (l.length - 1)
  | [], _ => by simp [V]
  | [x], h => by have := h x (by simp); simp [V]; omega
  | x :: y :: l, h => by
    have hx := h x (by simp)
    have ih := V_lt (y :: l) fun z hz => h z (by simp at hz ⊢; right; exact hz)
    rw [V]
    simp only [List.length_cons, Nat.add_sub_cancel] at ih ⊢
    rw [Nat.pow_succ]; omega

theorem sum_plain (q0 q1 q2 q3 q4 q5 q6 q7 : Nat) (p0 : q0 ≤ 8) (p1 : q1 ≤ 8) (p2 : q2 ≤ 8) (p3 : q3 ≤ 8) (p4 : q4 ≤ 8) (p5 : q5 ≤ 8) (p6 : q6 ≤ 8) (p7 : q7 ≤ 8) (c d e f : Nat) (hc : c = V [q0, q1, q2, q3, q4, q5, q6, q7]) (hd : d = c + c / 256) (he : e = d + d / 65536) (hf : f = e + e / 4294967296) :
    c < 9223372036854775808 ∧ d < 9223372036854775808 ∧ e < 9223372036854775808 ∧ f < 9223372036854775808 ∧ f % 128 = q0 + q1 + q2 + q3 + q4 + q5 + q6 + q7 := by
  have c1 := V_div 1 [q0, q1, q2, q3, q4, q5, q6, q7] (by simp; omega)
  rw [← hc] at c1
  have d1 : d = V [q0 + q1, q1 + q2, q2 + q3, q3 + q4, q4 + q5, q5 + q6, q6 + q7, q7] := by
    rw [hd, show c / 256 = V [q1, q2, q3, q4, q5, q6, q7] from c1, hc, V_add]; rfl
  have d2 := V_div 2 [q0 + q1, q1 + q2, q2 + q3, q3 + q4, q4 + q5, q5 + q6, q6 + q7, q7] (by simp; omega)
  rw [← d1] at d2
  have e1 : e = V [q0 + q1 + (q2 + q3), q1 + q2 + (q3 + q4), q2 + q3 + (q4 + q5), q3 + q4 + (q5 + q6), q4 + q5 + (q6 + q7), q5 + q6 + q7, q6 + q7, q7] := by
    rw [he, show d / 65536 = V [q2 + q3, q3 + q4, q4 + q5, q5 + q6, q6 + q7, q7] from d2, d1, V_add]; rfl
  have e2 := V_div 4 [q0 + q1 + (q2 + q3), q1 + q2 + (q3 + q4), q2 + q3 + (q4 + q5), q3 + q4 + (q5 + q6), q4 + q5 + (q6 + q7), q5 + q6 + q7, q6 + q7, q7] (by simp; omega)
  rw [← e1] at e2
  have f1 : f = V [q0 + q1 + (q2 + q3) + (q4 + q5 + (q6 + q7)), q1 + q2 + (q3 + q4) + (q5 + q6 + q7), q2 + q3 + (q4 + q5) + (q6 + q7), q3 + q4 + (q5 + q6) + q7, q4 + q5 + (q6 + q7), q5 + q6 + q7, q6 + q7, q7] := by
    rw [hf, show e / 4294967296 = V [q4 + q5 + (q6 + q7), q5 + q6 + q7, q6 + q7, q7] from e2, e1, V_add]; rfl
  have hcl := V_lt _ (show ∀ x ∈ [q0, q1, q2, q3, q4, q5, q6, q7], x < 100 by simp; omega)
  have hdl := V_lt _ (show ∀ x ∈ [q0 + q1, q1 + q2, q2 + q3, q3 + q4, q4 + q5, q5 + q6, q6 + q7, q7], x < 100 by simp; omega)
  have hel := V_lt _ (show ∀ x ∈ [q0 + q1 + (q2 + q3), q1 + q2 + (q3 + q4), q2 + q3 + (q4 + q5), q3 + q4 + (q5 + q6), q4 + q5 + (q6 + q7), q5 + q6 + q7, q6 + q7, q7], x < 100 by simp; omega)
  have hfl := V_lt _ (show ∀ x ∈ [q0 + q1 + (q2 + q3) + (q4 + q5 + (q6 + q7)), q1 + q2 + (q3 + q4) + (q5 + q6 + q7), q2 + q3 + (q4 + q5) + (q6 + q7), q3 + q4 + (q5 + q6) + q7, q4 + q5 + (q6 + q7), q5 + q6 + q7, q6 + q7, q7], x < 100 by simp; omega)
  rw [← hc] at hcl
  rw [← d1] at hdl
  rw [← e1] at hel
  rw [← f1] at hfl
  refine ⟨by simpa using hcl, by simpa using hdl, by simpa using hel, by simpa using hfl, ?_⟩
  rw [f1, V]
  generalize V _ = z
  omega

/-- What OnesCount64 does. -/
theorem ones_plain (x : Nat) (hx : x < 18446744073709551616) (a b c d e f : Nat) (ha' : a = (x / 2 &&& 6148914691236517205) + (x &&& 6148914691236517205)) (hb' : b = (a / 4 &&& 3689348814741910323) + (a &&& 3689348814741910323))
    (hc' : c = ((b / 16 + b) &&& 1085102592571150095)) (hd' : d = c + c / 256) (he' : e = d + d / 65536) (hf' : f = e + e / 4294967296) :
    a < 18446744073709551616 ∧ b < 18446744073709551616 ∧ b / 16 + b < 18446744073709551616 ∧ c < 9223372036854775808 ∧ d < 9223372036854775808 ∧ e < 9223372036854775808 ∧ f < 9223372036854775808 ∧ f % 128 = pop 64 x := by
  have ea : a = mapB g1 8 x := ha'.trans (step1 8 x)
  have eb : b = mapB (fun y => g2 (g1 y)) 8 x := by
    have : b = mapB g2 8 a := hb'.trans (step2 8 a)
    rw [this, ea, mapB_comp _ _ fun y hy => (g_all y hy).1]
  obtain ⟨hs, hb⟩ := mapB_small (fun y => g2 (g1 y)) (fun y hy => ⟨(g_all y hy).2.1, (g_all y hy).2.2.1, (g_all y hy).2.2.2.1⟩) 8 x
  rw [← eb] at hs hb
  have ec : c = mapB (pop 8) 8 x := by
    have : c = mapB g3 8 b := hc'.trans (step3 8 b hs hb)
    rw [this, eb, mapB_comp _ _ fun y hy => (g_all y hy).2.1]
    exact mapB_congr _ _ (fun y hy => (g_all y hy).2.2.2.2.1) 8 x
  have ha : a < 256 ^ 8 := by
    rw [ea]
    have : ∀ n y, mapB g1 n y < 256 ^ n := by
      intro n
      induction n with
      | zero => intro y; simp [mapB]
      | succ n ih =>
        intro y
        have h1 := (g_all (y % 256) (by omega)).1
        have h2 := ih (y / 256)
        rw [mapB, Nat.pow_succ]; omega
    exact this 8 x
  have hb16 : b ≤ 4919131752989213764 := by
    have : ∀ n y, small n y → y < 256 ^ n → y ≤ msk 68 n := by
      intro n
      induction n with
      | zero => intro y _ h; simp at h; omega
      | succ n ih =>
        intro y ⟨q1, q2, q3⟩ hy
        have := ih (y / 256) q3 (by rw [Nat.pow_succ] at hy; omega)
        rw [msk]; omega
    exact this 8 b hs hb
  rw [pop8] at ec
  obtain ⟨s1, s2, s3, s4, s5⟩ := sum_plain _ _ _ _ _ _ _ _ (pop8_le x) (pop8_le (x / 256)) (pop8_le (x / 65536)) (pop8_le (x / 16777216)) (pop8_le (x / 4294967296)) (pop8_le (x / 1099511627776)) (pop8_le (x / 281474976710656)) (pop8_le (x / 72057594037927936)) c d e f (by rw [ec]; simp [V]) hd' he' hf'
  exact ⟨ha, hb, by omega, s1, s2, s3, s4, by rw [s5, pop64]⟩

theorem binA_and127 {a : Nat} (ha : a < 9223372036854775808) : binA .and (i64 a) (i64 127) = some (i64 ((a % 128 : Nat) : Int)) := by
  have e : (BitVec.ofNat 64 a &&& BitVec.ofNat 64 127).toNat = a % 128 := by
    rw [BitVec.toNat_and, BitVec.toNat_ofNat, BitVec.toNat_ofNat, Nat.mod_eq_of_lt (by omega), Nat.mod_eq_of_lt (by omega)]
    exact Nat.and_two_pow_sub_one_eq_mod a 7
  have e2 : binA .and (i64 a) (i64 127) = some (i64 (IntKind.i64.wrap (((BitVec.ofInt 64 (a : Int) &&& BitVec.ofInt 64 ((127 : Nat) : Int)).toNat : Nat) : Int))) := by
    simp [binA, arithA]; rfl
  rw [e2, ofInt_nat, ofInt_nat, e, wrap_i64 (by omega) (by omega)]

end Go.AM
