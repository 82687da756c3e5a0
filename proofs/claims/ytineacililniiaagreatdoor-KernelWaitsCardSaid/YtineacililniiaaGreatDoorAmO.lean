/-
  THE ABSTRACT MACHINE: from its run of a law to the law's call in the model; and rules by which a run is worked out.
-/
import Derived.Test.YtineacililniiaaGreatDoorAmN
import Derived.RowKit3
namespace Go.AM
open Go.RowKit

theorem HRel.grown {w w' : World} {φ : Phi} {H : AH} (h : HRel w.heap.size w φ H w') : Grown w w' := by
  refine ⟨⟨h.os, h.out, fun i hi => ?_⟩, fun a => ?_, h.bound⟩
  · rw [h.old i hi]
    cases hw : w.heap[i]? with
    | none => rfl
    | some o => cases o <;> first | exact ⟨rfl, rfl, rfl, fun _ _ => rfl⟩ | exact .inr ⟨rfl, rfl⟩ | rfl
  · by_cases ha : a.block < w.heap.size
    · unfold World.frozen?; rw [h.old _ ha]
    · have e1 : w.frozen? a = false := by unfold World.frozen?; rw [Array.getElem?_eq_none (by omega)]
      rw [e1]
      unfold World.frozen?
      cases hw : w'.heap[a.block]? with
      | none => rfl
      | some o =>
        cases o with
        | cells c e fr =>
          have := h.nf _ c e fr (by omega) hw
          subst this
          simp
        | _ => rfl

/-- A law's run and its call. -/
theorem law_walk {P : Program} {tab : Nat → Option RFunc} (htab : TabOk P [] tab) (hmix : P.follows .mixedOrders = true) {f : Nat} {args : List AV} {H0 : AH} {φ0 : Phi} {w : World} {cargs : Array Value}
    (hH : HRel w.heap.size w φ0 H0 w) (hargs : R2 (AVRel φ0) args cargs.toList) (h : CallP tab noExt f args H0 fun v _ => v = .s (.bool true)) :
    Calls P f cargs w fun e w' => e = .returned (.bool true) ∧ Grown w w' := by
  obtain ⟨n, v, H', h1, rfl⟩ := h
  have hs := run_sound (G := []) (B := w.heap.size) (w0 := w) htab noExt_calls noExt_frame noExt_next hmix n
  refine (hs f args H0 _ H' h1 φ0 w cargs hH (fun _ hn => by cases hn) hargs).2.mono ?_
  rintro e w' ⟨φ', cv, rfl, _, h2, h3⟩
  have : cv = .bool true := h3
  subst this
  exact ⟨rfl, h2.grown⟩

/-- The heap before a law that takes numbers alone. -/
def H00 : AH := ⟨fun _ => none, 0⟩

theorem H00_rel (w : World) : HRel w.heap.size w (fun _ => none) H00 w :=
  { dom := fun _ _ => rfl, lt := fun _ _ => rfl, cells := fun _ _ _ h => (by cases h), maps := fun _ _ h => (by cases h), inj := fun _ _ _ _ h => (by cases h), old := fun _ _ => rfl, bound := Nat.le_refl _, os := rfl, out := rfl,
    nf := fun k c e fr hk h => by rw [Array.getElem?_eq_none hk] at h; cases h }

/- ---- rules ---- -/
section
variable (H : AH)
@[simp] theorem nilCheckA_ptr (a : Nat × Nat) : nilCheckA (.s (.ptr (some a))) = some (.s (.ptr (some a))) := rfl
@[simp] theorem nilCheckA_fn (f : Nat) (c : List (Nat × Nat)) : nilCheckA (.s (.fn f c)) = some (.s (.fn f c)) := rfl
@[simp] theorem fieldAddrA_ptr (off b o : Nat) : fieldAddrA off (.s (.ptr (some (b, o)))) = some (.s (.ptr (some (b, o + off)))) := rfl
@[simp] theorem loadA_one (b o : Nat) : loadA none (.s (.ptr (some (b, o)))) H = (H.ld b o).map .s := rfl
@[simp] theorem loadA_n (n b o : Nat) : loadA (some n) (.s (.ptr (some (b, o)))) H = (H.ldn b o n).map .agg := rfl
@[simp] theorem storeA_s (n b o : Nat) (x : SV) : storeA n (.s (.ptr (some (b, o)))) (.s x) H = if 1 = n then H.stn b o [x] else none := rfl
@[simp] theorem storeA_agg (n b o : Nat) (l : List SV) : storeA n (.s (.ptr (some (b, o)))) (.agg l) H = if l.length = n then H.stn b o l else none := rfl
@[simp] theorem cells_s (x : SV) : AV.cells? (.s x) = some [x] := rfl
@[simp] theorem cells_agg (l : List SV) : AV.cells? (.agg l) = some l := rfl
@[simp] theorem part_s (x : SV) : AV.part? (.s x) = some (.s x) := rfl
@[simp] theorem part_agg (l : List SV) : AV.part? (.agg l) = some (.agg l) := rfl
@[simp] theorem av_s (x : SV) : Part.av (.s x) = .s x := rfl
@[simp] theorem av_agg (l : List SV) : Part.av (.agg l) = .agg l := rfl
@[simp] theorem gd_tup (l : List Part) (b : Bool) : gd (.tup l) b = false := rfl
@[simp] theorem pickA_bool (b : Bool) (x y : AV) : pickA (.s (.bool b)) x y = some (if b then x else y) := by cases b <;> rfl
@[simp] theorem fieldA_agg (m : Option Nat) (off : Nat) (l : List SV) : fieldA m off (.agg l) = partA m l off := rfl
@[simp] theorem partA_none (l : List SV) (off : Nat) : partA none l off = (l[off]?).map .s := rfl
@[simp] theorem partA_some (n : Nat) (l : List SV) (off : Nat) : partA (some n) l off = if off + n ≤ l.length then some (.agg ((l.drop off).take n)) else none := rfl
@[simp] theorem indexSlA_eq (esz b o len cap e : Nat) (k : IntKind) (n : Int) : indexSlA esz (.s (.slice (some (b, o)) len cap e)) (.s (.int k n)) = if 0 ≤ n ∧ n < (len : Int) then some (.s (.ptr (some (b, o + n.toNat * esz)))) else none := rfl
@[simp] theorem indexArrA_eq (len esz b o : Nat) (k : IntKind) (n : Int) : indexArrA len esz (.s (.ptr (some (b, o)))) (.s (.int k n)) = if 0 ≤ n ∧ n < (len : Int) then some (.s (.ptr (some (b, o + n.toNat * esz)))) else none := rfl
@[simp] theorem lenA_slice (a : Option (Nat × Nat)) (n c e : Nat) : lenA (.s (.slice a n c e)) = some (.s (.int .i64 n)) := rfl
@[simp] theorem unA_not (b : Bool) : unA .not (.s (.bool b)) = some (.s (.bool !b)) := rfl
@[simp] theorem unA_neg (k : IntKind) (n : Int) : unA .neg (.s (.int k n)) = some (.s (.int k (k.wrap (0 - n)))) := rfl
@[simp] theorem convA_int (k k' : IntKind) (n : Int) : convA k (.s (.int k' n)) = some (.s (.int k (k.wrap n))) := rfl
@[simp] theorem extractA_tup (i : Nat) (l : List Part) : extractA i (.tup l) = (l[i]?).map Part.av := rfl
@[simp] theorem minmaxA_max (k k' : IntKind) (a b : Int) : minmaxA true (.s (.int k a)) (.s (.int k' b)) = some (.s (.int k (if b > a then b else a))) := rfl
@[simp] theorem minmaxA_min (k k' : IntKind) (a b : Int) : minmaxA false (.s (.int k a)) (.s (.int k' b)) = some (.s (.int k (if b < a then b else a))) := rfl
@[simp] theorem capsA_nil : capsA [] = some [] := rfl
@[simp] theorem capsA_cons (a : Nat × Nat) (l : List AV) : capsA (.s (.ptr (some a)) :: l) = (capsA l).map (a :: ·) := rfl
@[simp] theorem partsA_nil : partsA [] = some [] := rfl
@[simp] theorem partsA_cons (v : AV) (l : List AV) : partsA (v :: l) = (v.part?).bind fun p => (partsA l).map (p :: ·) := rfl
section
variable (k : IntKind) (a b : Int)
@[simp] theorem binA_add : binA .add (.s (.int k a)) (.s (.int k b)) = some (.s (.int k (k.wrap (a + b)))) := by simp [binA, arithA]
@[simp] theorem binA_sub : binA .sub (.s (.int k a)) (.s (.int k b)) = some (.s (.int k (k.wrap (a - b)))) := by simp [binA, arithA]
@[simp] theorem binA_mul : binA .mul (.s (.int k a)) (.s (.int k b)) = some (.s (.int k (k.wrap (a * b)))) := by simp [binA, arithA]
@[simp] theorem binA_quo : binA .quo (.s (.int k a)) (.s (.int k b)) = if b = 0 then none else some (.s (.int k (k.wrap (a.tdiv b)))) := by simp [binA, arithA]; split <;> rfl
@[simp] theorem binA_rem : binA .rem (.s (.int k a)) (.s (.int k b)) = if b = 0 then none else some (.s (.int k (a.tmod b))) := by simp [binA, arithA]; split <;> rfl
@[simp] theorem binA_eql : binA .eql (.s (.int k a)) (.s (.int k b)) = some (.s (.bool (decide (a = b)))) := by simp [binA, arithA]; rfl
@[simp] theorem binA_neq : binA .neq (.s (.int k a)) (.s (.int k b)) = some (.s (.bool (decide (¬ a = b)))) := by simp [binA, arithA]; rfl
@[simp] theorem binA_lss : binA .lss (.s (.int k a)) (.s (.int k b)) = some (.s (.bool (decide (a < b)))) := by simp [binA, arithA]
@[simp] theorem binA_leq : binA .leq (.s (.int k a)) (.s (.int k b)) = some (.s (.bool (decide (a ≤ b)))) := by simp [binA, arithA]
@[simp] theorem binA_gtr : binA .gtr (.s (.int k a)) (.s (.int k b)) = some (.s (.bool (decide (a > b)))) := by simp [binA, arithA]
@[simp] theorem binA_geq : binA .geq (.s (.int k a)) (.s (.int k b)) = some (.s (.bool (decide (a ≥ b)))) := by simp [binA, arithA]
end
@[simp] theorem eqsA_bool (ng a b : Bool) : eqsA .bool ng (.s (.bool a)) (.s (.bool b)) = some (.s (.bool (ng ^^ (a == b)))) := rfl
@[simp] theorem eqsA_ptr_none (ng : Bool) (b : Option (Nat × Nat)) : eqsA .ptr ng (.s (.ptr none)) (.s (.ptr b)) = some (.s (.bool (ng ^^ b.isNone))) := rfl
@[simp] theorem eqsA_ptr_some (ng : Bool) (a : Nat × Nat) : eqsA .ptr ng (.s (.ptr (some a))) (.s (.ptr none)) = some (.s (.bool ng)) := rfl
@[simp] theorem eqsA_sl_none (ng : Bool) (l c e l' c' e' : Nat) (b : Option (Nat × Nat)) : eqsA .slice ng (.s (.slice none l c e)) (.s (.slice b l' c' e')) = some (.s (.bool (ng ^^ b.isNone))) := rfl
@[simp] theorem eqsA_sl_some (ng : Bool) (a : Nat × Nat) (l c e l' c' e' : Nat) : eqsA .slice ng (.s (.slice (some a) l c e)) (.s (.slice none l' c' e')) = some (.s (.bool ng)) := rfl

@[simp] theorem bump_blk (n c : Nat) : (H.bump n).blk c = H.blk c := rfl
@[simp] theorem bump_next (n : Nat) : (H.bump n).next = H.next + n := rfl
@[simp] theorem set_blk (b c : Nat) (x : Blk) : (H.set b x).blk c = if c = b then some x else H.blk c := rfl
@[simp] theorem set_next (b : Nat) (x : Blk) : (H.set b x).next = H.next := rfl
@[simp] theorem bump_ld (n b o : Nat) : (H.bump n).ld b o = H.ld b o := rfl
@[simp] theorem bump_ldn (n b o k : Nat) : (H.bump n).ldn b o k = H.ldn b o k := rfl
theorem ld_of {b o : Nat} {ro : Bool} {l : List SV} (h : H.blk b = some (.cells ro l)) : H.ld b o = l[o]? := by unfold AH.ld; rw [h]
theorem ldn_of {b o n : Nat} {ro : Bool} {l : List SV} (h : H.blk b = some (.cells ro l)) : H.ldn b o n = if o + n ≤ l.length then some ((l.drop o).take n) else none := by unfold AH.ldn; rw [h]
theorem stn_of {b o : Nat} {l vs : List SV} (h : H.blk b = some (.cells false l)) (hl : o + vs.length ≤ l.length) : H.stn b o vs = some (H.set b (.cells false (splice l o vs))) := by unfold AH.stn; rw [h]; simp [hl]
theorem new_of {id : Nat} {x : Blk} (h : H.blk id = none) : H.new id x = some (H.set id x) := by unfold AH.new; rw [h]
@[simp] theorem retK_norm (rs : List RRes) (K : AV → AH → Prop) (T : List AV) : retK rs K .norm T H = andThen (resA rs T H) fun v => K v H := rfl
@[simp] theorem retK_ret (rs : List RRes) (K : AV → AH → Prop) (T : List AV) : retK rs K .ret T H = andThen (resA rs T H) fun v => K v H := rfl
@[simp] theorem seqK_norm (b : List AV → AH → Prop) (K : Ex → List AV → AH → Prop) (T : List AV) : seqK b K .norm T H = b T H := rfl
@[simp] theorem seqK_ret (b : List AV → AH → Prop) (K : Ex → List AV → AH → Prop) (T : List AV) : seqK b K .ret T H = K .ret T H := rfl
@[simp] theorem seqK_out (b : List AV → AH → Prop) (K : Ex → List AV → AH → Prop) (id : Nat) (T : List AV) : seqK b K (.out id) T H = K (.out id) T H := rfl
@[simp] theorem blockK_norm (id : Nat) (K : Ex → List AV → AH → Prop) (T : List AV) : blockK id K .norm T H = K .norm T H := rfl
@[simp] theorem blockK_ret (id : Nat) (K : Ex → List AV → AH → Prop) (T : List AV) : blockK id K .ret T H = K .ret T H := rfl
@[simp] theorem blockK_out (id id' : Nat) (K : Ex → List AV → AH → Prop) (T : List AV) : blockK id K (.out id') T H = if id' = id then K .norm T H else K (.out id') T H := rfl
end

/-- A slot. -/
def sl (T : List AV) (i : Nat) : AV := T.getD i undef

theorem sl_eta {T : List AV} {n : Nat} (h : T.length = n) : T = (List.range n).map fun i => sl T i := by
  apply List.ext_getElem?
  intro i
  by_cases hi : i < n
  · simp [sl, List.getD_eq_getElem?_getD, hi, h]
  · rw [List.getElem?_eq_none (by omega), List.getElem?_eq_none (by simp; omega)]

/-- A number that fits is itself. -/
theorem wrap_i64 {x : Int} (h1 : -9223372036854775808 ≤ x) (h2 : x < 9223372036854775808) : IntKind.i64.wrap x = x := by rw [IntKind.wrap_i64]; omega
theorem wrap_u64 {x : Int} (h1 : 0 ≤ x) (h2 : x < 18446744073709551616) : IntKind.u64.wrap x = x := by
  simp [IntKind.wrap, IntKind.bits, IntKind.signed]; omega

end Go.AM
