/-
  Steps of a printed body by simp, from its head on: what comes behind is not looked into.
-/
import Derived.Test.YtineacililniiaaGreatDoorAmO
namespace Go.AM

section
variable {tab : Nat → Option RFunc} {ext : Nat → List AV → AH → Option (AV × AH)}
@[congr] theorem andThen_congr {α : Type} {o o' : Option α} {K : α → Prop} (h : o = o') : andThen o K = andThen o' K := by rw [h]
@[congr] theorem condP_congr {v v' : AV} {A B : Prop} (h : v = v') : condP v A B = condP v' A B := by rw [h]
@[congr] theorem gP_congr {c c' : Bool} {H : AH} {P : (AV → AH → Prop) → Prop} {K : AV → AH → Prop} (h : c = c') : gP c H P K = gP c' H P K := by rw [h]
@[congr] theorem CallP_congr {f : Nat} {args args' : List AV} {H : AH} {K : AV → AH → Prop} (h : args = args') : CallP tab ext f args H K = CallP tab ext f args' H K := by rw [h]
@[congr] theorem callvP_congr {v v' : AV} {args args' : List AV} {H : AH} {K : AV → AH → Prop} (h' : v = v') (h : args = args') : callvP tab ext v args H K = callvP tab ext v' args' H K := by rw [h, h']
@[congr] theorem loopP_congr {c : RC} {T T' : List AV} {H : AH} {K : Ex → List AV → AH → Prop} (h : T = T') : loopP tab ext c T H K = loopP tab ext c T' H K := by rw [h]
@[congr] theorem wpC_congr {c : RC} {T T' : List AV} {H : AH} {K : Ex → List AV → AH → Prop} (h : T = T') : wpC tab ext c T H K = wpC tab ext c T' H K := by rw [h]
@[simp] theorem gP_true (H : AH) (P : (AV → AH → Prop) → Prop) (K : AV → AH → Prop) : gP true H P K = P K := rfl
@[simp] theorem gP_false (H : AH) (P : (AV → AH → Prop) → Prop) (K : AV → AH → Prop) : gP false H P K = K undef H := rfl
end

@[simp] theorem splice_nil (l : List SV) : splice l 0 [] = l := by simp [splice]
@[simp] theorem splice_cons (x : SV) (l : List SV) (v : SV) (vs : List SV) : splice (x :: l) 0 (v :: vs) = v :: splice l 0 vs := by simp [splice]
@[simp] theorem splice_one (x : SV) (l : List SV) (vs : List SV) : splice (x :: l) 1 vs = x :: splice l 0 vs := by simp [splice, Nat.add_comm]
@[simp] theorem splice_two (x y : SV) (l : List SV) (vs : List SV) : splice (x :: y :: l) 2 vs = x :: y :: splice l 0 vs := by simp [splice, Nat.add_comm]
@[simp] theorem splice_three (x y z : SV) (l : List SV) (vs : List SV) : splice (x :: y :: z :: l) 3 vs = x :: y :: z :: splice l 0 vs := by simp [splice, Nat.add_comm]
@[simp] theorem splice_len (l : List SV) (o : Nat) (vs : List SV) (h : o + vs.length ≤ l.length) : (splice l o vs).length = l.length := by simp [splice]; omega

end Go.AM
