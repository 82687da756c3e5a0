/-
  FROM A LAW IN THE ABSTRACT MACHINE TO ITS STATEMENT's ROW, whatever its arguments are.
-/
import Derived.Test.YtbihokcagceoaaaMg6
import Derived.RowKit3
import Derived.WideKeyArgs
import Derived.ChangeSame
import Derived.Handed
import Derived.Test.YtbihokcagceoaaaMg1
namespace Go.AM
open Go.RowKit Go.ChangeShapes Go.WideShapes

theorem R2_of_all {α β : Type} {R : α → β → Prop} {f : α → β → Bool} (h : ∀ a b, f a b = true → R a b) : ∀ {ya : List α} {bs : List β}, ya.length = bs.length → ((ya.zip bs).all fun p => f p.1 p.2) = true → R2 R ya bs
  | [], [], _, _ => trivial
  | a :: ya, b :: bs, hl, hx => by
    simp only [List.zip_cons_cons, List.all_cons, Bool.and_eq_true] at hx
    exact ⟨h a b hx.1, R2_of_all h (by simpa using hl) hx.2⟩
  | [], _ :: _, hl, _ => by simp at hl
  | _ :: _, [], hl, _ => by simp at hl

theorem trodAll_stays {H : Type} {enc : TypeId × Value → H} {P : Program} (hl : laidOutB P = true) {W W' : World} {sp : Nat → Bool} : ∀ {ts : List TypeId} {vs : List Value} {ds : List (DataW H)} {ps : List MemPlace}, (ts.all fun t => P.readableRec t && decide (t < P.types.size)) = true → DataW.TrodAll enc P W 0 (fun _ => true) true ts vs ds ps → (∀ p ∈ ps, W.sameAt W' p) → (∀ p ∈ ps, sp p.block = true) → DataW.TrodAll enc P W' 0 sp true ts vs ds ps
  | [], vs, ds, ps, _, hA, _, _ => by
    obtain ⟨rfl, rfl, rfl⟩ := trodAll_nil hA
    exact trodAll_mk0
  | t :: ts, vs, ds, ps, hr, hA, hs, hsp => by
    simp only [List.all_cons, Bool.and_eq_true, decide_eq_true_eq] at hr
    obtain ⟨v, vs, d, ds, p, q, rfl, rfl, rfl, h0, h1⟩ := trodAll_cons hA
    exact trodAll_cons_mk (WideElems.Trod_stays hl hr.1.1 hr.1.2 h0 (fun x hx => hs x (by simp [hx])) fun x hx => hsp x (by simp [hx])) (trodAll_stays hl hr.2 h1 (fun x hx => hs x (by simp [hx])) fun x hx => hsp x (by simp [hx]))

/-- A law's run and its call; what was, is. -/
theorem law_walk2 {P : Program} {tab : Nat → Option RFunc} (htab : TabOk P [] tab) (hmix : P.follows .mixedOrders = true) {f : Nat} {args : List AV} {H0 : AH} {φ0 : Phi} {w : World} {cargs : Array Value}
    (hH : HRel w.heap.size w φ0 H0 w) (hargs : R2 (AVRel φ0) args cargs.toList) (h : CallP tab noExt f args H0 fun v _ => v = .s (.bool true)) :
    Calls P f cargs w fun e w' => e = .returned (.bool true) ∧ Grown w w' ∧ ∀ k, k < w.heap.size → w'.heap[k]? = w.heap[k]? := by
  obtain ⟨n, v, H', h1, rfl⟩ := h
  have hs := run_sound (G := []) (B := w.heap.size) (w0 := w) htab noExt_calls noExt_frame noExt_next hmix n
  refine (hs f args H0 _ H' h1 φ0 w cargs hH (fun _ hn => by cases hn) hargs).2.mono ?_
  rintro e w' ⟨φ', cv, rfl, _, h2, h3⟩
  have : cv = .bool true := h3
  subst this
  exact ⟨rfl, h2.grown, h2.old⟩

theorem lit_bounds {k : IntKind} {n : Int} (h : (Lit.int k n).wf = true) : k.min ≤ n ∧ n ≤ k.max := by
  simpa [Lit.wf] using h

section
variable {C : Checked} {tab : Nat → Option RFunc} {f : FuncId} {fn : Func} {s : ChangeSpec}

/-- The row's step. -/
theorem law_lifted (tys : List Ty) (N : Nat) (bt : TypeId)
    (own : ownKnob C.prog.godebug = none) (htab : TabOk C.prog [] tab) (hmix : C.prog.follows .mixedOrders = true) (hlaid : laidOutB C.prog = true)
    (noInit : C.prog.inits.idxOf? f = none) (hfn : C.prog.funcs[f]? = some fn)
    (hread : (fn.params.toList.all fun t => C.prog.readableRec t && decide (t < C.prog.types.size)) = true)
    (hlen : tys.length = fn.params.toList.length) (hfit : ((tys.zip fn.params.toList).all fun p => fits C.prog p.1 p.2) = true)
    (hN : (tys.all Ty.good && decide ((tys.map Ty.cnt).sum ≤ N)) = true)
    (hres : fn.resultTypes = #[bt]) (hbt : C.prog.underlying bt = some .bool)
    (hvars : s.vars = []) (hspec : ∀ (H : Type) (ds : List (DataW H)), ds.length = tys.length → s.fn H ds = { results := [.lit (.bool true)], args := ds })
    (walk : ∀ H avs, WF H → H.next = N → ArgsAt H.blk tys avs → CallP tab noExt f avs H fun v _ => v = .s (.bool true))
    (os : Os) (started : os.Started) (H : Type) (enc : TypeId × Value → H)
    (witness : ∃ (w : World) (tape : Tape) (i : Input), w.os = os ∧ (w.forCall tape i).Shaped C.prog ∧ i.vars = [] ∧ Input.okWide C.prog (w.forCall tape i) .any w.heap.size f i ∧
      s.pre6 enc C.prog fn [] false (w.forCall tape i).memory i.args ∧ ({} : Assume).holds C.prog (lone (Frame.enter C.prog f i.args .normal) [] (w.forCall tape i))) :
    ReturnsInHanded {} C os f .any (s.pre6 enc C.prog fn [] false) (s.post enc C.prog fn false true false false) := by
  refine returnsInHanded_of_change (C := C) own started noInit hfn witness ?_
  intro W base args ds gs before hval hW hcnd _
  have hW' := hW
  obtain ⟨p, q, hA, hV, rfl, hfz, hnd⟩ := hW
  rw [hvars] at hV
  obtain ⟨rfl, rfl⟩ := trodVars_none hV
  simp only [List.append_nil] at hW' hfz hnd
  have hfit' : R2 (fun ty t => fits C.prog ty t = true) tys fn.params.toList := R2_of_all (fun _ _ h => h) hlen hfit
  obtain ⟨M, avs, h1, h2, h3, h4⟩ := opens_args (L := []) hfit' (fun j t v ht hv => hval j t v (by simpa using ht) (by simpa using hv)) hA (fun e he => by cases he)
  simp only [List.nil_append] at h1 h2 h3
  simp only [Bool.and_eq_true, decide_eq_true_eq] at hN
  have hML : M.length ≤ N := Nat.le_trans (h4 hN.1) hN.2
  have hrel := roH_rel h1
  have hrel' : HRel W.heap.size W (roPhi M) ⟨roF M, N⟩ W := { hrel with lt := fun b hb => hrel.lt b (Nat.le_trans hML hb) }
  have hwf : WF ⟨roF M, N⟩ := fun b hb => hrel.lt b (Nat.le_trans hML hb)
  have hdl : ds.length = tys.length := by
    have key : ∀ {ts : List TypeId} {vs : List Value} {ds : List (DataW H)} {ps : List MemPlace}, DataW.TrodAll enc C.prog W 0 (fun _ => true) true ts vs ds ps → ds.length = ts.length := by
      intro ts
      induction ts with
      | nil => intro vs ds ps h; obtain ⟨_, rfl, _⟩ := trodAll_nil h; rfl
      | cons t ts ih => intro vs ds ps h; obtain ⟨v, vs, d, ds, p, q, rfl, rfl, rfl, _, hr⟩ := trodAll_cons h; simp [ih hr]
    rw [key hA, hlen]
  have hsp : s.fn H (ds ++ []) = { results := [.lit (.bool true)], args := ds } := by rw [List.append_nil]; exact hspec H ds hdl
  refine (law_walk2 htab hmix hrel' h2 (walk _ avs hwf rfl h3)).mono fun e W' ⟨he, hg, hold⟩ => ?_
  subst he
  have hlt : ∀ x ∈ p, x.block < W.heap.size := fun x hx => hW'.lt x hx
  have hsame : ∀ x ∈ p, W.sameAt W' x := fun x hx => by
    cases x with
    | cell b o => exact World.cell?_of_block (w := W) (hold b (hlt _ hx))
    | map b => exact hold b (hlt _ hx)
  refine ⟨_, rfl, post_of_same (pa := p) (pv := []) hW' (fun b sp hd => ?_) (fun sp hsp' => ?_) (fun _ _ => ?_) (by simp) (hg.frame _) hg.2.1 (ok_one hres rfl (okWide_bool_mk hbt _))⟩
  · rw [hsp, hres]
    exact trodAll_cons_mk (shut_bool hbt _) trodAll_mk0
  · rw [hsp]
    exact trodAll_stays hlaid hread hA hsame hsp'
  · rw [hvars, hsp]
    rfl
end

end Go.AM

/-
  The law ClockRounds, in the abstract machine.
-/
namespace Go.AM
attribute [local simp] AH.ld AH.ldn AH.stn AH.new Nat.add_assoc resA resA1 fillA buildA slSlA boundsA boundA callvP

theorem CallP_eval {f : Nat} {args : List AV} {H : AH} {v : AV} (n : Nat) (h : (run tab noExt n f args H).map (fun x => x.1) = some v) : CallP tab noExt f args H fun v' _ => v' = v := by
  cases hr : run tab noExt n f args H with
  | none => rw [hr] at h; cases h
  | some x => rw [hr] at h; exact ⟨n, x.1, x.2, hr, by simpa using h⟩

theorem lit_i64 {a : Int} (h : (Lit.int .i64 a).wf = true) : -9223372036854775808 ≤ a ∧ a < 9223372036854775808 := by
  simp [Lit.wf, IntKind.min, IntKind.max, IntKind.bits, IntKind.signed] at h
  omega

theorem lit_u16 {a : Int} (h : (Lit.int .u16 a).wf = true) : 0 ≤ a ∧ a < 65536 := by
  simp [Lit.wf, IntKind.min, IntKind.max, IntKind.bits, IntKind.signed] at h
  omega

theorem WF_H00 : WF H00 := fun _ _ => rfl

theorem toL_nil (x : Int) : toL [] x = [] := rfl

end Go.AM

/-
  The law TimerFull, in the abstract machine.
-/
namespace Go.AM
attribute [local simp] AH.ld AH.ldn AH.stn AH.new Nat.add_assoc resA resA1 fillA buildA slSlA boundsA boundA callvP

theorem takeWhile_all {α : Type} (p : α → Bool) : ∀ (l : List α), (∀ x ∈ l, p x = true) → l.takeWhile p = l
  | [], _ => rfl
  | x :: l, h => by rw [List.takeWhile_cons, if_pos (h x (by simp)), takeWhile_all p l fun y hy => h y (by simp [hy])]
theorem dropWhile_all {α : Type} (p : α → Bool) : ∀ (l : List α), (∀ x ∈ l, p x = true) → l.dropWhile p = []
  | [], _ => rfl
  | x :: l, h => by rw [List.dropWhile_cons, if_pos (h x (by simp)), dropWhile_all p l fun y hy => h y (by simp [hy])]

/-- So many entries of one time. -/
def sameL (a : Int) (n : Nat) : List Ent := (List.range n).map fun (i : Nat) => ⟨a, (i : Int) + 1, (i : Int)⟩

theorem sameL_len (a : Int) (n : Nat) : (sameL a n).length = n := by simp [sameL]

theorem sameL_ins (a : Int) (n : Nat) : insE ⟨a, (n : Int) + 1, n⟩ (sameL a n) = sameL a (n + 1) := by
  have h : ∀ x ∈ sameL a n, aheadB x ⟨a, (n : Int) + 1, n⟩ = true := by
    intro x hx
    simp only [sameL, List.mem_map, List.mem_range] at hx
    obtain ⟨i, hi, rfl⟩ := hx
    rw [ahead_iff]; simp; omega
  unfold insE
  rw [takeWhile_all _ _ h, dropWhile_all _ _ h]
  simp [sameL, List.range_succ]

theorem sameL_due (a : Int) (n : Nat) : dueL (sameL a n) a = sameL a n := by
  unfold dueL
  refine takeWhile_all _ _ ?_
  intro x hx
  simp only [sameL, List.mem_map, List.mem_range] at hx
  obtain ⟨i, hi, rfl⟩ := hx
  simp

theorem sameL_to (a : Int) (n : Nat) : toL (sameL a n) a = [] := by
  unfold toL
  refine dropWhile_all _ _ ?_
  intro x hx
  simp only [sameL, List.mem_map, List.mem_range] at hx
  obtain ⟨i, hi, rfl⟩ := hx
  simp

theorem sameL_due_no (a b : Int) (n : Nat) (h : b < a) : dueL (sameL a n) b = [] ∧ toL (sameL a n) b = sameL a n := by
  cases n with
  | zero => exact ⟨rfl, rfl⟩
  | succ n =>
    have : sameL a (n + 1) = ⟨a, 1, 0⟩ :: ((List.range n).map Nat.succ).map fun (i : Nat) => ⟨a, (i : Int) + 1, i⟩ := by simp [sameL, List.range_succ_eq_map]
    have hb : ¬ a ≤ b := by omega
    constructor
    · rw [this]; simp [dueL, hb]
    · rw [this]; simp [toL, hb]

theorem sameL_arg (a : Int) (n : Nat) : (sameL a n).map Ent.arg = (List.range n).map fun (i : Nat) => (i : Int) := by simp [sameL]

end Go.AM

/-
  What laws begin with: the arguments, the known case; what an argument tells.
-/
namespace Go.AM
attribute [local simp] AH.ld AH.ldn AH.stn AH.new Nat.add_assoc resA resA1 fillA buildA slSlA boundsA boundA callvP

/-- A call at the law's own heap. -/
theorem CallP.start {ρ : HF} {f : Nat} {args : List AV} {H : AH} (hw : WF H) (hr : RoOf ρ H) {K K' : AV → AH → Prop} (h : CallP tab noExt f args H K) (hk : ∀ v H', Sat ρ H' [] → K v H' → K' v H') : CallP tab noExt f args H K' :=
  (h.mono_wf tab_wf noExt_wf noExt_next hw (K' := fun v H' => WF H' ∧ K v H') fun _ _ a _ c => ⟨a, c⟩).mono_ro noExt_ro hr fun v H' hro ⟨a, c⟩ => hk v H' (.nil a hro) c

/-- A closed run, whatever lies below. -/
theorem CallP_evalAt {f : Nat} {args : List AV} {v : AV} (n m : Nat) (h : ∀ g : HF, (run tab noExt n f args ⟨fun b => if b < m then g b else none, m⟩).map (fun x => x.1) = some v) {H : AH} (hw : WF H) (hn : H.next = m) : CallP tab noExt f args H fun v' _ => v' = v := by
  have e : H = ⟨fun b => if b < m then H.blk b else none, m⟩ := by
    obtain ⟨g, k⟩ := H
    simp only at hn
    subst hn
    congr 1
    funext b
    split
    · rfl
    · rename_i hb; exact hw b (by simp at hb; exact hb)
  rw [e]
  exact CallP_eval n (h _)

theorem ArgsAt.cons_inv {f : HF} {t : Ty} {ts : List Ty} {l : List AV} (h : ArgsAt f (t :: ts) l) : ∃ x v vs, l = v :: vs ∧ AvAt f t x v ∧ ArgsAt f ts vs := by
  cases h with | cons h1 h2 => exact ⟨_, _, _, rfl, h1, h2⟩
theorem ArgsAt.nil_inv {f : HF} {l : List AV} (h : ArgsAt f [] l) : l = [] := by cases h; rfl

/-- A slice of numbers. -/
abbrev RoI (ρ : HF) (k : IntKind) (s : SV) (xs : List Int) : Prop := At ρ (.slice (.int k)) xs [s]

theorem ArgsAt.int {f : HF} {k : IntKind} {ts : List Ty} {l : List AV} (h : ArgsAt f (.int k :: ts) l) : ∃ (x : Int) (vs : List AV), l = .s (.int k x) :: vs ∧ (Lit.int k x).wf = true ∧ ArgsAt f ts vs := by
  cases h with | cons h1 h2 => exact ⟨_, _, by rw [h1.1], h1.2, h2⟩
theorem ArgsAt.bool {f : HF} {ts : List Ty} {l : List AV} (h : ArgsAt f (.bool :: ts) l) : ∃ (x : Bool) (vs : List AV), l = .s (.bool x) :: vs ∧ ArgsAt f ts vs := by
  cases h with | cons h1 h2 => exact ⟨_, _, by rw [show _ = _ from h1], h2⟩
theorem ArgsAt.ints {f : HF} {k : IntKind} {ts : List Ty} {l : List AV} (h : ArgsAt f (.slice (.int k) :: ts) l) : ∃ (xs : List Int) (s : SV) (vs : List AV), l = .s s :: vs ∧ RoI f k s xs ∧ ArgsAt f ts vs := by
  cases h with | cons h1 h2 => obtain ⟨s, rfl, h⟩ := h1; exact ⟨_, s, _, rfl, h, h2⟩

section
variable {ρ : HF} {k : IntKind} {s : SV} {xs : List Int}

theorem RoI.len (h : RoI ρ k s xs) : lenA (.s s) = some (i64 xs.length) := by
  obtain ⟨s', h1, h2⟩ := h
  cases h1
  rcases h2 with ⟨o, rfl, rfl⟩ | ⟨b, c, j, ls, rfl, _⟩ <;> rfl

theorem flat1 {f : HF} : ∀ {xs : List Int} {ls : List (List SV)}, R2 (At f (.int k)) xs ls → ls.flatten = xs.map fun n => SV.int k n
  | [], [], _ => rfl
  | _ :: _, _ :: _, h => by
    have h1 := h.1.1
    subst h1
    simp [flat1 h.2]

theorem RoI.get (h : RoI ρ k s xs) {H : AH} (hr : RoOf ρ H) {i : Nat} (hi : i < xs.length) : ∃ b c l, s = .slice (some (b, 0)) xs.length c 1 ∧ H.blk b = some (.cells true l) ∧ l[i]? = some (.int k (xs.getD i 0)) ∧ (Lit.int k (xs.getD i 0)).wf = true := by
  rw [List.getD_eq_getElem?_getD, List.getElem?_eq_getElem hi]
  simp only [Option.getD_some]
  obtain ⟨s', h1, h2⟩ := h
  cases h1
  rcases h2 with ⟨o, rfl, rfl⟩ | ⟨b, c, j, ls, rfl, hb, h3, h4, h5⟩
  · simp at hi
  · refine ⟨b, c, _, rfl, hr b _ hb, ?_, ?_⟩
    · rw [flat1 h5, List.getElem?_append_left (by simpa using hi)]
      simp [hi]
    · obtain ⟨l, _, hx⟩ := h5.get i xs[i] (List.getElem?_eq_getElem hi)
      exact hx.2
end

theorem RoI.gets {ρ : HF} {k : IntKind} {s : SV} {xs : List Int} (h : RoI ρ k s xs) {i : Nat} (hi : i < xs.length) : ∃ b c l, s = .slice (some (b, 0)) xs.length c 1 ∧ ρ b = some (.cells true l) ∧ l[i]? = some (.int k (xs.getD i 0)) ∧ (Lit.int k (xs.getD i 0)).wf = true :=
  h.get (H := ⟨ρ, 0⟩) (fun _ _ h => h) hi

theorem dueL_one_yes {e : Ent} {now : Int} (h : e.at_ ≤ now) : dueL [e] now = [e] ∧ toL [e] now = [] := by simp [dueL, toL, h]
theorem dueL_one_no {e : Ent} {now : Int} (h : ¬ e.at_ ≤ now) : dueL [e] now = [] ∧ toL [e] now = [e] := by simp [dueL, toL, h]

end Go.AM

/-
  Elements of slices that are arguments.
-/
namespace Go.AM

theorem R2_flat_get {α : Type} {R : α → List SV → Prop} {k : Nat} (hk : ∀ x l, R x l → l.length = k) : ∀ {xs : List α} {ls : List (List SV)} (j : List SV), R2 R xs ls → ∀ {i : Nat}, i < xs.length → ∃ x li, xs[i]? = some x ∧ R x li ∧ ((ls.flatten ++ j).drop (i * k)).take k = li ∧ i * k + k ≤ (ls.flatten ++ j).length
  | [], _, _, _, i, hi => by simp at hi
  | x :: xs, l :: ls, j, h, 0, _ => by
    have hl := hk _ _ h.1
    refine ⟨x, l, rfl, h.1, ?_, ?_⟩
    · rw [Nat.zero_mul, List.drop_zero, List.flatten_cons, List.append_assoc, ← hl, List.take_left]
    · simp [List.flatten_cons, hl]
  | x :: xs, l :: ls, j, h, i + 1, hi => by
    have hl := hk _ _ h.1
    obtain ⟨y, li, h1, h2, h3, h4⟩ := R2_flat_get hk j h.2 (i := i) (by simpa using hi)
    refine ⟨y, li, by simpa using h1, h2, ?_, ?_⟩
    · rw [← h3, Nat.add_mul, Nat.one_mul, Nat.add_comm (i * k) k, ← List.drop_drop, List.flatten_cons, List.append_assoc]
      congr 1
      conv => lhs; rw [← hl, List.drop_left]
      rw [hl]
    · simp only [List.flatten_cons, List.length_append, hl] at h4 ⊢
      rw [Nat.add_mul]; omega
  | _ :: _, [], _, h, _, _ => h.elim

section
variable {ρ : HF} {a : Ty} {xs : List a.den} {s : SV}

theorem At.slLen (h : At ρ (.slice a) xs [s]) : lenA (.s s) = some (i64 xs.length) := by
  obtain ⟨s', h1, h2⟩ := h
  cases h1
  rcases h2 with ⟨o, rfl, rfl⟩ | ⟨b, c, j, ls, rfl, _⟩ <;> rfl

theorem At.slGet (h : At ρ (.slice a) xs [s]) {i : Nat} (hi : i < xs.length) : ∃ b c l x li, s = .slice (some (b, 0)) xs.length c a.size ∧ ρ b = some (.cells true l) ∧ xs[i]? = some x ∧ At ρ a x li ∧ (l.drop (i * a.size)).take a.size = li ∧ i * a.size + a.size ≤ l.length := by
  obtain ⟨s', h1, h2⟩ := h
  cases h1
  rcases h2 with ⟨o, rfl, rfl⟩ | ⟨b, c, j, ls, rfl, hb, h3, h4, h5⟩
  · simp at hi
  · obtain ⟨x, li, k1, k2, k3, k4⟩ := R2_flat_get (fun _ _ h => At.len h) j h5 hi
    exact ⟨b, c, _, x, li, rfl, hb, k1, k2, k3, k4⟩
end

theorem ArgsAt.slice {f : HF} {a : Ty} {ts : List Ty} {l : List AV} (h : ArgsAt f (.slice a :: ts) l) : ∃ (xs : List a.den) (s : SV) (vs : List AV), l = .s s :: vs ∧ At f (.slice a) xs [s] ∧ ArgsAt f ts vs := by
  cases h with | cons h1 h2 => obtain ⟨s, rfl, h⟩ := h1; exact ⟨_, s, _, rfl, h, h2⟩

theorem ArgsAt.nil' {f : HF} {l : List AV} (h : ArgsAt f [] l) : l = [] := by cases h; rfl

theorem ArgsAt.int' {f : HF} {k : IntKind} {ts : List Ty} {l : List AV} (h : ArgsAt f (.int k :: ts) l) : ∃ (x : Int) (vs : List AV), l = .s (.int k x) :: vs ∧ (Lit.int k x).wf = true ∧ ArgsAt f ts vs := by
  cases h with | cons h1 h2 => obtain ⟨rfl, h⟩ := h1; exact ⟨_, _, rfl, h, h2⟩

end Go.AM

/-
  The law HandCycles, in the abstract machine.
-/
set_option maxRecDepth 10000
namespace Go.AM
attribute [local simp] Nat.add_assoc resA resA1 fillA buildA callvP

theorem known20_at {m : Nat} {H : AH} (hw : WF H) (hn : H.next = m) (h : ∀ g : HF, (run tab noExt 60 F.detentlaw20_known [] ⟨fun b => if b < m then g b else none, m⟩).map (fun x => x.1) = some (bl true)) : CallP tab noExt F.detentlaw20_known [] H fun v _ => v = bl true :=
  CallP_evalAt 60 m h hw hn

section
variable {ρ : HF}

/-- What is fired of one alone is looked at. -/
theorem hc_l0 (c : Cyc) (hc : (0 ≤ c.next ∧ c.next < 4398046511104) ∧ (1 ≤ c.period ∧ c.period < 4294967296)) (up : Int) (hu : 0 ≤ up ∧ up < 68719476736) (Rs : List Asr) (T : List AV) (H : AH) (hT : T.length = 121) (A0 A3 A9 A12 : AV) (t0 : sl T 0 = A0) (t1 : sl T 1 = i64 c.period) (t3 : sl T 3 = A3) (t9 : sl T 9 = A9) (t11 : sl T 11 = u64 c.next) (t12 : sl T 12 = A12) (so : SV) (t13 : sl T 13 = .s so) (t15 : sl T 15 = u64 up) (t16 : sl T 16 = i64 (0 : Nat))
    (hs : Sat ρ H (Row encF 3 so (firesC c 0 (firesN c up)) :: Rs)) (K : Ex → List AV → AH → Prop)
    (hk : ∀ (T' : List AV) (H' : AH), T'.length = 121 → sl T' 0 = A0 → sl T' 1 = i64 c.period → sl T' 3 = A3 → sl T' 9 = A9 → sl T' 11 = u64 (cycT up c).next → sl T' 12 = A12 → sl T' 15 = u64 up → Sat ρ H' Rs → K (.out 2) T' H') :
    loopP tab noExt R.detentlaw20_HandCycles_l0 T H K := by
  refine loopP_invK (I := fun k T H' => T.length = 121 ∧ sl T 0 = A0 ∧ sl T 1 = i64 c.period ∧ sl T 3 = A3 ∧ sl T 9 = A9 ∧ sl T 12 = A12 ∧ sl T 13 = .s so ∧ sl T 15 = u64 up ∧ ∃ j : Nat, sl T 11 = u64 (c.next + j * c.period) ∧ sl T 16 = i64 j ∧ j ≤ firesN c up ∧ k = firesN c up - j ∧ Sat ρ H' (Row encF 3 so (firesC c 0 (firesN c up)) :: Rs)) ?_ (firesN c up) _ _ ⟨hT, t0, t1, t3, t9, t12, t13, t15, 0, by rw [t11]; simp, t16, Nat.zero_le _, rfl, hs⟩
  rintro k T H' ⟨hT, t0, t1, t3, t9, t12, t13, t15, j, t11, t16, hj, hk', hs⟩ K' kn kr ko
  rw [detentlaw20_HandCycles_l0_at hT]
  have hl := Sat.rowLen hs
  rw [firesC_len] at hl
  by_cases hlt : j < firesN c up
  · have hx := firesC_get (c := c) (i := 0) hlt
    have h1 := (firesN_more (up := up) hc.2.1 j hj).2 hlt
    have h0 : 0 ≤ (j : Int) * c.period := Int.mul_nonneg (by omega) (by omega)
    obtain ⟨b, cp, jk, hsl, hb, h2, h3⟩ := Sat.rowBlk hs (by rw [firesC_len]; omega)
    rw [firesC_len] at hsl
    subst hsl
    have q0 := rdCell encF_len hb hx 0 (by omega)
    have q1 := rdCell encF_len hb hx 1 (by omega)
    have q2 := rdCell encF_len hb hx 2 (by omega)
    simp [encF] at q0 q1 q2
    have hix := ixEl (b := b) (c := cp) (k := 3) hlt
    have hle : c.next + j * c.period ≤ up := h1.2
    have hle' : ¬ c.next + j * c.period > up := by omega
    have hlt' : (j : Int) < (firesN c up : Int) := by omega
    have w1 : IntKind.u64.wrap c.period = c.period := wrap_u64 (by omega) (by omega)
    have w2 : IntKind.u64.wrap (c.next + j * c.period + c.period) = c.next + (j + 1 : Nat) * c.period := by
      rw [wrap_u64 (by omega) (by omega)]
      push_cast
      rw [Int.add_mul, Int.one_mul]; omega
    have w3 := wrapP1 j (by
      have := firesN_le (c := c) (up := up) hc.2.1 hc.1.1 hu.1
      omega)
    generalize hv : c.next + (j : Int) * c.period = vv at *
    simp only [t0, t1, t3, t9, t11, t12, t13, t15, t16, hl, andThen_some, binA_lss, condP_bool]
    rw [decide_eq_true hlt']
    simp only [if_true, hix, andThen_some]
    simp [q0, q1, q2, hle', w1, w2, w3, hix]
    refine kn (firesN c up - (j + 1)) _ _ (by omega) ⟨rfl, rfl, rfl, rfl, rfl, rfl, rfl, rfl, j + 1, ?_, rfl, hlt, rfl, by (repeat refine Sat.bump ?_ _); exact hs⟩
    show u64 _ = u64 _
    push_cast
    rfl
  · have hje : j = firesN c up := by omega
    subst hje
    simp only [t0, t1, t3, t9, t11, t12, t13, t15, t16, hl, andThen_some, binA_lss, condP_bool]
    rw [decide_eq_false (by omega)]
    simp only [Bool.false_eq_true, if_false]
    exact ko _ _ _ (hk _ _ rfl rfl rfl rfl rfl rfl rfl rfl (hs.drop.bump _))

theorem hc_s1 (up nxt : Int) (h : up < nxt) (T : List AV) (H : AH) (hT : T.length = 121) (t11 : sl T 11 = u64 nxt) (t15 : sl T 15 = u64 up) (K : Ex → List AV → AH → Prop) (hk : ∀ T' : List AV, T'.length = 121 → (∀ i, i ≤ 16 → sl T' i = sl T i) → K .norm T' (H.bump 3)) : wpC tab noExt R.detentlaw20_HandCycles_s1 T H K := by
  rw [detentlaw20_HandCycles_s1_at hT]
  have : ¬ nxt ≤ up := by omega
  simp [t11, t15, this]
  refine hk _ rfl fun i hi => ?_
  match i, hi with
  | 0, _ | 1, _ | 2, _ | 3, _ | 4, _ | 5, _ | 6, _ | 7, _ | 8, _ | 9, _ | 10, _ | 12, _ | 13, _ | 14, _ | 16, _ => rfl
  | 11, _ => exact t11.symm
  | 15, _ => exact t15.symm
  | n + 17, h => omega

theorem hc_s2 (i : Nat) (hi : i < 1000) (T : List AV) (H : AH) (hT : T.length = 121) (A0 A1 A3 A9 A11 : AV) (t0 : sl T 0 = A0) (t1 : sl T 1 = A1) (t3 : sl T 3 = A3) (t9 : sl T 9 = A9) (t11 : sl T 11 = A11) (t12 : sl T 12 = i64 i) (K : Ex → List AV → AH → Prop) (hk : ∀ T' : List AV, T'.length = 121 → sl T' 0 = A0 → sl T' 1 = A1 → sl T' 3 = A3 → sl T' 9 = A9 → sl T' 11 = A11 → sl T' 12 = i64 (i + 1 : Nat) → K .norm T' (H.bump 3)) : wpC tab noExt R.detentlaw20_HandCycles_s2 T H K := by
  rw [detentlaw20_HandCycles_s2_at hT]
  have w := wrapP1 i (by omega)
  simp only [t0, t1, t3, t9, t11, t12, andThen_some, binA_add, w]
  exact hk _ rfl rfl rfl rfl rfl rfl rfl

theorem one_gen (c : Cyc) (up : Int) : genF [c] [] up = firesC c 0 (firesN c up) := by simp [genF, genC, genA]

theorem hc_l3 (h : Nat) (tic period phase ticks : Int) (ht : 1 ≤ tic ∧ tic ≤ 100) (hp : 1 ≤ period ∧ period ≤ 1000) (hph : 0 ≤ phase ∧ phase ≤ 1000) (hti : 0 ≤ ticks ∧ ticks ≤ 100) (Rs : List Asr) (T : List AV) (H : AH) (hT : T.length = 121) (t0 : sl T 0 = i64 tic) (t1 : sl T 1 = i64 period) (t3 : sl T 3 = i64 ticks) (t9 : sl T 9 = ptr h) (t11 : sl T 11 = u64 phase) (t12 : sl T 12 = i64 (1 : Nat))
    (hs : Sat ρ H (HdA h [⟨phase, phase, period, true, true⟩] [] [] 0 tic 0 0 :: Rs)) (K : Ex → List AV → AH → Prop) (hk : ∀ (T' : List AV) (H' : AH), T'.length = 121 → K (.out 0) T' H') :
    loopP tab noExt R.detentlaw20_HandCycles_l3 T H K := by
  refine loopP_invK (I := fun k T H' => T.length = 121 ∧ sl T 0 = i64 tic ∧ sl T 1 = i64 period ∧ sl T 3 = i64 ticks ∧ sl T 9 = ptr h ∧ ∃ (n : Nat) (c : Cyc) (Rs : List Asr), (n : Int) ≤ ticks ∧ c.on = true ∧ c.period = period ∧ c.first = phase ∧ (0 ≤ c.next ∧ c.next ≤ n * tic + 2000) ∧ k = 101 - n ∧ sl T 11 = u64 c.next ∧ sl T 12 = i64 (n + 1 : Nat) ∧ Sat ρ H' (HdA h [c] [] [] 0 tic (n * tic) 0 :: Rs)) ?_ 101 _ _ ⟨hT, t0, t1, t3, t9, 0, ⟨phase, phase, period, true, true⟩, Rs, by omega, rfl, rfl, rfl, ⟨hph.1, by simp; omega⟩, rfl, t11, t12, by simpa using hs⟩
  rintro k T H' ⟨hT, t0, t1, t3, t9, n, c, Rs, hn, hon, hcp, hcf, hcn, hk', t11, t12, hs⟩ K' kn kr ko
  rw [detentlaw20_HandCycles_l3_at hT]
  have hb : (n : Int) * tic ≤ 100 * tic := Int.mul_le_mul_of_nonneg_right (by omega) (by omega)
  have hb0 : 0 ≤ (n : Int) * tic := Int.mul_nonneg (by omega) (by omega)
  simp only [t0, t1, t3, t9, t11, t12, andThen_some, binA_leq, condP_bool]
  by_cases hlt : ((n + 1 : Nat) : Int) ≤ ticks
  · rw [decide_eq_true hlt]
    simp only [if_true]
    have hok : HdOk [c] [] (n * tic) := ⟨hb0, by omega, by simp, by simp, by
      intro x hx
      simp at hx; subst hx
      exact ⟨by omega, by omega, by omega⟩, by simp⟩
    refine (Pass_tri h [c] [] [] 0 tic (n * tic) 0 hok ⟨by omega, by omega⟩ (by omega)).use ((hs.bump _).bump _) ?_
    rintro v H2 P' ⟨so, sa, z, rfl, hz, hzp, rfl⟩ hs2
    have hup : (n : Int) * tic + tic = ((n + 1 : Nat) : Int) * tic := by push_cast; rw [Int.add_mul, Int.one_mul]
    rw [hup] at hs2 hzp
    rw [one_gen] at hzp
    have hze : z = firesC c 0 (firesN c (((n + 1 : Nat) : Int) * tic)) := srtL_uniq ltF_tot hz (firesC_srt (by omega) _) hzp
    subst hze
    have hcy := cycT_next (c := c) (up := ((n + 1 : Nat) : Int) * tic) (by omega)
    have hb2 : ((n + 1 : Nat) : Int) * tic ≤ 100 * tic := Int.mul_le_mul_of_nonneg_right (by omega) (by omega)
    have hb1 : 0 ≤ ((n + 1 : Nat) : Int) * tic ∧ ((n + 1 : Nat) : Int) * tic ≤ 10000 := by omega
    simp only [extractA_tup, List.getElem?_cons_zero, List.getElem?_cons_succ, Option.map_some, Part.av, andThen_some, binA_mul]
    have hmx : max c.next (((n + 1 : Nat) : Int) * tic + c.period) ≤ ((n + 1 : Nat) : Int) * tic + 2000 := Int.max_le.2 ⟨by omega, by omega⟩
    generalize hupd : ((n + 1 : Nat) : Int) * tic = up at *
    have w1 : IntKind.i64.wrap up = up := wrap_i64 (by omega) (by omega)
    have w2 : IntKind.u64.wrap up = up := wrap_u64 (by omega) (by omega)
    simp only [andThen_some, w1, convA_int, w2]
    refine hc_l0 c ⟨⟨hcn.1, by omega⟩, by omega, by omega⟩ up ⟨hb1.1, by omega⟩ _ _ _ rfl (i64 tic) (i64 ticks) (ptr h) (i64 (n + 1 : Nat)) rfl (by rw [hcp]; rfl) rfl rfl rfl rfl so rfl rfl rfl ((Sat.bump hs2 5).bump 1) _ ?_
    intro T' H3 hT' u0 u1 u3 u9 u11 u12 u15 hs3
    simp
    refine hc_s1 up _ (hcy.2.2 hon) T' H3 hT' u11 u15 _ ?_
    intro T4 hT4 hT4s
    simp
    refine hc_s2 (n + 1) (by omega) T4 _ hT4 _ _ _ _ _ ((hT4s 0 (by omega)).trans u0) ((hT4s 1 (by omega)).trans u1) ((hT4s 3 (by omega)).trans u3) ((hT4s 9 (by omega)).trans u9) ((hT4s 11 (by omega)).trans u11) ((hT4s 12 (by omega)).trans u12) _ ?_
    intro T5 hT5 x0 x1 x3 x9 x11 x12
    refine kn (101 - (n + 1)) _ _ (by omega) ⟨hT5, x0, by rw [x1, hcp], x3, x9, n + 1, cycT up c, Rs, by omega, hon, hcp, hcf, ⟨by omega, by omega⟩, rfl, x11, x12, ?_⟩
    have hs4 : Sat ρ H3 (HdA h [cycT up c] [] [] 0 tic up 0 :: Rs) := hs3.drop
    rw [hupd]
    exact (hs4.bump _).bump _
  · rw [decide_eq_false hlt]
    simp only [Bool.false_eq_true, if_false]
    exact ko _ _ _ (hk _ _ rfl)
end

theorem HandCycles_abs (H : AH) (hw : WF H) (hn : H.next = 0) (avs : List AV) (ha : ArgsAt H.blk [.int .i64, .int .i64, .int .i64, .int .i64] avs) : CallP tab noExt F.detentlaw20_HandCycles avs H fun v _ => v = bl true := by
  obtain ⟨tic, _, rfl, _, ha1⟩ := ha.int'
  obtain ⟨period, _, rfl, wp, ha2⟩ := ha1.int'
  obtain ⟨phase, _, rfl, wq, ha3⟩ := ha2.int'
  obtain ⟨ticks, _, rfl, _, ha4⟩ := ha3.int'
  obtain rfl := ha4.nil'
  apply detentlaw20_HandCycles_call
  refine (known20_at ((hw.bump _).bump _) (m := 3) (by simp [hn]) (fun g => by kernel_rfl)).start (ρ := H.blk) ((hw.bump _).bump _) (fun _ _ h => h) ?_
  rintro v H1 hs rfl
  have up := lit_bounds wp
  have uq := lit_bounds wq
  simp only [IntKind.min, IntKind.max, IntKind.signed, IntKind.bits] at up uq
  by_cases g1 : tic < 1
  · simp [g1]
  by_cases g2 : 100 < tic
  · simp [g1, g2]
  by_cases g3 : period < 1
  · simp [g1, g2, g3]
  by_cases g4 : IntKind.i64.wrap (100 * period) < tic
  · simp [g1, g2, g3, g4]
  by_cases g5 : 1000 < period
  · simp [g1, g2, g3, g4, g5]
  by_cases g6 : phase < 0
  · simp [g1, g2, g3, g4, g5, g6]
  by_cases g7 : 1000 < phase
  · simp [g1, g2, g3, g4, g5, g6, g7]
  by_cases g8 : ticks < 0
  · simp [g1, g2, g3, g4, g5, g6, g7, g8]
  by_cases g9 : 100 < ticks
  · simp [g1, g2, g3, g4, g5, g6, g7, g8, g9]
  simp [g1, g2, g3, g4, g5, g6, g7, g8, g9]
  refine (NewHands_tri tic (by omega) (by omega)).use (R := []) ((hs.bump _).bump _) ?_
  rintro v H2 P' ⟨h, rfl, rfl⟩ hs2
  simp
  have hok : HdOk [] [] 0 := ⟨by omega, by omega, by simp, by simp, by simp, by simp⟩
  refine (Cyclic_tri h [] [] [] 0 tic 0 0 hok period phase true true (by omega) (by omega) (by omega) (by omega)).use (Sat.bump hs2 _) ?_
  rintro v H3 P' ⟨rfl, rfl⟩ hs3
  have hb : ¬ badP period phase := by unfold badP; omega
  have e : cycR [] 0 period phase true true = ((1, 0), [⟨phase, phase, period, true, true⟩]) := by unfold cycR; rw [if_neg hb]; simp
  rw [e] at hs3
  have w : IntKind.u64.wrap phase = phase := wrap_u64 (by omega) (by omega)
  simp [w]
  refine hc_l3 h tic period phase ticks (by omega) (by omega) (by omega) (by omega) [] _ _ rfl rfl rfl rfl rfl rfl rfl ((Sat.bump hs3 3).bump 1) _ ?_
  intro T' H4 hT'
  simp
  rw [detentlaw20_HandCycles_s4_at hT']
  simp

end Go.AM

/-
  The law HandKeeps, in the abstract machine.
-/
set_option maxRecDepth 10000
namespace Go.AM
attribute [local simp] Nat.add_assoc resA resA1 fillA buildA callvP

theorem toL_nil' (x : Int) : toL [] x = [] := rfl

section
variable {ρ : HF}

theorem hk_l0 (h : Nat) (kp : Bool) (period before : Int) (hp : 1 ≤ period ∧ period ≤ 50) (hb : 0 ≤ before ∧ before ≤ 60) (Rs : List Asr) (T : List AV) (H : AH) (hT : T.length = 123) (A0 A1 A3 : AV) (t0 : sl T 0 = A0) (t1 : sl T 1 = A1) (t2 : sl T 2 = i64 before) (t3 : sl T 3 = A3) (t9 : sl T 9 = ptr h) (t11 : sl T 11 = i64 (0 : Nat))
    (hs : Sat ρ H (HdA h [⟨period, period, period, true, kp⟩] [] [] 0 1 0 0 :: Rs)) (K : Ex → List AV → AH → Prop)
    (hk : ∀ (T' : List AV) (H' : AH) (c : Cyc) (Rs : List Asr), T'.length = 123 → sl T' 0 = A0 → sl T' 1 = A1 → sl T' 2 = i64 before → sl T' 3 = A3 → sl T' 9 = ptr h → c.first = period → c.period = period → c.keep = kp → 0 ≤ c.next → c.next ≤ 200 → Sat ρ H' (HdA h [c] [] [] 0 1 before 0 :: Rs) → K (.out 0) T' H') :
    loopP tab noExt R.detentlaw20_HandKeeps_l0 T H K := by
  refine loopP_invK (I := fun k T H' => T.length = 123 ∧ sl T 0 = A0 ∧ sl T 1 = A1 ∧ sl T 2 = i64 before ∧ sl T 3 = A3 ∧ sl T 9 = ptr h ∧ ∃ (n : Nat) (c : Cyc) (Rs : List Asr), (n : Int) ≤ before ∧ k = 100 - n ∧ c.first = period ∧ c.period = period ∧ c.keep = kp ∧ 0 ≤ c.next ∧ c.next ≤ n + 100 ∧ sl T 11 = i64 n ∧ Sat ρ H' (HdA h [c] [] [] 0 1 (n : Int) 0 :: Rs)) ?_ 100 _ _ ⟨hT, t0, t1, t2, t3, t9, 0, ⟨period, period, period, true, kp⟩, Rs, by omega, rfl, rfl, rfl, rfl, by simp only; omega, by simp only; omega, t11, hs⟩
  rintro k T H' ⟨hT, t0, t1, t2, t3, t9, n, c, Rs, hn, hk', hcf, hcp, hck, hc0, hc1, t11, hs⟩ K' kn kr ko
  rw [detentlaw20_HandKeeps_l0_at hT]
  simp only [t0, t1, t2, t3, t9, t11, andThen_some, binA_lss, condP_bool]
  by_cases hlt : (n : Int) < before
  · rw [decide_eq_true hlt]
    simp only [if_true]
    have hok : HdOk [c] [] (n : Int) := ⟨by omega, by omega, by simp, by simp, by
      intro x hx
      simp at hx; subst hx
      exact ⟨by omega, by omega, by omega⟩, by simp⟩
    refine (Pass_tri h [c] [] [] 0 1 (n : Int) 0 hok ⟨by omega, by omega⟩ (by omega)).use ((hs.bump _).bump _) ?_
    rintro v H2 P' ⟨so, sa, z, rfl, hz, hzp, rfl⟩ hs2
    have hcy := cycT_next (c := c) (up := (n : Int) + 1) (by omega)
    have hmx : max c.next ((n : Int) + 1 + c.period) ≤ n + 1 + 100 := Int.max_le.2 ⟨by omega, by omega⟩
    have w := wrapP1 n (by omega)
    simp only [andThen_some, binA_add, w]
    have hs3 : Sat ρ H2 (HdA h [cycT ((n : Int) + 1) c] [] [] 0 1 ((n : Int) + 1) 0 :: Rs) := hs2.drop.drop
    have e : (n : Int) + 1 = ((n + 1 : Nat) : Int) := by omega
    rw [e] at hs3 hcy hmx
    exact kn (100 - (n + 1)) _ _ (by omega) ⟨rfl, rfl, rfl, rfl, rfl, rfl, n + 1, cycT ((n + 1 : Nat) : Int) c, Rs, by omega, rfl, hcf, hcp, hck, by omega, by omega, rfl, hs3.bump _⟩
  · rw [decide_eq_false hlt]
    simp only [Bool.false_eq_true, if_false]
    have e : (n : Int) = before := by omega
    rw [e] at hs
    exact ko _ _ _ (hk _ _ c Rs rfl rfl rfl rfl rfl rfl hcf hcp hck hc0 (by omega) (hs.bump _))

theorem hk_l1 (h : Nat) (c : Cyc) (before pause : Int) (hb : 0 ≤ before ∧ before ≤ 60) (hpa : 0 ≤ pause ∧ pause ≤ 60) (hc : c.on = false ∧ (0 ≤ c.first ∧ c.first ≤ 50) ∧ (0 ≤ c.next ∧ c.next ≤ 200) ∧ 1 ≤ c.period ∧ c.period ≤ 50) (Rs : List Asr) (T : List AV) (H : AH) (hT : T.length = 123) (A0 A1 A2 : AV) (t0 : sl T 0 = A0) (t1 : sl T 1 = A1) (t2 : sl T 2 = A2) (t3 : sl T 3 = i64 pause) (t9 : sl T 9 = ptr h) (t12 : sl T 12 = i64 (0 : Nat))
    (hs : Sat ρ H (HdA h [c] [] [] 0 1 before 0 :: Rs)) (K : Ex → List AV → AH → Prop)
    (hk : ∀ (T' : List AV) (H' : AH) (Rs : List Asr), T'.length = 123 → sl T' 0 = A0 → sl T' 1 = A1 → sl T' 2 = A2 → sl T' 3 = i64 pause → sl T' 9 = ptr h → Sat ρ H' (HdA h [c] [] [] 0 1 (before + pause) 0 :: Rs) → K (.out 2) T' H') :
    loopP tab noExt R.detentlaw20_HandKeeps_l1 T H K := by
  refine loopP_invK (I := fun k T H' => T.length = 123 ∧ sl T 0 = A0 ∧ sl T 1 = A1 ∧ sl T 2 = A2 ∧ sl T 3 = i64 pause ∧ sl T 9 = ptr h ∧ ∃ (n : Nat) (Rs : List Asr), (n : Int) ≤ pause ∧ k = 100 - n ∧ sl T 12 = i64 n ∧ Sat ρ H' (HdA h [c] [] [] 0 1 (before + n) 0 :: Rs)) ?_ 100 _ _ ⟨hT, t0, t1, t2, t3, t9, 0, Rs, by omega, rfl, t12, by simpa using hs⟩
  rintro k T H' ⟨hT, t0, t1, t2, t3, t9, n, Rs, hn, hk', t12, hs⟩ K' kn kr ko
  rw [detentlaw20_HandKeeps_l1_at hT]
  simp only [t0, t1, t2, t3, t9, t12, andThen_some, binA_lss, condP_bool]
  by_cases hlt : (n : Int) < pause
  · rw [decide_eq_true hlt]
    simp only [if_true]
    have hok : HdOk [c] [] (before + n) := ⟨by omega, by omega, by simp, by simp, by
      intro x hx
      simp at hx; subst hx
      exact ⟨by omega, by omega, by omega⟩, by simp⟩
    refine (Pass_tri h [c] [] [] 0 1 (before + n) 0 hok ⟨by omega, by omega⟩ (by omega)).use ((hs.bump _).bump _) ?_
    rintro v H2 P' ⟨so, sa, z, rfl, hz, hzp, rfl⟩ hs2
    have hN : firesN c (before + n + 1) = 0 := by unfold firesN; rw [if_neg (by simp [hc.1])]
    rw [one_gen, hN] at hzp
    have hze : z = [] := by simpa [firesC] using hzp
    subst hze
    have hcT : cycT (before + n + 1) c = c := by unfold cycT; rw [hN, nextC_zero]
    have hl := Sat.rowLen (R := _) hs2
    have w := wrapP1 n (by omega)
    simp only [extractA_tup, List.getElem?_cons_zero, List.getElem?_cons_succ, Option.map_some, Part.av, andThen_some, hl, binA_neq, condP_bool, List.length_nil]
    simp only [Int.ofNat_zero, Int.natCast_zero, not_true_eq_false, decide_false, Bool.false_eq_true, if_false, binA_add, andThen_some, w]
    have hs3 : Sat ρ H2 (HdA h [cycT (before + n + 1) c] [] [] 0 1 (before + n + 1) 0 :: Rs) := hs2.drop.drop
    rw [hcT] at hs3
    have e : before + (n : Int) + 1 = before + ((n + 1 : Nat) : Int) := by omega
    rw [e] at hs3
    exact kn (100 - (n + 1)) _ _ (by omega) ⟨rfl, rfl, rfl, rfl, rfl, rfl, n + 1, Rs, by omega, rfl, rfl, (hs3.bump _).bump _⟩
  · rw [decide_eq_false hlt]
    simp only [Bool.false_eq_true, if_false]
    have e : (n : Int) = pause := by omega
    rw [e] at hs
    exact ko _ _ _ (hk _ _ Rs rfl rfl rfl rfl rfl rfl (hs.bump _))

theorem hk_l2 (h : Nat) (c : Cyc) (now : Int) (hnow : 0 ≤ now ∧ now ≤ 120) (hc : c.on = true ∧ (0 ≤ c.first ∧ c.first ≤ 50) ∧ (now < c.next ∧ c.next ≤ 200) ∧ 1 ≤ c.period ∧ c.period ≤ 50) (Rs : List Asr) (T : List AV) (H : AH) (hT : T.length = 123) (t9 : sl T 9 = ptr h) (t16 : sl T 16 = i64 c.next) (t17 : sl T 17 = i64 (now + 1))
    (hs : Sat ρ H (HdA h [c] [] [] 0 1 now 0 :: Rs)) (K : Ex → List AV → AH → Prop)
    (hk : ∀ (T' : List AV) (H' : AH), T'.length = 123 → K (.out 4) T' H') :
    loopP tab noExt R.detentlaw20_HandKeeps_l2 T H K := by
  refine loopP_invK (I := fun k T H' => T.length = 123 ∧ sl T 9 = ptr h ∧ sl T 16 = i64 c.next ∧ ∃ (n : Nat), sl T 17 = i64 (now + n + 1) ∧ now + n ≤ c.next ∧ k = 300 - n ∧ (now + n < c.next → ∃ Rs, Sat ρ H' (HdA h [c] [] [] 0 1 (now + n) 0 :: Rs))) ?_ 300 _ _ ⟨hT, t9, t16, 0, by simpa using t17, by omega, rfl, fun _ => ⟨Rs, by simpa using hs⟩⟩
  rintro k T H' ⟨hT, t9, t16, n, t17, hn, hk', hst⟩ K' kn kr ko
  rw [detentlaw20_HandKeeps_l2_at hT]
  simp only [t9, t16, t17, andThen_some, binA_leq, condP_bool]
  by_cases hlt : now + n + 1 ≤ c.next
  · rw [decide_eq_true hlt]
    simp only [if_true]
    obtain ⟨Rs, hs⟩ := hst (by omega)
    have hok : HdOk [c] [] (now + n) := ⟨by omega, by omega, by simp, by simp, by
      intro x hx
      simp at hx; subst hx
      exact ⟨by omega, by omega, by omega⟩, by simp⟩
    refine (Pass_tri h [c] [] [] 0 1 (now + n) 0 hok ⟨by omega, by omega⟩ (by omega)).use ((hs.bump _).bump _) ?_
    rintro v H2 P' ⟨so, sa, z, rfl, hz, hzp, rfl⟩ hs2
    rw [one_gen] at hzp
    have w : IntKind.i64.wrap (now + n + 1 + 1) = now + (n + 1 : Nat) + 1 := by rw [wrap_i64 (by omega) (by omega)]; omega
    have e : now + (n : Int) + 1 = now + ((n + 1 : Nat) : Int) := by omega
    by_cases heq : now + n + 1 = c.next
    · have hN : firesN c (now + n + 1) = 1 := by
        unfold firesN
        rw [if_pos ⟨hc.1, by omega⟩, heq]
        simp
      rw [hN] at hzp
      have hze : z = [⟨true, 1, c.next⟩] := by simpa [firesC] using hzp
      subst hze
      have hl := Sat.rowLen (R := _) hs2
      obtain ⟨b, cp, jk, rfl, hb, _, _⟩ := Sat.rowBlk (R := _) hs2 (by simp)
      have q := rdCell encF_len hb (i := 0) (x := ⟨true, 1, c.next⟩) rfl 2 (by omega)
      simp [encF] at q
      have w2 : IntKind.i64.wrap c.next = c.next := wrap_i64 (by omega) (by omega)
      simp [heq, q, w2]
      rw [← heq, w]
      exact kn (300 - (n + 1)) _ _ (by omega) ⟨rfl, rfl, by show i64 _ = i64 _; rw [heq], n + 1, rfl, by omega, rfl, fun h => by omega⟩
    · have hN : firesN c (now + n + 1) = 0 := by
        unfold firesN
        rw [if_neg (by omega)]
      rw [hN] at hzp
      have hze : z = [] := by simpa [firesC] using hzp
      subst hze
      have hcT : cycT (now + n + 1) c = c := by unfold cycT; rw [hN, nextC_zero]
      have hl := Sat.rowLen (R := _) hs2
      simp [hl, heq, w]
      have hs3 : Sat ρ H2 (HdA h [cycT (now + n + 1) c] [] [] 0 1 (now + n + 1) 0 :: Rs) := hs2.drop.drop
      rw [hcT, e] at hs3
      exact kn (300 - (n + 1)) _ _ (by omega) ⟨rfl, rfl, rfl, n + 1, by show i64 _ = i64 _; push_cast; rfl, by omega, rfl, fun _ => ⟨Rs, by (repeat refine Sat.bump ?_ _); exact hs3⟩⟩
  · rw [decide_eq_false hlt]
    simp only [Bool.false_eq_true, if_false]
    exact ko _ _ _ (hk _ _ rfl)

theorem hk_s4 (h : Nat) (c : Cyc) (now : Int) (hnow : 0 ≤ now ∧ now ≤ 120) (hc : c.on = true ∧ (0 ≤ c.first ∧ c.first ≤ 50) ∧ (now < c.next ∧ c.next ≤ 200) ∧ 1 ≤ c.period ∧ c.period ≤ 50) (Rs : List Asr) (T : List AV) (H : AH) (hT : T.length = 123) (t9 : sl T 9 = ptr h) (t15 : sl T 15 = i64 now) (t16 : sl T 16 = i64 c.next)
    (hs : Sat ρ H (HdA h [c] [] [] 0 1 now 0 :: Rs)) (K : Ex → List AV → AH → Prop)
    (hk : ∀ (T' : List AV) (H' : AH), sl T' 8 = bl true → K .ret T' H') :
    wpC tab noExt R.detentlaw20_HandKeeps_s4 T H K := by
  rw [detentlaw20_HandKeeps_s4_at hT]
  have w : IntKind.i64.wrap (now + 1) = now + 1 := wrap_i64 (by omega) (by omega)
  simp only [t9, t15, t16, andThen_some, binA_add, w]
  refine hk_l2 h c now hnow hc Rs _ _ rfl rfl rfl rfl (hs.bump _) _ ?_
  intro T' H2 hT'
  simp
  rw [detentlaw20_HandKeeps_s3_at hT']
  exact hk _ _ rfl

/-- When one that was stopped is fired next. -/
def wantK (now p : Int) (kp : Bool) : Int := if kp then (now / p + 1) * p else now + p

theorem startC_want (now p : Int) (c : Cyc) (hn : 0 ≤ now) (hp : 1 ≤ p) (h1 : c.first = p) (h2 : c.period = p) : (startC now c).next = wantK now p c.keep := by
  unfold startC wantK
  cases hk : c.keep
  · simp [h2]
  · simp only [h1, h2]
    by_cases h : now < p
    · by_cases h0 : 0 ≤ now
      · have e : now / p = 0 := Int.ediv_eq_zero_of_lt h0 h
        simp [h, e]
      · exact absurd hn (by omega)
    · have e : now / p = (now - p) / p + 1 := by
        have := Int.add_mul_ediv_right (now - p) 1 (show p ≠ 0 by omega)
        rw [Int.one_mul, Int.sub_add_cancel] at this
        exact this
      have e2 : (now / p + 1) * p = p + ((now - p) / p + 1) * p := by rw [← e, Int.add_mul, Int.one_mul]; omega
      simp [h, e2]

theorem wantK_range (now p : Int) (kp : Bool) (hn : 0 ≤ now ∧ now ≤ 120) (hp : 1 ≤ p ∧ p ≤ 50) : now < wantK now p kp ∧ wantK now p kp ≤ 200 := by
  unfold wantK
  cases kp
  · simp; omega
  · have h1 := Int.lt_ediv_add_one_mul_self now (show 0 < p by omega)
    have h2 := Int.ediv_mul_le now (show p ≠ 0 by omega)
    simp
    rw [Int.add_mul, Int.one_mul] at h1 ⊢
    omega

theorem hk_s5 (h : Nat) (c : Cyc) (before pause period : Int) (hb : 0 ≤ before ∧ before ≤ 60) (hpa : 0 ≤ pause ∧ pause ≤ 60) (hp : 1 ≤ period ∧ period ≤ 50) (hcf : c.first = period) (hcp : c.period = period) (hcn : 0 ≤ c.next ∧ c.next ≤ 200) (Rs : List Asr) (T : List AV) (H : AH) (hT : T.length = 123) (t0 : sl T 0 = bl c.keep) (t1 : sl T 1 = i64 period) (t2 : sl T 2 = i64 before) (t3 : sl T 3 = i64 pause) (t9 : sl T 9 = ptr h)
    (hs : Sat ρ H (HdA h [c] [] [] 0 1 (before + pause) 0 :: Rs)) (K : Ex → List AV → AH → Prop)
    (hk : ∀ (T' : List AV) (H' : AH), sl T' 8 = bl true → K .ret T' H') :
    wpC tab noExt R.detentlaw20_HandKeeps_s5 T H K := by
  rw [detentlaw20_HandKeeps_s5_at hT]
  have w : IntKind.i64.wrap (before + pause) = before + pause := wrap_i64 (by omega) (by omega)
  generalize hnow : before + pause = now at *
  have hok : HdOk [c] [] now := ⟨by omega, by omega, by simp, by simp, by
    intro x hx
    simp at hx; subst hx
    exact ⟨by omega, by omega, by omega⟩, by simp⟩
  simp only [t0, t1, t2, t3, t9, andThen_some, binA_add, w, hnow]
  refine (Start_tri h [c] [] [] 0 1 now 0 hok 1).use ((hs.bump _).bump _) ?_
  rintro v H2 P' ⟨rfl, rfl⟩ hs2
  have e : modR [c] 1 (startC now) = (0, [startC now c]) := by simp [modR, idxN]
  rw [e] at hs2
  have hs2 : Sat ρ H2 (HdA h [startC now c] [] [] 0 1 now 0 :: Rs) := hs2
  have hw := startC_want now period c (by omega) hp.1 hcf hcp
  have hr := wantK_range now period c.keep ⟨by omega, by omega⟩ hp
  have hfin : ∀ (T' : List AV) (H' : AH), T'.length = 123 → sl T' 9 = ptr h → sl T' 15 = i64 now → sl T' 16 = i64 (wantK now period c.keep) → Sat ρ H' (HdA h [startC now c] [] [] 0 1 now 0 :: Rs) → wpC tab noExt R.detentlaw20_HandKeeps_s4 T' H' K := by
    intro T' H' hT' u9 u15 u16 hs'
    rw [← hw] at hr u16
    exact hk_s4 h (startC now c) now ⟨by omega, by omega⟩ ⟨rfl, by show 0 ≤ c.first ∧ c.first ≤ 50; omega, hr, by show 1 ≤ c.period ∧ c.period ≤ 50; omega⟩ Rs T' H' hT' u9 u15 u16 hs' K hk
  have w1 : IntKind.i64.wrap (now + period) = now + period := wrap_i64 (by omega) (by omega)
  simp only [w1, andThen_some]
  cases hkp : c.keep
  · simp only [condP_bool, Bool.false_eq_true, if_false]
    exact hfin _ _ rfl rfl rfl (by rw [hkp]; rfl) ((hs2.bump _).bump _)
  · have hdv : now.tdiv period = now / period := Int.tdiv_eq_ediv_of_nonneg (by omega)
    have h0 : 0 ≤ now / period := Int.ediv_nonneg (by omega) (by omega)
    have h1 : now / period ≤ now := Int.ediv_le_self _ (by omega)
    have hr' := hr
    rw [hkp] at hr'
    have hwk : wantK now period true = (now / period + 1) * period := rfl
    rw [hwk] at hr'
    have w2 : IntKind.i64.wrap (now / period) = now / period := wrap_i64 (by omega) (by omega)
    have w3 : IntKind.i64.wrap (now / period + 1) = now / period + 1 := wrap_i64 (by omega) (by omega)
    have w4 : IntKind.i64.wrap ((now / period + 1) * period) = (now / period + 1) * period := wrap_i64 (by omega) (by omega)
    have hp0 : ¬ period = 0 := by omega
    simp only [condP_bool, if_true, binA_quo, if_neg hp0, hdv, w2, andThen_some, binA_add, w3, binA_mul, w4]
    exact hfin _ _ rfl rfl rfl (by rw [hkp]; rfl) (by (repeat refine Sat.bump ?_ _); exact hs2)

theorem hk_s6 (h : Nat) (c : Cyc) (before pause period : Int) (hb : 0 ≤ before ∧ before ≤ 60) (hpa : 0 ≤ pause ∧ pause ≤ 60) (hp : 1 ≤ period ∧ period ≤ 50) (hcf : c.first = period) (hcp : c.period = period) (hcn : 0 ≤ c.next ∧ c.next ≤ 200) (Rs : List Asr) (T : List AV) (H : AH) (hT : T.length = 123) (t0 : sl T 0 = bl c.keep) (t1 : sl T 1 = i64 period) (t2 : sl T 2 = i64 before) (t3 : sl T 3 = i64 pause) (t9 : sl T 9 = ptr h)
    (hs : Sat ρ H (HdA h [c] [] [] 0 1 before 0 :: Rs)) (K : Ex → List AV → AH → Prop)
    (hk : ∀ (T' : List AV) (H' : AH), sl T' 8 = bl true → K .ret T' H') :
    wpC tab noExt R.detentlaw20_HandKeeps_s6 T H K := by
  rw [detentlaw20_HandKeeps_s6_at hT]
  have hok : HdOk [c] [] before := ⟨by omega, by omega, by simp, by simp, by
    intro x hx
    simp at hx; subst hx
    exact ⟨by omega, by omega, by omega⟩, by simp⟩
  simp only [t0, t1, t2, t3, t9]
  refine (Stop_tri h [c] [] [] 0 1 before 0 hok 1).use (hs.bump _) ?_
  rintro v H2 P' ⟨rfl, rfl⟩ hs2
  have e : modR [c] 1 (fun c => { c with on := false }) = (0, [{ c with on := false }]) := by simp [modR, idxN]
  rw [e] at hs2
  have hs2 : Sat ρ H2 (HdA h [{ c with on := false }] [] [] 0 1 before 0 :: Rs) := hs2
  refine hk_l1 h { c with on := false } before pause hb hpa ⟨rfl, by show 0 ≤ c.first ∧ c.first ≤ 50; omega, hcn, by show 1 ≤ c.period ∧ c.period ≤ 50; omega⟩ Rs _ _ rfl (bl c.keep) (i64 period) (i64 before) rfl rfl rfl rfl rfl rfl (hs2.bump _) _ ?_
  intro T' H3 Rs' hT' u0 u1 u2 u3 u9 hs3
  simp
  exact hk_s5 h { c with on := false } before pause period hb hpa hp hcf hcp hcn Rs' T' H3 hT' u0 u1 u2 u3 u9 hs3 K hk
end

theorem HandKeeps_abs (H : AH) (hw : WF H) (hn : H.next = 0) (avs : List AV) (ha : ArgsAt H.blk [.bool, .int .i64, .int .i64, .int .i64] avs) : CallP tab noExt F.detentlaw20_HandKeeps avs H fun v _ => v = bl true := by
  obtain ⟨kp, _, rfl, ha1⟩ := ha.bool
  obtain ⟨period, _, rfl, wp, ha2⟩ := ha1.int'
  obtain ⟨before, _, rfl, wb, ha3⟩ := ha2.int'
  obtain ⟨pause, _, rfl, _, ha4⟩ := ha3.int'
  obtain rfl := ha4.nil'
  apply detentlaw20_HandKeeps_call
  refine (known20_at ((hw.bump _).bump _) (m := 3) (by simp [hn]) (fun g => by kernel_rfl)).start (ρ := H.blk) ((hw.bump _).bump _) (fun _ _ h => h) ?_
  rintro v H1 hs rfl
  by_cases g1 : period < 1
  · simp [g1]
  by_cases g2 : 50 < period
  · simp [g1, g2]
  by_cases g3 : before < 0
  · simp [g1, g2, g3]
  by_cases g4 : 60 < before
  · simp [g1, g2, g3, g4]
  by_cases g5 : pause < 0
  · simp [g1, g2, g3, g4, g5]
  by_cases g6 : 60 < pause
  · simp [g1, g2, g3, g4, g5, g6]
  simp [g1, g2, g3, g4, g5, g6]
  refine (NewHands_tri 1 (by omega) (by omega)).use (R := []) ((hs.bump _).bump _) ?_
  rintro v H2 P' ⟨h, rfl, rfl⟩ hs2
  simp
  have hok : HdOk [] [] 0 := ⟨by omega, by omega, by simp, by simp, by simp, by simp⟩
  refine (Cyclic_tri h [] [] [] 0 1 0 0 hok period period true kp (by omega) (by omega) (by omega) (by omega)).use (Sat.bump hs2 _) ?_
  rintro v H3 P' ⟨rfl, rfl⟩ hs3
  have hb : ¬ badP period period := by unfold badP; omega
  have e : cycR [] 0 period period true kp = ((1, 0), [⟨period, period, period, true, kp⟩]) := by unfold cycR; rw [if_neg hb]; simp
  rw [e] at hs3
  refine hk_l0 h kp period before (by omega) (by omega) [] _ _ rfl (bl kp) (i64 period) (i64 pause) rfl rfl rfl rfl rfl rfl (Sat.bump hs3 1) _ ?_
  intro T' H4 c Rs' hT' u0 u1 u2 u3 u9 hcf hcp hck hc0 hc1 hs4
  simp
  refine hk_s6 h c before pause period (by omega) (by omega) (by omega) hcf hcp ⟨hc0, hc1⟩ Rs' T' H4 hT' (by rw [hck]; exact u0) u1 u2 u3 u9 hs4 _ ?_
  intro T5 H5 h8
  have h8' : T5[8]?.getD undef = bl true := by rw [← List.getD_eq_getElem?_getD]; exact h8
  simp [h8']

end Go.AM
