/-
  FROM A LAW IN THE ABSTRACT MACHINE TO ITS STATEMENT's ROW, whatever its arguments are.
-/
import Derived.Test.YtineacililniiaaGreatDoorAmR
import Derived.RowKit3
import Derived.WideKeyArgs
import Derived.ChangeSame
import Derived.Handed
namespace Go.AM
open Go.RowKit Go.ChangeShapes Go.WideShapes

theorem R2_of_all {α β : Type} {R : α → β → Prop} {f : α → β → Bool} (h : ∀ a b, f a b = true → R a b) : ∀ {as : List α} {bs : List β}, as.length = bs.length → ((as.zip bs).all fun p => f p.1 p.2) = true → R2 R as bs
  | [], [], _, _ => trivial
  | a :: as, b :: bs, hl, hx => by
    simp only [List.zip_cons_cons, List.all_cons, Bool.and_eq_true] at hx
    exact ⟨h a b hx.1, R2_of_all h (by simpa using hl) hx.2⟩
  | [], _ :: _, hl, _ => by simp at hl
  | _ :: _, [], hl, _ => by simp at hl

theorem trodAll_stays {H : Type} {enc : TypeId × Value → H} {P : Program} (hl : laidOutB P = true) {W W' : World} {sp : Nat → Bool} : ∀ {ts : List TypeId} {vs : List Value} {ds : List (DataW H)} {ps : List MemPlace}, (ts.all fun t => P.readableRec t && decide (t < P.types.size)) = true → DataW.TrodAll enc P W 0 (fun _ => true) true ts vs ds ps → (∀ p ∈ ps, W.sameAt W' p) → (∀ p ∈ ps, sp p.block = true) → DataW.TrodAll enc P W' 0 sp true ts vs ds ps
  | [], vs, ds, ps, _, hA, _, _ => by
    obtain ⟨rfl, rfl, rfl⟩ := trodAll_nil hA
    exact trodAll_mk0
  | t :: ts, vs, ds, ps, hr, hA, hs, hsp => by
    simp only [List.all_cons, Bool.and_eq_true, decide_eq_true_eq] at hr
    obtain ⟨v, vs, d, ds, p, q, rfl, rfl, rfl, h0, h1⟩ := trodAll_cons hA
    exact trodAll_cons_mk (WideElems.Trod_stays hl hr.1.1 hr.1.2 h0 (fun x hx => hs x (by simp [hx])) fun x hx => hsp x (by simp [hx])) (trodAll_stays hl hr.2 h1 (fun x hx => hs x (by simp [hx])) fun x hx => hsp x (by simp [hx]))

/-- A law's run and its call; what was, is. -/
theorem law_walk2 {P : Program} {tab : Nat → Option RFunc} (htab : TabOk P [] tab) (hmix : P.follows .mixedOrders = true) {f : Nat} {args : List AV} {H0 : AH} {φ0 : Phi} {w : World} {cargs : Array Value}
    (hH : HRel w.heap.size w φ0 H0 w) (hargs : R2 (AVRel φ0) args cargs.toList) (h : CallP tab noExt f args H0 fun v _ => v = .s (.bool true)) :
    Calls P f cargs w fun e w' => e = .returned (.bool true) ∧ Grown w w' ∧ ∀ k, k < w.heap.size → w'.heap[k]? = w.heap[k]? := by
  obtain ⟨n, v, H', h1, rfl⟩ := h
  have hs := run_sound (G := []) (B := w.heap.size) (w0 := w) htab noExt_calls noExt_frame noExt_next hmix n
  refine (hs f args H0 _ H' h1 φ0 w cargs hH (fun _ hn => by cases hn) hargs).2.mono ?_
  rintro e w' ⟨φ', cv, rfl, _, h2, h3⟩
  have : cv = .bool true := h3
  subst this
  exact ⟨rfl, h2.grown, h2.old⟩

theorem lit_bounds {k : IntKind} {n : Int} (h : (Lit.int k n).wf = true) : k.min ≤ n ∧ n ≤ k.max := by
  simpa [Lit.wf] using h

section
variable {C : Checked} {tab : Nat → Option RFunc} {f : FuncId} {fn : Func} {s : ChangeSpec}

/-- The row's step. -/
theorem law_lifted (tys : List Ty) (N : Nat) (bt : TypeId)
    (own : ownKnob C.prog.godebug = none) (htab : TabOk C.prog [] tab) (hmix : C.prog.follows .mixedOrders = true) (hlaid : laidOutB C.prog = true)
    (noInit : C.prog.inits.idxOf? f = none) (hfn : C.prog.funcs[f]? = some fn)
    (hread : (fn.params.toList.all fun t => C.prog.readableRec t && decide (t < C.prog.types.size)) = true)
    (hlen : tys.length = fn.params.toList.length) (hfit : ((tys.zip fn.params.toList).all fun p => fits C.prog p.1 p.2) = true)
    (hN : (tys.all Ty.good && decide ((tys.map Ty.cnt).sum ≤ N)) = true)
    (hres : fn.resultTypes = #[bt]) (hbt : C.prog.underlying bt = some .bool)
    (hvars : s.vars = []) (hspec : ∀ (H : Type) (ds : List (DataW H)), ds.length = tys.length → s.fn H ds = { results := [.lit (.bool true)], args := ds })
    (walk : ∀ H avs, WF H → H.next = N → ArgsAt H.blk tys avs → CallP tab noExt f avs H fun v _ => v = .s (.bool true))
    (os : Os) (started : os.Started) (H : Type) (enc : TypeId × Value → H)
    (witness : ∃ (w : World) (tape : Tape) (i : Input), w.os = os ∧ (w.forCall tape i).Shaped C.prog ∧ i.vars = [] ∧ Input.okWide C.prog (w.forCall tape i) .any w.heap.size f i ∧
      s.pre6 enc C.prog fn [] false (w.forCall tape i).memory i.args ∧ ({} : Assume).holds C.prog (lone (Frame.enter C.prog f i.args .normal) [] (w.forCall tape i))) :
    ReturnsInHanded {} C os f .any (s.pre6 enc C.prog fn [] false) (s.post enc C.prog fn false true false false) := by
  refine returnsInHanded_of_change (C := C) own started noInit hfn witness ?_
  intro W base args ds gs before hval hW hcnd _
  have hW' := hW
  obtain ⟨p, q, hA, hV, rfl, hfz, hnd⟩ := hW
  rw [hvars] at hV
  obtain ⟨rfl, rfl⟩ := trodVars_none hV
  simp only [List.append_nil] at hW' hfz hnd
  have hfit' : R2 (fun ty t => fits C.prog ty t = true) tys fn.params.toList := R2_of_all (fun _ _ h => h) hlen hfit
  obtain ⟨M, avs, h1, h2, h3, h4⟩ := opens_args (L := []) hfit' (fun j t v ht hv => hval j t v (by simpa using ht) (by simpa using hv)) hA (fun e he => by cases he)
  simp only [List.nil_append] at h1 h2 h3
  simp only [Bool.and_eq_true, decide_eq_true_eq] at hN
  have hML : M.length ≤ N := Nat.le_trans (h4 hN.1) hN.2
  have hrel := roH_rel h1
  have hrel' : HRel W.heap.size W (roPhi M) ⟨roF M, N⟩ W := { hrel with lt := fun b hb => hrel.lt b (Nat.le_trans hML hb) }
  have hwf : WF ⟨roF M, N⟩ := fun b hb => hrel.lt b (Nat.le_trans hML hb)
  have hdl : ds.length = tys.length := by
    have key : ∀ {ts : List TypeId} {vs : List Value} {ds : List (DataW H)} {ps : List MemPlace}, DataW.TrodAll enc C.prog W 0 (fun _ => true) true ts vs ds ps → ds.length = ts.length := by
      intro ts
      induction ts with
      | nil => intro vs ds ps h; obtain ⟨_, rfl, _⟩ := trodAll_nil h; rfl
      | cons t ts ih => intro vs ds ps h; obtain ⟨v, vs, d, ds, p, q, rfl, rfl, rfl, _, hr⟩ := trodAll_cons h; simp [ih hr]
    rw [key hA, hlen]
  have hsp : s.fn H (ds ++ []) = { results := [.lit (.bool true)], args := ds } := by rw [List.append_nil]; exact hspec H ds hdl
  refine (law_walk2 htab hmix hrel' h2 (walk _ avs hwf rfl h3)).mono fun e W' ⟨he, hg, hold⟩ => ?_
  subst he
  have hlt : ∀ x ∈ p, x.block < W.heap.size := fun x hx => hW'.lt x hx
  have hsame : ∀ x ∈ p, W.sameAt W' x := fun x hx => by
    cases x with
    | cell b o => exact World.cell?_of_block (w := W) (hold b (hlt _ hx))
    | map b => exact hold b (hlt _ hx)
  refine ⟨_, rfl, post_of_same (pa := p) (pv := []) hW' (fun b sp hd => ?_) (fun sp hsp' => ?_) (fun _ _ => ?_) (by simp) (hg.frame _) hg.2.1 (ok_one hres rfl (okWide_bool_mk hbt _))⟩
  · rw [hsp, hres]
    exact trodAll_cons_mk (shut_bool hbt _) trodAll_mk0
  · rw [hsp]
    exact trodAll_stays hlaid hread hA hsame hsp'
  · rw [hvars, hsp]
    rfl
end

end Go.AM
