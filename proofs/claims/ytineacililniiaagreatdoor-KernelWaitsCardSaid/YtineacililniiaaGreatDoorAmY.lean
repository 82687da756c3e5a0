/-
  A card whose law takes no slices: one block, the table's.
-/
import Derived.Test.YtineacililniiaaGreatDoorAmW
namespace Go.AM
open Go.RowKit Go.ChangeShapes Go.WideShapes
section
variable {C : Checked} {tab : Nat → Option RFunc} {f : FuncId} {fn : Func} {s : ChangeSpec}

/-- The row's step. -/
theorem law_laid0 (tys : List Ty) (bt : TypeId) (k : IntKind) (ns : List Int) (gn : String) (gt ge : TypeId) (laid : List (String × DataW Unit))
    (hlaidIs : laid = [(gn, .agg (ns.map fun n => .lit (.int k n)))])
    (hg : C.prog.globalNamed gn = some 0) (hgt : (C.prog.globals[0]?).map (·.type) = some gt) (hga : C.prog.underlying gt = some (.array ns.length ge)) (hge : C.prog.underlying ge = some (.int k)) (hc1 : C.prog.cellsOf ge = 1) (hc2 : C.prog.cellsOf gt = ns.length)
    (own : ownKnob C.prog.godebug = none) (htab : TabOk C.prog [0] tab) (hmix : C.prog.follows .mixedOrders = true) (hlaid : laidOutB C.prog = true)
    (noInit : C.prog.inits.idxOf? f = none) (hfn : C.prog.funcs[f]? = some fn)
    (hread : (fn.params.toList.all fun t => C.prog.readableRec t && decide (t < C.prog.types.size)) = true)
    (hlen : tys.length = fn.params.toList.length) (hfit : ((tys.zip fn.params.toList).all fun p => fits C.prog p.1 p.2) = true)
    (hN : (tys.all Ty.good && decide ((tys.map Ty.cnt).sum ≤ 0)) = true)
    (hres : fn.resultTypes = #[bt]) (hbt : C.prog.underlying bt = some .bool)
    (hvars : s.vars = []) (hspec : ∀ (H : Type) (ds : List (DataW H)), ds.length = tys.length → s.fn H ds = { results := [.lit (.bool true)], args := ds })
    (walk : ∀ H avs, WF H → H.next = 1 → H.blk 0 = some (.cells true (ns.map fun n => SV.int k n)) → ArgsAt H.blk tys avs → CallP tab noExt f avs H fun v _ => v = .s (.bool true))
    (os : Os) (started : os.Started) (H : Type) (enc : TypeId × Value → H)
    (witness : ∃ (w : World) (tape : Tape) (i : Input), w.os = os ∧ (w.forCall tape i).Shaped C.prog ∧ i.vars = [] ∧ Input.okWide C.prog (w.forCall tape i) .any w.heap.size f i ∧
      ((s.pre enc C.prog fn [] false (w.forCall tape i).memory i.args ∧ laidMetH C.prog laid (w.forCall tape i).memory) ∧ sizedMet enc C.prog fn (OpenSpec.ofChange s) false (w.forCall tape i).memory i.args) ∧ ({} : Assume).holds C.prog (lone (Frame.enter C.prog f i.args .normal) [] (w.forCall tape i))) :
    ReturnsInHanded {} C os f .any (fun w args => (s.pre enc C.prog fn [] false w args ∧ laidMetH C.prog laid w) ∧ sizedMet enc C.prog fn (OpenSpec.ofChange s) false w args) (s.post enc C.prog fn false true false false) := by
  refine returnsInHanded_of_change_and (C := C) (X := fun w _ => laidMetH C.prog laid w) (fun _ _ _ hh h => h.of_heap hh) own started noInit hfn witness ?_
  intro W base args ds gs before hval hW hcnd _ hL _
  have hW' := hW
  obtain ⟨p, q, hA, hV, rfl, hfz, hnd⟩ := hW
  rw [hvars] at hV
  obtain ⟨rfl, rfl⟩ := trodVars_none hV
  simp only [List.append_nil] at hW' hfz hnd
  obtain ⟨c0, t0, fr0, hb⟩ : ∃ c t fr, W.heap[0]? = some (.cells c t fr) ∧ c = (ns.map fun n => Value.int k n).toArray := by
    rw [hlaidIs, MakeChecks.laidMetH_plain _ _ _ (by simp [DataW.handleName?])] at hL
    obtain ⟨ps, ⟨g0, t0, cs0, f0, p0, q0, hg0, ht0, hv0, hd0, _, _⟩, _, _⟩ := hL
    obtain rfl := Option.some.inj (hg.symm.trans hg0)
    obtain rfl := Option.some.inj (hgt.symm.trans ht0)
    have hc := ints_cells hga hge hc1 hc2 hd0
    simp only [World.var?, hg, Option.bind_some] at hv0
    split at hv0
    · rename_i c t fr hb
      cases hv0
      exact ⟨_, _, _, hb, by rw [← hc]⟩
    · cases hv0
  obtain ⟨hb, rfl⟩ := hb
  have hL0 := tabInv hb
  have hfit' : R2 (fun ty t => fits C.prog ty t = true) tys fn.params.toList := R2_of_all (fun _ _ h => h) hlen hfit
  obtain ⟨M, avs, h1, h2, h3, h4⟩ := opens_args (L := [((0, 0, ns.length), some (ns.map fun n => SV.int k n))]) hfit' (fun j t v ht hv => hval j t v (by simpa using ht) (by simpa using hv)) hA hL0
  have hM : M = [] := by
    simp only [Bool.and_eq_true, decide_eq_true_eq] at hN
    have h5 := h4 hN.1
    have h6 := hN.2
    exact List.length_eq_zero_iff.1 (by omega)
  have hrel := roH_rel h1
  have hG : GRel [0] (roPhi ([((0, 0, ns.length), some (ns.map fun n => SV.int k n))] ++ M)) := fun n hn => by
    simp only [List.mem_singleton] at hn
    subst hn
    exact ⟨ns.length, rfl⟩
  have hdl : ds.length = tys.length := by
    have key : ∀ {ts : List TypeId} {vs : List Value} {ds : List (DataW H)} {ps : List MemPlace}, DataW.TrodAll enc C.prog W 0 (fun _ => true) true ts vs ds ps → ds.length = ts.length := by
      intro ts
      induction ts with
      | nil => intro vs ds ps h; obtain ⟨_, rfl, _⟩ := trodAll_nil h; rfl
      | cons t ts ih => intro vs ds ps h; obtain ⟨v, vs, d, ds, p, q, rfl, rfl, rfl, _, hr⟩ := trodAll_cons h; simp [ih hr]
    rw [key hA, hlen]
  have hsp : s.fn H (ds ++ []) = { results := [.lit (.bool true)], args := ds } := by rw [List.append_nil]; exact hspec H ds hdl
  refine (law_walkG htab hmix hG hrel h2 (walk (roH ([((0, 0, ns.length), some (ns.map fun n => SV.int k n))] ++ M)) avs (fun b hb => hrel.lt b hb) (by rw [hM]; rfl) rfl h3)).mono fun e W' ⟨he, hg, hold⟩ => ?_
  subst he
  have hlt : ∀ x ∈ p, x.block < W.heap.size := fun x hx => hW'.lt x hx
  have hsame : ∀ x ∈ p, W.sameAt W' x := fun x hx => by
    cases x with
    | cell b o => exact World.cell?_of_block (w := W) (hold b (hlt _ hx))
    | map b => exact hold b (hlt _ hx)
  refine ⟨_, rfl, post_of_same (pa := p) (pv := []) hW' (fun b sp hd => ?_) (fun sp hsp' => ?_) (fun _ _ => ?_) (by simp) (hg.frame _) hg.2.1 (ok_one hres rfl (okWide_bool_mk hbt _))⟩
  · rw [hsp, hres]
    exact trodAll_cons_mk (shut_bool hbt _) trodAll_mk0
  · rw [hsp]
    exact trodAll_stays hlaid hread hA hsame hsp'
  · rw [hvars, hsp]
    rfl
end


end Go.AM
