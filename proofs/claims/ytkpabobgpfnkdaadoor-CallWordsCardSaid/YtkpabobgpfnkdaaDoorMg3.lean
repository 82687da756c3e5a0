/-
  calls: its table.
-/
import Derived.Test.YtkpabobgpfnkdaaDoorMg2
import Derived.Lib.ItoaLen
import Derived.Lib.ParseIntBTie
import Derived.Test.YtkpabobgpfnkdaaDoorMg1
namespace Go.AM
set_option maxHeartbeats 8000000
attribute [local irreducible] sq bk lpK mdx rt TC RP WK Cel Ro Row Fre RowsA RowsBut

def tabC : List (ByteArray × Int × Int) := [(⟨#[]⟩, 0, 0), (⟨#[97, 99, 116, 95, 116, 115, 107]⟩, 1, 1), (⟨#[105, 97, 99, 116, 95, 116, 115, 107]⟩, 1, 3), (⟨#[99, 97, 110, 95, 97, 99, 116]⟩, 1, 1), (⟨#[101, 120, 116, 95, 116, 115, 107]⟩, 0, 4), (⟨#[116, 101, 114, 95, 116, 115, 107]⟩, 1, 1), (⟨#[99, 104, 103, 95, 112, 114, 105]⟩, 2, 1), (⟨#[103, 101, 116, 95, 112, 114, 105]⟩, 1, 1), (⟨#[114, 111, 116, 95, 114, 100, 113]⟩, 1, 1), (⟨#[105, 114, 111, 116, 95, 114, 100, 113]⟩, 1, 3), (⟨#[103, 101, 116, 95, 116, 105, 100]⟩, 0, 1), (⟨#[105, 103, 101, 116, 95, 116, 105, 100]⟩, 0, 3), (⟨#[115, 108, 112, 95, 116, 115, 107]⟩, 0, 2), (⟨#[116, 115, 108, 112, 95, 116, 115, 107]⟩, 1, 2), (⟨#[119, 117, 112, 95, 116, 115, 107]⟩, 1, 1), (⟨#[105, 119, 117, 112, 95, 116, 115, 107]⟩, 1, 3), (⟨#[99, 97, 110, 95, 119, 117, 112]⟩, 1, 1), (⟨#[114, 101, 108, 95, 119, 97, 105]⟩, 1, 1), (⟨#[105, 114, 101, 108, 95, 119, 97, 105]⟩, 1, 3), (⟨#[115, 117, 115, 95, 116, 115, 107]⟩, 1, 1), (⟨#[114, 115, 109, 95, 116, 115, 107]⟩, 1, 1), (⟨#[102, 114, 115, 109, 95, 116, 115, 107]⟩, 1, 1), (⟨#[100, 108, 121, 95, 116, 115, 107]⟩, 1, 2), (⟨#[115, 105, 103, 95, 115, 101, 109]⟩, 1, 1), (⟨#[105, 115, 105, 103, 95, 115, 101, 109]⟩, 1, 3), (⟨#[119, 97, 105, 95, 115, 101, 109]⟩, 1, 2), (⟨#[112, 111, 108, 95, 115, 101, 109]⟩, 1, 1), (⟨#[116, 119, 97, 105, 95, 115, 101, 109]⟩, 2, 2), (⟨#[115, 101, 116, 95, 102, 108, 103]⟩, 2, 1), (⟨#[105, 115, 101, 116, 95, 102, 108, 103]⟩, 2, 3), (⟨#[99, 108, 114, 95, 102, 108, 103]⟩, 2, 1), (⟨#[119, 97, 105, 95, 102, 108, 103]⟩, 3, 2), (⟨#[112, 111, 108, 95, 102, 108, 103]⟩, 3, 1), (⟨#[116, 119, 97, 105, 95, 102, 108, 103]⟩, 4, 2), (⟨#[115, 110, 100, 95, 100, 116, 113]⟩, 2, 2), (⟨#[112, 115, 110, 100, 95, 100, 116, 113]⟩, 2, 1), (⟨#[105, 112, 115, 110, 100, 95, 100, 116, 113]⟩, 2, 3), (⟨#[116, 115, 110, 100, 95, 100, 116, 113]⟩, 3, 2), (⟨#[102, 115, 110, 100, 95, 100, 116, 113]⟩, 2, 1), (⟨#[105, 102, 115, 110, 100, 95, 100, 116, 113]⟩, 2, 3), (⟨#[114, 99, 118, 95, 100, 116, 113]⟩, 1, 2), (⟨#[112, 114, 99, 118, 95, 100, 116, 113]⟩, 1, 1), (⟨#[116, 114, 99, 118, 95, 100, 116, 113]⟩, 2, 2), (⟨#[108, 111, 99, 95, 109, 116, 120]⟩, 1, 2), (⟨#[112, 108, 111, 99, 95, 109, 116, 120]⟩, 1, 1), (⟨#[116, 108, 111, 99, 95, 109, 116, 120]⟩, 2, 2), (⟨#[117, 110, 108, 95, 109, 116, 120]⟩, 1, 1), (⟨#[103, 101, 116, 95, 109, 112, 102]⟩, 1, 2), (⟨#[112, 103, 101, 116, 95, 109, 112, 102]⟩, 1, 1), (⟨#[116, 103, 101, 116, 95, 109, 112, 102]⟩, 2, 2), (⟨#[114, 101, 108, 95, 109, 112, 102]⟩, 2, 1), (⟨#[115, 101, 116, 95, 116, 105, 109]⟩, 1, 1), (⟨#[103, 101, 116, 95, 116, 105, 109]⟩, 0, 1), (⟨#[115, 116, 97, 95, 99, 121, 99]⟩, 1, 1), (⟨#[115, 116, 112, 95, 99, 121, 99]⟩, 1, 1), (⟨#[115, 116, 97, 95, 97, 108, 109]⟩, 2, 1), (⟨#[115, 116, 112, 95, 97, 108, 109]⟩, 1, 1), (⟨#[108, 111, 99, 95, 99, 112, 117]⟩, 0, 4), (⟨#[117, 110, 108, 95, 99, 112, 117]⟩, 0, 4), (⟨#[100, 105, 115, 95, 100, 115, 112]⟩, 0, 1), (⟨#[101, 110, 97, 95, 100, 115, 112]⟩, 0, 1), (⟨#[115, 110, 115, 95, 99, 116, 120]⟩, 0, 0), (⟨#[115, 110, 115, 95, 108, 111, 99]⟩, 0, 0), (⟨#[115, 110, 115, 95, 100, 115, 112]⟩, 0, 0), (⟨#[115, 110, 115, 95, 100, 112, 110]⟩, 0, 0)]
def encR (r : ByteArray × Int × Int) : List SV := [.str r.1, .int .i64 r.2.1, .int .i64 r.2.2]
def encS (s : ByteArray) : List SV := [.str s]
theorem encR_len (r : ByteArray × Int × Int) : (encR r).length = 3 := rfl
theorem encS_len (r : ByteArray) : (encS r).length = 1 := rfl
theorem tabC_len : tabC.length = 65 := by decide +kernel
def namC : List ByteArray := tabC.map fun r => r.1

variable {ext : Nat → List AV → AH → Option (AV × AH)}
set_option maxRecDepth 100000 in
theorem table_tri : Tri tab ext F.calls_table [] [] fun v P' => ∃ s, v = .s s ∧ P' = [Row encR 3 s tabC] := by
  refine Tri.go tab_calls_table rfl ?_
  refine RUN ?_
  refine RP.bs rfl rfl rfl fun b => ?_
  refine RP.ent (row_made (enc := encR) (k := 3) (c := 65) (r := tabC) rfl (by decide) (by decide)) ?_
  refine RUN ?_
  exact rt_r rfl ⟨_, rfl, rfl⟩ (LEnt.refl _)
set_option maxRecDepth 100000 in
theorem names_tri : Tri tab ext F.detentref25_names [] [] fun v P' => ∃ s, v = .s s ∧ P' = [Row encS 1 s namC] := by
  refine Tri.go tab_detentref25_names rfl ?_
  refine RUN ?_
  refine RP.bs rfl rfl rfl fun b => ?_
  refine RP.ent (row_made (enc := encS) (k := 1) (c := 65) (r := namC) rfl (by decide) (by decide)) ?_
  refine RUN ?_
  exact rt_r rfl ⟨_, rfl, rfl⟩ (LEnt.refl _)
end Go.AM

/-
  calls: what a call is.
-/
namespace Go.AM
set_option maxHeartbeats 8000000
attribute [local irreducible] sq bk lpK mdx rt TC RP WK Cel Ro Row Fre RowsA RowsBut
variable {ext : Nat → List AV → AH → Option (AV × AH)}

def noR : ByteArray × Int × Int := (⟨#[]⟩, 0, 0)
def ofC (fn : Int) : ByteArray × Int × Int := if fn < 1 ∨ fn ≥ 65 then noR else (tabC[fn.toNat]?).getD noR
def knownC (fn : Int) : Bool := decide (1 ≤ fn ∧ fn ≤ 64)
theorem tab_get {fn : Int} (h1 : ¬ fn < 1) (h2 : ¬ fn ≥ 65) : tabC[fn.toNat]? = some (ofC fn) := by
  unfold ofC
  rw [if_neg (by omega), List.getElem?_eq_getElem (by rw [tabC_len]; omega)]
  rfl
theorem of_out {fn : Int} (h : fn < 1 ∨ fn ≥ 65) : ofC fn = noR := if_pos h
theorem resC {E : Env} {L : List Asr} {t b n : Nat} {l : List SV} (h : look E t = some (.s (.ptr (some (b, 0))))) (hl : Ldn L b 0 n l) : resE E L [.cell t (some n)] (.agg l) := ⟨b, 0, h, .inr ⟨n, l, rfl, rfl, hl⟩⟩
theorem tabC_ne : (tabC.drop 1).all (fun r => true ^^ (r.1.data.toList == [])) = true := by decide +kernel
theorem kn_eq (fn : Int) : (true ^^ ((ofC fn).1.data.toList == [])) = knownC fn := by
  by_cases h : fn < 1 ∨ fn ≥ 65
  · have : ofC fn = noR := if_pos h
    rw [this]
    exact (decide_eq_false (by omega)).symm
  · have h1 := tab_get (fn := fn) (by omega) (by omega)
    have h2 : ofC fn ∈ tabC.drop 1 := List.mem_of_getElem? (i := fn.toNat - 1) (by rw [List.getElem?_drop, show 1 + (fn.toNat - 1) = fn.toNat by omega]; exact h1)
    rw [List.all_eq_true.1 tabC_ne _ h2]
    exact (decide_eq_true (by omega)).symm
theorem namC_len : namC.length = 65 := by unfold namC; rw [List.length_map, tabC_len]
theorem nam_get {fn : Int} (h1 : ¬ fn < 1) (h2 : ¬ fn ≥ 65) : namC[fn.toNat]? = some (ofC fn).1 := by
  unfold namC
  rw [List.getElem?_map, tab_get h1 h2]; rfl
attribute [local irreducible] tabC ofC namC
theorem of_tri (fn : Int) : Tri tab ext F.calls_of [i64 fn] [] fun v P' => v = .agg (encR (ofC fn)) ∧ P' = [] := by
  refine Tri.go tab_calls_of rfl ?_
  refine RUN ?_
  refine RP.nw rfl fun b => ?_
  refine RUN ?_
  refine RP.c rfl table_tri .e rfl ?_
  rintro v P' ⟨s, rfl, rfl⟩
  refine RUN ?_
  refine RP.gq rfl (fun h1 => ?_) fun h1 => ?_
  · refine RUN ?_
    refine TC.cP rfl (fun h2 => ?_) fun h2 => ?_
    · rw [tabC_len] at h2
      have e : ofC fn = noR := of_out (by omega)
      refine RUN ?_
      exact rt_r (resC rfl (.n (Ldn.cb rfl rfl))) ⟨by rw [e]; rfl, rfl⟩ (LEnt.of .e)
    · rw [tabC_len] at h2
      have hi := tab_get h1 (show ¬ fn ≥ 65 by omega)
      have hl : fn.toNat < tabC.length := by rw [tabC_len]; omega
      refine RUN ?_
      exact rt_r (resC rfl (.n (Ldn.cb rfl rfl))) ⟨rfl, rfl⟩ (LEnt.of .e)
  · have e : ofC fn = noR := of_out (.inl h1)
    refine RUN ?_
    exact rt_r (resC rfl (.n (Ldn.cb rfl rfl))) ⟨by rw [e]; rfl, rfl⟩ (LEnt.of .e)
theorem refKnown_tri (fn : Int) : Tri tab ext F.detentref25_Known [i64 fn] [] fun v P' => v = bl (knownC fn) ∧ P' = [] := by
  refine Tri.go tab_detentref25_Known rfl ?_
  refine RUN ?_
  refine RP.gp rfl (fun h => ?_) fun h => ?_
  · refine RUN ?_
    exact rt_r rfl ⟨by simp [knownC, show 1 ≤ fn from h], rfl⟩ (LEnt.refl _)
  · refine RUN ?_
    exact rt_r rfl ⟨by simp [knownC, show ¬ 1 ≤ fn from h], rfl⟩ (LEnt.refl _)
theorem Known_tri (fn : Int) : Tri tab ext F.calls_Known [i64 fn] [] fun v P' => v = bl (knownC fn) ∧ P' = [] := by
  refine Tri.go tab_calls_Known rfl ?_
  refine RUN ?_
  refine RP.c rfl (of_tri fn) .e rfl ?_
  rintro v P' ⟨rfl, rfl⟩
  refine RUN ?_
  refine rt_r rfl ⟨?_, rfl⟩ (LEnt.refl _)
  rw [← kn_eq]
theorem Name_tri (fn : Int) : Tri tab ext F.calls_Name [i64 fn] [] fun v P' => v = .s (.str (ofC fn).1) ∧ P' = [] := by
  refine Tri.go tab_calls_Name rfl ?_
  refine RUN ?_
  refine RP.c rfl (of_tri fn) .e rfl ?_
  rintro v P' ⟨rfl, rfl⟩
  refine RUN ?_
  exact rt_r rfl ⟨rfl, rfl⟩ (LEnt.refl _)
theorem Arity_tri (fn : Int) : Tri tab ext F.calls_Arity [i64 fn] [] fun v P' => v = i64 (ofC fn).2.1 ∧ P' = [] := by
  refine Tri.go tab_calls_Arity rfl ?_
  refine RUN ?_
  refine RP.c rfl (of_tri fn) .e rfl ?_
  rintro v P' ⟨rfl, rfl⟩
  refine RUN ?_
  exact rt_r rfl ⟨rfl, rfl⟩ (LEnt.refl _)
/-- A call. -/
def encC (fn : Int) (a b c d : Int) : List SV := [.int .i64 fn, .int .i64 a, .int .i64 b, .int .i64 c, .int .i64 d]
theorem Kind_tri (fn a b c d : Int) : Tri tab ext F.calls_Kind [.agg (encC fn a b c d)] [] fun v P' => v = i64 (ofC fn).2.2 ∧ P' = [] := by
  refine Tri.go tab_calls_Kind rfl ?_
  refine RUN ?_
  refine RP.bx rfl rfl rfl fun p => ?_
  refine RUN ?_
  refine RP.c rfl (of_tri fn) .e rfl ?_
  rintro v P' ⟨rfl, rfl⟩
  refine RUN ?_
  exact rt_r rfl ⟨rfl, rfl⟩ (LEnt.of .e)
theorem refName_tri (fn : Int) : Tri tab ext F.detentref25_Name [i64 fn] [] fun v P' => v = .s (.str (ofC fn).1) ∧ P' = [] := by
  refine Tri.go tab_detentref25_Name rfl ?_
  refine RUN ?_
  refine RP.c rfl (refKnown_tri fn) .e rfl ?_
  rintro v P' ⟨rfl, rfl⟩
  refine RUN ?_
  by_cases h : 1 ≤ fn ∧ fn ≤ 64
  · rw [show knownC fn = true from decide_eq_true h]
    have hi := nam_get (show ¬ fn < 1 by omega) (show ¬ fn ≥ 65 by omega)
    have hl : fn.toNat < namC.length := by rw [namC_len]; omega
    refine TC.cF rfl ?_
    refine RUN ?_
    refine RP.c rfl names_tri .e rfl ?_
    rintro v P' ⟨s, rfl, rfl⟩
    refine RUN ?_
    exact rt_r rfl ⟨rfl, rfl⟩ (LEnt.of .e)
  · rw [show knownC fn = false from decide_eq_false h]
    have e : ofC fn = noR := of_out (by omega)
    refine TC.cT rfl ?_
    refine RUN ?_
    exact rt_r rfl ⟨by rw [e]; rfl, rfl⟩ (LEnt.refl _)
end Go.AM

/-
  calls: the document's arity and kind are the table's.
-/
namespace Go.AM
set_option maxHeartbeats 8000000
attribute [local irreducible] sq bk lpK mdx rt TC RP WK Cel Ro Row Fre RowsA RowsBut
variable {ext : Nat → List AV → AH → Option (AV × AH)}
def arX : List Nat := [4, 10, 11, 12, 52, 57, 58, 59, 60, 61, 62, 63, 64, 6, 27, 28, 29, 30, 34, 35, 36, 38, 39, 42, 45, 49, 50, 55, 31, 32, 37, 33]
def kdX : List Nat := [2, 9, 11, 15, 18, 24, 29, 36, 39, 4, 57, 58, 12, 13, 22, 25, 27, 31, 33, 34, 37, 40, 42, 43, 45, 47, 49, 61, 62, 63, 64]
theorem ar_rest : ((List.range 65).all fun k => k == 0 || arX.contains k || decide ((ofC k).2.1 = 1)) = true := by decide +kernel
theorem kd_rest : ((List.range 65).all fun k => k == 0 || kdX.contains k || decide ((ofC k).2.2 = 1)) = true := by decide +kernel
theorem ar_one {fn : Int} (h : 1 ≤ fn ∧ fn ≤ 64) (hx : arX.all (fun c => decide (¬ fn = (c : Int))) = true) : (ofC fn).2.1 = 1 := by
  have h1 := List.all_eq_true.1 ar_rest fn.toNat (List.mem_range.2 (by omega))
  have e : ((fn.toNat : Nat) : Int) = fn := by omega
  rw [e] at h1
  simp only [Bool.or_eq_true, beq_iff_eq, decide_eq_true_eq] at h1
  rcases h1 with (h1 | h1) | h1
  · omega
  · have h2 := List.all_eq_true.1 hx fn.toNat (by simpa using h1)
    rw [e] at h2
    simp at h2
  · exact h1
theorem kd_one {fn : Int} (h : 1 ≤ fn ∧ fn ≤ 64) (hx : kdX.all (fun c => decide (¬ fn = (c : Int))) = true) : (ofC fn).2.2 = 1 := by
  have h1 := List.all_eq_true.1 kd_rest fn.toNat (List.mem_range.2 (by omega))
  have e : ((fn.toNat : Nat) : Int) = fn := by omega
  rw [e] at h1
  simp only [Bool.or_eq_true, beq_iff_eq, decide_eq_true_eq] at h1
  rcases h1 with (h1 | h1) | h1
  · omega
  · have h2 := List.all_eq_true.1 hx fn.toNat (by simpa using h1)
    rw [e] at h2
    simp at h2
  · exact h1
theorem refArity_tri (fn : Int) : Tri tab ext F.detentref25_Arity [i64 fn] [] fun v P' => v = i64 (ofC fn).2.1 ∧ P' = [] := by
  refine Tri.go tab_detentref25_Arity rfl ?_
  refine RUN ?_
  repeat (refine TC.cP rfl (fun h => by first | (exfalso; omega) | (subst h; refine RUN ?_; exact rt_r rfl ⟨by kernel_rfl, rfl⟩ (LEnt.refl _))) fun h => ?_; refine RUN ?_)
  refine RP.c rfl (refKnown_tri fn) .e rfl ?_
  rintro v P' ⟨rfl, rfl⟩
  refine RUN ?_
  by_cases hk : 1 ≤ fn ∧ fn ≤ 64
  · rw [show knownC fn = true from decide_eq_true hk]
    have e : (ofC fn).2.1 = 1 := ar_one hk (by simp [arX]; omega)
    refine TC.cT rfl ?_
    refine RUN ?_
    exact rt_r rfl ⟨by rw [e], rfl⟩ (LEnt.refl _)
  · rw [show knownC fn = false from decide_eq_false hk]
    have e : ofC fn = noR := of_out (by omega)
    refine TC.cF rfl ?_
    refine RUN ?_
    exact rt_r rfl ⟨by rw [e]; rfl, rfl⟩ (LEnt.refl _)
theorem refKind_tri (fn : Int) : Tri tab ext F.detentref25_Kind [i64 fn] [] fun v P' => v = i64 (ofC fn).2.2 ∧ P' = [] := by
  refine Tri.go tab_detentref25_Kind rfl ?_
  refine RUN ?_
  repeat (refine TC.cP rfl (fun h => by first | (exfalso; omega) | (subst h; refine RUN ?_; exact rt_r rfl ⟨by kernel_rfl, rfl⟩ (LEnt.refl _))) fun h => ?_; refine RUN ?_)
  refine RP.c rfl (refKnown_tri fn) .e rfl ?_
  rintro v P' ⟨rfl, rfl⟩
  refine RUN ?_
  by_cases hk : 1 ≤ fn ∧ fn ≤ 64
  · rw [show knownC fn = true from decide_eq_true hk]
    have e : (ofC fn).2.2 = 1 := kd_one hk (by simp [kdX]; omega)
    refine TC.cT rfl ?_
    refine RUN ?_
    exact rt_r rfl ⟨by rw [e], rfl⟩ (LEnt.refl _)
  · rw [show knownC fn = false from decide_eq_false hk]
    have e : ofC fn = noR := of_out (by omega)
    refine TC.cF rfl ?_
    refine RUN ?_
    exact rt_r rfl ⟨by rw [e]; rfl, rfl⟩ (LEnt.refl _)
end Go.AM

/-
  Texts in walks.
-/
namespace Go.AM
open Go.Proofs

/-- A text of these bytes. -/
def mkB (l : List UInt8) : ByteArray := ⟨l.toArray⟩
abbrev tx (l : List UInt8) : AV := .s (.str (mkB l))
theorem mkB_size (l : List UInt8) : (mkB l).size = l.length := by simp [mkB, ByteArray.size]
theorem mkB_list (l : List UInt8) : (mkB l).data.toList = l := rfl
theorem mkB_eq (s : ByteArray) : mkB s.data.toList = s := rfl
theorem mkB_app (a b : List UInt8) : mkB a ++ mkB b = mkB (a ++ b) := by
  apply ByteArray.ext
  simp [mkB]
theorem mkB_inj {a b : List UInt8} (h : mkB a = mkB b) : a = b := by
  have := congrArg (fun s => s.data.toList) h
  exact this
theorem mkB_ext (l : List UInt8) (i j : Nat) : (mkB l).extract i j = mkB ((l.take j).drop i) := by
  apply ByteArray.ext
  apply Array.ext'
  simp [mkB, List.drop_take]

section
variable {tab : Nat → Option RFunc} {ext : Nat → List AV → AH → Option (AV × AH)} {n d i : Nat} {E : Env} {L R : List Asr} {os : List ROper} {Kr : Env → List Asr → Prop} {ws : List Watch}
theorem RP.h {h : HOp} {args : List Opd} {vs : List AV} {v : AV} (ha : evl E args = some vs) (hq : ∀ (ρ : HF) (H : AH) (X : List Asr) (id : Nat), Sat ρ H (L ++ X) → hopA h id vs H = some (v, H)) (hd : Nat.blt d n = true)
    (k : WK tab ext n ws E ((d, v) :: E) L os Kr) : RP tab ext n E L (⟨some d, .hop h args, none, i, ws⟩ :: os) Kr :=
  RP.gen rfl fun ρ Rs base T H hT hl hs => by
    refine ⟨(v, H), ?_, _, L, k, hl.put hT hd v, hs.drop⟩
    show hopA h _ (args.map (ev T)) H = _
    rw [evl_ok hl ha]
    exact hq ρ H _ _ hs.drop.mid
theorem RP.sa {len esz b o : Nat} {x : Opd} {l : List SV} (hx : evo E x = some (.s (.ptr (some (b, o))))) (hin : In1 (Cel b l) L R) (hle : 0 < esz ∧ o + len * esz ≤ l.length) (hd : Nat.blt d n = true)
    (k : WK tab ext n ws E ((d, .s (.slice (some (b, o)) len len esz)) :: E) L os Kr) : RP tab ext n E L (⟨some d, .hop (.slArr len esz) [x], none, i, ws⟩ :: os) Kr :=
  RP.h (vs := [.s (.ptr (some (b, o)))]) (by simp [evl, hx]) (fun ρ H X id hs => by
    have hb := (hs.perm (hin.perm.append_right X)).cel
    simp only [hopA, hb]
    rw [if_pos hle]) hd k
theorem RP.sh {len esz b o m : Nat} {kd : IntKind} {x y : Opd} {l : List SV} (hx : evo E x = some (.s (.ptr (some (b, o))))) (hy : evo E y = some (.s (.int kd m))) (hin : In1 (Cel b l) L R) (hle : 0 < esz ∧ o + len * esz ≤ l.length) (hm : m ≤ len) (hd : Nat.blt d n = true)
    (k : WK tab ext n ws E ((d, .s (.slice (some (b, o)) m len esz)) :: E) L os Kr) : RP tab ext n E L (⟨some d, .hop (.slArrH len esz) [x, y], none, i, ws⟩ :: os) Kr :=
  RP.h (vs := [.s (.ptr (some (b, o))), .s (.int kd m)]) (by simp [evl, hx, hy]) (fun ρ H X id hs => by
    have hb := (hs.perm (hin.perm.append_right X)).cel
    simp only [hopA, hb]
    rw [if_pos ⟨hle.1, hle.2, by omega, by omega⟩]
    rfl) hd k
theorem RP.ts {b len cap : Nat} {x : Opd} {l : List SV} {bs : List UInt8} (hx : evo E x = some (.s (.slice (some (b, 0)) len cap 1))) (hin : In1 (Cel b l) L R) (hl : len ≤ l.length) (hb : bytesA (l.take len) = some bs) (hd : Nat.blt d n = true)
    (k : WK tab ext n ws E ((d, tx bs) :: E) L os Kr) : RP tab ext n E L (⟨some d, .hop .toStr [x], none, i, ws⟩ :: os) Kr :=
  RP.h (vs := [.s (.slice (some (b, 0)) len cap 1)]) (by simp [evl, hx]) (fun ρ H X id hs => by
    have hbk := (hs.perm (hin.perm.append_right X)).cel
    simp only [hopA, sliceCells]
    rw [if_pos ⟨trivial, Nat.le_refl _⟩, ldn_of H hbk, if_pos (by omega), List.drop_zero, Nat.mul_one]
    simp only [Option.bind_some, hb, Option.map_some]
    rfl) hd k
/-- Two texts put together. -/
theorem RP.cat {x y : Opd} {a b : List UInt8} (hx : evo E x = some (tx a)) (hy : evo E y = some (tx b)) (h : a.length + b.length ≤ 9223372036854775807) (hd : Nat.blt d n = true)
    (k : RP tab ext n ((d, tx (a ++ b)) :: E) L os Kr) : RP tab ext n E L (⟨some d, .bin .add x y, none, i, []⟩ :: os) Kr :=
  RP.pw hx hy (by
    show (if BinOp.add = .add ∧ (mkB a).size + (mkB b).size ≤ 9223372036854775807 then some (AV.s (.str (mkB a ++ mkB b))) else none) = _
    rw [if_pos ⟨rfl, by rw [mkB_size, mkB_size]; exact h⟩, mkB_app]) hd k
/-- A text's length, a byte of it, a part. -/
theorem RP.sn {x : Opd} {a : List UInt8} (hx : evo E x = some (tx a)) (hd : Nat.blt d n = true) (k : RP tab ext n ((d, i64 a.length) :: E) L os Kr) : RP tab ext n E L (⟨some d, .index 0 1 none x (.c (.s (.int .i64 0))), none, i, []⟩ :: os) Kr :=
  RP.p (v := i64 a.length) (by
    show (evo E x).bind _ = _
    rw [hx]
    show some (AV.s (.int .i64 (mkB a).size)) = _
    rw [mkB_size]) hd k
theorem RP.sx {x y : Opd} {a : List UInt8} {kd : IntKind} {j : Nat} {c : UInt8} (hx : evo E x = some (tx a)) (hy : evo E y = some (.s (.int kd j))) (hc : a[j]? = some c) (hd : Nat.blt d n = true) (k : RP tab ext n ((d, .s (.int .u8 c.toNat)) :: E) L os Kr) : RP tab ext n E L (⟨some d, .index 0 0 none x y, none, i, []⟩ :: os) Kr :=
  RP.p (v := .s (.int .u8 c.toNat)) (by
    show (evo E x).bind (fun x => (evo E y).bind fun i => indexA 0 0 none x i) = _
    rw [hx, hy]
    show strIx 0 0 none (mkB a) j = _
    have hj := (List.getElem?_eq_some_iff.1 hc).1
    unfold strIx
    rw [if_pos ⟨rfl, rfl⟩, if_pos rfl, if_pos ⟨by omega, by rw [mkB_size]; omega⟩]
    rw [mkB_list, Int.toNat_natCast, List.getD_eq_getElem?_getD, hc]; rfl) hd k
theorem RP.sl {x : Opd} {lo hi : Option Opd} {a : List UInt8} {l h : Nat} {kl kh : IntKind} (hx : evo E x = some (tx a)) (h1 : evm E lo = some (some (.s (.int kl l)))) (h2 : evm E hi = some (some (.s (.int kh h)))) (hl : l ≤ h) (hh : h ≤ a.length) (hd : Nat.blt d n = true)
    (k : RP tab ext n ((d, tx ((a.take h).drop l)) :: E) L os Kr) : RP tab ext n E L (⟨some d, .slSl 0 x lo hi (some (.c (.s (.str ByteArray.empty)))), none, i, []⟩ :: os) Kr :=
  RP.p (v := tx ((a.take h).drop l)) (by
    show (evo E x).bind (fun x => (evm E lo).bind fun lo => (evm E hi).bind fun hi => (evm E (some (.c (.s (.str ByteArray.empty))))).bind fun mx => slSlA 0 x lo hi mx) = _
    rw [hx, h1, h2]
    show strSl 0 (mkB a) (some (.s (.int kl l))) (some (.s (.int kh h))) (some (.s (.str ByteArray.empty))) = _
    unfold strSl
    simp only [if_true, boundsA, boundA, mkB_size, Option.bind_some]
    rw [if_pos ⟨by omega, by omega⟩]
    simp only [Option.bind_some, Int.toNat_natCast]
    rw [if_pos ⟨by omega, by omega⟩]
    simp only [Option.bind_some, mkB_ext]) hd k
theorem RP.sl0 {x : Opd} {hi : Option Opd} {a : List UInt8} {h : Nat} {kh : IntKind} (hx : evo E x = some (tx a)) (h2 : evm E hi = some (some (.s (.int kh h)))) (hh : h ≤ a.length) (hd : Nat.blt d n = true)
    (k : RP tab ext n ((d, tx (a.take h)) :: E) L os Kr) : RP tab ext n E L (⟨some d, .slSl 0 x none hi (some (.c (.s (.str ByteArray.empty)))), none, i, []⟩ :: os) Kr :=
  RP.p (v := tx (a.take h)) (by
    show (evo E x).bind (fun x => (evm E none).bind fun lo => (evm E hi).bind fun hi => (evm E (some (.c (.s (.str ByteArray.empty))))).bind fun mx => slSlA 0 x lo hi mx) = _
    rw [hx, h2]
    show strSl 0 (mkB a) none (some (.s (.int kh h))) (some (.s (.str ByteArray.empty))) = _
    unfold strSl
    simp only [if_true, boundsA, boundA, mkB_size, Option.bind_some]
    rw [if_pos ⟨by omega, by omega⟩]
    simp only [Option.bind_some, Int.toNat_natCast, mkB_ext, List.drop_zero]) hd k
theorem RP.sl1 {x : Opd} {lo : Option Opd} {a : List UInt8} {l : Nat} {kl : IntKind} (hx : evo E x = some (tx a)) (h1 : evm E lo = some (some (.s (.int kl l)))) (hl : l ≤ a.length) (hd : Nat.blt d n = true)
    (k : RP tab ext n ((d, tx (a.drop l)) :: E) L os Kr) : RP tab ext n E L (⟨some d, .slSl 0 x lo none (some (.c (.s (.str ByteArray.empty)))), none, i, []⟩ :: os) Kr :=
  RP.p (v := tx (a.drop l)) (by
    show (evo E x).bind (fun x => (evm E lo).bind fun lo => (evm E none).bind fun hi => (evm E (some (.c (.s (.str ByteArray.empty))))).bind fun mx => slSlA 0 x lo hi mx) = _
    rw [hx, h1]
    show strSl 0 (mkB a) (some (.s (.int kl l))) none (some (.s (.str ByteArray.empty))) = _
    unfold strSl
    simp only [if_true, boundsA, boundA, mkB_size, Option.bind_some]
    rw [if_pos ⟨by omega, by omega⟩]
    simp only [Option.bind_some, Int.toNat_natCast, mkB_ext]
    rw [List.take_of_length_le (Nat.le_refl _)]) hd k
end

/- ---- the library's functions ---- -/
theorem CallP_ext' {tab : Nat → Option RFunc} {ext : Nat → List AV → AH → Option (AV × AH)} {f : Nat} {args : List AV} {H H' : AH} {v : AV} {K : AV → AH → Prop} (hf : tab f = none) (h : ext f args H = some (v, H')) (hK : K v H') : CallP tab ext f args H K := ⟨1, v, H', by simp [run, hf, h], hK⟩
abbrev itL (n : Int) : List UInt8 := Lib.itoa n
theorem Itoa_tri (n : Int) (h : -9223372036854775808 ≤ n ∧ n ≤ 9223372036854775807) : Tri tab sext F.strconv_Itoa [i64 n] [] fun v P' => v = tx (itL n) ∧ P' = [] := by
  intro ρ H R hs
  refine CallP_ext' rfl (if_pos ⟨rfl, by simp [i64ok, h]⟩ : (if F.strconv_Itoa = F.strconv_Itoa ∧ i64ok n = true then some (AV.s (.str (itB n)), H) else none) = _) ⟨[], ⟨rfl, rfl⟩, hs⟩
theorem FormatInt_tri (n : Int) (h : -9223372036854775808 ≤ n ∧ n ≤ 9223372036854775807) : Tri tab sext F.strconv_FormatInt [i64 n, i64 10] [] fun v P' => v = tx (itL n) ∧ P' = [] := by
  intro ρ H R hs
  refine CallP_ext' rfl (if_pos ⟨rfl, rfl, by simp [i64ok, h]⟩ : (if F.strconv_FormatInt = F.strconv_FormatInt ∧ (10 : Int) = 10 ∧ i64ok n = true then some (AV.s (.str (itB n)), H) else none) = _) ⟨[], ⟨rfl, rfl⟩, hs⟩
theorem ParseInt_tri (s : List UInt8) (h : s.length ≤ 281474976710656) : Tri tab sext F.strconv_ParseInt [tx s, i64 10, i64 64] [] fun v P' => v = pIn (mkB s) ∧ P' = [] := by
  intro ρ H R hs
  refine CallP_ext' rfl (if_pos ⟨rfl, rfl, rfl, by rw [mkB_size]; exact h⟩ : (if F.strconv_ParseInt = F.strconv_ParseInt ∧ (10 : Int) = 10 ∧ (64 : Int) = 64 ∧ (mkB s).size ≤ 281474976710656 then some (pIn (mkB s), H) else none) = _) ⟨[], ⟨rfl, rfl⟩, hs⟩
/-- All plain steps, texts' lengths too. -/
theorem RUNS {P Q : Prop} (h : P) (hf : Hid P → Q := by intro hp; (repeat (first | (refine is_rp ?_; first | refine RP.fx rfl rfl ?_ | refine RP.sn rfl rfl ?_ | refine RP.p rfl rfl ?_ | refine RP.done ?_ | (refine is_l ?_; first | refine RP.l rfl (by ((repeat (first | exact Ld.c rfl | exact Ld.r rfl | exact Ld.g (by assumption) | exact Ld.w (fun _ => by rfl) (by assumption) (by rfl) | exact Ld.a (by rfl) (fun _ => by rfl) (by assumption) (by rfl) | apply Ld.n)); fail_if_success refine ?_)) rfl ?_ | refine RP.ln rfl (by ((repeat (first | exact Ldn.cb (by rfl) rfl | exact Ldn.rb (by rfl) rfl | exact Ldn.w (fun _ => by rfl) (by assumption) | apply Ldn.n)); fail_if_success refine ?_)) rfl ?_) | refine RP.gt rfl ?_ | refine RP.gf rfl ?_ | refine RP.gu rfl ?_ | (refine is_b ?_; first | refine RP.inc rfl rfl (by omega) rfl ?_ | refine RP.ad rfl rfl (by omega) rfl ?_ | refine RP.dec rfl rfl (by omega) rfl ?_ | refine RP.su rfl rfl (by omega) rfl ?_) | (refine is_x ?_; first | refine RP.ixn rfl rfl (by ((repeat (first | exact RdIn.h | exact RdIn.a | apply RdIn.n)); fail_if_success refine ?_)) (by omega) rfl ?_ | refine RP.ix rfl rfl (by ((repeat (first | exact RdIn.h | exact RdIn.a | apply RdIn.n)); fail_if_success refine ?_)) (by omega) rfl ?_ | refine RP.ixp rfl rfl (by omega) rfl ?_ | refine RP.ixs rfl rfl (by omega) rfl ?_) | refine RP.ian rfl rfl (by omega) rfl ?_ | refine RP.ia rfl rfl (by omega) rfl ?_ | refine RP.ln1 rfl (by ((repeat (first | exact RdIn.h | exact RdIn.a | apply RdIn.n)); fail_if_success refine ?_)) rfl ?_ | (refine is_s ?_; refine RP.s rfl rfl rfl rfl (by ((repeat (first | exact Stw.c1 (by rfl) rfl | exact Stw.cb (by rfl) rfl | apply Stw.n)); fail_if_success refine ?_)) ?_) | refine RP.pn rfl ?_) | refine sq_n ?_ | (refine is_tc ?_; first | refine TC.seq ?_ | refine TC.reg (by kernel_rfl) ?_ | refine TC.cT rfl ?_ | refine TC.cF rfl ?_ | refine TC.blk ?_ | refine TC.skip ?_ | refine TC.ret ?_ | refine TC.exit ?_) | refine WK.z ?_ | refine sq_r ?_ | refine sq_o ?_ | refine bk_n ?_ | refine bk_r ?_ | refine bk_e ?_ | refine bk_o rfl ?_ | refine lp_r ?_ | refine lp_o ?_ | refine md_r ?_ | refine md_o ?_)); exact hp.h) : Q := hf ⟨h⟩
end Go.AM

/-
  Texts: words between single blanks.
-/
namespace Go.AM
open Go.Proofs

def wordsL : List UInt8 → List (List UInt8)
  | [] => [[]]
  | c :: r => if c = 32 then [] :: wordsL r else match wordsL r with
    | w :: ws => (c :: w) :: ws
    | [] => [[c]]
theorem wordsL_ne (s : List UInt8) : wordsL s ≠ [] := by
  cases s with
  | nil => simp [wordsL]
  | cons c r =>
    simp only [wordsL]
    split
    · simp
    · split <;> simp
theorem count_nil32 : Lib.count [] [32] = 0 := by decide
theorem index32_eq (r : List UInt8) : Lib.index (32 :: r) [32] = 0 := by simp [Lib.index]
theorem index32_ne {c : UInt8} (r : List UInt8) (h : c ≠ 32) : Lib.index (c :: r) [32] = if Lib.index r [32] == -1 then -1 else Lib.index r [32] + 1 := by
  have h' : ¬ (32 = c) := fun e => h e.symm
  simp only [Lib.index]
  rw [if_neg (by simpa using h')]
theorem split_words : ∀ s : List UInt8, Lib.split s [32] = wordsL s
  | [] => by
    unfold Lib.split
    rw [count_nil32]; rfl
  | c :: r => by
    have ih := split_words r
    by_cases h : c = 32
    · subst h
      simp only [wordsL, if_true]
      unfold Lib.split at ih ⊢
      rw [Lib.count_cons_eq, Nat.add_comm]
      simp only [Lib.splitK]
      rw [index32_eq, if_neg (by decide)]
      show [] :: _ = _
      congr 1
    · simp only [wordsL, if_neg h]
      unfold Lib.split at ih ⊢
      rw [Lib.count_cons_ne _ _ _ h]
      cases hk : Lib.count r [32] with
      | zero =>
        rw [hk] at ih
        rw [← ih]
        rfl
      | succ k =>
        rw [hk] at ih
        simp only [Lib.splitK] at ih ⊢
        rw [index32_ne r h]
        by_cases hi : Lib.index r [32] = -1
        · rw [hi, if_pos (by decide)] at ih
          rw [hi]
          simp only [beq_self_eq_true, if_true]
          rw [← ih]
        · have hge := Lib.index_ge r [32]
          rw [if_neg (by simpa using hi)] at ih
          have e0 : (if (Lib.index r [32] == -1) = true then (-1 : Int) else Lib.index r [32] + 1) = Lib.index r [32] + 1 := if_neg (by simpa using hi)
          rw [e0, if_neg (by simp; omega), ← ih]
          have e : (Lib.index r [32] + 1).toNat = (Lib.index r [32]).toNat + 1 := by omega
          rw [e]
          rfl
theorem countB_32 (s : List UInt8) : Lib.countB (mkB s) (mkB [32]) = Lib.count s [32] := by
  rfl
theorem spl_words (s : List UInt8) : spl (mkB s) (mkB [32]) = (wordsL s).map mkB := by
  have h := Lib.splitB_data (mkB [32]) 0 (Lib.countB (mkB s) (mkB [32])) (mkB s)
  have h2 : (spl (mkB s) (mkB [32])).map (·.data.toList) = wordsL s := by
    unfold spl
    rw [h, mkB_list, mkB_list]
    exact split_words s
  rw [← h2, List.map_map]
  have : (mkB ∘ fun x : ByteArray => x.data.toList) = id := funext fun x => mkB_eq x
  rw [this, List.map_id]
def encW (s : List UInt8) : List SV := [.str (mkB s)]
theorem encW_len (s : List UInt8) : (encW s).length = 1 := rfl
theorem flat_encW : ∀ ws : List (List UInt8), flat encW ws = ws.map fun w => SV.str (mkB w)
  | [] => rfl
  | w :: ws => by
    show encW w ++ flat encW ws = _
    rw [flat_encW ws]; rfl
theorem wordsL_len : ∀ s : List UInt8, (wordsL s).length ≤ s.length + 1
  | [] => by simp [wordsL]
  | c :: r => by
    have ih := wordsL_len r
    simp only [wordsL]
    split
    · simp; exact ih
    · split
      · rename_i w ws e
        rw [e] at ih
        simp at ih ⊢; omega
      · simp
theorem Split_tri (s : List UInt8) (h : s.length < 4294967281) : Tri tab sext F.strings_Split [tx s, tx [32]] [] fun v P' => ∃ q, v = .s q ∧ P' = [Row encW 1 q (wordsL s)] := by
  intro ρ H R hs
  have hf := Sat.free hs 1 0 (by omega)
  have h1 := Sat.mk hf ((wordsL s).map fun w => SV.str (mkB w))
  have hlen : (spl (mkB s) (mkB [32])).length = (wordsL s).length := by rw [spl_words, List.length_map]
  refine CallP_ext' (H' := (H.bump 1).set H.next (.cells false ((wordsL s).map fun w => SV.str (mkB w)))) (v := .s (.slice (some (H.next, 0)) (wordsL s).length (wordsL s).length 1)) rfl ((if_pos ⟨rfl, rfl, by rw [mkB_size]; exact h⟩ : (if F.strings_Split = F.strings_Split ∧ (mkB [32]).size = 1 ∧ (mkB s).size < 4294967281 then ((H.bump 1).new H.next (.cells false ((spl (mkB s) (mkB [32])).map SV.str))).map fun H' => (AV.s (.slice (some (H.next, 0)) (spl (mkB s) (mkB [32])).length (spl (mkB s) (mkB [32])).length 1), H') else none) = _).trans ?_) ⟨_, ⟨_, rfl, rfl⟩, ?_⟩
  · rw [hlen, spl_words, List.map_map, new_of (H.bump 1) (show (H.bump 1).blk H.next = none from hf.fre)]
    rfl
  · have h2 : Sat ρ ((H.bump 1).set H.next (.cells false ((wordsL s).map fun w => SV.str (mkB w)))) (Cel H.next (flat encW (wordsL s) ++ []) :: R) := by
      rw [flat_encW, List.append_nil]; exact h1
    exact h2.mkRow (c := (wordsL s).length) (by rw [List.append_nil, flat_encW, List.length_map]; omega) (Nat.le_refl _)
end Go.AM

/-
  calls: numbers in words (the document's).
-/
namespace Go.AM
open Go.Proofs
set_option maxHeartbeats 8000000
attribute [local irreducible] sq bk lpK mdx rt TC RP WK Cel Ro Row Fre RowsA RowsBut

theorem dec_small {u : Nat} (h : u < 10) : Lib.decDigits u = [UInt8.ofNat (48 + u)] := by rw [Lib.decDigits, dif_pos h]
theorem dec_big {u : Nat} (h : ¬ u < 10) : Lib.decDigits u = Lib.decDigits (u / 10) ++ [UInt8.ofNat (48 + u % 10)] := by rw [Lib.decDigits, dif_neg h]
def absN (n : Int) : Nat := n.natAbs
theorem addU64 {a b : Int} (h : 0 ≤ a + b ∧ a + b < 18446744073709551616) : binA .add (.s (.int .u64 a)) (.s (.int .u64 b)) = some (.s (.int .u64 (a + b))) := by
  simp [binA, arithA, wrap_u64 h.1 h.2]
theorem subU64 {a : Int} (h : 1 ≤ a ∧ a < 18446744073709551616) : binA .sub (.s (.int .u64 0)) (.s (.int .u64 a)) = some (.s (.int .u64 (18446744073709551616 - a))) := by
  have : IntKind.u64.wrap (0 - a) = 18446744073709551616 - a := by
    rw [IntKind.wrap_u64]; omega
  simp only [binA, arithA, if_true, Option.map_some, this]
theorem wrap_u8 {x : Int} (h1 : 0 ≤ x) (h2 : x < 256) : IntKind.u8.wrap x = x := by rw [IntKind.wrap_u8]; omega
theorem bytes_one {x : Nat} (h : x < 256) : bytesA ([SV.int .u8 (x : Int)].take 1) = some [UInt8.ofNat x] := by
  show (if _ then _ else _) = _
  rw [if_pos (by omega), Int.toNat_natCast]; rfl
theorem decimal_tri (n : Int) (hn : -9223372036854775808 ≤ n ∧ n ≤ 9223372036854775807) : Tri tab sext F.detentref25_decimal [i64 n] [] fun v P' => v = tx (itL n) ∧ P' = [] := by
  refine Tri.go tab_detentref25_decimal rfl ?_
  refine RUNS ?_
  refine TC.mid (α := Unit) (fun _ => True) (fun _ => [(0, i64 n), (3, u64 n.natAbs)]) (fun _ => []) ?_ ?_
  · refine TC.cP rfl (fun h => ?_) fun h => ?_
    · refine RUNS ?_
      refine RP.pw rfl rfl (subU64 (by rw [IntKind.wrap_u64]; omega)) rfl ?_
      refine RUNS ?_
      exact md_n () trivial ⟨rfl, by rw [show (18446744073709551616 - IntKind.u64.wrap n) = (n.natAbs : Int) by rw [IntKind.wrap_u64]; omega]; rfl, trivial⟩ (LEnt.refl _)
    · refine RUNS ?_
      exact md_n () trivial ⟨rfl, by rw [show IntKind.u64.wrap n = (n.natAbs : Int) by rw [IntKind.wrap_u64]; omega]; rfl, trivial⟩ (LEnt.refl _)
  · intro _ _
    have hu : n.natAbs ≤ 9223372036854775808 := by omega
    have hit : itL n = if n < 0 then 45 :: Lib.decDigits n.natAbs else Lib.decDigits n.natAbs := by
      unfold itL Lib.itoa
      by_cases h : n < 0
      · rw [if_pos h, if_pos h]
      · rw [if_neg h, if_neg h]; congr 1; omega
    generalize n.natAbs = u at hu hit ⊢
    refine RUNS ?_
    rw [show ((u : Nat) : Int).tmod 10 = ((u % 10 : Nat) : Int) from rfl]
    refine RP.pw rfl rfl (addU64 (by omega)) rfl ?_
    refine RUNS ?_
    rw [wrap_u8 (show (0 : Int) ≤ 48 + ((u % 10 : Nat) : Int) by omega) (by omega), show (48 + ((u % 10 : Nat) : Int)) = ((48 + u % 10 : Nat) : Int) by omega]
    refine RP.bs rfl rfl rfl fun b => ?_
    refine RP.ts rfl .h (Nat.le_refl _) (bytes_one (by omega)) rfl ?_
    refine RUNS ?_
    refine TC.loop (fun q : Nat × List UInt8 => q.1) (fun q => q.1 ≤ 9223372036854775808 ∧ Lib.decDigits u = (if q.1 < 10 then [] else Lib.decDigits (q.1 / 10)) ++ q.2 ∧ q.2.length * 9 + q.1 ≤ u + 9) (fun q => [(0, i64 n), (3, u64 q.1), (4, tx q.2)]) (fun _ => []) (u, [UInt8.ofNat (48 + u % 10)]) ⟨hu, ?_, by simp; omega⟩ ⟨rfl, rfl, rfl, trivial⟩ (LEnt.of .e) ?_
    · dsimp only
      by_cases h : u < 10
      · rw [if_pos h, dec_small h, Nat.mod_eq_of_lt h]; rfl
      · rw [if_neg h, dec_big h]
    rintro ⟨v, t⟩ ⟨hv, he, hl⟩
    dsimp only at hv he hl ⊢
    refine RUNS ?_
    refine TC.cP rfl (fun h => ?_) fun h => ?_
    · have hv10 : ¬ v < 10 := by omega
      refine RUNS ?_
      rw [show IntKind.u64.wrap (((v : Nat) : Int).tdiv 10) = ((v / 10 : Nat) : Int) by rw [show ((v : Nat) : Int).tdiv 10 = ((v / 10 : Nat) : Int) from rfl, wrap_u64 (by omega) (by omega)], show ((v / 10 : Nat) : Int).tmod 10 = ((v / 10 % 10 : Nat) : Int) from rfl]
      refine RP.pw rfl rfl (addU64 (by omega)) rfl ?_
      refine RUNS ?_
      rw [wrap_u8 (show (0 : Int) ≤ 48 + ((v / 10 % 10 : Nat) : Int) by omega) (by omega), show (48 + ((v / 10 % 10 : Nat) : Int)) = ((48 + v / 10 % 10 : Nat) : Int) by omega]
      refine RP.bs rfl rfl rfl fun b => ?_
      refine RP.ts rfl .h (Nat.le_refl _) (bytes_one (by omega)) rfl ?_
      refine RUNS ?_
      refine RP.cat rfl rfl (by simp; omega) rfl ?_
      refine RUNS ?_
      refine lp_n (v / 10, [UInt8.ofNat (48 + v / 10 % 10)] ++ t) ⟨by dsimp only; omega, ?_, by simp; omega⟩ (by dsimp only; omega) ⟨rfl, rfl, rfl, trivial⟩ (LEnt.of .e)
      dsimp only
      rw [he, if_neg hv10]
      by_cases h2 : v / 10 < 10
      · rw [if_pos h2, dec_small h2, Nat.mod_eq_of_lt h2]; rfl
      · rw [if_neg h2, dec_big h2, List.append_assoc]
    · rw [if_pos (by omega), List.nil_append] at he
      refine RUNS ?_
      refine TC.cP rfl (fun h0 => ?_) fun h0 => ?_
      · rw [if_pos h0, he] at hit
        refine RUNS ?_
        refine RP.cat (a := [45]) rfl rfl (by simp; omega) rfl ?_
        refine RUNS ?_
        exact rt_r rfl ⟨by rw [hit]; rfl, rfl⟩ (LEnt.refl _)
      · rw [if_neg h0, he] at hit
        refine RUNS ?_
        exact rt_r rfl ⟨by rw [hit], rfl⟩ (LEnt.refl _)
end Go.AM

/-
  Numbers in words, plainly.
-/
namespace Go.AM
open Go.Proofs

def isDg (c : UInt8) : Prop := 48 ≤ c.toNat ∧ c.toNat ≤ 57
def valA (acc : Nat) : List UInt8 → Nat
  | [] => acc
  | c :: r => valA (acc * 10 + (c.toNat - 48)) r
def rng64 (v : Int) : Prop := -9223372036854775808 ≤ v ∧ v ≤ 9223372036854775807
theorem valA_snoc : ∀ (l : List UInt8) (acc : Nat) (c : UInt8), valA acc (l ++ [c]) = valA acc l * 10 + (c.toNat - 48)
  | [], _, _ => rfl
  | _ :: l, _, c => valA_snoc l _ c
theorem valA_ge : ∀ (l : List UInt8) (acc : Nat), acc ≤ valA acc l
  | [], _ => Nat.le_refl _
  | c :: r, acc => Nat.le_trans (by omega) (valA_ge r (acc * 10 + (c.toNat - 48)))
theorem valA_lt (l : List UInt8) : ∀ (acc : Nat), (∀ c ∈ l, isDg c) → valA acc l < (acc + 1) * 10 ^ l.length := by
  induction l with
  | nil =>
    intro acc _
    show acc < (acc + 1) * 10 ^ 0
    rw [Nat.pow_zero]; omega
  | cons c r ih =>
    intro acc h
    have h1 := ih (acc * 10 + (c.toNat - 48)) fun x hx => h x (by simp [hx])
    have h2 : 48 ≤ c.toNat ∧ c.toNat ≤ 57 := h c (by simp)
    refine Nat.lt_of_lt_of_le h1 ?_
    rw [List.length_cons, Nat.pow_succ, Nat.mul_comm (10 ^ r.length) 10, ← Nat.mul_assoc]
    exact Nat.mul_le_mul_right _ (by omega)
theorem dg_nat {k : Nat} (h : k < 10) : (UInt8.ofNat (48 + k)).toNat = 48 + k := by rw [UInt8.toNat_ofNat']; omega
theorem dec_dg (u : Nat) : ∀ c ∈ Lib.decDigits u, isDg c := by
  induction u using Nat.strongRecOn with
  | _ u ih =>
    intro c hc
    by_cases h : u < 10
    · rw [dec_small h] at hc
      rw [List.mem_singleton.1 hc]
      unfold isDg; rw [dg_nat h]; omega
    · rw [dec_big h] at hc
      rcases List.mem_append.1 hc with hc | hc
      · exact ih (u / 10) (by omega) c hc
      · rw [List.mem_singleton.1 hc]
        unfold isDg; rw [dg_nat (Nat.mod_lt _ (by omega))]; omega
theorem dec_val (u : Nat) : valA 0 (Lib.decDigits u) = u := by
  induction u using Nat.strongRecOn with
  | _ u ih =>
    by_cases h : u < 10
    · rw [dec_small h]
      show 0 * 10 + ((UInt8.ofNat (48 + u)).toNat - 48) = u
      rw [dg_nat h]; omega
    · rw [dec_big h, valA_snoc, ih (u / 10) (by omega), dg_nat (Nat.mod_lt _ (by omega))]; omega
theorem dec_ne (u : Nat) : 1 ≤ (Lib.decDigits u).length := by
  by_cases h : u < 10
  · rw [dec_small h]; simp
  · rw [dec_big h]; simp
theorem dec_len : ∀ (k u : Nat), u < 10 ^ (k + 1) → (Lib.decDigits u).length ≤ k + 1
  | 0, u, h => by rw [dec_small (by simpa using h)]; simp
  | k + 1, u, h => by
    by_cases h10 : u < 10
    · rw [dec_small h10]; simp
    · rw [dec_big h10, List.length_append]
      have := dec_len k (u / 10) (by rw [Nat.pow_succ] at h; omega)
      simp; omega
theorem parse_val : ∀ (l : List UInt8) (acc : Nat), (∀ c ∈ l, isDg c) → valA acc l < 18446744073709551616 → Lib.parseUint10 acc l = .ok (valA acc l)
  | [], _, _, _ => rfl
  | c :: r, acc, h, hv => by
    have h2 := h c (by simp)
    have hv' : valA (acc * 10 + (c.toNat - 48)) r < 18446744073709551616 := hv
    have hge := valA_ge r (acc * 10 + (c.toNat - 48))
    unfold Lib.parseUint10
    rw [if_pos (show 48 ≤ c.toNat ∧ c.toNat ≤ 57 from h2), if_neg (by omega), if_neg (by omega)]
    exact parse_val r _ (fun x hx => h x (by simp [hx])) hv'
theorem parse_dec {u : Nat} (h : u < 18446744073709551616) : Lib.parseMag (Lib.decDigits u) = .ok u := by
  unfold Lib.parseMag
  have hne := dec_ne u
  rw [if_neg (by intro e; rw [e] at hne; simp at hne), parse_val _ 0 (dec_dg u) (by rw [dec_val]; exact h), dec_val]
theorem it_abs (v : Int) : itL v = if v < 0 then 45 :: Lib.decDigits v.natAbs else Lib.decDigits v.natAbs := by
  unfold itL Lib.itoa
  by_cases h : v < 0
  · rw [if_pos h, if_pos h]
  · rw [if_neg h, if_neg h]; congr 1; omega
theorem parse_it {v : Int} (h : rng64 v) : Lib.parseIntB 64 (itL v) = .ok v := by
  rw [Lib.parseIntB_64, it_abs]
  unfold rng64 at h
  by_cases hv : v < 0
  · rw [if_pos hv]
    unfold Lib.atoiAll
    simp only [show (45 : UInt8).toNat = 45 from rfl, or_true, if_true, true_and, not_true, false_and, if_false]
    rw [parse_dec (by omega)]
    simp only
    rw [if_neg (by omega)]
    congr 1; omega
  · rw [if_neg hv]
    have hd := dec_dg v.natAbs
    have hp := parse_dec (u := v.natAbs) (by omega)
    have hne := dec_ne v.natAbs
    generalize Lib.decDigits v.natAbs = l at hd hp hne ⊢
    cases l with
    | nil => simp at hne
    | cons c r =>
      have h1 := hd c (by simp)
      unfold isDg at h1
      unfold Lib.atoiAll
      simp only
      rw [if_neg (by omega), hp]
      simp only
      rw [if_neg (by omega), if_neg (by omega), if_neg (by omega)]
      congr 1; omega
/-- Words as a number. -/
def numL (s : List UInt8) : Option Int := match Lib.parseIntB 64 s with
  | .ok v => if itL v = s then some v else none
  | _ => none
theorem numL_it {v : Int} (h : rng64 v) : numL (itL v) = some v := by
  unfold numL; rw [parse_it h]; simp
theorem numL_some {s : List UInt8} {v : Int} (h : numL s = some v) : s = itL v ∧ rng64 v := by
  unfold numL at h
  split at h
  · rename_i w hw
    split at h
    · rename_i e
      cases h
      have := Lib.parseIntB_bounds hw
      exact ⟨e.symm, by unfold rng64; simp at this; omega⟩
    · cases h
  · cases h
def negB (s : List UInt8) : Bool := decide (s[0]? = some 45)
def tailN (s : List UInt8) : List UInt8 := if negB s = true then s.drop 1 else s
theorem num_facts {s : List UInt8} {v : Int} (h : numL s = some v) : negB s = decide (v < 0) ∧ tailN s = Lib.decDigits v.natAbs ∧ v.natAbs ≤ 9223372036854775808 ∧ rng64 v := by
  obtain ⟨rfl, hr⟩ := numL_some h
  have hr' := hr
  unfold rng64 at hr'
  have hn : negB (itL v) = decide (v < 0) := by
    rw [it_abs]
    by_cases hv : v < 0
    · rw [if_pos hv, decide_eq_true hv]; rfl
    · rw [if_neg hv, decide_eq_false hv]
      unfold negB
      refine decide_eq_false fun h0 => ?_
      have := dec_dg v.natAbs 45 (List.mem_of_getElem? h0)
      unfold isDg at this
      revert this; decide
  refine ⟨hn, ?_, by omega, hr⟩
  unfold tailN
  rw [hn, it_abs]
  by_cases hv : v < 0
  · rw [decide_eq_true hv, if_pos rfl, if_pos hv]; rfl
  · rw [decide_eq_false hv, if_neg (by decide), if_neg hv]
end Go.AM

/-
  calls: words as numbers (the document's).
-/
namespace Go.AM
open Go.Proofs
set_option maxHeartbeats 8000000
attribute [local irreducible] sq bk lpK mdx rt TC RP WK Cel Ro Row Fre RowsA RowsBut
attribute [local irreducible] numL tailN negB valA
def numR (s : List UInt8) : AV := .tup [.s (.int .i64 ((numL s).getD 0)), .s (.bool (numL s).isSome)]
theorem numR_none {s : List UInt8} (h : numL s = none) : numR s = .tup [.s (.int .i64 0), .s (.bool false)] := by unfold numR; rw [h]; rfl
theorem numR_some {s : List UInt8} {v : Int} (h : numL s = some v) : numR s = .tup [.s (.int .i64 v), .s (.bool true)] := by unfold numR; rw [h]; rfl
theorem neg_c {s : List UInt8} {c : UInt8} (h : s[0]? = some c) : decide (((c.toNat : Nat) : Int) = 45) = negB s := by
  unfold negB
  rw [h]
  by_cases e : c = 45
  · subst e; rfl
  · rw [decide_eq_false (fun hh => e (Option.some.inj hh)), decide_eq_false]
    intro hh
    apply e
    apply UInt8.toNat.inj
    have : c.toNat = 45 := by omega
    rw [this]; rfl
theorem tail_t {s : List UInt8} (h : negB s = true) : tailN s = s.drop 1 := by unfold tailN; rw [if_pos h]
theorem tail_f {s : List UInt8} (h : negB s = false) : tailN s = s := by unfold tailN; rw [h]; rfl
theorem num_none {s : List UInt8} (h : ∀ v, numL s = some v → False) : numL s = none := by
  cases hn : numL s with
  | none => rfl
  | some v => exact (h v hn).elim
theorem num_nil : numL [] = none := by unfold numL; rfl
theorem u8_lt (c : UInt8) : c.toNat < 256 := c.toNat_lt
theorem subU8 {a : Int} (h : 48 ≤ a ∧ a < 256) : binA .sub (.s (.int .u8 a)) (.s (.int .u8 48)) = some (.s (.int .u8 (a - 48))) := by
  simp only [binA, arithA, if_true, Option.map_some, wrap_u8 (show 0 ≤ a - 48 by omega) (by omega)]
theorem subU64' (a : Int) : binA .sub (.s (.int .u64 0)) (.s (.int .u64 a)) = some (.s (.int .u64 (IntKind.u64.wrap (0 - a)))) := by
  simp only [binA, arithA, if_true, Option.map_some]
def vvN (neg : Bool) (u : Nat) : Int := if neg = true then IntKind.i64.wrap (IntKind.u64.wrap (0 - (u : Int))) else IntKind.i64.wrap u
theorem vvN_rng (neg : Bool) (u : Nat) : rng64 (vvN neg u) := by
  unfold vvN rng64
  split <;> (rw [IntKind.wrap_i64]; omega)
theorem vvN_eq {neg : Bool} {v : Int} (h : neg = decide (v < 0)) (hr : rng64 v) : vvN neg v.natAbs = v := by
  unfold rng64 at hr
  unfold vvN
  by_cases hv : v < 0
  · rw [h, decide_eq_true hv, if_pos rfl, IntKind.wrap_u64, IntKind.wrap_i64]; omega
  · rw [h, decide_eq_false hv, if_neg (by decide), IntKind.wrap_i64]; omega
theorem number_tri (s : List UInt8) (hs : s.length ≤ 1000000000) : Tri tab sext F.detentref25_number [tx s] [] fun v P' => v = numR s ∧ P' = [] := by
  refine Tri.go tab_detentref25_number rfl ?_
  refine RUNS ?_
  refine RP.gp rfl (fun h0 => ?_) fun h0 => ?_
  · obtain ⟨c0, hc0⟩ : ∃ c, s[0]? = some c := ⟨_, List.getElem?_eq_getElem (by have : (s.length : Int) > 0 := h0; omega)⟩
    refine RUNS ?_
    refine RP.sx (j := 0) rfl rfl hc0 rfl ?_
    refine RUNS ?_
    rw [neg_c hc0]
    refine TC.mid (α := Unit) (fun _ => True) (fun _ => [(0, tx s), (2, .s (.int .i64 0)), (3, .s (.bool false)), (4, .s (.bool (negB s))), (5, tx (tailN s))]) (fun _ => []) ?_ ?_
    · refine TC.cB rfl (fun hb => ?_) fun hb => ?_
      · refine RUNS ?_
        refine RP.sl1 (l := 1) rfl rfl (by have : (s.length : Int) > 0 := h0; omega) rfl ?_
        refine RUNS ?_
        exact md_n () trivial ⟨rfl, rfl, rfl, rfl, by rw [tail_t hb]; rfl, trivial⟩ (LEnt.refl _)
      · refine RUNS ?_
        exact md_n () trivial ⟨rfl, rfl, rfl, rfl, by rw [tail_f hb]; rfl, trivial⟩ (LEnt.refl _)
    · intro _ _
      have hfact : ∀ v, numL s = some v → negB s = decide (v < 0) ∧ tailN s = Lib.decDigits v.natAbs ∧ v.natAbs ≤ 9223372036854775808 ∧ rng64 v := fun v h => num_facts h
      generalize tailN s = t at hfact ⊢
      refine RUNS ?_
      refine RP.gq rfl (fun h1 => ?_) fun h1 => ?_
      · have h1 : ¬ (t.length : Int) = 0 := h1
        refine RUNS ?_
        refine TC.cP rfl (fun h2 => ?_) fun h2 => ?_
        · refine RUNS ?_
          refine rt_r (resE2 rfl rfl) ⟨(numR_none (num_none fun v h => ?_)).symm, rfl⟩ (LEnt.refl _)
          obtain ⟨_, e, hv, _⟩ := hfact v h
          have := dec_len 18 v.natAbs (by omega)
          rw [← e] at this
          omega
        · refine RUNS ?_
          refine TC.loop (fun i : Nat => t.length - i) (fun i => i ≤ t.length ∧ ∀ c ∈ t.take i, isDg c) (fun i => [(0, tx s), (2, .s (.int .i64 0)), (3, .s (.bool false)), (4, .s (.bool (negB s))), (5, tx t), (6, u64 ((valA 0 (t.take i) : Nat) : Int)), (7, i64 i)]) (fun _ => []) 0 ⟨Nat.zero_le _, fun c hc => by simp at hc⟩ ⟨rfl, rfl, rfl, rfl, rfl, by rw [List.take_zero]; unfold valA; rfl, rfl, trivial⟩ (LEnt.refl _) ?_
          rintro i ⟨hi, hd⟩
          refine RUNS ?_
          refine TC.cP rfl (fun h3 => ?_) fun h3 => ?_
          · obtain ⟨c, hc⟩ : ∃ c, t[i]? = some c := ⟨_, List.getElem?_eq_getElem (by omega)⟩
            have hc8 := u8_lt c
            have htk : t.take (i + 1) = t.take i ++ [c] := by rw [List.take_add_one, hc]; rfl
            have hlt := valA_lt (t.take i) 0 hd
            refine RUNS ?_
            refine RP.sx rfl rfl hc rfl ?_
            refine RUNS ?_
            refine RP.gq rfl (fun h4 => ?_) fun h4 => ?_
            · have h4 : ¬ ((c.toNat : Nat) : Int) < 48 := h4
              refine RUNS ?_
              refine RP.sx rfl rfl hc rfl ?_
              refine RUNS ?_
              refine TC.cP rfl (fun h5 => ?_) fun h5 => ?_
              · refine RUNS ?_
                refine rt_r (resE2 rfl rfl) ⟨(numR_none (num_none fun v h => ?_)).symm, rfl⟩ (LEnt.refl _)
                obtain ⟨_, e, hv, _⟩ := hfact v h
                have h6 : isDg c := by
                  have := List.mem_of_getElem? hc
                  rw [e] at this
                  exact dec_dg _ c this
                unfold isDg at h6
                omega
              · have hlen : (t.take i).length ≤ 18 := by rw [List.length_take]; omega
                have hp : valA 0 (t.take i) < 10 ^ 18 := by
                  have : 10 ^ (t.take i).length ≤ 10 ^ 18 := Nat.pow_le_pow_right (by decide) hlen
                  omega
                have hnx : valA 0 (t.take (i + 1)) = valA 0 (t.take i) * 10 + (c.toNat - 48) := by rw [htk, valA_snoc]
                have hdx : ∀ x ∈ t.take (i + 1), isDg x := by
                  intro x hx
                  rw [htk] at hx
                  rcases List.mem_append.1 hx with hx | hx
                  · exact hd x hx
                  · rw [List.mem_singleton.1 hx]; unfold isDg; omega
                generalize valA 0 (t.take i) = u at hp hnx ⊢
                refine RUNS ?_
                rw [wrap_u64 (show (0 : Int) ≤ ((u : Nat) : Int) * 10 by omega) (by omega)]
                refine RP.sx rfl rfl hc rfl ?_
                refine RUNS ?_
                refine RP.pw rfl rfl (subU8 (by omega)) rfl ?_
                refine RUNS ?_
                rw [wrap_u64 (show (0 : Int) ≤ ((c.toNat : Nat) : Int) - 48 by omega) (by omega)]
                refine RP.pw rfl rfl (addU64 (by omega)) rfl ?_
                refine RUNS ?_
                exact lp_n (i + 1) ⟨by omega, hdx⟩ (by omega) ⟨rfl, rfl, rfl, rfl, rfl, by rw [hnx, show ((u * 10 + (c.toNat - 48) : Nat) : Int) = (u : Int) * 10 + ((c.toNat : Int) - 48) by omega]; rfl, rfl, trivial⟩ (LEnt.refl _)
            · have h4 : ((c.toNat : Nat) : Int) < 48 := h4
              refine RUNS ?_
              refine rt_r (resE2 rfl rfl) ⟨(numR_none (num_none fun v h => ?_)).symm, rfl⟩ (LEnt.refl _)
              obtain ⟨_, e, hv, _⟩ := hfact v h
              have h6 : isDg c := by
                have := List.mem_of_getElem? hc
                rw [e] at this
                exact dec_dg _ c this
              unfold isDg at h6
              omega
          · have : i = t.length := by omega
            subst this
            rw [List.take_length] at hd ⊢
            have hfin : ∀ v, numL s = some v → valA 0 t ≤ 9223372036854775808 ∧ vvN (negB s) (valA 0 t) = v := fun v h => by
              obtain ⟨e0, e, hv, hr⟩ := hfact v h
              rw [e, dec_val]
              exact ⟨hv, vvN_eq e0 hr⟩
            generalize valA 0 t = u at hfin ⊢
            refine RUNS ?_
            refine TC.mid (α := Unit) (fun _ => True) (fun _ => [(0, tx s), (6, u64 ((u : Nat) : Int)), (8, i64 (vvN (negB s) u))]) (fun _ => []) ?_ ?_
            · refine TC.cB rfl (fun hb => ?_) fun hb => ?_
              · refine RUNS ?_
                refine RP.pw rfl rfl (subU64' _) rfl ?_
                refine RUNS ?_
                exact md_n () trivial ⟨rfl, rfl, by unfold vvN; rw [hb, if_pos rfl]; rfl, trivial⟩ (LEnt.refl _)
              · refine RUNS ?_
                exact md_n () trivial ⟨rfl, rfl, by unfold vvN; rw [hb, if_neg (by decide)]; rfl, trivial⟩ (LEnt.refl _)
            · intro _ _
              have hrv := vvN_rng (negB s) u
              generalize vvN (negB s) u = w at hrv hfin ⊢
              refine RUNS ?_
              refine RP.gq rfl (fun h6 => ?_) fun h6 => ?_
              · refine RUNS ?_
                refine RP.c rfl (decimal_tri w hrv) .e rfl ?_
                rintro v P' ⟨rfl, rfl⟩
                refine RUNS ?_
                rw [mkB_list, mkB_list]
                by_cases he : itL w = s
                · have hb : (true ^^ (itL w == s)) = false := by rw [he]; simp
                  rw [hb]
                  refine TC.cF rfl ?_
                  refine RUNS ?_
                  exact rt_r (resE2 rfl rfl) ⟨(numR_some (by rw [← he]; exact numL_it hrv)).symm, rfl⟩ (LEnt.refl _)
                · have hb : (true ^^ (itL w == s)) = true := by simpa using he
                  rw [hb]
                  refine TC.cT rfl ?_
                  refine RUNS ?_
                  refine rt_r (resE2 rfl rfl) ⟨(numR_none (num_none fun v h => ?_)).symm, rfl⟩ (LEnt.refl _)
                  exact he (by rw [(hfin v h).2]; exact (numL_some h).1.symm)
              · have h6 : (u : Int) > 9223372036854775808 := h6
                refine RUNS ?_
                refine rt_r (resE2 rfl rfl) ⟨(numR_none (num_none fun v h => ?_)).symm, rfl⟩ (LEnt.refl _)
                have := (hfin v h).1
                omega
      · have h1 : (t.length : Int) = 0 := h1
        refine RUNS ?_
        refine rt_r (resE2 rfl rfl) ⟨(numR_none (num_none fun v h => ?_)).symm, rfl⟩ (LEnt.refl _)
        obtain ⟨_, e, hv, _⟩ := hfact v h
        have := dec_ne v.natAbs
        rw [← e] at this
        omega
  · have : s = [] := List.length_eq_zero_iff.1 (by have : ¬ (s.length : Int) > 0 := h0; omega)
    subst this
    refine RUNS ?_
    exact rt_r (resE2 rfl rfl) ⟨(numR_none num_nil).symm, rfl⟩ (LEnt.refl _)
end Go.AM

/-
  calls: a call is made; calls in words.
-/
namespace Go.AM
open Go.Proofs
set_option maxHeartbeats 8000000
attribute [local irreducible] sq bk lpK mdx rt TC RP WK Cel Ro Row Fre RowsA RowsBut

/-- A slice of numbers that may be read. -/
structure Src (P : List Asr) (s : SV) (xs : List Int) : Prop where
  n : slLen (.s s) = some xs.length
  g : ∀ (ρ : HF) (H : AH) (X : List Asr), Sat ρ H (P ++ X) → ∀ m, m ≤ xs.length → srcCells 1 (.s s) m H = some ((xs.take m).map fun x => SV.int .i64 x)
def mk4 (xs : List Int) : List Int := (xs ++ [0, 0, 0, 0]).take 4
def encL (xs : List Int) : List SV := xs.map fun x => SV.int .i64 x
theorem mk4_len (xs : List Int) : (mk4 xs).length = 4 := by simp [mk4]
theorem mk4_eq (xs : List Int) : (mk4 xs) = xs.take (min xs.length 4) ++ List.replicate (4 - min xs.length 4) 0 := by
  unfold mk4
  match xs with
  | [] => rfl
  | [a] => rfl
  | [a, b] => rfl
  | [a, b, c] => rfl
  | a :: b :: c :: d :: r => simp

theorem mk4_cells (xs : List Int) : ∃ a b c d, mk4 xs = [a, b, c, d] := by
  have h := mk4_len xs
  match hm : mk4 xs, h with
  | [a, b, c, d], _ => exact ⟨a, b, c, d, rfl⟩
theorem mk4_splice (fn : Int) (xs : List Int) : splice [.int .i64 fn, .int .i64 0, .int .i64 0, .int .i64 0, .int .i64 0] 1 (encL (xs.take (min xs.length 4))) = .int .i64 fn :: encL (mk4 xs) := by
  match xs with
  | [] => rfl
  | [a] => rfl
  | [a, b] => rfl
  | [a, b, c] => rfl
  | a :: b :: c :: d :: r => simp [splice, encL, mk4]
theorem Make_tri (fn : Int) {P : List Asr} {s : SV} {xs : List Int} (hs : Src P s xs) : Tri tab sext F.calls_Make [i64 fn, .s s] P fun v P' => v = .agg (.int .i64 fn :: encL (mk4 xs)) ∧ P' = P := by
  refine Tri.go tab_calls_Make rfl ?_
  have hsp := mk4_splice fn xs
  obtain ⟨a, b, c, d, h4⟩ := mk4_cells xs
  rw [h4] at hsp ⊢
  refine RUNS ?_
  refine RP.nw rfl fun p => ?_
  refine RUNS ?_
  refine RP.nw rfl fun q => ?_
  refine RUNS ?_
  refine RP.sa rfl .h (by simp) rfl ?_
  refine RUNS ?_
  refine RP.cy rfl rfl (v' := i64 ((min xs.length 4 : Nat) : Int)) (L' := Cel q (.int .i64 fn :: encL [a, b, c, d]) :: Cel p [.int .i64 0, .int .i64 0, .int .i64 0, .int .i64 0, .int .i64 0] :: P) (fun ρ H X hq => ?_) (fun T hT hl => hl.put hT rfl _) ?_
  · have h1 := hs.g ρ H X hq.drop.drop (min xs.length 4) (Nat.min_le_left _ _)
    have h2 : Stw (Cel q [.int .i64 fn, .int .i64 0, .int .i64 0, .int .i64 0, .int .i64 0] :: Cel p [.int .i64 0, .int .i64 0, .int .i64 0, .int .i64 0, .int .i64 0] :: P) q 1 (encL (xs.take (min xs.length 4))) (Cel q (.int .i64 fn :: encL [a, b, c, d]) :: Cel p [.int .i64 0, .int .i64 0, .int .i64 0, .int .i64 0, .int .i64 0] :: P) :=
      Stw.c (by simp [encL]; omega) hsp
    obtain ⟨H', g1, g2⟩ := h2.of ρ H X hq
    refine ⟨H', ?_, g2⟩
    simp only [copyA, hs.n, Option.bind_some, h1]
    rw [if_pos trivial]
    show Option.map _ (H.stn q 1 (encL (xs.take (min xs.length 4)))) = _
    rw [g1]; rfl
  · refine RUNS ?_
    exact rt_r (resC rfl (.n (Ldn.cb rfl rfl))) ⟨rfl, rfl⟩ (fun _ _ _ hs => hs.drop.drop)
/- ---- in words ---- -/
def argW : List Int → List UInt8
  | [] => []
  | a :: r => 32 :: itL a ++ argW r
def nmL (fn : Int) : List UInt8 := (ofC fn).1.data.toList
def arN (fn : Int) : Nat := (ofC fn).2.1.toNat
def callW : List UInt8 := [99, 97, 108, 108, 32]
def textL (fn : Int) (args : List Int) : List UInt8 := if knownC fn = true then nmL fn ++ argW (args.take (arN fn)) else callW ++ itL fn
theorem argW_snoc (l : List Int) (x : Int) : argW (l ++ [x]) = argW l ++ 32 :: itL x := by
  induction l with
  | nil => simp [argW]
  | cons a l ih => simp [argW, ih]
theorem itL_len (n : Int) (h : -9223372036854775808 ≤ n ∧ n ≤ 9223372036854775807) : (itL n).length ≤ 21 := by
  exact Lib.itoa_length_le n h.1 h.2
theorem rows_ok : (noR :: tabC).all (fun r => decide (0 ≤ r.2.1 ∧ r.2.1 ≤ 4) && decide (r.1.data.toList.length ≤ 10)) = true := by decide +kernel
theorem row_ok (fn : Int) : (0 ≤ (ofC fn).2.1 ∧ (ofC fn).2.1 ≤ 4) ∧ (nmL fn).length ≤ 10 := by
  have : ofC fn ∈ noR :: tabC := by
    by_cases h : fn < 1 ∨ fn ≥ 65
    · rw [of_out h]; simp
    · exact List.mem_cons_of_mem _ (List.mem_of_getElem? (tab_get (fn := fn) (by omega) (by omega)))
  have h := List.all_eq_true.1 rows_ok _ this
  simp only [Bool.and_eq_true, decide_eq_true_eq] at h
  exact h
theorem argW_len : ∀ l : List Int, (∀ x ∈ l, -9223372036854775808 ≤ x ∧ x ≤ 9223372036854775807) → (argW l).length ≤ 22 * l.length
  | [], _ => Nat.le_refl _
  | a :: l, h => by
    have h1 := itL_len a (h a (by simp))
    have h2 := argW_len l fun x hx => h x (by simp [hx])
    simp only [argW, List.length_cons, List.length_append]
    omega
attribute [local irreducible] tabC ofC
theorem Text_tri (fn a b c d : Int) (hn : ∀ x ∈ [fn, a, b, c, d], -9223372036854775808 ≤ x ∧ x ≤ 9223372036854775807) : Tri tab sext F.calls_Text [.agg (encC fn a b c d)] [] fun v P' => v = tx (textL fn [a, b, c, d]) ∧ P' = [] := by
  refine Tri.go tab_calls_Text rfl ?_
  refine RUNS ?_
  refine RP.bx rfl rfl rfl fun p => ?_
  refine RUNS ?_
  refine RP.c rfl (of_tri fn) .e rfl ?_
  rintro v P' ⟨rfl, rfl⟩
  refine RUNS ?_
  refine RP.nw rfl fun q => ?_
  refine RUNS ?_
  have hk := kn_eq fn
  obtain ⟨⟨ha0, ha4⟩, hnm⟩ := row_ok fn
  have e1 : (ofC fn).1 = mkB (nmL fn) := rfl
  have e2 : (ofC fn).2.1 = ((arN fn : Nat) : Int) := by unfold arN; omega
  have e3 : arN fn ≤ 4 := by unfold arN; omega
  have htx : textL fn [a, b, c, d] = if knownC fn = true then nmL fn ++ argW (([a, b, c, d] : List Int).take (arN fn)) else callW ++ itL fn := rfl
  generalize ofC fn = r at hk e1 e2 ⊢
  obtain ⟨nm, ar, kd⟩ := r
  dsimp only at hk e1 e2
  subst e1; subst e2
  cases hkn : knownC fn with
  | true =>
    rw [hkn] at hk htx
    rw [if_pos rfl] at htx
    rw [htx]
    have hf : (false ^^ ((mkB (nmL fn)).data.toList == [])) = false := by simpa using hk
    rw [hf]
    refine TC.cF rfl ?_
    refine RUNS ?_
    refine RP.sh (m := arN fn) rfl rfl (.n .h) (by simp [encC]) (by omega) rfl ?_
    refine RUNS ?_
    refine TC.loop (fun i : Nat => arN fn - i) (fun i => i ≤ arN fn) (fun i => [(22, .s (.slice (some (p, 1)) (arN fn) 4 1)), (23, i64 (arN fn)), (24, i64 i), (4, tx (nmL fn ++ argW (([a, b, c, d] : List Int).take i)))]) (fun _ => [Cel p (encC fn a b c d)]) 0 (Nat.zero_le _) ⟨rfl, rfl, rfl, by rw [List.take_zero]; show some (AV.s (.str (mkB (nmL fn)))) = some (tx (nmL fn ++ [])); rw [List.append_nil], trivial⟩ (LEnt.of (.c (.n .h) .e)) ?_
    intro i hi
    refine RUNS ?_
    refine TC.cP rfl (fun h => ?_) fun h => ?_
    · obtain ⟨x, hx⟩ : ∃ x, ([a, b, c, d] : List Int)[i]? = some x := ⟨_, List.getElem?_eq_getElem (by simp; omega)⟩
      have hxn := hn x (List.mem_cons_of_mem _ (List.mem_of_getElem? hx))
      have hl := argW_len (([a, b, c, d] : List Int).take i) fun y hy => hn y (List.mem_cons_of_mem _ (List.mem_of_mem_take hy))
      have hll := itL_len x hxn
      have hlt : (([a, b, c, d] : List Int).take i).length ≤ 4 := by rw [List.length_take]; exact Nat.min_le_right _ _
      have etk : ([a, b, c, d] : List Int).take (i + 1) = ([a, b, c, d] : List Int).take i ++ [x] := by rw [List.take_add_one, hx]; rfl
      have etx : nmL fn ++ argW (([a, b, c, d] : List Int).take (i + 1)) = nmL fn ++ argW (([a, b, c, d] : List Int).take i) ++ ([32] ++ itL x) := by rw [etk, argW_snoc, List.append_assoc]; rfl
      have hld : (encC fn a b c d)[ix 1 ((i : Nat) : Int).toNat 1 0]? = some (SV.int .i64 x) := by
        show (SV.int .i64 fn :: ([a, b, c, d] : List Int).map fun x => SV.int .i64 x)[ix 1 ((i : Nat) : Int).toNat 1 0]? = _
        rw [show ix 1 ((i : Nat) : Int).toNat 1 0 = i + 1 by unfold ix; omega, List.getElem?_cons_succ, List.getElem?_map, hx]; rfl
      refine RUNS ?_
      refine RP.l rfl (Ld.c hld) rfl ?_
      refine RUNS ?_
      refine RP.c rfl (FormatInt_tri x hxn) .e rfl ?_
      rintro v P' ⟨rfl, rfl⟩
      refine RUNS ?_
      refine RP.cat (a := [32]) rfl rfl (by simp only [List.length_cons, List.length_nil]; omega) rfl ?_
      refine RUNS ?_
      refine RP.cat rfl rfl (by simp only [List.length_append, List.length_cons, List.length_nil]; omega) rfl ?_
      refine RUNS ?_
      exact lp_n (i + 1) (by omega) (by omega) ⟨rfl, rfl, rfl, by rw [etx]; rfl, trivial⟩ (LEnt.refl _)
    · have : i = arN fn := by omega
      subst this
      refine RUNS ?_
      exact rt_r rfl ⟨rfl, rfl⟩ (LEnt.of .e)
  | false =>
    rw [hkn] at hk htx
    rw [if_neg (by decide)] at htx
    rw [htx]
    have hf : (false ^^ ((mkB (nmL fn)).data.toList == [])) = true := by simpa using hk
    rw [hf]
    refine TC.cT rfl ?_
    refine RUNS ?_
    refine RP.c rfl (Itoa_tri fn (hn fn (by simp))) .e rfl ?_
    rintro v P' ⟨rfl, rfl⟩
    refine RUNS ?_
    refine RP.cat (a := callW) rfl rfl (by have := itL_len fn (hn fn (by simp)); simp only [callW, List.length_cons, List.length_nil]; omega) rfl ?_
    refine RUNS ?_
    exact rt_r rfl ⟨rfl, rfl⟩ (LEnt.of .e)
end Go.AM

/-
  calls: a text is read.
-/
namespace Go.AM
open Go.Proofs
set_option maxHeartbeats 8000000
attribute [local irreducible] sq bk lpK mdx rt TC RP WK Cel Ro Row Fre RowsA RowsBut

def nmAt (k : Nat) : List UInt8 := ((tabC[k]?).getD noR).1.data.toList
def fnK : Nat → List UInt8 → Nat
  | 0, _ => 0
  | k + 1, w => if k ≠ 0 ∧ nmAt k = w then k else fnK k w
def fnL (w : List UInt8) : Nat := fnK 65 w
def numsL : List (List UInt8) → Option (List Int)
  | [] => some []
  | w :: r => (numL w).bind fun v => (numsL r).map (v :: ·)
def parM (f : Nat) : Option (List Int) → Int × List Int × Int
  | none => (0, [0, 0, 0, 0], -17)
  | some vs => (f, mk4 vs, 0)
def parseW (w : List (List UInt8)) : Int × List Int × Int :=
  if fnL (w.headD []) = 0 then (0, [0, 0, 0, 0], -10) else if w.length ≠ arN (fnL (w.headD [])) + 1 then (0, [0, 0, 0, 0], -17) else parM (fnL (w.headD [])) (numsL (w.drop 1))
def parseL (s : List UInt8) : Int × List Int × Int := parseW (wordsL s)
theorem parseW0 {w0 : List UInt8} {wr : List (List UInt8)} (h : fnL w0 = 0) : parseW (w0 :: wr) = (0, [0, 0, 0, 0], -10) := if_pos h
theorem parseW1 {w0 : List UInt8} {wr : List (List UInt8)} (h : ¬ fnL w0 = 0) (h1 : ¬ wr.length = arN (fnL w0)) : parseW (w0 :: wr) = (0, [0, 0, 0, 0], -17) := by
  unfold parseW
  rw [if_neg (show ¬ fnL ((w0 :: wr).headD []) = 0 from h), if_pos]
  show (w0 :: wr).length ≠ arN (fnL w0) + 1
  simp only [List.length_cons]
  omega
theorem parseW2 {w0 : List UInt8} {wr : List (List UInt8)} (h : ¬ fnL w0 = 0) (h1 : wr.length = arN (fnL w0)) : parseW (w0 :: wr) = parM (fnL w0) (numsL wr) := by
  unfold parseW
  rw [if_neg (show ¬ fnL ((w0 :: wr).headD []) = 0 from h), if_neg]
  · rfl
  · show ¬ (w0 :: wr).length ≠ arN (fnL w0) + 1
    simp only [List.length_cons]
    omega
theorem nm_ne : (List.range 65).all (fun k => decide ((true ^^ (nmAt k == [])) = decide (k ≠ 0))) = true := by decide +kernel
theorem nm_at {k : Nat} {r : ByteArray × Int × Int} (h : tabC[k]? = some r) : nmAt k = r.1.data.toList ∧ (true ^^ (r.1.data.toList == [])) = decide (k ≠ 0) := by
  have hk : k < 65 := by have := (List.getElem?_eq_some_iff.1 h).1; rw [tabC_len] at this; exact this
  have e : nmAt k = r.1.data.toList := by unfold nmAt; rw [h]; rfl
  refine ⟨e, ?_⟩
  have := List.all_eq_true.1 nm_ne k (List.mem_range.2 hk)
  rw [e] at this
  simpa using this
theorem fnK_le : ∀ (k : Nat) (w : List UInt8), fnK k w ≤ k
  | 0, _ => Nat.le_refl _
  | k + 1, w => by
    have := fnK_le k w
    unfold fnK
    split <;> omega
theorem fnL_lt (w : List UInt8) : fnL w ≤ 64 := by
  unfold fnL
  rw [fnK]
  have := fnK_le 64 w
  split <;> omega
theorem numsL_snoc : ∀ (l : List (List UInt8)) (w : List UInt8), numsL (l ++ [w]) = (numsL l).bind fun vs => (numL w).map fun v => vs ++ [v]
  | [], w => by
    simp only [List.nil_append, numsL]
    cases numL w <;> rfl
  | x :: l, w => by
    simp only [List.cons_append, numsL, numsL_snoc l w]
    cases numL x <;> cases numsL l <;> cases numL w <;> rfl
theorem numsL_none : ∀ {l : List (List UInt8)} {w : List UInt8}, w ∈ l → numL w = none → numsL l = none
  | x :: l, w, h, hn => by
    unfold numsL
    rcases List.mem_cons.1 h with rfl | h
    · rw [hn]; rfl
    · rw [numsL_none h hn]; cases numL x <;> rfl
theorem numsL_len : ∀ {l : List (List UInt8)} {vs : List Int}, numsL l = some vs → vs.length = l.length ∧ ∀ v ∈ vs, rng64 v
  | [], vs, h => by cases h; exact ⟨rfl, fun v hv => nomatch hv⟩
  | w :: l, vs, h => by
    unfold numsL at h
    rw [Option.bind_eq_some_iff] at h
    obtain ⟨v, h1, h2⟩ := h
    rw [Option.map_eq_some_iff] at h2
    obtain ⟨vs', h2, rfl⟩ := h2
    obtain ⟨h3, h4⟩ := numsL_len h2
    refine ⟨by simp [h3], fun x hx => ?_⟩
    rcases List.mem_cons.1 hx with rfl | hx
    · exact (numL_some h1).2
    · exact h4 x hx
theorem words_mem_len : ∀ (s w : List UInt8), w ∈ wordsL s → w.length ≤ s.length
  | [], w, h => by simp [wordsL] at h; subst h; exact Nat.le_refl _
  | c :: r, w, h => by
    have ih := words_mem_len r
    unfold wordsL at h
    split at h
    · rcases List.mem_cons.1 h with rfl | h
      · exact Nat.zero_le _
      · exact Nat.le_succ_of_le (ih w h)
    · split at h
      · rename_i w' ws' e
        rcases List.mem_cons.1 h with rfl | h
        · have := ih w' (by rw [e]; simp)
          simp; exact this
        · exact Nat.le_succ_of_le (ih w (by rw [e]; exact List.mem_cons_of_mem _ h))
      · rcases List.mem_cons.1 h with rfl | h
        · simp
        · exact nomatch h
theorem resC2 {E : Env} {L : List Asr} {t u b n : Nat} {l : List SV} {x : SV} (h1 : look E t = some (.s (.ptr (some (b, 0))))) (hl : Ldn L b 0 n l) (h2 : look E u = some (.s x)) : resE E L [.cell t (some n), .tmp u] (.tup [.agg l, .s x]) := ⟨_, rfl, ⟨b, 0, h1, .inr ⟨n, l, rfl, rfl, hl⟩⟩, h2, trivial⟩
theorem flat_encI : ∀ l : List Int, flat encI l = l.map fun x => SV.int .i64 x
  | [] => rfl
  | w :: ws => by
    show encI w ++ flat encI ws = _
    rw [flat_encI ws]; rfl
theorem Src.row {s : SV} {xs : List Int} (h : slLen (.s s) = some xs.length) : Src [Row encI 1 s xs] s xs := ⟨h, fun ρ H X hs m hm => by
  by_cases h0 : m = 0
  · subst h0; rfl
  rw [srcCells, if_neg h0]
  rcases hs.rowInv with ⟨e, rfl, rfl, h1⟩ | ⟨b, cp, j, rfl, h1, h2, h3⟩
  · simp at hm; exact absurd hm h0
  · simp only [sliceCells]
    rw [if_pos ⟨trivial, hm⟩, ldn_of H h1.cel, flat_encI, if_pos (by simp; omega), List.drop_zero, Nat.mul_one, List.take_append_of_le_length (by simp; exact hm), List.map_take]⟩
def parR (r : Int × List Int × Int) : AV := .tup [.agg (.int .i64 r.1 :: encL r.2.1), .s (.int .i64 r.2.2)]
theorem pIn_cases (w : List UInt8) : (∃ v, numL w = some v ∧ rng64 v ∧ pIn (mkB w) = .tup [.s (.int .i64 v), .s .nili] ∧ itL v = w) ∨ (numL w = none ∧ ((∃ v, rng64 v ∧ pIn (mkB w) = .tup [.s (.int .i64 v), .s .nili] ∧ itL v ≠ w) ∨ ∃ v, pIn (mkB w) = .tup [.s (.int .i64 v), .s .ifc])) := by
  unfold pIn
  rw [mkB_list]
  cases hpi : Lib.parseIntB 64 w with
  | ok v =>
    have hb := Lib.parseIntB_bounds hpi
    have hr : rng64 v := by unfold rng64; simp at hb; omega
    by_cases he : itL v = w
    · exact .inl ⟨v, by unfold numL; rw [hpi]; simp [he], hr, rfl, he⟩
    · exact .inr ⟨by unfold numL; rw [hpi]; simp [he], .inl ⟨v, hr, rfl, he⟩⟩
  | range => exact .inr ⟨by unfold numL; rw [hpi], .inr ⟨_, rfl⟩⟩
  | _ => exact .inr ⟨by unfold numL; rw [hpi], .inr ⟨_, rfl⟩⟩
attribute [local irreducible] numL fnK nmAt numsL tabC ofC wordsL
theorem Parse_tri (s : List UInt8) (hs : s.length ≤ 1000000) : Tri tab sext F.calls_Parse [tx s] [] fun v P' => v = parR (parseL s) ∧ P' = [] := by
  refine Tri.go tab_calls_Parse rfl ?_
  have hwl := wordsL_len s
  have hwlen : ∀ w ∈ wordsL s, w.length ≤ 1000000 := fun w h => Nat.le_trans (words_mem_len s w h) hs
  have hwn := wordsL_ne s
  have hps : parseL s = parseW (wordsL s) := rfl
  refine RUNS ?_
  refine RP.nw rfl fun p => ?_
  refine RUNS ?_
  refine RP.c rfl (Split_tri s (by omega)) .e rfl ?_
  rintro v P' ⟨q, rfl, rfl⟩
  generalize wordsL s = ws at hwl hwn hps hwlen ⊢
  obtain ⟨w0, wr, rfl⟩ : ∃ a b, ws = a :: b := by
    cases ws with
    | nil => exact absurd rfl hwn
    | cons a b => exact ⟨a, b, rfl⟩
  refine RUNS ?_
  refine RP.c rfl table_tri .e rfl ?_
  rintro v P' ⟨qt, rfl, rfl⟩
  rw [hps]
  refine RUNS ?_
  rw [tabC_len]
  refine TC.loop (fun i : Nat => 65 - i) (fun i => i ≤ 65) (fun i => [(2, .s (.ptr (some (p, 0)))), (4, .s q), (5, i64 ((fnK i w0 : Nat) : Int)), (15, .s qt), (16, i64 ((65 : Nat) : Int)), (17, i64 i)]) (fun _ => [Row encR 3 qt tabC, Row encW 1 q (w0 :: wr), Cel p [.int .i64 0, .int .i64 0, .int .i64 0, .int .i64 0, .int .i64 0]]) 0 (Nat.zero_le _) ⟨rfl, rfl, by unfold fnK; rfl, rfl, rfl, rfl, trivial⟩ (LEnt.refl _) ?_
  intro i hi
  refine RUNS ?_
  refine TC.cP rfl (fun h => ?_) fun h => ?_
  · obtain ⟨r, hr⟩ : ∃ r, tabC[i]? = some r := ⟨_, List.getElem?_eq_getElem (by rw [tabC_len]; omega)⟩
    obtain ⟨hn1, hn2⟩ := nm_at hr
    have htl := tabC_len
    have hw1 : 0 < (w0 :: wr).length := by simp
    have hg0 : (w0 :: wr)[(0 : Int).toNat]? = some w0 := rfl
    have hfk : fnK (i + 1) w0 = if i ≠ 0 ∧ nmAt i = w0 then i else fnK i w0 := by rw [fnK]
    refine RUNS ?_
    refine RP.nw rfl fun pr => ?_
    refine RUNS ?_
    rw [hn2]
    refine RP.gp rfl (fun h1 => ?_) fun h1 => ?_
    · have h1 : i ≠ 0 := h1
      refine RUNS ?_
      rw [← hn1, mkB_list]
      by_cases he : nmAt i = w0
      · rw [if_pos ⟨h1, he⟩] at hfk
        have hb : (false ^^ (nmAt i == w0)) = true := by rw [he]; simp
        rw [hb]
        refine RUNS ?_
        exact lp_n (i + 1) (by omega) (by omega) ⟨rfl, rfl, by rw [hfk]; rfl, rfl, rfl, rfl, trivial⟩ (LEnt.of (.c (.n .h) (.c (.n .h) (.c (.n .h) .e))))
      · rw [if_neg (fun hh => he hh.2)] at hfk
        have hb : (false ^^ (nmAt i == w0)) = false := by simpa using he
        rw [hb]
        refine RUNS ?_
        exact lp_n (i + 1) (by omega) (by omega) ⟨rfl, rfl, by rw [hfk]; rfl, rfl, rfl, rfl, trivial⟩ (LEnt.of (.c (.n .h) (.c (.n .h) (.c (.n .h) .e))))
    · have h1 : ¬ i ≠ 0 := h1
      rw [if_neg (fun hh => h1 hh.1)] at hfk
      refine RUNS ?_
      exact lp_n (i + 1) (by omega) (by omega) ⟨rfl, rfl, by rw [hfk]; rfl, rfl, rfl, rfl, trivial⟩ (LEnt.of (.c (.n .h) (.c (.n .h) (.c (.n .h) .e))))
  · have : i = 65 := by omega
    subst this
    rw [show fnK 65 w0 = fnL w0 from rfl]
    have hfl := fnL_lt w0
    generalize hf : fnL w0 = f at hfl ⊢
    refine RUNS ?_
    refine TC.cP rfl (fun h2 => ?_) fun h2 => ?_
    · rw [parseW0 (by omega)]
      refine RUNS ?_
      exact rt_r (resC2 rfl (.n (.n (Ldn.cb rfl rfl))) rfl) ⟨rfl, rfl⟩ (LEnt.of .e)
    · have hf0 : ¬ fnL w0 = 0 := by omega
      have hwl1 : ((w0 :: wr).length : Int) = (wr.length : Int) + 1 := by simp
      obtain ⟨⟨ha0, ha4⟩, _⟩ := row_ok f
      have e2 : (ofC f).2.1 = ((arN f : Nat) : Int) := by unfold arN; omega
      refine RUNS ?_
      refine RP.c rfl (Arity_tri f) .e rfl ?_
      rintro v P' ⟨rfl, rfl⟩
      rw [e2]
      refine RUNS ?_
      refine TC.cP rfl (fun h3 => ?_) fun h3 => ?_
      · rw [parseW1 hf0 (by rw [hf]; omega)]
        refine RUNS ?_
        exact rt_r (resC2 rfl (.n (.n (Ldn.cb rfl rfl))) rfl) ⟨rfl, rfl⟩ (LEnt.of .e)
      · rw [parseW2 hf0 (by rw [hf]; omega)]
        have hw1 : 0 < (w0 :: wr).length := by simp
        refine RUNS ?_
        refine RP.pt rfl (.n .h) hw1 rfl rfl rfl (fun hc => bds rfl rfl (bA (n := 1) (by omega))) rfl ?_
        refine RUNS ?_
        have hwr : wr.length = arN f := by omega
        have har : arN f ≤ 4 := by unfold arN; omega
        rw [show (w0 :: wr).length - 1 = wr.length by simp, hf]
        refine TC.loop (fun x : Nat × List Int × SV => wr.length - x.1) (fun x => x.1 ≤ wr.length ∧ numsL (wr.take x.1) = some x.2.1) (fun x => [(2, .s (.ptr (some (p, 0)))), (5, i64 f), (8, .s x.2.2), (48, .s (.slice (some (sb q, 1 * 1)) wr.length (sc q - 1) 1)), (49, i64 wr.length), (50, i64 x.1)]) (fun x => [Row encI 1 x.2.2 x.2.1, Row encW 1 q (w0 :: wr), Cel p [.int .i64 0, .int .i64 0, .int .i64 0, .int .i64 0, .int .i64 0]]) (0, [], .slice none 0 0 1) ⟨Nat.zero_le _, by rw [List.take_zero]; unfold numsL; rfl⟩ ⟨rfl, rfl, rfl, rfl, rfl, rfl, trivial⟩ (LEnt.trans (LEnt.of (.c (.n .h) (.c (.n .h) .e))) (row_nil 1 _)) ?_
        rintro ⟨i, vs, qa⟩ ⟨hi, hvs⟩
        dsimp only at hi hvs ⊢
        have hvl := (numsL_len hvs).1
        refine RUNS ?_
        refine TC.cP rfl (fun h4 => ?_) fun h4 => ?_
        · obtain ⟨w, hw⟩ : ∃ w, wr[i]? = some w := ⟨_, List.getElem?_eq_getElem (by omega)⟩
          have hw2 : (w0 :: wr)[1 + i]? = some w := by rw [Nat.add_comm, List.getElem?_cons_succ]; exact hw
          have hwl2 := hwlen w (List.mem_of_getElem? hw2)
          have htk : wr.take (i + 1) = wr.take i ++ [w] := by rw [List.take_add_one, hw]; rfl
          have hsn := numsL_snoc (wr.take i) w
          rw [hvs, ← htk] at hsn
          refine RUNS ?_
          refine RP.c rfl (ParseInt_tri w (by omega)) .e rfl ?_
          rintro v P' ⟨rfl, rfl⟩
          rcases pIn_cases w with ⟨v, hv, hr, hp, he⟩ | ⟨hv, ⟨v, hr, hp, he⟩ | ⟨v, hp⟩⟩
          · rw [hp]
            rw [hv] at hsn
            refine RUNS ?_
            refine RP.c rfl (FormatInt_tri v hr) .e rfl ?_
            rintro v P' ⟨rfl, rfl⟩
            refine RUNS ?_
            rw [mkB_list, mkB_list, show (true ^^ (itL v == w)) = false by rw [he]; simp]
            refine TC.cF rfl ?_
            refine RUNS ?_
            have hil : (wr.take i).length ≤ 4 := by rw [List.length_take]; omega
            refine RP.bs rfl rfl rfl fun bb => ?_
            refine RP.ap rfl rfl rfl (ap_one (e := v) encI_len (.c (.n .h) (.c .h .e)) (by omega)) fun qa' => ?_
            refine RUNS ?_
            exact lp_n (i + 1, vs ++ [v], qa') ⟨by dsimp only; omega, hsn⟩ (by dsimp only; omega) ⟨rfl, rfl, rfl, rfl, rfl, rfl, trivial⟩ (LEnt.of (.c .h (.c .h (.c .h .e))))
          · rw [hp]
            rw [numsL_none (List.mem_of_getElem? hw) hv, show parM f none = (0, [0, 0, 0, 0], -17) from rfl]
            refine RUNS ?_
            refine RP.c rfl (FormatInt_tri v hr) .e rfl ?_
            rintro v P' ⟨rfl, rfl⟩
            refine RUNS ?_
            rw [mkB_list, mkB_list, show (true ^^ (itL v == w)) = true by simpa using he]
            refine TC.cT rfl ?_
            refine RUNS ?_
            exact rt_r (resC2 rfl (.n (.n (Ldn.cb rfl rfl))) rfl) ⟨rfl, rfl⟩ (LEnt.of .e)
          · rw [hp]
            rw [numsL_none (List.mem_of_getElem? hw) hv, show parM f none = (0, [0, 0, 0, 0], -17) from rfl]
            refine RUNS ?_
            exact rt_r (resC2 rfl (.n (.n (Ldn.cb rfl rfl))) rfl) ⟨rfl, rfl⟩ (LEnt.of .e)
        · have : i = wr.length := by omega
          subst this
          rw [List.take_length] at hvs
          rw [hvs, show parM f (some vs) = ((f : Int), mk4 vs, 0) from rfl]
          obtain ⟨a, b, c, d, h4⟩ := mk4_cells vs
          have hmk := fun (hq : slLen (.s qa) = some vs.length) => Make_tri f (Src.row hq)
          rw [h4] at hmk
          rw [h4]
          refine RUNS ?_
          refine RP.fact (p := slLen (.s qa) = some vs.length) (fun ρ H X hs => ?_) fun hq => ?_
          · rcases Sat.rowInv (show Sat ρ H (Row encI 1 qa vs :: _) from hs) with ⟨e, rfl, rfl, _⟩ | ⟨b, cp, j, rfl, _, _, _⟩ <;> rfl
          refine RP.c rfl (hmk hq) (.c .h .e) rfl ?_
          rintro v P' ⟨rfl, rfl⟩
          refine RUNS ?_
          exact rt_r (resC2 rfl (.n (.n (Ldn.cb rfl rfl))) rfl) ⟨rfl, rfl⟩ (LEnt.of .e)
end Go.AM

/-
  calls: calls in words (the document's).
-/
namespace Go.AM
open Go.Proofs
set_option maxHeartbeats 8000000
attribute [local irreducible] sq bk lpK mdx rt TC RP WK Cel Ro Row Fre RowsA RowsBut
attribute [local irreducible] tabC ofC
def encA (a b c d : Int) : List SV := [.int .i64 a, .int .i64 b, .int .i64 c, .int .i64 d]
theorem refText_tri (fn a b c d : Int) (hn : ∀ x ∈ [fn, a, b, c, d], -9223372036854775808 ≤ x ∧ x ≤ 9223372036854775807) : Tri tab sext F.detentref25_Text [i64 fn, .agg (encA a b c d)] [] fun v P' => v = tx (textL fn [a, b, c, d]) ∧ P' = [] := by
  refine Tri.go tab_detentref25_Text rfl ?_
  refine RUNS ?_
  refine RP.bx rfl rfl rfl fun p => ?_
  refine RUNS ?_
  refine RP.c rfl (refKnown_tri fn) .e rfl ?_
  rintro v P' ⟨rfl, rfl⟩
  refine RUNS ?_
  obtain ⟨⟨ha0, ha4⟩, hnm⟩ := row_ok fn
  have e1 : (ofC fn).1 = mkB (nmL fn) := rfl
  have e2 : (ofC fn).2.1 = ((arN fn : Nat) : Int) := by unfold arN; omega
  have e3 : arN fn ≤ 4 := by unfold arN; omega
  have htx : textL fn [a, b, c, d] = if knownC fn = true then nmL fn ++ argW (([a, b, c, d] : List Int).take (arN fn)) else callW ++ itL fn := rfl
  cases hkn : knownC fn with
  | true =>
    rw [hkn, if_pos rfl] at htx
    rw [htx]
    refine TC.cF rfl ?_
    refine RUNS ?_
    refine RP.c rfl (refName_tri fn) .e rfl ?_
    rintro v P' ⟨rfl, rfl⟩
    rw [e1]
    refine RUNS ?_
    refine TC.loop (fun i : Nat => arN fn - i) (fun i => i ≤ arN fn) (fun i => [(0, i64 fn), (3, .s (.ptr (some (p, 0)))), (6, i64 i), (5, tx (nmL fn ++ argW (([a, b, c, d] : List Int).take i)))]) (fun _ => [Cel p (encA a b c d)]) 0 (Nat.zero_le _) ⟨rfl, rfl, rfl, by rw [List.take_zero]; show some (AV.s (.str (mkB (nmL fn)))) = some (tx (nmL fn ++ [])); rw [List.append_nil], trivial⟩ (LEnt.refl _) ?_
    intro i hi
    refine RUNS ?_
    refine RP.c rfl (refArity_tri fn) .e rfl ?_
    rintro v P' ⟨rfl, rfl⟩
    rw [e2]
    refine RUNS ?_
    refine TC.cP rfl (fun h => ?_) fun h => ?_
    · obtain ⟨x, hx⟩ : ∃ x, ([a, b, c, d] : List Int)[i]? = some x := ⟨_, List.getElem?_eq_getElem (by simp; omega)⟩
      have hxn := hn x (List.mem_cons_of_mem _ (List.mem_of_getElem? hx))
      have hl := argW_len (([a, b, c, d] : List Int).take i) fun y hy => hn y (List.mem_cons_of_mem _ (List.mem_of_mem_take hy))
      have hll := itL_len x hxn
      have hlt : (([a, b, c, d] : List Int).take i).length ≤ 4 := by rw [List.length_take]; exact Nat.min_le_right _ _
      have etk : ([a, b, c, d] : List Int).take (i + 1) = ([a, b, c, d] : List Int).take i ++ [x] := by rw [List.take_add_one, hx]; rfl
      have etx : nmL fn ++ argW (([a, b, c, d] : List Int).take (i + 1)) = nmL fn ++ argW (([a, b, c, d] : List Int).take i) ++ [32] ++ itL x := by rw [etk, argW_snoc]; simp
      have hld : (encA a b c d)[ix 0 i 1 0]? = some (SV.int .i64 x) := by
        show (([a, b, c, d] : List Int).map fun x => SV.int .i64 x)[ix 0 i 1 0]? = _
        rw [show ix 0 i 1 0 = i by unfold ix; omega, List.getElem?_map, hx]; rfl
      refine RUNS ?_
      refine RP.cat (b := [32]) rfl rfl (by simp only [List.length_append, List.length_cons, List.length_nil]; omega) rfl ?_
      refine RUNS ?_
      refine RP.l rfl (Ld.c hld) rfl ?_
      refine RUNS ?_
      refine RP.c rfl (decimal_tri x hxn) .e rfl ?_
      rintro v P' ⟨rfl, rfl⟩
      refine RUNS ?_
      refine RP.cat rfl rfl (by simp only [List.length_append, List.length_cons, List.length_nil]; omega) rfl ?_
      refine RUNS ?_
      exact lp_n (i + 1) (by omega) (by omega) ⟨rfl, rfl, rfl, by rw [etx]; rfl, trivial⟩ (LEnt.refl _)
    · have : i = arN fn := by omega
      subst this
      refine RUNS ?_
      exact rt_r rfl ⟨rfl, rfl⟩ (LEnt.of .e)
  | false =>
    rw [hkn, if_neg (by decide)] at htx
    rw [htx]
    refine TC.cT rfl ?_
    refine RUNS ?_
    refine RP.c rfl (decimal_tri fn (hn fn (by simp))) .e rfl ?_
    rintro v P' ⟨rfl, rfl⟩
    refine RUNS ?_
    refine RP.cat (a := callW) rfl rfl (by have := itL_len fn (hn fn (by simp)); simp only [callW, List.length_cons, List.length_nil]; omega) rfl ?_
    refine RUNS ?_
    exact rt_r rfl ⟨rfl, rfl⟩ (LEnt.of .e)
end Go.AM

/-
  calls: words between blanks (the document's).
-/
namespace Go.AM
open Go.Proofs
set_option maxHeartbeats 8000000
attribute [local irreducible] sq bk lpK mdx rt TC RP WK Cel Ro Row Fre RowsA RowsBut
theorem words_pre : ∀ (w r : List UInt8), (∀ c ∈ w, c ≠ 32) → wordsL (w ++ 32 :: r) = w :: wordsL r
  | [], r, _ => by simp [wordsL]
  | c :: w, r, h => by
    have ih := words_pre w r fun x hx => h x (by simp [hx])
    show wordsL (c :: (w ++ 32 :: r)) = _
    rw [wordsL, if_neg (h c (by simp)), ih]
theorem words_one : ∀ (w : List UInt8), (∀ c ∈ w, c ≠ 32) → wordsL w = [w]
  | [], _ => rfl
  | c :: w, h => by
    have ih := words_one w fun x hx => h x (by simp [hx])
    rw [wordsL, if_neg (h c (by simp)), ih]
structure WQ where
  i : Nat
  f : Nat
  l : List (List UInt8)
  q : SV
structure WI (s : List UInt8) (x : WQ) : Prop where
  i : x.i ≤ s.length + 1
  n : x.l.length ≤ x.i
  a : x.i ≤ s.length → x.f ≤ x.i ∧ (∀ c ∈ (s.take x.i).drop x.f, c ≠ 32) ∧ wordsL s = x.l ++ wordsL (s.drop x.f)
  b : x.i = s.length + 1 → x.l = wordsL s
theorem WI.last {s : List UInt8} {f : Nat} {l : List (List UInt8)} {q : SV} (h : WI s ⟨s.length, f, l, q⟩) : l ++ [(s.take s.length).drop f] = wordsL s := by
  obtain ⟨h1, h2, h3⟩ := h.a (Nat.le_refl _)
  dsimp only at h1 h2 h3
  rw [List.take_length] at h2 ⊢
  rw [h3, words_one _ h2]
theorem WI.cut {s : List UInt8} {i f : Nat} {l : List (List UInt8)} {q q' : SV} (h : WI s ⟨i, f, l, q⟩) (hi : s[i]? = some 32) : WI s ⟨i + 1, i + 1, l ++ [(s.take i).drop f], q'⟩ := by
  have hl := (List.getElem?_eq_some_iff.1 hi).1
  obtain ⟨h1, h2, h3⟩ := h.a (by dsimp only; omega)
  dsimp only at h1 h2 h3
  have hn := h.n
  dsimp only at hn
  refine ⟨by dsimp only; omega, by dsimp only; rw [List.length_append]; simp; omega, fun _ => ⟨Nat.le_refl _, ?_, ?_⟩, fun e => by dsimp only at e; omega⟩
  · intro c hc
    dsimp only at hc
    rw [List.drop_eq_nil_of_le (by rw [List.length_take]; omega)] at hc
    exact nomatch hc
  · dsimp only
    have e : s.drop f = (s.take i).drop f ++ 32 :: s.drop (i + 1) := by
      have e1 : s.drop i = 32 :: s.drop (i + 1) := by
        obtain ⟨k1, k2⟩ := List.getElem?_eq_some_iff.1 hi
        rw [← k2]; exact List.drop_eq_getElem_cons k1
      rw [← e1]
      conv => lhs; rw [← List.take_append_drop i s]
      rw [List.drop_append_of_le_length (by rw [List.length_take]; omega)]
    rw [h3, e, words_pre _ _ h2, List.append_assoc]; rfl
theorem WI.go {s : List UInt8} {i f : Nat} {l : List (List UInt8)} {q : SV} (h : WI s ⟨i, f, l, q⟩) {c : UInt8} (hi : s[i]? = some c) (hc : c ≠ 32) : WI s ⟨i + 1, f, l, q⟩ := by
  have hl := (List.getElem?_eq_some_iff.1 hi).1
  obtain ⟨h1, h2, h3⟩ := h.a (by dsimp only; omega)
  dsimp only at h1 h2 h3
  have hn := h.n
  dsimp only at hn
  refine ⟨by dsimp only; omega, by dsimp only; omega, fun _ => ⟨by dsimp only; omega, ?_, h3⟩, fun e => by dsimp only at e; omega⟩
  intro x hx
  dsimp only at hx
  rw [List.take_add_one, hi, List.drop_append_of_le_length (by rw [List.length_take]; omega)] at hx
  rcases List.mem_append.1 hx with hx | hx
  · exact h2 x hx
  · simp at hx; rw [hx]; exact hc
theorem Words_tri (s : List UInt8) (hs : s.length ≤ 1000000000) : Tri tab sext F.detentref25_Words [tx s] [] fun v P' => ∃ q, v = .s q ∧ P' = [Row encW 1 q (wordsL s)] := by
  refine Tri.go tab_detentref25_Words rfl ?_
  refine RUNS ?_
  refine TC.loop (fun x : WQ => s.length + 1 - x.i) (fun x => WI s x) (fun x => [(0, tx s), (3, .s x.q), (4, i64 x.f), (5, i64 x.i)]) (fun x => [Row encW 1 x.q x.l]) ⟨0, 0, [], .slice none 0 0 1⟩ ⟨Nat.zero_le _, Nat.le_refl _, fun _ => ⟨Nat.le_refl _, (fun c hc => by simp at hc), rfl⟩, fun e => by dsimp only at e; omega⟩ ⟨rfl, rfl, rfl, rfl, trivial⟩ (row_nil 1 _) ?_
  rintro ⟨i, f, l, q⟩ hI
  have hi := hI.i
  have hn := hI.n
  dsimp only at hi hn ⊢
  refine RUNS ?_
  refine TC.cP rfl (fun h => ?_) fun h => ?_
  · obtain ⟨h1, _, _⟩ := hI.a (by dsimp only; omega)
    dsimp only at h1
    refine RUNS ?_
    refine RP.gq rfl (fun h2 => ?_) fun h2 => ?_
    · obtain ⟨c, hc⟩ : ∃ c, s[i]? = some c := ⟨_, List.getElem?_eq_getElem (by omega)⟩
      have hcl := (List.getElem?_eq_some_iff.1 hc).1
      refine RUNS ?_
      refine RP.sx rfl rfl hc rfl ?_
      refine RUNS ?_
      refine TC.cP rfl (fun h3 => ?_) fun h3 => ?_
      · have e32 : c = 32 := by
          apply UInt8.toNat.inj
          have : c.toNat = 32 := by omega
          rw [this]; rfl
        subst e32
        refine RUNS ?_
        refine RP.sl rfl rfl rfl h1 (by omega) rfl ?_
        refine RUNS ?_
        refine RP.bs rfl rfl rfl fun b => ?_
        refine RP.ap rfl rfl rfl (ap_one (e := (s.take i).drop f) encW_len (.c (.n .h) (.c .h .e)) (by omega)) fun q' => ?_
        refine RUNS ?_
        exact lp_n ⟨i + 1, i + 1, l ++ [(s.take i).drop f], q'⟩ (hI.cut hc) (by dsimp only; omega) ⟨rfl, rfl, rfl, rfl, trivial⟩ (LEnt.of (.c .h .e))
      · have e32 : c ≠ 32 := fun e => h3 (by rw [e]; rfl)
        refine RUNS ?_
        exact lp_n ⟨i + 1, f, l, q⟩ (hI.go hc e32) (by dsimp only; omega) ⟨rfl, rfl, rfl, rfl, trivial⟩ (LEnt.refl _)
    · have h2 : (i : Int) = s.length := h2
      have : i = s.length := by omega
      subst this
      have hw := hI.last
      refine RUNS ?_
      refine RP.sl rfl rfl rfl h1 (Nat.le_refl _) rfl ?_
      refine RUNS ?_
      refine RP.bs rfl rfl rfl fun b => ?_
      refine RP.ap rfl rfl rfl (ap_one (e := (s.take s.length).drop f) encW_len (.c (.n .h) (.c .h .e)) (by omega)) fun q' => ?_
      refine RUNS ?_
      exact lp_n ⟨s.length + 1, s.length + 1, l ++ [(s.take s.length).drop f], q'⟩ ⟨Nat.le_refl _, by dsimp only; rw [List.length_append]; simp; omega, fun e => by dsimp only at e; omega, fun _ => hw⟩ (by dsimp only; omega) ⟨rfl, rfl, rfl, rfl, trivial⟩ (LEnt.of (.c .h .e))
  · have e := hI.b (by dsimp only; omega)
    dsimp only at e
    subst e
    refine RUNS ?_
    exact rt_r rfl ⟨q, rfl, rfl⟩ (LEnt.refl _)
end Go.AM

/-
  calls: a text is read (the document's).
-/
namespace Go.AM
open Go.Proofs
set_option maxHeartbeats 8000000
attribute [local irreducible] sq bk lpK mdx rt TC RP WK Cel Ro Row Fre RowsA RowsBut
theorem resC3 {E : Env} {L : List Asr} {t u r b n : Nat} {l : List SV} {x y : SV} (h0 : look E r = some (.s y)) (h1 : look E t = some (.s (.ptr (some (b, 0))))) (hl : Ldn L b 0 n l) (h2 : look E u = some (.s x)) : resE E L [.tmp r, .cell t (some n), .tmp u] (.tup [.s y, .agg l, .s x]) := ⟨_, rfl, h0, ⟨b, 0, h1, .inr ⟨n, l, rfl, rfl, hl⟩⟩, h2, trivial⟩
def refR (r : Int × List Int × Int) : AV := .tup [.s (.int .i64 r.1), .agg (encL r.2.1), .s (.int .i64 r.2.2)]
theorem nam_at {k : Nat} {nm : ByteArray} (h : namC[k]? = some nm) : nmAt k = nm.data.toList := by
  unfold namC at h
  rw [List.getElem?_map, Option.map_eq_some_iff] at h
  obtain ⟨r, hr, rfl⟩ := h
  exact (nm_at hr).1
theorem mk4_set {vs : List Int} {j : Nat} (v : Int) (h : vs.length = j) (hj : j < 4) : (mk4 vs).set j v = mk4 (vs ++ [v]) := by
  subst h
  match vs, hj with
  | [], _ => rfl
  | [a], _ => rfl
  | [a, b], _ => rfl
  | [a, b, c], _ => rfl
theorem splice_at1 (l : List SV) (o : Nat) (v : SV) (h : o < l.length) : splice l o [v] = l.set o v := by
  unfold splice
  rw [List.set_eq_take_append_cons_drop, if_pos h]; rfl
theorem encL_set (xs : List Int) (j : Nat) (v : Int) (h : j < xs.length) : splice (encL xs) (ix 0 j 1 0) [.int .i64 v] = encL (xs.set j v) := by
  have e : ix 0 j 1 0 = j := by unfold ix; omega
  rw [e, splice_at1 _ _ _ (by simp [encL]; exact h)]
  simp [encL, List.map_set]
attribute [local irreducible] numL fnK nmAt numsL tabC ofC wordsL namC numR
theorem refParse_tri (s : List UInt8) (hs : s.length ≤ 1000000) : Tri tab sext F.detentref25_Parse [tx s] [] fun v P' => v = refR (parseL s) ∧ P' = [] := by
  refine Tri.go tab_detentref25_Parse rfl ?_
  have hwl := wordsL_len s
  have hwlen : ∀ w ∈ wordsL s, w.length ≤ 1000000 := fun w h => Nat.le_trans (words_mem_len s w h) hs
  have hwn := wordsL_ne s
  have hps : parseL s = parseW (wordsL s) := rfl
  refine RUNS ?_
  refine RP.nw rfl fun p3 => ?_
  refine RUNS ?_
  refine RP.nw rfl fun p5 => ?_
  refine RUNS ?_
  refine RP.c rfl (Words_tri s (by omega)) .e rfl ?_
  rintro v P' ⟨q, rfl, rfl⟩
  generalize wordsL s = ws at hwl hwn hps hwlen ⊢
  obtain ⟨w0, wr, rfl⟩ : ∃ a b, ws = a :: b := by
    cases ws with
    | nil => exact absurd rfl hwn
    | cons a b => exact ⟨a, b, rfl⟩
  refine RUNS ?_
  refine RP.c rfl names_tri .e rfl ?_
  rintro v P' ⟨qt, rfl, rfl⟩
  rw [hps]
  have hf1 : fnK 1 w0 = 0 := by unfold fnK; rw [if_neg (fun h => h.1 rfl)]; unfold fnK; rfl
  have hnl := namC_len
  have hw1 : 0 < (w0 :: wr).length := by simp
  have hg0 : (w0 :: wr)[(0 : Int).toNat]? = some w0 := rfl
  refine RUNS ?_
  refine TC.loop (fun i : Nat => 65 - i) (fun i => 1 ≤ i ∧ i ≤ 65) (fun i => [(3, .s (.ptr (some (p3, 0)))), (5, .s (.ptr (some (p5, 0)))), (6, .s q), (7, i64 ((fnK i w0 : Nat) : Int)), (8, .s qt), (9, i64 i)]) (fun _ => [Row encS 1 qt namC, Row encW 1 q (w0 :: wr), Cel p5 [.int .i64 0, .int .i64 0, .int .i64 0, .int .i64 0], Cel p3 [.int .i64 0, .int .i64 0, .int .i64 0, .int .i64 0]]) 1 (by omega) ⟨rfl, rfl, rfl, by rw [hf1]; rfl, rfl, rfl, trivial⟩ (LEnt.refl _) ?_
  rintro i ⟨hi1, hi⟩
  refine RUNS ?_
  rw [namC_len]
  refine TC.cP rfl (fun h => ?_) fun h => ?_
  · obtain ⟨nm, hnm⟩ : ∃ r, namC[i]? = some r := ⟨_, List.getElem?_eq_getElem (by rw [namC_len]; omega)⟩
    have hna := nam_at hnm
    have hfk : fnK (i + 1) w0 = if i ≠ 0 ∧ nmAt i = w0 then i else fnK i w0 := by rw [fnK]
    refine RUNS ?_
    rw [← hna, mkB_list]
    by_cases he : nmAt i = w0
    · rw [if_pos ⟨by omega, he⟩] at hfk
      have hb : (false ^^ (nmAt i == w0)) = true := by rw [he]; simp
      rw [hb]
      refine RUNS ?_
      exact lp_n (i + 1) (by omega) (by omega) ⟨rfl, rfl, rfl, by rw [hfk]; rfl, rfl, rfl, trivial⟩ (LEnt.refl _)
    · rw [if_neg (fun hh => he hh.2)] at hfk
      have hb : (false ^^ (nmAt i == w0)) = false := by simpa using he
      rw [hb]
      refine RUNS ?_
      exact lp_n (i + 1) (by omega) (by omega) ⟨rfl, rfl, rfl, by rw [hfk]; rfl, rfl, rfl, trivial⟩ (LEnt.refl _)
  · have : i = 65 := by omega
    subst this
    rw [show fnK 65 w0 = fnL w0 from rfl]
    have hfl := fnL_lt w0
    generalize hf : fnL w0 = f at hfl ⊢
    refine RUNS ?_
    refine TC.cP rfl (fun h2 => ?_) fun h2 => ?_
    · rw [parseW0 (by omega)]
      refine RUNS ?_
      exact rt_r (resC3 rfl rfl (.n (.n (.n (Ldn.cb rfl rfl)))) rfl) ⟨rfl, rfl⟩ (LEnt.of .e)
    · have hf0 : ¬ fnL w0 = 0 := by omega
      have hwl1 : ((w0 :: wr).length : Int) = (wr.length : Int) + 1 := by simp
      obtain ⟨⟨ha0, ha4⟩, _⟩ := row_ok f
      have e2 : (ofC f).2.1 = ((arN f : Nat) : Int) := by unfold arN; omega
      refine RUNS ?_
      refine RP.c rfl (refArity_tri f) .e rfl ?_
      rintro v P' ⟨rfl, rfl⟩
      rw [e2]
      refine RUNS ?_
      refine TC.cP rfl (fun h3 => ?_) fun h3 => ?_
      · rw [parseW1 hf0 (by rw [hf]; omega)]
        refine RUNS ?_
        exact rt_r (resC3 rfl rfl (.n (.n (.n (Ldn.cb rfl rfl)))) rfl) ⟨rfl, rfl⟩ (LEnt.of .e)
      · rw [parseW2 hf0 (by rw [hf]; omega), hf]
        have hwr : wr.length = arN f := by omega
        have har : arN f ≤ 4 := by unfold arN; omega
        refine RUNS ?_
        refine TC.loop (fun x : Nat × List Int => wr.length - x.1) (fun x => x.1 ≤ wr.length ∧ numsL (wr.take x.1) = some x.2) (fun x => [(3, .s (.ptr (some (p3, 0)))), (5, .s (.ptr (some (p5, 0)))), (6, .s q), (7, i64 f), (10, i64 ((x.1 + 1 : Nat) : Int))]) (fun x => [Row encW 1 q (w0 :: wr), Cel p5 (encL (mk4 x.2)), Cel p3 [.int .i64 0, .int .i64 0, .int .i64 0, .int .i64 0]]) (0, []) ⟨Nat.zero_le _, by rw [List.take_zero]; unfold numsL; rfl⟩ ⟨rfl, rfl, rfl, rfl, rfl, trivial⟩ (LEnt.of (.c (.n .h) (.c (.n .h) (.c (.n .h) .e)))) ?_
        rintro ⟨i, vs⟩ ⟨hi, hvs⟩
        dsimp only at hi hvs ⊢
        have hvl := (numsL_len hvs).1
        refine RUNS ?_
        refine TC.cP rfl (fun h4 => ?_) fun h4 => ?_
        · obtain ⟨w, hw⟩ : ∃ w, wr[i]? = some w := ⟨_, List.getElem?_eq_getElem (by omega)⟩
          have hw2 : (w0 :: wr)[i + 1]? = some w := by rw [List.getElem?_cons_succ]; exact hw
          have hwl2 := hwlen w (List.mem_of_getElem? hw2)
          have htk : wr.take (i + 1) = wr.take i ++ [w] := by rw [List.take_add_one, hw]; rfl
          have hsn := numsL_snoc (wr.take i) w
          rw [hvs, ← htk] at hsn
          have hvi : vs.length = i := by rw [hvl, List.length_take]; omega
          refine RUNS ?_
          refine RP.c rfl (number_tri w (by omega)) .e rfl ?_
          rintro v P' ⟨rfl, rfl⟩
          cases hv : numL w with
          | none =>
            rw [numR_none hv, numsL_none (List.mem_of_getElem? hw) hv, show parM f none = (0, [0, 0, 0, 0], -17) from rfl]
            refine RUNS ?_
            exact rt_r (resC3 rfl rfl (.n (.n (Ldn.cb rfl rfl))) rfl) ⟨rfl, rfl⟩ (LEnt.of .e)
          | some v =>
            rw [numR_some hv]
            rw [hv] at hsn
            have hset := mk4_set v hvi (by omega)
            have hsp : splice (encL (mk4 vs)) (ix 0 i 1 0) [.int .i64 v] = encL (mk4 (vs ++ [v])) := by rw [encL_set _ _ _ (by rw [mk4_len]; omega), hset]
            have hle : ix 0 i 1 0 + [SV.int .i64 v].length ≤ (encL (mk4 vs)).length := by
              have : (encL (mk4 vs)).length = 4 := by unfold encL; rw [List.length_map, mk4_len]
              rw [this]
              show ix 0 i 1 0 + 1 ≤ 4
              unfold ix; omega
            refine RUNS ?_
            refine RP.s rfl rfl rfl rfl (.n (Stw.c hle hsp)) ?_
            refine RUNS ?_
            exact lp_n (i + 1, vs ++ [v]) ⟨by dsimp only; omega, hsn⟩ (by dsimp only; omega) ⟨rfl, rfl, rfl, rfl, rfl, trivial⟩ (LEnt.refl _)
        · have : i = wr.length := by omega
          subst this
          rw [List.take_length] at hvs
          rw [hvs, show parM f (some vs) = ((f : Int), mk4 vs, 0) from rfl]
          obtain ⟨a, b, c, d, h4⟩ := mk4_cells vs
          rw [h4]
          refine RUNS ?_
          exact rt_r (resC3 rfl rfl (.n (.n (Ldn.cb rfl rfl))) rfl) ⟨rfl, rfl⟩ (LEnt.of .e)
end Go.AM

/-
  calls: what the laws ask first.
-/
namespace Go.AM
open Go.Proofs
set_option maxHeartbeats 8000000
attribute [local irreducible] sq bk lpK mdx rt TC RP WK Cel Ro Row Fre RowsA RowsBut

theorem Number_tri (s : List UInt8) (hs : s.length ≤ 1000000000) : Tri tab sext F.detentref25_Number [tx s] [] fun v P' => v = numR s ∧ P' = [] := by
  refine Tri.go tab_detentref25_Number rfl ?_
  refine RUNS ?_
  refine RP.c rfl (number_tri s hs) .e rfl ?_
  rintro v P' ⟨rfl, rfl⟩
  unfold numR
  refine RUNS ?_
  exact rt_r (resE2 rfl rfl) ⟨rfl, rfl⟩ (LEnt.refl _)
def kw1 : List UInt8 := [116, 119, 97, 105, 95, 115, 101, 109, 32, 49, 32, 45, 49]
def kw2 : List UInt8 := [110, 111, 95, 115, 117, 99, 104, 32, 49]
def kw3 : List UInt8 := [119, 97, 105, 95, 115, 101, 109]
theorem it_1 : itL 1 = [49] := by rw [it_abs, if_neg (by decide)]; exact dec_small (by decide)
theorem it_m1 : itL (-1) = [45, 49] := by rw [it_abs, if_pos (by decide)]; rw [show (-1 : Int).natAbs = 1 from rfl, dec_small (by decide)]; rfl
theorem nums_1m : numsL [[49], [45, 49]] = some [1, -1] := by
  have h1 : numL [49] = some 1 := by rw [← it_1]; exact numL_it ⟨by decide, by decide⟩
  have h2 : numL [45, 49] = some (-1) := by rw [← it_m1]; exact numL_it ⟨by decide, by decide⟩
  simp [numsL, h1, h2]
theorem p_kw1 : parseL kw1 = (27, [1, -1, 0, 0], 0) := by
  have hw : wordsL kw1 = [[116, 119, 97, 105, 95, 115, 101, 109], [49], [45, 49]] := by decide +kernel
  have hf : fnL [116, 119, 97, 105, 95, 115, 101, 109] = 27 := by decide +kernel
  have ha : arN 27 = 2 := by decide +kernel
  show parseW (wordsL kw1) = _
  rw [hw, parseW2 (by rw [hf]; decide) (by rw [hf]; exact ha.symm), hf, nums_1m]
  rfl
theorem p_kw2 : parseL kw2 = (0, [0, 0, 0, 0], -10) := by
  have hw : wordsL kw2 = [[110, 111, 95, 115, 117, 99, 104], [49]] := by decide +kernel
  have hf : fnL [110, 111, 95, 115, 117, 99, 104] = 0 := by decide +kernel
  show parseW (wordsL kw2) = _
  rw [hw, parseW0 hf]
theorem p_kw3 : parseL kw3 = (0, [0, 0, 0, 0], -17) := by
  have hw : wordsL kw3 = [[119, 97, 105, 95, 115, 101, 109]] := by decide +kernel
  have hf : fnL [119, 97, 105, 95, 115, 101, 109] = 25 := by decide +kernel
  have ha : arN 25 = 1 := by decide +kernel
  show parseW (wordsL kw3) = _
  rw [hw, parseW1 (by rw [hf]; decide) (by rw [hf, show ((25 : Nat) : Int) = 25 from rfl, ha]; decide)]
theorem t_kw1 : textL 27 [1, -1, 0, 0] = kw1 := by
  have ha : arN 27 = 2 := by decide +kernel
  have hn : nmL 27 = [116, 119, 97, 105, 95, 115, 101, 109] := by decide +kernel
  unfold textL
  rw [if_pos (by decide), hn, ha]
  show _ ++ (32 :: itL 1 ++ (32 :: itL (-1) ++ [])) = kw1
  rw [it_1, it_m1]; rfl
theorem of_27 : ofC 27 = (⟨#[116, 119, 97, 105, 95, 115, 101, 109]⟩, 2, 2) := by decide +kernel
theorem r_kw1 : parR (parseL kw1) = .tup [.agg [.int .i64 27, .int .i64 1, .int .i64 (-1), .int .i64 0, .int .i64 0], .s (.int .i64 0)] := by rw [p_kw1]; rfl
theorem r_kw2 : parR (parseL kw2) = .tup [.agg [.int .i64 0, .int .i64 0, .int .i64 0, .int .i64 0, .int .i64 0], .s (.int .i64 (-10))] := by rw [p_kw2]; rfl
theorem r_kw3 : parR (parseL kw3) = .tup [.agg [.int .i64 0, .int .i64 0, .int .i64 0, .int .i64 0, .int .i64 0], .s (.int .i64 (-17))] := by rw [p_kw3]; rfl
theorem m_kw : (AV.agg (.int .i64 27 :: encL (mk4 [1, -1]))) = .agg [.int .i64 27, .int .i64 1, .int .i64 (-1), .int .i64 0, .int .i64 0] := rfl
attribute [local irreducible] tabC ofC namC parseL textL parR mk4
theorem known25_tri : Tri tab sext F.detentlaw25_known [] [] fun v P' => v = bl true ∧ P' = [] := by
  refine Tri.go tab_detentlaw25_known rfl ?_
  refine RUNS ?_
  refine RP.c rfl (Parse_tri kw1 (by decide)) .e rfl ?_
  rintro v P' ⟨rfl, rfl⟩
  rw [r_kw1]
  refine RUNS ?_
  refine RP.nw rfl fun p => ?_
  refine RUNS ?_
  refine RP.c rfl (Parse_tri kw2 (by decide)) .e rfl ?_
  rintro v P' ⟨rfl, rfl⟩
  rw [r_kw2]
  refine RUNS ?_
  refine RP.nw rfl fun p2 => ?_
  refine RUNS ?_
  refine RP.c rfl (Parse_tri kw3 (by decide)) .e rfl ?_
  rintro v P' ⟨rfl, rfl⟩
  rw [r_kw3]
  refine RUNS ?_
  refine RP.nw rfl fun p3 => ?_
  refine RUNS ?_
  refine RP.bs rfl rfl rfl fun b => ?_
  refine RP.ent (row_made (enc := encI) (k := 1) (c := 2) (r := [1, -1]) rfl (by decide) (by decide)) ?_
  refine RUNS ?_
  refine RP.c rfl (Make_tri 27 (xs := [1, -1]) (Src.row rfl)) (.c .h .e) rfl ?_
  rintro v P' ⟨rfl, rfl⟩
  rw [m_kw]
  refine RUNS ?_
  refine RP.nw rfl fun p4 => ?_
  refine RUNS ?_
  refine RP.c rfl (Text_tri 27 1 (-1) 0 0 (by decide)) .e rfl ?_
  rintro v P' ⟨rfl, rfl⟩
  rw [t_kw1]
  refine RUNS ?_
  refine RP.c rfl (Name_tri 27) .e rfl ?_
  rintro v P' ⟨rfl, rfl⟩
  rw [of_27]
  refine RUNS ?_
  refine RP.c rfl (Arity_tri 27) .e rfl ?_
  rintro v P' ⟨rfl, rfl⟩
  rw [of_27]
  refine RUNS ?_
  refine RP.c rfl (Kind_tri 27 1 (-1) 0 0) .e rfl ?_
  rintro v P' ⟨rfl, rfl⟩
  rw [of_27]
  refine RUNS ?_
  refine RP.c rfl (Known_tri 64) .e rfl ?_
  rintro v P' ⟨rfl, rfl⟩
  rw [show knownC 64 = true by decide]
  refine RUNS ?_
  refine RP.c rfl (Known_tri 65) .e rfl ?_
  rintro v P' ⟨rfl, rfl⟩
  rw [show knownC 65 = false by decide]
  refine RUNS ?_
  exact rt_r rfl ⟨rfl, rfl⟩ (LEnt.of .e)
end Go.AM

/-
  calls: texts and what is read from them, plainly.
-/
namespace Go.AM
open Go.Proofs

theorem nm_all : (List.range 65).all (fun k => decide (k = 0) || (decide (fnL (nmAt k) = k) && (nmAt k).all (fun c => decide (c ≠ 32)) && (List.range (nmAt k).length).all fun j => decide (fnL ((nmAt k).take j) = 0))) = true := by decide +kernel
theorem nm_facts {k : Nat} (h1 : 1 ≤ k) (h2 : k ≤ 64) : fnL (nmAt k) = k ∧ (∀ c ∈ nmAt k, c ≠ 32) ∧ ∀ j, j < (nmAt k).length → fnL ((nmAt k).take j) = 0 := by
  have h := List.all_eq_true.1 nm_all k (List.mem_range.2 (by omega))
  simp only [Bool.or_eq_true, Bool.and_eq_true, decide_eq_true_eq, List.all_eq_true, List.mem_range] at h
  rcases h with h | ⟨⟨h, h3⟩, h4⟩
  · omega
  · exact ⟨h, h3, h4⟩
theorem known_le {fn : Int} (h : knownC fn = true) : 1 ≤ fn ∧ fn ≤ 64 := by
  unfold knownC at h
  exact of_decide_eq_true h
theorem nmL_at {fn : Int} (h : knownC fn = true) : nmL fn = nmAt fn.toNat := by
  have h1 := known_le h
  have h2 := tab_get (fn := fn) (by omega) (by omega)
  unfold nmL nmAt
  rw [h2]; rfl
theorem nmL_facts {fn : Int} (h : knownC fn = true) : fnL (nmL fn) = fn.toNat ∧ (∀ c ∈ nmL fn, c ≠ 32) ∧ ∀ j, j < (nmL fn).length → fnL ((nmL fn).take j) = 0 := by
  have h1 := known_le h
  rw [nmL_at h]
  exact nm_facts (by omega) (by omega)
theorem dg_nb {c : UInt8} (h : isDg c) : c ≠ 32 := by
  intro e
  subst e
  exact absurd h.1 (by decide)
theorem it_nb (v : Int) : ∀ c ∈ itL v, c ≠ 32 := by
  intro c hc
  rw [it_abs] at hc
  split at hc
  · rcases List.mem_cons.1 hc with rfl | hc
    · decide
    · exact dg_nb (dec_dg _ c hc)
  · exact dg_nb (dec_dg _ c hc)
theorem words_args : ∀ (l : List Int) (w : List UInt8), (∀ c ∈ w, c ≠ 32) → wordsL (w ++ argW l) = w :: l.map itL
  | [], w, h => by rw [argW, List.append_nil, words_one w h]; rfl
  | a :: l, w, h => by
    show wordsL (w ++ 32 :: (itL a ++ argW l)) = _
    rw [words_pre w _ h, words_args l _ (it_nb a)]; rfl
theorem nums_it : ∀ l : List Int, (∀ x ∈ l, rng64 x) → numsL (l.map itL) = some l
  | [], _ => rfl
  | a :: l, h => by
    show (numL (itL a)).bind (fun v => (numsL (l.map itL)).map (v :: ·)) = _
    rw [numL_it (h a (by simp)), nums_it l fun x hx => h x (by simp [hx])]; rfl
theorem arN_le (fn : Int) : arN fn ≤ 4 := by
  have := row_ok fn
  unfold arN; omega
theorem toNat_fn {fn : Int} (h : knownC fn = true) : ((fn.toNat : Nat) : Int) = fn := by have := known_le h; omega
theorem parse_args {fn : Int} (h : knownC fn = true) {l : List Int} (hl : l.length = arN fn) (hr : ∀ x ∈ l, rng64 x) : parseL (nmL fn ++ argW l) = (fn, mk4 l, 0) := by
  obtain ⟨h1, h2, _⟩ := nmL_facts h
  have h3 := toNat_fn h
  have h4 := known_le h
  show parseW (wordsL _) = _
  rw [words_args l _ h2, parseW2 (by rw [h1]; omega) (by rw [h1, h3, List.length_map, hl]), h1, nums_it l hr]
  show (((fn.toNat : Nat) : Int), mk4 l, (0 : Int)) = _
  rw [h3]
theorem take_len {l : List Int} (h : l.length = 4) (fn : Int) : (l.take (arN fn)).length = arN fn := by
  have := arN_le fn
  rw [List.length_take]; omega
theorem textL_k {fn : Int} (h : knownC fn = true) (l : List Int) : textL fn l = nmL fn ++ argW (l.take (arN fn)) := by unfold textL; rw [if_pos h]
theorem parse_text {fn : Int} (h : knownC fn = true) {l : List Int} (hl : l.length = 4) (hr : ∀ x ∈ l, rng64 x) : parseL (textL fn l) = (fn, mk4 (l.take (arN fn)), 0) := by
  rw [textL_k h]
  exact parse_args h (take_len hl fn) fun x hx => hr x (List.mem_of_mem_take hx)
theorem fnL_call : fnL [99, 97, 108, 108] = 0 := by decide +kernel
theorem parse_call {fn : Int} (h : knownC fn = false) (l : List Int) : parseL (textL fn l) = (0, [0, 0, 0, 0], -10) := by
  unfold textL
  rw [if_neg (by rw [h]; decide)]
  show parseW (wordsL ([99, 97, 108, 108] ++ 32 :: itL fn)) = _
  rw [words_pre _ _ (by decide), parseW0 fnL_call]
theorem textL_len (fn : Int) (l : List Int) (hf : rng64 fn) (hr : ∀ x ∈ l, rng64 x) : (textL fn l).length ≤ 98 := by
  unfold textL
  split
  · have h1 := (row_ok fn).2
    have h2 := argW_len (l.take (arN fn)) fun x hx => hr x (List.mem_of_mem_take hx)
    have h3 := arN_le fn
    have h4 : (l.take (arN fn)).length ≤ 4 := by rw [List.length_take]; omega
    rw [List.length_append]; omega
  · have h1 := itL_len fn hf
    rw [List.length_append]
    show 5 + _ ≤ _
    omega
theorem mk4_get (xs : List Int) (i : Nat) (hi : i < 4) : ∃ v, (mk4 xs)[i]? = some v ∧ ((i < xs.length ∧ xs[i]? = some v) ∨ (¬ i < xs.length ∧ v = 0)) := by
  obtain ⟨v, hv⟩ : ∃ v, (mk4 xs)[i]? = some v := ⟨_, List.getElem?_eq_getElem (by rw [mk4_len]; exact hi)⟩
  refine ⟨v, hv, ?_⟩
  unfold mk4 at hv
  rw [List.getElem?_take_of_lt hi] at hv
  by_cases h : i < xs.length
  · rw [List.getElem?_append_left h] at hv
    exact .inl ⟨h, hv⟩
  · rw [List.getElem?_append_right (by omega)] at hv
    have hj : i - xs.length < 4 := by omega
    refine .inr ⟨h, ?_⟩
    have : ([0, 0, 0, 0] : List Int)[i - xs.length]? = some 0 := by
      match i - xs.length, hj with
      | 0, _ => rfl
      | 1, _ => rfl
      | 2, _ => rfl
      | 3, _ => rfl
    rw [this] at hv
    exact (Option.some.inj hv).symm
theorem parseL_len (s : List UInt8) : (parseL s).2.1.length = 4 := by
  unfold parseL
  generalize wordsL s = w
  unfold parseW
  split
  · rfl
  · split
    · rfl
    · unfold parM
      split
      · rfl
      · exact mk4_len _
theorem four_of : ∀ l : List Int, l.length = 4 → ∃ a b c d, l = [a, b, c, d]
  | [a, b, c, d], _ => ⟨a, b, c, d, rfl⟩
theorem parse_form (s : List UInt8) : ∃ f a b c d e, parseL s = (f, [a, b, c, d], e) := by
  have h := parseL_len s
  revert h
  generalize parseL s = x
  intro h
  obtain ⟨f, l, e⟩ := x
  obtain ⟨a, b, c, d, rfl⟩ := four_of l h
  exact ⟨f, a, b, c, d, e, rfl⟩
/- ---- a blank more ---- -/
def blanks : List UInt8 → Nat
  | [] => 0
  | c :: r => (if c = 32 then 1 else 0) + blanks r
theorem blanks_app : ∀ a b : List UInt8, blanks (a ++ b) = blanks a + blanks b
  | [], b => by simp [blanks]
  | c :: a, b => by rw [List.cons_append, blanks, blanks, blanks_app a b]; omega
theorem words_blanks : ∀ s : List UInt8, (wordsL s).length = blanks s + 1
  | [] => rfl
  | c :: r => by
    have ih := words_blanks r
    rw [wordsL, blanks]
    split
    · rw [List.length_cons, ih]; omega
    · split
      · rename_i w ws e
        rw [e, List.length_cons] at ih
        rw [List.length_cons]; omega
      · rename_i e
        exact absurd e (wordsL_ne r)
theorem parseW_bad {w : List UInt8} {ws : List (List UInt8)} {f : Nat} (hf : fnL w = f) (h : f = 0 ∨ ws.length ≠ arN f) : (parseW (w :: ws)).2.2 ≠ 0 := by
  subst hf
  by_cases h0 : fnL w = 0
  · rw [parseW0 h0]; show (-10 : Int) ≠ 0; decide
  · rw [parseW1 h0 (by rcases h with h | h; exact absurd h h0; exact h)]
    show (-17 : Int) ≠ 0; decide
theorem blank_bad {fn : Int} (h : knownC fn = true) {l : List Int} (hl : l.length = arN fn) (k : Nat) (hk : k ≤ (nmL fn ++ argW l).length) : (parseL ((nmL fn ++ argW l).take k ++ 32 :: (nmL fn ++ argW l).drop k)).2.2 ≠ 0 := by
  obtain ⟨h1, h2, h3⟩ := nmL_facts h
  have h4 := toNat_fn h
  have hb : blanks ((nmL fn ++ argW l).take k ++ 32 :: (nmL fn ++ argW l).drop k) = arN fn + 1 := by
    have e : blanks (nmL fn ++ argW l) = arN fn := by
      have := words_blanks (nmL fn ++ argW l)
      rw [words_args l _ h2, List.length_cons, List.length_map, hl] at this
      omega
    have e2 := congrArg blanks (List.take_append_drop k (nmL fn ++ argW l))
    rw [blanks_app, e] at e2
    rw [blanks_app, blanks, if_pos rfl]
    omega
  have hw := words_blanks ((nmL fn ++ argW l).take k ++ 32 :: (nmL fn ++ argW l).drop k)
  rw [hb] at hw
  show (parseW (wordsL _)).2.2 ≠ 0
  by_cases hc : k ≤ (nmL fn).length
  · have e : (nmL fn ++ argW l).take k = (nmL fn).take k := by rw [List.take_append_of_le_length hc]
    rw [e] at hw ⊢
    rw [words_pre _ _ fun c hc => h2 c (List.mem_of_mem_take hc)] at hw ⊢
    rw [List.length_cons] at hw
    by_cases hc2 : k < (nmL fn).length
    · exact parseW_bad (h3 k hc2) (.inl rfl)
    · rw [List.take_of_length_le (by omega)]
      exact parseW_bad h1 (.inr (by rw [h4]; omega))
  · match l, hl with
    | [], _ => rw [argW, List.append_nil] at hk; exact absurd hk hc
    | a :: l, _ =>
      have e : (nmL fn ++ argW (a :: l)).take k = nmL fn ++ 32 :: (itL a ++ argW l).take (k - (nmL fn).length - 1) := by
        rw [List.take_append, List.take_of_length_le (by omega)]
        congr 1
        show (32 :: (itL a ++ argW l)).take _ = _
        obtain ⟨m, hm⟩ : ∃ m, k - (nmL fn).length = m + 1 := ⟨k - (nmL fn).length - 1, by omega⟩
        rw [hm, List.take_succ_cons]; rfl
      rw [e, List.append_assoc, List.cons_append] at hw ⊢
      rw [words_pre _ _ h2] at hw ⊢
      rw [List.length_cons] at hw
      exact parseW_bad h1 (.inr (by rw [h4]; omega))
/- ---- a word again and again ---- -/
def repW (w : List UInt8) : Nat → List UInt8
  | 0 => []
  | n + 1 => 32 :: w ++ repW w n
theorem repW_snoc (w : List UInt8) : ∀ n, repW w (n + 1) = repW w n ++ 32 :: w
  | 0 => by simp [repW]
  | n + 1 => by
    show 32 :: w ++ repW w (n + 1) = (32 :: w ++ repW w n) ++ 32 :: w
    rw [repW_snoc w n]; simp
theorem repW_it (v : Int) : ∀ n, repW (itL v) n = argW (List.replicate n v)
  | 0 => rfl
  | n + 1 => by rw [repW, repW_it v n]; rfl
theorem repW_len (w : List UInt8) : ∀ n, (repW w n).length = n * (w.length + 1)
  | 0 => by simp [repW]
  | n + 1 => by
    rw [repW, List.length_append, repW_len w n, List.length_cons, Nat.add_mul]; omega
theorem repW_bl (w : List UInt8) : ∀ n, blanks (repW w n) = n * (blanks w + 1)
  | 0 => by simp [repW, blanks]
  | n + 1 => by
    rw [repW, blanks_app, repW_bl w n, blanks, if_pos rfl, Nat.add_mul]; omega
theorem no_blanks : ∀ w : List UInt8, blanks w = 0 → ∀ c ∈ w, c ≠ 32
  | c :: r, h, x, hx => by
    rw [blanks] at h
    rcases List.mem_cons.1 hx with rfl | hx
    · intro e
      rw [if_pos e] at h; omega
    · exact no_blanks r (by omega) x hx
theorem words_rep {w v : List UInt8} (hv : ∀ c ∈ v, c ≠ 32) (h : ∀ c ∈ w, c ≠ 32) : ∀ n, wordsL (v ++ repW w n) = v :: List.replicate n w := by
  intro n
  induction n generalizing v with
  | zero => rw [repW, List.append_nil, words_one v hv]; rfl
  | succ n ih =>
    show wordsL (v ++ 32 :: (w ++ repW w n)) = _
    rw [words_pre v _ hv, ih h]; rfl
theorem word_good {fn : Int} (h : knownC fn = true) (ha : 1 ≤ arN fn) {w : List UInt8} {v : Int} (hw : numL w = some v) : ∃ b c d, parseL (nmL fn ++ repW w (arN fn)) = (fn, [v, b, c, d], 0) := by
  obtain ⟨rfl, hr⟩ := numL_some hw
  rw [repW_it, parse_args h (by simp) fun x hx => by rw [(List.mem_replicate.1 hx).2]; exact hr]
  obtain ⟨n, hn⟩ : ∃ n, arN fn = n + 1 := ⟨arN fn - 1, by omega⟩
  rw [hn]
  have h4 := arN_le fn
  rw [hn] at h4
  match n, h4 with
  | 0, _ => exact ⟨_, _, _, rfl⟩
  | 1, _ => exact ⟨_, _, _, rfl⟩
  | 2, _ => exact ⟨_, _, _, rfl⟩
  | 3, _ => exact ⟨_, _, _, rfl⟩
theorem word_bad {fn : Int} (h : knownC fn = true) (ha : 1 ≤ arN fn) {w : List UInt8} (hw : numL w = none) : parseL (nmL fn ++ repW w (arN fn)) = (0, [0, 0, 0, 0], -17) := by
  obtain ⟨h1, h2, _⟩ := nmL_facts h
  have h3 := toNat_fn h
  have h4 := known_le h
  have hf0 : ¬ fnL (nmL fn) = 0 := by rw [h1]; omega
  show parseW (wordsL _) = _
  by_cases hb : blanks w = 0
  · rw [words_rep h2 (no_blanks w hb), parseW2 hf0 (by rw [h1, h3, List.length_replicate])]
    have : w ∈ List.replicate (arN fn) w := List.mem_replicate.2 ⟨by omega, rfl⟩
    rw [numsL_none this hw]; rfl
  · have hl := words_blanks (nmL fn ++ repW w (arN fn))
    have e0 : blanks (nmL fn) = 0 := by
      have := words_blanks (nmL fn)
      rw [words_one _ h2] at this
      simpa using this.symm
    rw [blanks_app, repW_bl, e0] at hl
    have hm : arN fn * 2 ≤ arN fn * (blanks w + 1) := Nat.mul_le_mul_left _ (by omega)
    obtain ⟨n, hn⟩ : ∃ n, arN fn = n + 1 := ⟨arN fn - 1, by omega⟩
    have e : nmL fn ++ repW w (arN fn) = nmL fn ++ 32 :: (w ++ repW w n) := by rw [hn]; rfl
    rw [e] at hl ⊢
    rw [words_pre _ _ h2] at hl ⊢
    rw [List.length_cons] at hl
    rw [parseW1 hf0 (by rw [h1, h3]; omega)]
end Go.AM

/-
  CallBack.
-/
namespace Go.AM
open Go.Proofs
set_option maxHeartbeats 8000000
attribute [local irreducible] sq bk lpK mdx rt TC RP WK Cel Ro Row Fre RowsA RowsBut
attribute [local irreducible] tabC ofC namC parseL textL
theorem arN_eq (fn : Int) : (ofC fn).2.1 = ((arN fn : Nat) : Int) := by
  have := row_ok fn
  unfold arN; omega
theorem CallBack_tri (fn a b c d : Int) (hr : ∀ x ∈ [fn, a, b, c, d], -9223372036854775808 ≤ x ∧ x ≤ 9223372036854775807) : Tri tab sext F.detentlaw25_CallBack [i64 fn, .agg (encA a b c d)] [] fun v _ => v = bl true := by
  refine Tri.go tab_detentlaw25_CallBack rfl ?_
  refine RUNS ?_
  refine RP.bx rfl rfl rfl fun p0 => ?_
  refine RUNS ?_
  refine RP.c rfl known25_tri .e rfl ?_
  rintro v P' ⟨rfl, rfl⟩
  refine RUNS ?_
  refine RP.nw rfl fun p => ?_
  refine RUNS ?_
  refine RP.c rfl (Text_tri fn a b c d hr) .e rfl ?_
  rintro v P' ⟨rfl, rfl⟩
  refine RUNS ?_
  have htl := textL_len fn [a, b, c, d] (hr fn (by simp)) fun x hx => hr x (List.mem_cons_of_mem _ hx)
  refine RP.c rfl (Parse_tri (textL fn [a, b, c, d]) (by omega)) .e rfl ?_
  rintro v P' ⟨rfl, rfl⟩
  cases hk : knownC fn with
  | false =>
    rw [parse_call hk, show parR (0, [0, 0, 0, 0], -10) = .tup [.agg (encC 0 0 0 0 0), .s (.int .i64 (-10))] from rfl]
    refine RUNS ?_
    refine RP.nw rfl fun p2 => ?_
    refine RUNS ?_
    refine RP.c rfl (Known_tri fn) .e rfl ?_
    rintro v P' ⟨rfl, rfl⟩
    rw [hk]
    refine RUNS ?_
    exact rt_r rfl rfl (LEnt.of .e)
  | true =>
    have h4 : ([a, b, c, d] : List Int).length = 4 := rfl
    rw [parse_text hk h4 fun x hx => hr x (List.mem_cons_of_mem _ hx)]
    have hl := take_len h4 fn
    have hg := fun i => mk4_get (([a, b, c, d] : List Int).take (arN fn)) i
    obtain ⟨a', b', c', d', hm⟩ := mk4_cells (([a, b, c, d] : List Int).take (arN fn))
    rw [hm] at hg ⊢
    rw [show parR (fn, [a', b', c', d'], 0) = .tup [.agg (encC fn a' b' c' d'), .s (.int .i64 0)] from rfl]
    refine RUNS ?_
    refine RP.nw rfl fun p2 => ?_
    refine RUNS ?_
    refine RP.c rfl (Known_tri fn) .e rfl ?_
    rintro v P' ⟨rfl, rfl⟩
    rw [hk]
    refine RUNS ?_
    refine TC.cP rfl (fun h2 => ?_) fun h2 => ?_
    · exact absurd rfl h2
    refine RUNS ?_
    refine TC.loop (fun i : Nat => 4 - i) (fun i => i ≤ 4) (fun i => [(0, i64 fn), (3, .s (.ptr (some (p0, 0)))), (6, .s (.ptr (some (p2, 0)))), (8, i64 i)]) (fun _ => [Cel p2 (encC fn a' b' c' d'), Cel p0 (encA a b c d)]) 0 (Nat.zero_le _) ⟨rfl, rfl, rfl, rfl, trivial⟩ (LEnt.of (.c .h (.c (.n .h) .e))) ?_
    intro i hi
    refine RUNS ?_
    refine TC.cP rfl (fun h3 => ?_) fun h3 => ?_
    · obtain ⟨v, hv, hcs⟩ := hg i (by omega)
      rw [hl] at hcs
      have hld : (encC fn a' b' c' d')[ix 1 i 1 0]? = some (.int .i64 v) := by
        show (.int .i64 fn :: ([a', b', c', d'] : List Int).map fun x => SV.int .i64 x)[ix 1 i 1 0]? = _
        rw [show ix 1 i 1 0 = i + 1 by unfold ix; omega, List.getElem?_cons_succ, List.getElem?_map, hv]; rfl
      refine RUNS ?_
      refine RP.c rfl (Arity_tri fn) .e rfl ?_
      rintro v' P' ⟨rfl, rfl⟩
      rw [arN_eq]
      refine RUNS ?_
      refine RP.gp rfl (fun h5 => ?_) fun h5 => ?_
      · have hlt : i < arN fn := by omega
        rcases hcs with ⟨_, hcs⟩ | ⟨hcs, _⟩
        · rw [List.getElem?_take_of_lt hlt] at hcs
          have hld2 : (encA a b c d)[ix 0 i 1 0]? = some (.int .i64 v) := by
            show (([a, b, c, d] : List Int).map fun x => SV.int .i64 x)[ix 0 i 1 0]? = _
            rw [show ix 0 i 1 0 = i by unfold ix; omega, List.getElem?_map, hcs]; rfl
          refine RUNS ?_
          refine RP.l rfl (Ld.c hld) rfl ?_
          refine RUNS ?_
          refine RP.l rfl (.n (Ld.c hld2)) rfl ?_
          refine RUNS ?_
          refine RP.gq rfl (fun h6 => ?_) fun h6 => ?_
          · refine RUNS ?_
            refine RP.c rfl (Arity_tri fn) .e rfl ?_
            rintro v' P' ⟨rfl, rfl⟩
            rw [arN_eq]
            refine RUNS ?_
            refine RP.gp rfl (fun h7 => ?_) fun h7 => ?_
            · exact absurd h7 (by omega)
            · refine RUNS ?_
              exact lp_n (i + 1) (by omega) (by omega) ⟨rfl, rfl, rfl, rfl, trivial⟩ (LEnt.refl _)
          · exact absurd rfl h6
        · exact absurd hlt hcs
      · rcases hcs with ⟨hcs, _⟩ | ⟨_, rfl⟩
        · exact absurd hcs (by omega)
        · refine RUNS ?_
          refine RP.c rfl (Arity_tri fn) .e rfl ?_
          rintro v' P' ⟨rfl, rfl⟩
          rw [arN_eq]
          refine RUNS ?_
          refine RP.gp rfl (fun h7 => ?_) fun h7 => ?_
          · refine RUNS ?_
            refine RP.l rfl (Ld.c hld) rfl ?_
            refine RUNS ?_
            exact lp_n (i + 1) (by omega) (by omega) ⟨rfl, rfl, rfl, rfl, trivial⟩ (LEnt.refl _)
          · exact absurd h7 (by omega)
    · refine RUNS ?_
      exact rt_r rfl rfl (LEnt.of .e)
end Go.AM

/-
  CallWords.
-/
namespace Go.AM
open Go.Proofs
set_option maxHeartbeats 8000000
attribute [local irreducible] sq bk lpK mdx rt TC RP WK Cel Ro Row Fre RowsA RowsBut
attribute [local irreducible] tabC ofC namC parseL textL numL
theorem CallWords_tri (fn : Int) (w : List UInt8) : Tri tab sext F.detentlaw25_CallWords [i64 fn, tx w] [] fun v _ => v = bl true := by
  refine Tri.go tab_detentlaw25_CallWords rfl ?_
  refine RUNS ?_
  refine RP.c rfl known25_tri .e rfl ?_
  rintro v P' ⟨rfl, rfl⟩
  refine RUNS ?_
  refine RP.c rfl (Known_tri fn) .e rfl ?_
  rintro v P' ⟨rfl, rfl⟩
  cases hk : knownC fn with
  | false =>
    refine RUNS ?_
    exact rt_r rfl rfl (LEnt.of .e)
  | true =>
    refine RUNS ?_
    refine RP.c rfl (Arity_tri fn) .e rfl ?_
    rintro v' P' ⟨rfl, rfl⟩
    rw [arN_eq]
    refine RUNS ?_
    refine RP.gq rfl (fun h1 => ?_) fun h1 => ?_
    · refine RUNS ?_
      refine TC.cP rfl (fun h2 => ?_) fun h2 => ?_
      · refine RUNS ?_
        exact rt_r rfl rfl (LEnt.of .e)
      refine RUNS ?_
      refine RP.c rfl (Name_tri fn) .e rfl ?_
      rintro v' P' ⟨rfl, rfl⟩
      have hnl := (row_ok fn).2
      rw [show (ofC fn).1 = mkB (nmL fn) from rfl]
      refine RUNS ?_
      refine TC.loop (fun i : Nat => arN fn - i) (fun i => i ≤ arN fn) (fun i => [(0, i64 fn), (1, tx w), (5, tx (nmL fn ++ repW w i)), (6, i64 i)]) (fun _ => []) 0 (Nat.zero_le _) ⟨rfl, rfl, by show some (AV.s (.str (mkB (nmL fn)))) = some (tx (nmL fn ++ [])); rw [List.append_nil], rfl, trivial⟩ (LEnt.refl _) ?_
      intro i hi
      have ha4 := arN_le fn
      have hrl := repW_len w i
      have hrb : i * (w.length + 1) ≤ 4 * 41 := Nat.mul_le_mul (by omega) (by omega)
      refine RUNS ?_
      refine RP.c rfl (Arity_tri fn) .e rfl ?_
      rintro v' P' ⟨rfl, rfl⟩
      rw [arN_eq]
      refine RUNS ?_
      refine TC.cP rfl (fun h3 => ?_) fun h3 => ?_
      · refine RUNS ?_
        refine RP.cat (b := [32]) rfl rfl (by simp only [List.length_append, List.length_singleton]; omega) rfl ?_
        refine RUNS ?_
        refine RP.cat rfl rfl (by simp only [List.length_append, List.length_singleton]; omega) rfl ?_
        rw [show nmL fn ++ repW w i ++ [32] ++ w = nmL fn ++ repW w (i + 1) by rw [repW_snoc]; simp]
        refine RUNS ?_
        exact lp_n (i + 1) (by omega) (by omega) ⟨rfl, rfl, rfl, rfl, trivial⟩ (LEnt.refl _)
      · have : i = arN fn := by omega
        subst this
        have hlen : (nmL fn ++ repW w (arN fn)).length ≤ 1000 := by rw [List.length_append]; omega
        refine RUNS ?_
        refine RP.c rfl (Parse_tri (nmL fn ++ repW w (arN fn)) (by omega)) .e rfl ?_
        rintro v' P' ⟨rfl, rfl⟩
        cases hn : numL w with
        | none =>
          rw [word_bad hk (by omega) hn, show parR (0, [0, 0, 0, 0], -17) = .tup [.agg (encC 0 0 0 0 0), .s (.int .i64 (-17))] from rfl]
          refine RUNS ?_
          refine RP.nw rfl fun p => ?_
          refine RUNS ?_
          refine RP.c rfl (Number_tri w (by omega)) .e rfl ?_
          rintro v' P' ⟨rfl, rfl⟩
          rw [numR_none hn]
          refine RUNS ?_
          exact rt_r rfl rfl (LEnt.of .e)
        | some v =>
          obtain ⟨b, c, d, hp⟩ := word_good hk (by omega) hn
          rw [hp, show parR (fn, [v, b, c, d], 0) = .tup [.agg (encC fn v b c d), .s (.int .i64 0)] from rfl]
          refine RUNS ?_
          refine RP.nw rfl fun p => ?_
          refine RUNS ?_
          refine RP.c rfl (Number_tri w (by omega)) .e rfl ?_
          rintro v' P' ⟨rfl, rfl⟩
          rw [numR_some hn]
          refine RUNS ?_
          rw [show decide (fn = fn) = true by simp]
          refine RUNS ?_
          rw [show decide (v = v) = true by simp]
          exact rt_r rfl rfl (LEnt.of .e)
    · refine RUNS ?_
      exact rt_r rfl rfl (LEnt.of .e)
end Go.AM

/-
  CallWords in the abstract machine.
-/
namespace Go.AM
theorem CallWords_abs (H : AH) (hw : WF H) (avs : List AV) (ha : ArgsAt H.blk [.int .i64, .str] avs) : CallP tab sext F.detentlaw25_CallWords avs H fun v _ => v = bl true := by
  obtain ⟨fn, vs, rfl, _, ha1⟩ := ha.int'
  obtain ⟨s, vs, rfl, _, ha2⟩ := ha1.str'
  obtain rfl := ha2.nil'
  exact (CallWords_tri fn s.data.toList).use (ρ := H.blk) (R := []) (Sat.nil hw fun _ _ h => h) fun v H' P' h _ => h
end Go.AM
