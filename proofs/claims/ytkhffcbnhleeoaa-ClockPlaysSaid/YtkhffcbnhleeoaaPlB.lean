/-
  What is to come, as a list in its order: put in, taken out, found.
-/
import Derived.Test.YtkhffcbnhleeoaaPlA
namespace Go.AM

def Srt (L : List Ent) : Prop := L.Pairwise fun a b => aheadB a b = true

structure Good (L : List Ent) (last : Int) : Prop where
  srt : Srt L
  nod : (L.map Ent.handle).Nodup
  bnd : ∀ e ∈ L, 1 ≤ e.handle ∧ e.handle ≤ last
  len : L.length ≤ 256
  pos : 0 ≤ last

def insE (e : Ent) (L : List Ent) : List Ent := L.takeWhile (fun x => aheadB x e) ++ e :: L.dropWhile (fun x => aheadB x e)

theorem insE_perm (e : Ent) (L : List Ent) : (insE e L).Perm (e :: L) := by
  unfold insE
  refine List.perm_middle.trans ?_
  rw [List.takeWhile_append_dropWhile]

theorem insE_mem {e x : Ent} {L : List Ent} : x ∈ insE e L ↔ x = e ∨ x ∈ L := by
  rw [(insE_perm e L).mem_iff]; simp

theorem insE_len (e : Ent) (L : List Ent) : (insE e L).length = L.length + 1 := by
  rw [(insE_perm e L).length_eq]; simp

theorem insE_cons (e x : Ent) (L : List Ent) : insE e (x :: L) = if aheadB x e = true then x :: insE e L else e :: x :: L := by
  unfold insE
  by_cases h : aheadB x e = true
  · simp [h]
  · simp [h]

theorem ahead_trans {a b c : Ent} (h : aheadB a b = true) (h' : aheadB b c = true) : aheadB a c = true := by rw [ahead_iff] at *; omega

theorem insE_srt (e : Ent) (L : List Ent) (h : Srt L) (hn : ∀ x ∈ L, x.handle ≠ e.handle) : Srt (insE e L) := by
  induction L with
  | nil => exact List.pairwise_singleton _ _
  | cons x L ih =>
    rw [insE_cons]
    have h1 := List.pairwise_cons.1 h
    split
    · rename_i hx
      refine List.pairwise_cons.2 ⟨fun y hy => ?_, ih h1.2 fun y hy => hn y (by simp [hy])⟩
      rcases insE_mem.1 hy with rfl | hy
      · exact hx
      · exact h1.1 y hy
    · rename_i hx
      have he : aheadB e x = true := by
        have := hn x (by simp)
        rw [ahead_iff] at hx ⊢
        omega
      refine List.pairwise_cons.2 ⟨fun y hy => ?_, h⟩
      rcases List.mem_cons.1 hy with rfl | hy
      · exact he
      · exact ahead_trans he (h1.1 y hy)

theorem Good.ins {L : List Ent} {last : Int} (h : Good L last) (a x : Int) (hl : L.length < 256) : Good (insE ⟨a, last + 1, x⟩ L) (last + 1) := by
  refine ⟨insE_srt _ _ h.srt fun y hy => ?_, ?_, fun e he => ?_, by rw [insE_len]; omega, by have := h.pos; omega⟩
  · have := h.bnd y hy
    simp; omega
  · rw [((insE_perm _ L).map Ent.handle).nodup_iff]
    simp only [List.map_cons, List.nodup_cons, h.nod, and_true]
    intro hm
    obtain ⟨e, he, hh⟩ := List.mem_map.1 hm
    have := h.bnd e he
    omega
  · rcases insE_mem.1 he with rfl | he
    · have := h.pos; simp; omega
    · have := h.bnd e he; omega

theorem Good.sub {L L' : List Ent} {last : Int} (h : Good L last) (hs : L'.Sublist L) : Good L' last :=
  ⟨h.srt.sublist hs, h.nod.sublist (hs.map _), fun e he => h.bnd e (hs.subset he), Nat.le_trans hs.length_le h.len, h.pos⟩

theorem Good.nil : Good [] 0 := ⟨List.Pairwise.nil, List.Pairwise.nil, by simp, by simp, by omega⟩

theorem gE_mem {r : List Ent} {i : Nat} (hi : i < r.length) : gE r i ∈ r := by unfold gE; rw [getD_get hi]; exact List.getElem_mem hi

/-- The first of the row is the first in order. -/
theorem head_eq {r L : List Ent} {e : Ent} {last : Int} (hp : r.Perm (e :: L)) (hh : Hp r) (hg : Good (e :: L) last) : gE r 0 = e := by
  have hlen : 0 < r.length := by rw [hp.length_eq]; simp
  have h1 : gE r 0 ∈ e :: L := hp.mem_iff.1 (gE_mem hlen)
  rcases List.mem_cons.1 h1 with h | h
  · exact h
  · have h2 := (List.pairwise_cons.1 hg.srt).1 _ h
    obtain ⟨k, hk, he⟩ := List.getElem_of_mem (hp.mem_iff.2 (List.mem_cons_self : e ∈ e :: L))
    have h3 := hp_head r hh k hk
    unfold gE at h3 h2
    rw [getD_get hk, he] at h3
    unfold leE at h3
    rw [h2] at h3; cases h3

theorem rem0_perm {r L : List Ent} {e : Ent} {last : Int} (hp : r.Perm (e :: L)) (hh : Hp r) (hg : Good (e :: L) last) : (remF r 0).Perm L := by
  have hlen : 0 < r.length := by rw [hp.length_eq]; simp
  have h1 := remF_perm r 0 hlen
  rw [head_eq hp hh hg] at h1
  exact (List.perm_cons _).1 (h1.symm.trans hp)

def fidx (r : List Ent) (h : Int) : Option Nat := r.findIdx? fun e => decide (e.handle = h)

theorem fidx_none {r : List Ent} {h : Int} : fidx r h = none ↔ ∀ e ∈ r, e.handle ≠ h := by
  unfold fidx
  rw [List.findIdx?_eq_none_iff]
  simp

theorem fidx_some {r : List Ent} {h : Int} {i : Nat} (hf : fidx r h = some i) : i < r.length ∧ (gE r i).handle = h := by
  unfold fidx at hf
  rw [List.findIdx?_eq_some_iff_getElem] at hf
  obtain ⟨h1, h2, _⟩ := hf
  exact ⟨h1, by unfold gE; rw [getD_get h1]; simpa using h2⟩

theorem rem_filter {r L : List Ent} {h : Int} {i : Nat} (hp : r.Perm L) (hn : (L.map Ent.handle).Nodup) (hf : fidx r h = some i) : (remF r i).Perm (L.filter fun e => decide (e.handle ≠ h)) := by
  obtain ⟨hi, hh⟩ := fidx_some hf
  have h1 := remF_perm r i hi
  have h2 : ((gE r i :: remF r i).map Ent.handle).Nodup := ((h1.symm.trans hp).map Ent.handle).nodup_iff.2 hn
  simp only [List.map_cons, List.nodup_cons] at h2
  have h3 : (remF r i).filter (fun e => decide (e.handle ≠ h)) = remF r i := by
    rw [List.filter_eq_self]
    intro e he
    simp only [decide_eq_true_eq]
    intro hc
    exact h2.1 (List.mem_map.2 ⟨e, he, by rw [hc, hh]⟩)
  have h4 := (h1.symm.trans hp).filter (fun e => decide (e.handle ≠ h))
  rw [List.filter_cons, if_neg (by rw [hh]; simp), h3] at h4
  exact h4

/-- An entry by its handle. -/
def byH (L : List Ent) (h : Int) : Option Ent := L.find? fun e => decide (e.handle = h)

theorem byH_none {L : List Ent} {h : Int} : byH L h = none ↔ ∀ e ∈ L, e.handle ≠ h := by
  unfold byH; rw [List.find?_eq_none]; simp

theorem nodup_handle_eq {L : List Ent} (hn : (L.map Ent.handle).Nodup) {a b : Ent} (ha : a ∈ L) (hb : b ∈ L) (h : a.handle = b.handle) : a = b := by
  induction L with
  | nil => simp at ha
  | cons x L ih =>
    simp only [List.map_cons, List.nodup_cons] at hn
    rcases List.mem_cons.1 ha with rfl | ha' <;> rcases List.mem_cons.1 hb with rfl | hb'
    · rfl
    · exact absurd (List.mem_map.2 ⟨b, hb', h.symm⟩) hn.1
    · exact absurd (List.mem_map.2 ⟨a, ha', h⟩) hn.1
    · exact ih hn.2 ha' hb'

theorem byH_some {L : List Ent} {h : Int} {e : Ent} (hn : (L.map Ent.handle).Nodup) (he : e ∈ L) (hh : e.handle = h) : byH L h = some e := by
  cases hb : byH L h with
  | none => exact absurd hh (byH_none.1 hb e he)
  | some x =>
    unfold byH at hb
    have h1 := List.mem_of_find?_eq_some hb
    have h2 := List.find?_some hb
    simp at h2
    rw [nodup_handle_eq hn h1 he (by rw [h2, hh])]

theorem fidx_byH {r L : List Ent} {h : Int} (hp : r.Perm L) (hn : (L.map Ent.handle).Nodup) : (fidx r h).map (gE r) = byH L h := by
  cases hf : fidx r h with
  | none =>
    have h1 := fidx_none.1 hf
    rw [Option.map_none, eq_comm, byH_none]
    exact fun e he => h1 e (hp.mem_iff.2 he)
  | some i =>
    obtain ⟨h1, h2⟩ := fidx_some hf
    rw [Option.map_some, byH_some hn (hp.mem_iff.1 (gE_mem h1)) h2]

/-- What is due, and what is to come. -/
def dueL (L : List Ent) (now : Int) : List Ent := L.takeWhile fun e => decide (e.at_ ≤ now)
def toL (L : List Ent) (now : Int) : List Ent := L.dropWhile fun e => decide (e.at_ ≤ now)

end Go.AM
