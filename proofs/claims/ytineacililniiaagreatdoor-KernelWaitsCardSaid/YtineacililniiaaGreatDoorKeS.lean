/-
  Laws of kernels, by the symbolic machine: what the heap is in the beginning.
-/
import Derived.Test.YtineacililniiaaGreatDoorSxE
import Derived.Test.YtineacililniiaaGreatDoorTab
import Derived.Test.YtineacililniiaaGreatDoorAmV
namespace Go.AM

/-- The table that the counting of noughts looks at. -/
def tzL : List SV := ([0, 1, 56, 2, 57, 49, 28, 3, 61, 58, 42, 50, 38, 29, 17, 4, 62, 47, 59, 36, 45, 43, 51, 22, 53, 39, 33, 30, 24, 18, 12, 5, 63, 55, 48, 27, 60, 41, 37, 16, 46, 35, 44, 21, 52, 32, 23, 11, 54, 26, 40, 15, 34, 20, 31, 10, 25, 14, 19, 9, 13, 8, 7, 6] : List Int).map fun n => SV.int .u8 n
def tzX : List XV := [.s (.int .u8 0), .s (.int .u8 1), .s (.int .u8 56), .s (.int .u8 2), .s (.int .u8 57), .s (.int .u8 49), .s (.int .u8 28), .s (.int .u8 3), .s (.int .u8 61), .s (.int .u8 58), .s (.int .u8 42), .s (.int .u8 50), .s (.int .u8 38), .s (.int .u8 29), .s (.int .u8 17), .s (.int .u8 4), .s (.int .u8 62), .s (.int .u8 47), .s (.int .u8 59), .s (.int .u8 36), .s (.int .u8 45), .s (.int .u8 43), .s (.int .u8 51), .s (.int .u8 22), .s (.int .u8 53), .s (.int .u8 39), .s (.int .u8 33), .s (.int .u8 30), .s (.int .u8 24), .s (.int .u8 18), .s (.int .u8 12), .s (.int .u8 5), .s (.int .u8 63), .s (.int .u8 55), .s (.int .u8 48), .s (.int .u8 27), .s (.int .u8 60), .s (.int .u8 41), .s (.int .u8 37), .s (.int .u8 16), .s (.int .u8 46), .s (.int .u8 35), .s (.int .u8 44), .s (.int .u8 21), .s (.int .u8 52), .s (.int .u8 32), .s (.int .u8 23), .s (.int .u8 11), .s (.int .u8 54), .s (.int .u8 26), .s (.int .u8 40), .s (.int .u8 15), .s (.int .u8 34), .s (.int .u8 20), .s (.int .u8 31), .s (.int .u8 10), .s (.int .u8 25), .s (.int .u8 14), .s (.int .u8 19), .s (.int .u8 9), .s (.int .u8 13), .s (.int .u8 8), .s (.int .u8 7), .s (.int .u8 6)]

/-- One block, the table's. -/
def stC (facts : List Fact) : XS := ⟨.n (some (.cells true tzX)) .e .e, 1, facts, 0, 0⟩

theorem stC_get (facts : List Fact) (b : Nat) : (stC facts).h.get b = if b = 0 then some (.cells true tzX) else none := by
  show (Tr.n (some (XBlk.cells true tzX)) .e .e).get b = _
  rw [Tr.get_n]
  split
  · rfl
  · split <;> rfl

theorem XRel.startC {ρ : Nat → Int} {facts : List Fact} (hf : FactsOk ρ facts) {H : AH} (hw : WF H) (hn : H.next = 1) (h0 : H.blk 0 = some (.cells true tzL)) : XRel ρ (stC facts) H := by
  refine ⟨fun b x h => ?_, fun b _ h => ?_, hn, hf⟩
  · rw [stC_get] at h
    split at h
    · rename_i hb
      cases h
      subst hb
      rw [h0]
      rfl
    · cases h
  · rw [stC_get] at h
    split at h
    · cases h
    · rename_i hb
      exact hw b (by omega)

/-- A number between two. -/
def bFact (i : Nat) (lo hi : Int) : Fact := ⟨[(.v i, 1)], some lo, some hi⟩
theorem bFact_ok {ρ : Nat → Int} {i : Nat} {lo hi : Int} (h1 : lo ≤ ρ i) (h2 : ρ i ≤ hi) : (bFact i lo hi).ok ρ := by
  constructor
  · intro y hy
    have hy : lo = y := Option.some.inj hy
    subst hy
    simp only [bFact, Lin.ev, Atom.ev]; omega
  · intro y hy
    have hy : hi = y := Option.some.inj hy
    subst hy
    simp only [bFact, Lin.ev, Atom.ev]; omega
end Go.AM
