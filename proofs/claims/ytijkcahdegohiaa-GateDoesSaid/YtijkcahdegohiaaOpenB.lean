/-
  What the rows share: a slice of whole numbers that reads as data, opened.
-/
import Derived.Test.YtijkcahdegohiaaOpen
import Derived.Test.YtijkcahdegohiaaMarkC
namespace Go.Proofs.Ytijkcahdegohiaa
open Go.ChangeShapes Go.WideShapes Go.ChangeAt Go.RowKit Go.Deep
section
variable {H : Type} {enc : TypeId × Value → H} {w : World} {base : Nat} {spare : Nat → Bool} {held : Bool}
theorem spot_of_cell {w : World} {a : Addr} {v : Value} (h : w.cell? a = some v) : a.spot = none := by
  unfold World.cell? at h
  split at h
  · split at h
    · cases h
    · rename_i hs; simpa using hs
  · cases h
theorem open_intsl {r : Reach} {b0 : Nat} {v : Value} {d : DataW H} {p : List MemPlace} (hv : Value.okWide Try.prog w r b0 30 v) (h : DataW.Trod enc Try.prog w base spare held 30 v d p) :
    ∃ (A : Option Addr) (cap : Nat) (zs : List Int), v = .slice A zs.length cap ∧ IntsRd w A zs := by
  obtain ⟨A, len, cap, rfl⟩ := okWide_slice Try.underlying30 hv
  obtain ⟨fuel, hf⟩ := h
  rcases open_ints Try.underlying30 Try.underlying3 Try.cells3 hf with ⟨hcs, _⟩ | ⟨x, l, c, zs, hcs, _, hl, hm, hz, _, hcell, hwz⟩
  · simp [Value.cells] at hcs
    obtain ⟨rfl, rfl, rfl⟩ := hcs
    exact ⟨none, 0, [], rfl, 0, 0, fun h => absurd rfl h, fun i x hx => by simp at hx⟩
  · simp [Value.cells] at hcs
    obtain ⟨rfl, rfl, rfl⟩ := hcs
    have hzl : len ≤ zs.length := by rw [hz]; split <;> omega
    have hlen : (zs.take len).length = len := by rw [List.length_take]; omega
    refine ⟨some x, cap, zs.take len, by rw [hlen], x.block, x.off, fun hne => ?_, fun i y hy => ?_⟩
    · have h0 : 0 < zs.length := by
        cases zs with
        | nil => simp at hne
        | cons => simp
      have hs := spot_of_cell (hcell 0 h0)
      simp only [Addr.add, if_true] at hs
      cases x
      simp at hs
      subst hs
      rfl
    · have hi : i < (zs.take len).length := (List.getElem?_eq_some_iff.1 hy).1
      have hi' : i < zs.length := by rw [hlen] at hi; omega
      have hc := hcell i hi'
      have hsp := hcell 0 (by omega)
      have hs := spot_of_cell hsp
      simp only [Addr.add, if_true] at hs
      have hy' : zs.getD i 0 = y := by
        rw [List.getElem?_take] at hy
        split at hy
        · simp [hy]
        · cases hy
      rw [hy'] at hc
      rw [← hc]
      congr 1
      unfold Addr.add
      split
      · rename_i e; subst e
        cases x; simp at hs; subst hs; simp
      · simp
end
end Go.Proofs.Ytijkcahdegohiaa
