/-
  What the rows share: picks (numbers with their range) and rows of numbers, opened.
-/
import Derived.Test.YtijkcahdegohiaaOpenC
import Derived.Test.YtijkcahdegohiaaLawGl
namespace Go.Proofs.Ytijkcahdegohiaa
open Go.ChangeShapes Go.WideShapes Go.ChangeAt Go.RowKit Go.Deep
section
variable {H : Type} {enc : TypeId × Value → H} {w : World} {base : Nat} {spare : Nat → Bool} {held : Bool}
theorem Try.cells30 : Try.prog.cellsOf 30 = 1 := by kernel_rfl
theorem wf_range {z : Int} (h : (Lit.int .i64 z).wf = true) : -9223372036854775808 ≤ z ∧ z ≤ 9223372036854775807 := by
  simp [Lit.wf, IntKind.min, IntKind.max, IntKind.bits, IntKind.signed] at h
  omega
theorem open_ints_cells {fuel : Nat} {cs : List Value} {x : DataW H × List MemPlace} (hf : DataW.trod enc Try.prog w base spare held fuel 30 cs = some x) :
    ∃ (A : Option Addr) (cap : Nat) (zs : List Int), cs = [.slice A zs.length cap] ∧ PicksRd w A zs := by
  rcases open_ints Try.underlying30 Try.underlying3 Try.cells3 hf with ⟨hcs, _⟩ | ⟨x, len, cap, zs, hcs, _, hl, hm, hz, _, hcell, hwz⟩
  · subst hcs
    exact ⟨none, 0, [], rfl, ⟨0, 0, fun h => absurd rfl h, fun i x hx => by simp at hx⟩, fun z hz => by cases hz⟩
  · subst hcs
    have hzl : len ≤ zs.length := by rw [hz]; split <;> omega
    have hlen : (zs.take len).length = len := by rw [List.length_take]; omega
    refine ⟨some x, cap, zs.take len, by rw [hlen], ⟨x.block, x.off, fun hne => ?_, fun i y hy => ?_⟩, fun z hz => wf_range (hwz z (List.mem_of_mem_take hz))⟩
    · have h0 : 0 < zs.length := by
        cases zs with
        | nil => simp at hne
        | cons => simp
      have hs := spot_of_cell (hcell 0 h0)
      simp only [Addr.add, if_true] at hs
      cases x
      simp at hs
      subst hs
      rfl
    · have hi : i < (zs.take len).length := (List.getElem?_eq_some_iff.1 hy).1
      have hi' : i < zs.length := by rw [hlen] at hi; omega
      have hc := hcell i hi'
      have hsp := hcell 0 (by omega)
      have hs := spot_of_cell hsp
      simp only [Addr.add, if_true] at hs
      have hy' : zs.getD i 0 = y := by
        rw [List.getElem?_take] at hy
        split at hy
        · simp [hy]
        · cases hy
      rw [hy'] at hc
      rw [← hc]
      congr 1
      unfold Addr.add
      split
      · rename_i e; subst e
        cases x; simp at hs; subst hs; simp
      · simp
theorem open_picks {r : Reach} {b0 : Nat} {v : Value} {d : DataW H} {p : List MemPlace} (hv : Value.okWide Try.prog w r b0 30 v) (h : DataW.Trod enc Try.prog w base spare held 30 v d p) :
    ∃ (A : Option Addr) (cap : Nat) (zs : List Int), v = .slice A zs.length cap ∧ PicksRd w A zs := by
  obtain ⟨A, len, cap, rfl⟩ := okWide_slice Try.underlying30 hv
  obtain ⟨fuel, hf⟩ := h
  obtain ⟨A', cap', zs, hcs, hP⟩ := open_ints_cells hf
  simp [Value.cells] at hcs
  obtain ⟨rfl, rfl, rfl⟩ := hcs
  exact ⟨_, _, zs, rfl, hP⟩
theorem open_introws {r : Reach} {b0 : Nat} {v : Value} {d : DataW H} {p : List MemPlace} (hv : Value.okWide Try.prog w r b0 59 v) (h : DataW.Trod enc Try.prog w base spare held 59 v d p) :
    ∃ (A : Option Addr) (cap : Nat) (zss : List (List Int)), v = .slice A zss.length cap ∧ RowsRd w A zss := by
  obtain ⟨A, n, cap, rfl, _, b, off, hA, hx⟩ := open_rows Try.underlying59 Try.cells30 (by omega) hv h
  have hy : ∀ i, i < n → ∃ zs : List Int, ∃ A' cap, w.cell? ⟨b, off + i, none⟩ = some (.slice A' zs.length cap) ∧ IntsRd w A' zs := fun i hi => by
    obtain ⟨cs, m, x, h1, h2, h3⟩ := hx i hi
    obtain ⟨A', cap', zs, rfl, hP⟩ := open_ints_cells h1
    exact ⟨zs, A', cap', by simpa using h3 0 (by omega), hP.1⟩
  obtain ⟨l, hl, hp⟩ := list_of hy
  refine ⟨A, cap, l, by rw [hl], b, off, fun hne => hA ?_, hp⟩
  cases l with
  | nil => exact absurd rfl hne
  | cons => simp at hl; omega
end
end Go.Proofs.Ytijkcahdegohiaa
