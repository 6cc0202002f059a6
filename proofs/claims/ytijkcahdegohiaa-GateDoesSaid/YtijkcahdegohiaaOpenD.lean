/-
  What the rows share: PipeDoes' script, opened.
-/
import Derived.Test.YtijkcahdegohiaaOpenC
import Derived.Test.YtijkcahdegohiaaLawPd
namespace Go.Proofs.Ytijkcahdegohiaa
open Go.ChangeShapes Go.WideShapes Go.ChangeAt Go.RowKit Go.Deep
section
variable {H : Type} {enc : TypeId × Value → H} {w : World} {base : Nat} {spare : Nat → Bool} {held : Bool}
theorem Try.cells54 : Try.prog.cellsOf 54 = 6 := by kernel_rfl
instance : Inhabited El := ⟨El.zero⟩
theorem elAt_of {b o : Nat} {e : El} (h : ∀ j, j < 5 → w.cell? ⟨b, o + j, none⟩ = e.cells[j]?) : ElAt w b o e :=
  ⟨by simpa [El.cells] using h 0 (by omega), by simpa [El.cells] using h 1 (by omega), by simpa [El.cells] using h 2 (by omega), by simpa [El.cells] using h 3 (by omega), by simpa [El.cells] using h 4 (by omega)⟩
theorem open_ops13 {r : Reach} {b0 : Nat} {v : Value} {d : DataW H} {p : List MemPlace} (hv : Value.okWide Try.prog w r b0 48 v) (h : DataW.Trod enc Try.prog w base spare held 48 v d p) :
    ∃ (A : Option Addr) (cap : Nat) (os : List (Int × El)), v = .slice A os.length cap ∧ Ops13Rd w A os := by
  obtain ⟨A, n, cap, rfl, _, b, off, hA, hx⟩ := open_rows Try.underlying48 Try.cells54 (by omega) hv h
  have hy : ∀ i, i < n → ∃ x : Int × El, w.cell? ⟨b, off + i * 6, none⟩ = some (.int .i64 x.1) ∧ ElAt w b (off + i * 6 + 1) x.2 := fun i hi => by
    obtain ⟨cs, m, x, h1, h2, h3⟩ := hx i hi
    match cs, h2 with
    | [v0, v1, v2, v3, v4, v5], _ =>
      obtain ⟨y0, y1, n', _, _, g0, g1⟩ := trod_struct2 Try.underlying54 h1
      simp only [Try.cells3, Try.cells46, List.drop_zero, List.drop_succ_cons, List.take_succ_cons, List.take_zero] at g0 g1
      obtain ⟨a0, e0, _, _⟩ := DataW.trod_int Try.underlying3 g0
      obtain ⟨e, he, _⟩ := open_el g1 rfl
      simp at e0
      subst e0
      refine ⟨(a0, e), by simpa using h3 0 (by omega), elAt_of fun j hj => ?_⟩
      have := h3 (j + 1) (by omega)
      rw [← he]
      rw [show off + i * 6 + 1 + j = off + i * 6 + (j + 1) from by omega, this]
      rfl
  obtain ⟨l, hl, hp⟩ := list_of hy
  refine ⟨A, cap, l, by rw [hl], b, off, fun hne => hA ?_, hp⟩
  cases l with
  | nil => exact absurd rfl hne
  | cons => simp at hl; omega
end
end Go.Proofs.Ytijkcahdegohiaa
