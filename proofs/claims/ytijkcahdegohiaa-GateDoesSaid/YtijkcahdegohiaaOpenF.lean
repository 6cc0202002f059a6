/-
  What the rows share: a script of a gate's calls, opened.
-/
import Derived.Test.YtijkcahdegohiaaOpenD
import Derived.Test.YtijkcahdegohiaaOpenE
import Derived.Test.YtijkcahdegohiaaLawGh
namespace Go.Proofs.Ytijkcahdegohiaa
open Go.ChangeShapes Go.WideShapes Go.ChangeAt Go.RowKit Go.Deep
section
variable {H : Type} {enc : TypeId × Value → H} {w : World} {base : Nat} {spare : Nat → Bool} {held : Bool}
theorem Try.cells72 : Try.prog.cellsOf 72 = 7 := by kernel_rfl
theorem open_ops14 {r : Reach} {b0 : Nat} {v : Value} {d : DataW H} {p : List MemPlace} (hv : Value.okWide Try.prog w r b0 69 v) (h : DataW.Trod enc Try.prog w base spare held 69 v d p) :
    ∃ (A : Option Addr) (cap : Nat) (os : List (Int × Int × El)), v = .slice A os.length cap ∧ Ops14Rd w A os := by
  obtain ⟨A, n, cap, rfl, _, b, off, hA, hx⟩ := open_rows Try.underlying69 Try.cells72 (by omega) hv h
  have hy : ∀ i, i < n → ∃ x : Int × Int × El, (w.cell? ⟨b, off + i * 7, none⟩ = some (.int .i64 x.1) ∧ w.cell? ⟨b, off + i * 7 + 1, none⟩ = some (.int .i64 x.2.1) ∧ ElAt w b (off + i * 7 + 2) x.2.2) ∧ (-9223372036854775808 ≤ x.2.1 ∧ x.2.1 ≤ 9223372036854775807) := fun i hi => by
    obtain ⟨cs, m, x, h1, h2, h3⟩ := hx i hi
    match cs, h2 with
    | [v0, v1, v2, v3, v4, v5, v6], _ =>
      obtain ⟨y0, y1, y2, n', _, _, g0, g1, g2⟩ := trod_struct3 Try.underlying72 h1
      simp only [Try.cells3, Try.cells46, List.drop_zero, List.drop_succ_cons, List.take_succ_cons, List.take_zero] at g0 g1 g2
      obtain ⟨a0, e0, _, _⟩ := DataW.trod_int Try.underlying3 g0
      obtain ⟨a1, e1, _, hw1⟩ := DataW.trod_int Try.underlying3 g1
      obtain ⟨e, he, _⟩ := open_el g2 rfl
      simp at e0 e1
      subst e0 e1
      refine ⟨(a0, a1, e), ⟨by simpa using h3 0 (by omega), by simpa using h3 1 (by omega), elAt_of fun j hj => ?_⟩, wf_range hw1⟩
      have := h3 (j + 2) (by omega)
      rw [← he]
      rw [show off + i * 7 + 2 + j = off + i * 7 + (j + 2) from by omega, this]
      rfl
  obtain ⟨l, hl, hp⟩ := list_of hy
  refine ⟨A, cap, l, by rw [hl], ⟨b, off, fun hne => hA ?_, fun i x hx => (hp i x hx).1⟩, fun x hx => ?_⟩
  · cases l with
    | nil => exact absurd rfl hne
    | cons => simp at hl; omega
  · obtain ⟨i, hi, rfl⟩ := List.mem_iff_getElem.1 hx
    exact (hp i _ (List.getElem?_eq_getElem hi)).2
end
end Go.Proofs.Ytijkcahdegohiaa
