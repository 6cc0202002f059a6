/-
  What the rows share: how an argument that reads as data is opened; that it reads the same behind a call which turns nothing that was there.
-/
import Derived.Test.YtijkcahdegohiaaProg
import Derived.Test.YtijkcahdegohiaaBase
import Derived.ProofKit
import Derived.Deep.Slices
import Derived.Deep.Strs
import Derived.OpenShut
namespace Go.Proofs.Ytijkcahdegohiaa
open Go.ChangeShapes Go.WideShapes Go.ChangeAt Go.RowKit Go.Deep

theorem Try.own : ownKnob Try.prog.godebug = none := by kernel_rfl
theorem Try.laidOut : laidOutB Try.prog = true := by kernel_rfl

theorem Try.cells46 : Try.prog.cellsOf 46 = 5 := by kernel_rfl
theorem Try.cells44 : Try.prog.cellsOf 44 = 3 := by kernel_rfl
theorem Try.cells3 : Try.prog.cellsOf 3 = 1 := by kernel_rfl
theorem Try.cells9 : Try.prog.cellsOf 9 = 1 := by kernel_rfl
section
variable {H : Type} {enc : TypeId × Value → H} {w : World} {base : Nat} {spare : Nat → Bool} {held : Bool}

theorem open_el {fuel : Nat} {cs : List Value} {x : DataW H × List MemPlace} (h : DataW.trod enc Try.prog w base spare held fuel 46 cs = some x) (hl : cs.length = 5) :
    ∃ e : El, cs = e.cells ∧ e.key.size ≤ maxLen := by
  match cs, hl with
  | [v0, v1, v2, v3, v4], _ =>
    obtain ⟨y0, y1, y2, n, _, _, h0, h1, h2⟩ := trod_struct3 Try.underlying46 h
    simp only [Try.cells44, Try.cells3, List.drop_zero, List.drop_succ_cons, List.take_succ_cons, List.take_zero] at h0 h1 h2
    obtain ⟨a0, e0, _, _⟩ := DataW.trod_int Try.underlying3 h0
    obtain ⟨a4, e4, _, _⟩ := DataW.trod_int Try.underlying3 h2
    obtain ⟨z0, z1, z2, m, _, _, k0, k1, k2⟩ := trod_struct3 Try.underlying44 h1
    simp only [Try.cells9, Try.cells3, List.drop_zero, List.drop_succ_cons, List.take_succ_cons, List.take_zero] at k0 k1 k2
    obtain ⟨s, e1, _, hs⟩ := DataW.trod_string Try.underlying9 k0
    obtain ⟨a2, e2, _, _⟩ := DataW.trod_int Try.underlying3 k1
    obtain ⟨a3, e3, _, _⟩ := DataW.trod_int Try.underlying3 k2
    simp only [List.cons.injEq, and_true] at e0 e1 e2 e3 e4
    subst e0 e1 e2 e3 e4
    exact ⟨⟨a0, s, a2, a3, a4⟩, rfl, hs⟩

theorem open_el_val {r : Reach} {b0 : Nat} {v : Value} {d : DataW H} {p : List MemPlace} (hv : Value.okWide Try.prog w r b0 46 v) (h : DataW.Trod enc Try.prog w base spare held 46 v d p) :
    ∃ e : El, v = e.val := by
  obtain ⟨cs, rfl, hsz⟩ := okWide_struct Try.underlying46 hv
  obtain ⟨fuel, hf⟩ := h
  rw [Try.cells46] at hsz
  obtain ⟨e, he, _⟩ := open_el hf (by simpa [Value.cells] using hsz)
  refine ⟨e, ?_⟩
  have : cs.toList = e.cells := by simpa [Value.cells] using he
  have h2 : cs = e.cells.toArray := by rw [← this]
  rw [h2]; rfl
end
end Go.Proofs.Ytijkcahdegohiaa
