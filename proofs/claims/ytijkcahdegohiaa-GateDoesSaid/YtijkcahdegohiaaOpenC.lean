/-
  What the rows share: a slice of elements of whatever size, opened; slices of pairs.
-/
import Derived.Test.YtijkcahdegohiaaOpenB
import Derived.Test.YtijkcahdegohiaaLawMr
namespace Go.Proofs.Ytijkcahdegohiaa
open Go.ChangeShapes Go.WideShapes Go.ChangeAt Go.RowKit Go.Deep
section
variable {H : Type} {enc : TypeId × Value → H} {w : World} {base : Nat} {spare : Nat → Bool} {held : Bool}
theorem list_of {α : Type} [Inhabited α] {n : Nat} {p : Nat → α → Prop} (h : ∀ i, i < n → ∃ x, p i x) : ∃ l : List α, l.length = n ∧ ∀ i x, l[i]? = some x → p i x := by
  obtain ⟨f, hf⟩ := choose_lt h
  refine ⟨(List.range n).map f, by simp, fun i x hx => ?_⟩
  simp only [List.getElem?_map] at hx
  by_cases hi : i < n
  · rw [List.getElem?_range hi] at hx
    simp at hx
    subst hx
    exact hf i hi
  · rw [List.getElem?_eq_none (by simpa using hi)] at hx
    cases hx
theorem open_rows_cells {t e : TypeId} {c fuel : Nat} {cs0 : List Value} {x0 : DataW H × List MemPlace} (ht : Try.prog.underlying t = some (.slice e)) (hc : Try.prog.cellsOf e = c) (hpos : 0 < c)
    (hf : DataW.trod enc Try.prog w base spare held fuel t cs0 = some x0) :
    ∃ (A : Option Addr) (n cap : Nat), cs0 = [.slice A n cap] ∧ n ≤ maxLen ∧ ∃ b off, (0 < n → A = some ⟨b, off, none⟩) ∧
      ∀ i, i < n → ∃ cs m x, DataW.trod enc Try.prog w base spare held m e cs = some x ∧ cs.length = c ∧ ∀ j, j < c → w.cell? ⟨b, off + i * c + j, none⟩ = cs[j]? := by
  rcases open_slice ht hf with ⟨rfl, _⟩ | ⟨a, len, cap, m, n, D, Pl, rfl, _, hl, hm, hmm, _, hx⟩
  · exact ⟨none, 0, 0, rfl, Nat.zero_le _, 0, 0, fun h => absurd h (by omega), fun i hi => absurd hi (by omega)⟩
  · have hlm : len ≤ m := by rw [hmm]; split <;> omega
    have hsp : 0 < len → a.spot = none := fun h0 => by
      obtain ⟨cs', h1, _⟩ := hx 0 (by omega)
      rw [hc] at h1
      obtain ⟨_, h2, h3⟩ := World.cells?_some h1
      have h4 := h3 0 hpos
      have : cs'[0]? = some (cs'[0]'(by omega)) := List.getElem?_eq_getElem _
      rw [this] at h4
      have := spot_of_cell h4
      simpa [Addr.add] using this
    refine ⟨some a, len, cap, rfl, by omega, a.block, a.off, fun h0 => ?_, fun i hi => ?_⟩
    · have := hsp h0
      cases a
      simp at this
      subst this
      rfl
    · obtain ⟨cs', h1, h2⟩ := hx i (by omega)
      rw [hc] at h1
      obtain ⟨_, h3, h4⟩ := World.cells?_some h1
      refine ⟨cs', n, _, h2, h3, fun j hj => ?_⟩
      rw [← h4 j hj]
      have h0 := hsp (by omega)
      cases a
      simp at h0
      subst h0
      congr 1
      rw [Addr.add_mid, Addr.add_mid]
theorem open_rows {t e : TypeId} {c : Nat} (ht : Try.prog.underlying t = some (.slice e)) (hc : Try.prog.cellsOf e = c) (hpos : 0 < c) {r : Reach} {b0 : Nat} {v : Value} {d : DataW H} {p : List MemPlace}
    (hv : Value.okWide Try.prog w r b0 t v) (h : DataW.Trod enc Try.prog w base spare held t v d p) :
    ∃ (A : Option Addr) (n cap : Nat), v = .slice A n cap ∧ n ≤ maxLen ∧ ∃ b off, (0 < n → A = some ⟨b, off, none⟩) ∧
      ∀ i, i < n → ∃ cs m x, DataW.trod enc Try.prog w base spare held m e cs = some x ∧ cs.length = c ∧ ∀ j, j < c → w.cell? ⟨b, off + i * c + j, none⟩ = cs[j]? := by
  obtain ⟨A0, len0, cap0, rfl⟩ := okWide_slice ht hv
  obtain ⟨fuel, hf⟩ := h
  obtain ⟨A, n, cap, hcs, hn, b, off, h1, h2⟩ := open_rows_cells ht hc hpos hf
  simp [Value.cells] at hcs
  obtain ⟨rfl, rfl, rfl⟩ := hcs
  exact ⟨_, _, _, rfl, hn, b, off, h1, h2⟩

theorem Try.cells36 : Try.prog.cellsOf 36 = 2 := by kernel_rfl
theorem open_pairs {r : Reach} {b0 : Nat} {v : Value} {d : DataW H} {p : List MemPlace} (hv : Value.okWide Try.prog w r b0 32 v) (h : DataW.Trod enc Try.prog w base spare held 32 v d p) :
    ∃ (A : Option Addr) (cap : Nat) (cs : List (Int × Int)), v = .slice A cs.length cap ∧ PairsRd w A cs := by
  obtain ⟨A, n, cap, rfl, _, b, off, hA, hx⟩ := open_rows Try.underlying32 Try.cells36 (by omega) hv h
  have hy : ∀ i, i < n → ∃ x : Int × Int, w.cell? ⟨b, off + i * 2, none⟩ = some (.int .i64 x.1) ∧ w.cell? ⟨b, off + i * 2 + 1, none⟩ = some (.int .i64 x.2) := fun i hi => by
    obtain ⟨cs, m, x, h1, h2, h3⟩ := hx i hi
    match cs, h2 with
    | [v0, v1], _ =>
      obtain ⟨xs, m', _, _, _, hl, hg⟩ := DataW.trod_array Try.underlying36 h1
      have g0 := hg 0 (by omega)
      have g1 := hg 1 (by omega)
      simp only [Try.cells3, Nat.zero_mul, List.drop_zero, List.take_succ_cons, List.take_zero] at g0
      simp only [Try.cells3, Nat.one_mul, List.drop_succ_cons, List.drop_zero, List.take_succ_cons, List.take_zero] at g1
      rw [List.getElem?_eq_getElem (by omega)] at g0 g1
      obtain ⟨a0, e0, _, _⟩ := DataW.trod_int Try.underlying3 g0
      obtain ⟨a1, e1, _, _⟩ := DataW.trod_int Try.underlying3 g1
      simp at e0 e1
      subst e0 e1
      exact ⟨(a0, a1), by simpa using h3 0 (by omega), by simpa using h3 1 (by omega)⟩
  obtain ⟨l, hl, hp⟩ := list_of hy
  refine ⟨A, cap, l, by rw [hl], b, off, fun hne => hA ?_, hp⟩
  cases l with
  | nil => exact absurd rfl hne
  | cons => simp at hl; omega
end
end Go.Proofs.Ytijkcahdegohiaa
