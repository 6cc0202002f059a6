/-
  The contracts of package pipe's functions (and of watershedref13's May): what each call answers and which blocks it turns.
-/
import Derived.Test.YtijkcahdegohiaaProg
import Derived.Test.YtijkcahdegohiaaBase
import Derived.BigQuiet
import Derived.Deep.QuietTactic
import Derived.BigRegion
import Derived.Lib.Hide
namespace Go.Proofs.Ytijkcahdegohiaa
open Go.RowKit

/-- May an element be? -/
def mayB (e : El) : Bool :=
  if e.kind = 1 then decide (e.key.size ≤ 16) && (decide (0 ≤ e.time) && decide (e.time ≤ 1000000000))
  else if e.kind = 2 then decide (0 ≤ e.at_) && decide (e.at_ ≤ 1000000001)
  else if e.kind = 3 then decide (1 ≤ e.at_) && decide (e.at_ ≤ 1000000000)
  else false

theorem ret_bool {a b : Bool} (h : a = b) : Ending.returned (.bool a) = .returned (.bool b) := by rw [h]

set_option maxHeartbeats 800000 in
theorem c27 (e : El) (w : World) :
    Calls Try.prog 27 #[e.val] w fun x w' => x = .returned (.bool (mayB e)) ∧ Upd (fun _ => False) w w' := by
  obtain ⟨k, key, t, v, a⟩ := e
  by_cases h1 : k = 1
  · subst h1
    go_enter Try.func27, Try.ntmps27
    go_wp2
    all_goals go_ret
    all_goals refine ⟨ret_bool ?_, (Upd.refl _ _).alloc _⟩
    all_goals (rw [Bool.eq_iff_iff]; simp [mayB] <;> omega)
  · by_cases h2 : k = 2
    · subst h2
      go_enter Try.func27, Try.ntmps27
      go_wp2
      all_goals go_ret
      all_goals refine ⟨ret_bool ?_, (Upd.refl _ _).alloc _⟩
      all_goals (rw [Bool.eq_iff_iff]; simp [mayB] <;> omega)
    · by_cases h3 : k = 3
      · subst h3
        go_enter Try.func27, Try.ntmps27
        go_wp2
        all_goals go_ret
        all_goals refine ⟨ret_bool ?_, (Upd.refl _ _).alloc _⟩
        all_goals (rw [Bool.eq_iff_iff]; simp [mayB] <;> omega)
      · go_enter Try.func27, Try.ntmps27
        go_wp2
        all_goals go_ret
        all_goals refine ⟨ret_bool ?_, (Upd.refl _ _).alloc _⟩
        all_goals (rw [Bool.eq_iff_iff]; simp [mayB, h1, h2, h3])

/-! ### A pipe -/
structure PipeAt (w : World) (p r room : Nat) (l : List El) : Prop where
  lo : 1 ≤ room
  hi : room ≤ 64
  fits : l.length ≤ room
  ex : ∃ (k : Nat) (s : List El), k < room ∧ s.length = room ∧ (∀ i, i < l.length → s[(k + i) % room]? = l[i]?)
    ∧ w.heap[p]? = some (.cells #[.slice (some ⟨r, 0, none⟩) room room, .int .i64 k, .int .i64 l.length] 88 (0, 0))
    ∧ w.heap[r]? = some (.cells (slotsVals s).toArray 46 (0, 0))

theorem PipeAt.upd {S : Nat → Prop} {w w' : World} {p r room : Nat} {l : List El} (h : PipeAt w p r room l) (hU : Upd S w w') (hp : ¬ S p) (hr : ¬ S r) : PipeAt w' p r room l := by
  obtain ⟨lo, hi, fits, k, s, hk, hs, hg, h1, h2⟩ := h
  exact ⟨lo, hi, fits, k, s, hk, hs, hg, hU.at h1 hp, hU.at h2 hr⟩

abbrev ptr (p : Nat) : Value := .pointer (some ⟨p, 0, none⟩)

theorem PipeAt.open_ {w : World} {p r room : Nat} {l : List El} (h : PipeAt w p r room l) :
    ∃ (k : Nat) (s : List El), k < room ∧ s.length = room ∧ (∀ i, i < l.length → s[(k + i) % room]? = l[i]?)
    ∧ w.heap[p]? = some (.cells #[.slice (some ⟨r, 0, none⟩) room room, .int .i64 k, .int .i64 l.length] 88 (0, 0))
    ∧ w.heap[r]? = some (.cells (slotsVals s).toArray 46 (0, 0))
    ∧ w.cell? ⟨p, 0, none⟩ = some (.slice (some ⟨r, 0, none⟩) room room) ∧ w.cell? ⟨p, 1, none⟩ = some (.int .i64 k) ∧ w.cell? ⟨p, 2, none⟩ = some (.int .i64 l.length)
    ∧ (∀ j, w.frozen? ⟨p, j, none⟩ = false) ∧ (∀ j, w.frozen? ⟨r, j, none⟩ = false) := by
  obtain ⟨lo, hi, fits, k, s, hk, hs, hg, h1, h2⟩ := h
  exact ⟨k, s, hk, hs, hg, h1, h2, cell_of h1 0 _ rfl, cell_of h1 1 _ rfl, cell_of h1 2 _ rfl, free_of h1, free_of h2⟩

set_option maxRecDepth 100000 in
set_option maxHeartbeats 800000 in
theorem c54_none (p r room : Nat) (w : World) (h : PipeAt w p r room []) :
    Calls Try.prog 54 #[ptr p] w fun x w' => x = .returned (.tuple #[El.zero.val, .bool false]) ∧ Upd (fun _ => False) w w' := by
  obtain ⟨k, s, hk, hs, hg, h1, h2, c0, c1, c2, f1, f2⟩ := h.open_
  have hp := lt_of_heap h1
  simp only [List.length_nil] at c2
  clear hg h1 h2 hs f1 f2 h
  go_enter Try.func54, Try.ntmps54
  go_wp2
  exact bodyPost_ret (v := .tuple #[El.zero.val, .bool false]) (by simp [results, Try.results54, go_sem, El.zero]) rfl ⟨rfl, (Upd.refl _ _).alloc _⟩

set_option maxRecDepth 100000 in
set_option maxHeartbeats 800000 in
theorem c54_some (p r room : Nat) (w : World) (e : El) (l : List El) (h : PipeAt w p r room (e :: l)) :
    Calls Try.prog 54 #[ptr p] w fun x w' => x = .returned (.tuple #[e.val, .bool true]) ∧ Upd (fun _ => False) w w' := by
  have fits := h.fits
  have hi := h.hi
  obtain ⟨k, s, hk, hs, hg, h1, h2, c0, c1, c2, f1, f2⟩ := h.open_
  have hp := lt_of_heap h1
  have hr := lt_of_heap h2
  have hgk := hg 0 (by simp)
  rw [Nat.add_zero, Nat.mod_eq_of_lt hk] at hgk
  obtain ⟨e0, e1, e2, e3, e4⟩ := slots_cells h2 hgk
  generalize hn : (e :: l).length = n at *
  have hn0 : 0 < n := by rw [← hn]; simp
  clear hg h1 h2 hs hgk hn h f1 f2
  go_enter Try.func54, Try.ntmps54
  go_wp2
  go_region
  go_wp2
  exact bodyPost_ret (v := .tuple #[e.val, .bool true]) (by simp [results, Try.results54, go_sem]) rfl ⟨rfl, ((Upd.refl _ _).alloc _).drew⟩

end Go.Proofs.Ytijkcahdegohiaa
