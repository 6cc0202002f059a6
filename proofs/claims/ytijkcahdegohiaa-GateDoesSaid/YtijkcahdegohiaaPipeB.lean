/-
  The ring of a pipe: push and drop.
-/
import Derived.Test.YtijkcahdegohiaaPipeA
namespace Go.Proofs.Ytijkcahdegohiaa
open Go.RowKit
set_option maxRecDepth 100000 in
set_option maxHeartbeats 800000 in
theorem c52 (p r room : Nat) (w : World) (e : El) (l : List El) (h : PipeAt w p r room l) (hl : l.length < room) :
    Calls Try.prog 52 #[ptr p, e.val] w fun x w' => x = .returned (.tuple #[]) ∧ PipeAt w' p r room (l ++ [e]) ∧ Upd (fun b => b = p ∨ b = r) w w' := by
  have lo := h.lo
  have hi := h.hi
  obtain ⟨k, s, hk, hs, hg, h1, h2, c0, c1, c2, f1, f2⟩ := h.open_
  have hp := lt_of_heap h1
  have hr := lt_of_heap h2
  generalize hn : l.length = n at *
  have hm : (k + n) % room < room := Nat.mod_lt _ (by omega)
  have hi0 : (0 : Int) ≤ ((k : Int) + n) % room := Int.emod_nonneg _ (by omega)
  have hi1 : ((k : Int) + n) % room < room := Int.emod_lt_of_pos _ (by omega)
  obtain ⟨e', hsm⟩ : ∃ e', s[(k + n) % room]? = some e' := ⟨_, List.getElem?_eq_getElem (by omega)⟩
  obtain ⟨e0, e1, e2, e3, e4⟩ := slots_cells h2 hsm
  have hpr : p ≠ r := by intro e; subst e; rw [h1] at h2; simp at h2
  have hrp : r ≠ p := fun e => hpr e.symm
  have HG := Lib.hid hg
  have H1 := Lib.hid h1
  have H2 := Lib.hid h2
  have HS := Lib.hid hs
  have HN := Lib.hid hn
  clear hg h1 h2 hs hsm hn h
  go_enter Try.func52, Try.ntmps52
  go_wp2
  go_region
  go_wp2
  go_end0
  refine ⟨rfl, ?_, ?_⟩
  · have h1 := H1.out
    have h2 := H2.out
    have hg := HG.out
    have hs := HS.out
    obtain rfl := HN.out
    refine ⟨by omega, by omega, by simp; omega, k, s.set ((k + l.length) % room) e, hk, by simpa using hs, ring_push e hk hs hl hg, ?_, ?_⟩
    · rw [heap_drew']
      have a1 := heap_set (heap_set_ne (heap_set_ne (heap_set_ne (heap_set_ne (heap_set_ne h1 (a := ⟨r, (k + l.length) % room * 5, none⟩) hpr (.int .i64 e.kind)) (a := ⟨r, (k + l.length) % room * 5 + 1, none⟩) hpr (.string e.key)) (a := ⟨r, (k + l.length) % room * 5 + 2, none⟩) hpr (.int .i64 e.time)) (a := ⟨r, (k + l.length) % room * 5 + 3, none⟩) hpr (.int .i64 e.value)) (a := ⟨r, (k + l.length) % room * 5 + 4, none⟩) hpr (.int .i64 e.at_)) 2 (.int .i64 ((l.length : Int) + 1))
      have a2 := heap_alloc_at a1 (.cells #[.int .i64 e.kind, .string e.key, .int .i64 e.time, .int .i64 e.value, .int .i64 e.at_] 46)
      rw [a2]
      simp
    · rw [heap_drew']
      have a1 := heap_set_ne (slots_set h2 e (i := (k + l.length) % room) (by omega)) (a := ⟨p, 2, none⟩) hrp (.int .i64 ((l.length : Int) + 1))
      exact heap_alloc_at a1 _
  · exact ((((((((Upd.refl _ w).setCell (fun _ => .inr rfl) _).setCell (fun _ => .inr rfl) _).setCell (fun _ => .inr rfl) _).setCell (fun _ => .inr rfl) _).setCell (fun _ => .inr rfl) _).setCell (fun _ => .inl rfl) _).alloc _).drew

set_option maxRecDepth 100000 in
set_option maxHeartbeats 800000 in
theorem c53 (p r room : Nat) (w : World) (e : El) (l : List El) (h : PipeAt w p r room (e :: l)) :
    Calls Try.prog 53 #[ptr p] w fun x w' => x = .returned (.tuple #[]) ∧ PipeAt w' p r room l ∧ Upd (fun b => b = p ∨ b = r) w w' := by
  have lo := h.lo
  have hi := h.hi
  have fits := h.fits
  obtain ⟨k, s, hk, hs, hg, h1, h2, c0, c1, c2, f1, f2⟩ := h.open_
  have hp := lt_of_heap h1
  have hr := lt_of_heap h2
  have hpr : p ≠ r := by intro e; subst e; rw [h1] at h2; simp at h2
  have hrp : r ≠ p := fun e => hpr e.symm
  obtain ⟨e', hsm⟩ : ∃ e', s[k]? = some e' := ⟨_, List.getElem?_eq_getElem (by omega)⟩
  obtain ⟨e0, e1, e2, e3, e4⟩ := slots_cells h2 hsm
  have HG := Lib.hid hg
  have H1 := Lib.hid h1
  have H2 := Lib.hid h2
  have HS := Lib.hid hs
  generalize hn : (e :: l).length = n at *
  have hn0 : 0 < n := by rw [← hn]; simp
  have HN := Lib.hid hn
  have hi0 : (0 : Int) ≤ ((k : Int) + 1) % room := Int.emod_nonneg _ (by omega)
  have hi1 : ((k : Int) + 1) % room < room := Int.emod_lt_of_pos _ (by omega)
  clear hg h1 h2 hs hsm h hn
  go_enter Try.func53, Try.ntmps53
  go_wp2
  go_region
  go_wp2
  go_region
  go_wp2
  go_end0
  refine ⟨rfl, ?_, ?_⟩
  · have h1 := H1.out
    have h2 := H2.out
    have hg := HG.out
    have hs := HS.out
    obtain rfl := HN.out
    have hz := slots_set h2 El.zero (i := k) (by omega)
    have hp' := Nat.ne_of_lt hp
    have hr' := Nat.ne_of_lt hr
    refine ⟨by omega, by omega, by simp at fits; omega, (k + 1) % room, s.set k El.zero, Nat.mod_lt _ (by omega), by simpa using hs, ring_drop e El.zero hk hs fits hg, ?_, ?_⟩
    · simp [heap_drew', heapK_setCell, heapK_alloc, hpr, h1, objSet_cells, hp']
    · simp only [heap_drew', heapK_alloc]
      rw [if_neg (by simpa using hr')]
      rw [heapK_setCell, if_neg hrp, heapK_setCell, if_neg hrp]
      exact hz
  · exact ((((((((((Upd.refl _ w).setCell (fun _ => .inr rfl) _).setCell (fun _ => .inr rfl) _).setCell (fun _ => .inr rfl) _).setCell (fun _ => .inr rfl) _).setCell (fun _ => .inr rfl) _).setCell (fun _ => .inl rfl) _).setCell (fun _ => .inl rfl) _).alloc _).drew).drew
end Go.Proofs.Ytijkcahdegohiaa
