/-
  The contracts of New, Len, Room of a pipe; a nil pipe; watershedref13's May; the law's own 'mark'.
-/
import Derived.Test.YtijkcahdegohiaaPipeC
namespace Go.Proofs.Ytijkcahdegohiaa
open Go.RowKit

set_option maxHeartbeats 800000 in
theorem c33 (p r room : Nat) (w : World) (l : List El) (h : PipeAt w p r room l) :
    Calls Try.prog 33 #[ptr p] w fun x w' => x = .returned (.int .i64 l.length) ∧ w = w' := by
  obtain ⟨k, s, hk, hs, hg, h1, h2, c0, c1, c2, f1, f2⟩ := h.open_
  clear hg h1 h2 hs f1 f2 hk h
  go_enter Try.func33, Try.ntmps33
  go_wp2
  go_ret
  exact ⟨rfl, rfl⟩

set_option maxHeartbeats 800000 in
theorem c34 (p r room : Nat) (w : World) (l : List El) (h : PipeAt w p r room l) :
    Calls Try.prog 34 #[ptr p] w fun x w' => x = .returned (.int .i64 ((room : Int) - l.length)) ∧ ∃ n, w' = w.drewN n := by
  have hf := h.fits
  have hr := h.hi
  obtain ⟨k, s, hk, hs, hg, h1, h2, c0, c1, c2, f1, f2⟩ := h.open_
  clear hg h1 h2 hs f1 f2 hk h
  go_enter Try.func34, Try.ntmps34
  go_wp2
  go_quiet (fail)
  go_wp2
  go_ret
  exact ⟨rfl, _, rfl⟩

set_option maxHeartbeats 800000 in
theorem c30_nil (w : World) (e : El) :
    Calls Try.prog 30 #[.pointer none, e.val] w fun x w' => x = .returned (.int .i64 3) ∧ Upd (fun _ => False) w w' := by
  go_enter Try.func30, Try.ntmps30
  go_wp2
  go_ret
  exact ⟨rfl, (Upd.refl _ _).alloc _⟩
set_option maxHeartbeats 800000 in
theorem c33_nil (w : World) : Calls Try.prog 33 #[.pointer none] w fun x w' => x = .returned (.int .i64 0) ∧ w = w' := by
  go_enter Try.func33, Try.ntmps33
  go_wp2
  go_ret
  exact ⟨rfl, rfl⟩
set_option maxHeartbeats 800000 in
theorem c34_nil (w : World) : Calls Try.prog 34 #[.pointer none] w fun x w' => x = .returned (.int .i64 0) ∧ w = w' := by
  go_enter Try.func34, Try.ntmps34
  go_wp2
  go_ret
  exact ⟨rfl, rfl⟩
set_option maxRecDepth 100000 in
set_option maxHeartbeats 800000 in
theorem c31_nil (w : World) :
    Calls Try.prog 31 #[.pointer none] w fun x w' => x = .returned (.tuple #[El.zero.val, .bool false]) ∧ Upd (fun _ => False) w w' := by
  have hz := El.box w El.zero
  go_enter Try.func31, Try.ntmps31
  go_wp2_with fail
  refine (c32_nil _).mono ?_
  rintro x w1 ⟨rfl, hU⟩
  obtain ⟨b0, b1, b2, b3, b4⟩ := El.box_cells (hU.at hz (fun h => h))
  have hf : ∀ j, w1.frozen? ⟨w.heap.size, j, none⟩ = false := free_of (hU.at hz (fun h => h))
  have hlt := lt_of_heap (hU.at hz (fun h => h))
  clear hz
  go_wp2_with fail
  replace hU := Upd.trans ((Upd.refl _ w).alloc _) hU
  have hF := (((((hU.setCell (p := ⟨w.heap.size, 0, none⟩) (by simp) (.int .i64 El.zero.kind)).setCell (p := ⟨w.heap.size, 1, none⟩) (by simp) (.string El.zero.key)).setCell (p := ⟨w.heap.size, 2, none⟩) (by simp) (.int .i64 El.zero.time)).setCell (p := ⟨w.heap.size, 3, none⟩) (by simp) (.int .i64 El.zero.value)).setCell (p := ⟨w.heap.size, 4, none⟩) (by simp) (.int .i64 El.zero.at_)).alloc El.zero.obj
  exact bodyPost_ret (v := .tuple #[El.zero.val, .bool false]) (by simp [results, Try.results31, go_sem, b0, b1, b2, b3, b4, hlt]) rfl ⟨rfl, hF⟩

set_option maxHeartbeats 800000 in
theorem c51 (a : Int) (w : World) :
    Calls Try.prog 51 #[.int .i64 a] w fun x w' => x = .returned (El.val ⟨2, ⟨#[]⟩, 0, 0, a⟩) ∧ Upd (fun _ => False) w w' := by
  go_enter Try.func51, Try.ntmps51
  go_wp2
  exact bodyPost_ret (v := El.val ⟨2, ⟨#[]⟩, 0, 0, a⟩) (by simp [results, Try.results51, go_sem]) rfl ⟨rfl, (Upd.refl _ _).alloc _⟩

/-! ### watershedref13's May (its two callees first) -/
set_option maxHeartbeats 800000 in
theorem c17 (n : Int) (w : World) :
    Calls Try.prog 17 #[.int .i64 n] w fun x w' => x = .returned (.bool (decide (0 ≤ n) && decide (n ≤ 1000000001))) ∧ w = w' := by
  go_enter Try.func17, Try.ntmps17
  go_wp2
  all_goals go_ret
  all_goals refine ⟨ret_bool ?_, rfl⟩
  all_goals (rw [Bool.eq_iff_iff]; simp <;> omega)
set_option maxHeartbeats 800000 in
theorem c18 (n : Int) (w : World) :
    Calls Try.prog 18 #[.int .i64 n] w fun x w' => x = .returned (.bool (decide (0 ≤ n) && decide (n ≤ 1000000000))) ∧ w = w' := by
  go_enter Try.func18, Try.ntmps18
  go_wp2
  all_goals go_ret
  all_goals refine ⟨ret_bool ?_, rfl⟩
  all_goals (rw [Bool.eq_iff_iff]; simp <;> omega)
set_option maxHeartbeats 800000 in
theorem c28 (e : El) (w : World) :
    Calls Try.prog 28 #[e.val] w fun x w' => x = .returned (.bool (mayB e)) ∧ Upd (fun _ => False) w w' := by
  obtain ⟨k, key, t, v, a⟩ := e
  by_cases h1 : k = 1
  · subst h1
    go_enter Try.func28, Try.ntmps28
    go_wp2
    all_goals go_ret
    all_goals refine ⟨ret_bool ?_, (Upd.refl _ _).alloc _⟩
    all_goals (rw [Bool.eq_iff_iff]; simp [mayB] <;> omega)
  · by_cases h2 : k = 2
    · subst h2
      go_enter Try.func28, Try.ntmps28
      go_wp2
      all_goals go_ret
      all_goals refine ⟨ret_bool ?_, (Upd.refl _ _).alloc _⟩
      all_goals (rw [Bool.eq_iff_iff]; simp [mayB] <;> omega)
    · by_cases h3 : k = 3
      · subst h3
        go_enter Try.func28, Try.ntmps28
        go_wp2
        all_goals go_ret
        all_goals refine ⟨ret_bool ?_, (Upd.refl _ _).alloc _⟩
        all_goals (rw [Bool.eq_iff_iff]; simp [mayB] <;> omega)
      · go_enter Try.func28, Try.ntmps28
        go_wp2
        all_goals go_ret
        all_goals refine ⟨ret_bool ?_, (Upd.refl _ _).alloc _⟩
        all_goals (rw [Bool.eq_iff_iff]; simp [mayB, h1, h2, h3])

/-! ### New -/
set_option maxHeartbeats 800000 in
theorem c29_bad (room : Int) (w : World) (h : room < 1 ∨ 64 < room) :
    Calls Try.prog 29 #[.int .i64 room] w fun x w' => x = .returned (.tuple #[.pointer none, .int .i64 1]) ∧ w = w' := by
  rcases h with h | h
  · go_enter Try.func29, Try.ntmps29
    go_wp2
    go_ret2
    exact ⟨rfl, rfl⟩
  · have h' : ¬ room < 1 := by omega
    go_enter Try.func29, Try.ntmps29
    go_wp2
    go_ret2
    exact ⟨rfl, rfl⟩

theorem Try.info46 : (Try.prog.info? 46).map (fun i => (i.zero, i.size, i.bytes)) = some (some (.agg #[.int .i64 0, .string ⟨#[]⟩, .int .i64 0, .int .i64 0, .int .i64 0]), 5, 48) := by kernel_rfl
theorem make46 (n : Nat) (hn : n ≤ 1000000) (w : World) : (Instr.makeSlice 52 (.int .i64 n) (.int .i64 n)).run Try.prog w = .ok (.slice (some ⟨w.heap.size, 0, none⟩) n n) (w.alloc (.cells (zeroRow n) 46 (0, 0))) := by
  obtain ⟨i, hi, hz, hs, hb⟩ := info_parts Try.info46
  have h := run_make (P := Try.prog) w 52 46 i _ Try.underlying52 hi hz .i64 .i64 n n (by omega) (by omega) (by rw [hb]; omega) (by omega)
  rw [h, hs]
  simp only [Int.toNat_natCast, made_zeroRow]

set_option maxRecDepth 100000 in
set_option maxHeartbeats 800000 in
theorem c29 (room : Nat) (w : World) (h1 : 1 ≤ room) (h2 : room ≤ 64) :
    Calls Try.prog 29 #[.int .i64 room] w fun x w' => x = .returned (.tuple #[ptr (w.heap.size + 1), .int .i64 0]) ∧ PipeAt w' (w.heap.size + 1) w.heap.size room [] ∧ Upd (fun _ => False) w w' := by
  have a1 : (1 : Int) ≤ room := by omega
  have a2 : (room : Int) ≤ 64 := by omega
  have hmk := fun w => make46 room (by omega) w
  go_enter Try.func29, Try.ntmps29
  go_wp2
  go_ret2
  refine ⟨rfl, ⟨h1, h2, by simp, 0, List.replicate room El.zero, by omega, by simp, by simp, ?_, ?_⟩, ((Upd.refl _ _).alloc _).alloc _⟩
  · rw [heapK_alloc, if_pos (by simp)]; rfl
  · rw [heapK_alloc, if_neg (by simp), heapK_alloc, if_pos rfl]; rfl
end Go.Proofs.Ytijkcahdegohiaa
