/-
  The contracts of New, Push, Pop, Peek, Len, Room of a pipe; a nil pipe.
-/
import Derived.Test.YtijkcahdegohiaaPipeB
namespace Go.Proofs.Ytijkcahdegohiaa
open Go.RowKit

theorem ret_int {k : IntKind} {a b : Int} (h : a = b) : Ending.returned (.int k a) = .returned (.int k b) := by rw [h]

/-- What Push answers. -/
def pushCode (room : Nat) (l : List El) (e : El) : Int := if mayB e = true then (if l.length = room then 8 else 0) else 1
def pushList (room : Nat) (l : List El) (e : El) : List El := if mayB e = true then (if l.length = room then l else l ++ [e]) else l

set_option maxRecDepth 100000 in
set_option maxHeartbeats 800000 in
theorem c30_may (p : Nat) (w : World) (e : El) (hm : mayB e = false) :
    Calls Try.prog 30 #[ptr p, e.val] w fun x w' => x = .returned (.int .i64 1) ∧ Upd (fun _ => False) w w' := by
  have HM := Lib.hid hm
  clear hm
  go_enter Try.func30, Try.ntmps30
  go_wp2_with (go_at_call 27; refine (c27 e _).mono ?_; rw [HM.out]; rintro x w1 ⟨rfl, hU⟩)
  go_ret
  exact ⟨rfl, Upd.trans ((Upd.refl _ _).alloc _) hU⟩

set_option maxRecDepth 100000 in
set_option maxHeartbeats 800000 in
theorem c30_full (p r room : Nat) (w : World) (e : El) (l : List El) (h : PipeAt w p r room l) (hm : mayB e = true) (hl : l.length = room) :
    Calls Try.prog 30 #[ptr p, e.val] w fun x w' => x = .returned (.int .i64 8) ∧ Upd (fun _ => False) w w' := by
  have HM := Lib.hid hm
  have H := Lib.hid h
  have HL := Lib.hid hl
  clear hm h hl
  go_enter Try.func30, Try.ntmps30
  go_wp2_with (go_at_call 27; refine (c27 e _).mono ?_; rw [HM.out]; rintro x w1 ⟨rfl, hU⟩)
  replace hU := Upd.trans ((Upd.refl _ w).alloc _) hU
  obtain ⟨k, s, hk, hs, hg, h1, h2, c0, c1, c2, f1, f2⟩ := (H.out.upd hU (fun h => h) (fun h => h)).open_
  rw [HL.out] at c2
  clear hg h1 h2 hs f1 f2 hk
  go_quiet (fail)
  go_wp2
  go_ret
  exact ⟨rfl, hU.drewN _⟩

set_option maxRecDepth 100000 in
set_option maxHeartbeats 800000 in
theorem c30_ok (p r room : Nat) (w : World) (e : El) (l : List El) (h : PipeAt w p r room l) (hm : mayB e = true) (hl : l.length ≠ room) :
    Calls Try.prog 30 #[ptr p, e.val] w fun x w' => x = .returned (.int .i64 0) ∧ PipeAt w' p r room (l ++ [e]) ∧ Upd (fun b => b = p ∨ b = r) w w' := by
  have HM := Lib.hid hm
  have H := Lib.hid h
  have hl' : l.length < room := by have := h.fits; omega
  have hlb : ((l.length : Int) == (room : Int)) = false := by simp; omega
  clear hm h hl
  go_enter Try.func30, Try.ntmps30
  go_wp2_with (go_at_call 27; refine (c27 e _).mono ?_; rw [HM.out]; rintro x w1 ⟨rfl, hU⟩)
  have hb := hU.at (El.box w e) (fun h => h)
  obtain ⟨b0, b1, b2, b3, b4⟩ := El.box_cells hb
  replace hU := Upd.trans ((Upd.refl _ w).alloc _) hU
  have HP := Lib.hid (H.out.upd hU (fun h => h) (fun h => h))
  obtain ⟨k, s, hk, hs, hg, h1, h2, c0, c1, c2, f1, f2⟩ := HP.out.open_
  clear hg h1 h2 hs f1 f2 hk hb
  go_quiet (fail)
  go_wp2
  refine wp_region_tail 4 (by kernel_rfl) (by kernel_rfl) ?_
  simp only [List.take_succ_cons, List.take_zero, List.drop_succ_cons, List.drop_zero]
  repeat still_step
  refine wpStill_nil ?_
  go_wp2_with fail
  refine (c52 p r room _ e l (HP.out.upd ((Upd.refl (fun _ => False) _).drewN _) (fun h => h) (fun h => h)) hl').mono ?_
  rintro x w2 ⟨rfl, hP2, hU2⟩
  go_wp2
  go_ret
  exact ⟨rfl, hP2, ((hU.drewN _).mono (fun _ _ h => h.elim)).trans hU2⟩

/-- Push on a pipe. -/
theorem c30 (p r room : Nat) (w : World) (e : El) (l : List El) (h : PipeAt w p r room l) :
    Calls Try.prog 30 #[ptr p, e.val] w fun x w' => x = .returned (.int .i64 (pushCode room l e)) ∧ PipeAt w' p r room (pushList room l e) ∧ Upd (fun b => b = p ∨ b = r) w w' := by
  unfold pushCode pushList
  by_cases hm : mayB e = true
  · by_cases hl : l.length = room
    · refine (c30_full p r room w e l h hm hl).mono ?_
      rintro x w' ⟨rfl, hU⟩
      rw [if_pos hm, if_pos hl, if_pos hm, if_pos hl]
      exact ⟨rfl, h.upd hU (fun h => h) (fun h => h), hU.mono (fun _ _ h => h.elim)⟩
    · refine (c30_ok p r room w e l h hm hl).mono ?_
      rintro x w' ⟨rfl, hP, hU⟩
      rw [if_pos hm, if_neg hl, if_pos hm, if_neg hl]
      exact ⟨rfl, hP, hU⟩
  · refine (c30_may p w e (by simpa using hm)).mono ?_
    rintro x w' ⟨rfl, hU⟩
    rw [if_neg hm, if_neg hm]
    exact ⟨rfl, h.upd hU (fun h => h) (fun h => h), hU.mono (fun _ _ h => h.elim)⟩

/-- What Pop and Peek answer. -/
def popEl : List El → El
  | [] => El.zero
  | e :: _ => e

set_option maxRecDepth 100000 in
set_option maxHeartbeats 800000 in
theorem c32 (p r room : Nat) (w : World) (l : List El) (h : PipeAt w p r room l) :
    Calls Try.prog 32 #[ptr p] w fun x w' => x = .returned (.tuple #[(popEl l).val, .bool (!l.isEmpty)]) ∧ Upd (fun _ => False) w w' := by
  have H := Lib.hid (h.upd ((Upd.refl (fun _ => False) w).alloc El.zero.obj) (fun h => h) (fun h => h))
  have hs : w.heap.size + 1 = (w.alloc El.zero.obj).heap.size := by simp
  have hz := El.box w El.zero
  clear h
  cases l with
  | nil =>
    go_enter Try.func32, Try.ntmps32
    go_wp2_with fail
    refine (c54_none p r room _ H.out).mono ?_
    rintro x w1 ⟨rfl, hU⟩
    obtain ⟨b0, b1, b2, b3, b4⟩ := El.box_cells (hU.at hz (fun h => h))
    have hf : ∀ j, w1.frozen? ⟨w.heap.size, j, none⟩ = false := free_of (hU.at hz (fun h => h))
    have hlt := lt_of_heap (hU.at hz (fun h => h))
    clear hz hs
    go_wp2
    replace hU := Upd.trans ((Upd.refl _ w).alloc _) hU
    exact bodyPost_ret (v := .tuple #[El.zero.val, .bool false]) (by simp [results, Try.results32, go_sem, b0, b1, b2, b3, b4]) rfl
      ⟨rfl, ((((hU.setCell (by simp) _).setCell (by simp) _).setCell (by simp) _).setCell (by simp) _).setCell (by simp) _⟩
  | cons e l =>
    go_enter Try.func32, Try.ntmps32
    go_wp2_with fail
    refine (c54_some p r room _ e l H.out).mono ?_
    rintro x w1 ⟨rfl, hU⟩
    obtain ⟨b0, b1, b2, b3, b4⟩ := El.box_cells (hU.at hz (fun h => h))
    have hf : ∀ j, w1.frozen? ⟨w.heap.size, j, none⟩ = false := free_of (hU.at hz (fun h => h))
    have hlt := lt_of_heap (hU.at hz (fun h => h))
    clear hz hs
    go_wp2
    replace hU := Upd.trans ((Upd.refl _ w).alloc _) hU
    exact bodyPost_ret (v := .tuple #[e.val, .bool true]) (by simp [results, Try.results32, go_sem, b0, b1, b2, b3, b4]) rfl
      ⟨rfl, ((((hU.setCell (by simp) _).setCell (by simp) _).setCell (by simp) _).setCell (by simp) _).setCell (by simp) _⟩

set_option maxHeartbeats 800000 in
theorem c32_nil (w : World) :
    Calls Try.prog 32 #[.pointer none] w fun x w' => x = .returned (.tuple #[El.zero.val, .bool false]) ∧ Upd (fun _ => False) w w' := by
  go_enter Try.func32, Try.ntmps32
  go_wp2
  exact bodyPost_ret (v := .tuple #[El.zero.val, .bool false]) (by simp [results, Try.results32, go_sem, El.zero]) rfl
      ⟨rfl, (Upd.refl _ w).alloc _⟩

set_option maxRecDepth 100000 in
set_option maxHeartbeats 800000 in
theorem c31 (p r room : Nat) (w : World) (l : List El) (h : PipeAt w p r room l) :
    Calls Try.prog 31 #[ptr p] w fun x w' => x = .returned (.tuple #[(popEl l).val, .bool (!l.isEmpty)]) ∧ PipeAt w' p r room l.tail ∧ Upd (fun b => b = p ∨ b = r) w w' := by
  have H0 := Lib.hid h
  have H := Lib.hid (h.upd ((Upd.refl (fun _ => False) w).alloc El.zero.obj) (fun h => h) (fun h => h))
  have hs : w.heap.size + 1 = (w.alloc El.zero.obj).heap.size := by simp
  have hz := El.box w El.zero
  have hpl : p < w.heap.size := by obtain ⟨k, s, hk, hs, hg, h1, h2, _⟩ := h.open_; exact lt_of_heap h1
  have hrl : r < w.heap.size := by obtain ⟨k, s, hk, hs, hg, h1, h2, _⟩ := h.open_; exact lt_of_heap h2
  clear h
  cases l with
  | nil =>
    go_enter Try.func31, Try.ntmps31
    go_wp2_with fail
    refine (c32 p r room _ [] H.out).mono ?_
    rintro x w1 ⟨rfl, hU⟩
    obtain ⟨b0, b1, b2, b3, b4⟩ := El.box_cells (hU.at hz (fun h => h))
    have hf : ∀ j, w1.frozen? ⟨w.heap.size, j, none⟩ = false := free_of (hU.at hz (fun h => h))
    have hlt := lt_of_heap (hU.at hz (fun h => h))
    clear hz hs
    go_wp2_with fail
    replace hU := Upd.trans ((Upd.refl _ w).alloc _) hU
    have hF := (((((hU.setCell (p := ⟨w.heap.size, 0, none⟩) (by simp) (.int .i64 El.zero.kind)).setCell (p := ⟨w.heap.size, 1, none⟩) (by simp) (.string El.zero.key)).setCell (p := ⟨w.heap.size, 2, none⟩) (by simp) (.int .i64 El.zero.time)).setCell (p := ⟨w.heap.size, 3, none⟩) (by simp) (.int .i64 El.zero.value)).setCell (p := ⟨w.heap.size, 4, none⟩) (by simp) (.int .i64 El.zero.at_)).alloc El.zero.obj
    exact bodyPost_ret (v := .tuple #[El.zero.val, .bool false]) (by simp [results, Try.results31, go_sem, b0, b1, b2, b3, b4, hlt, popEl]) rfl
      ⟨rfl, H0.out.upd hF (fun h => h) (fun h => h), hF.mono (fun _ _ h => h.elim)⟩
  | cons e l =>
    go_enter Try.func31, Try.ntmps31
    go_wp2_with fail
    refine (c32 p r room _ (e :: l) H.out).mono ?_
    rintro x w1 ⟨rfl, hU⟩
    obtain ⟨b0, b1, b2, b3, b4⟩ := El.box_cells (hU.at hz (fun h => h))
    have hf : ∀ j, w1.frozen? ⟨w.heap.size, j, none⟩ = false := free_of (hU.at hz (fun h => h))
    have hlt := lt_of_heap (hU.at hz (fun h => h))
    have HZ1 := Lib.hid (hU.at hz (fun h => h))
    clear hz hs
    replace hU := Upd.trans ((Upd.refl _ w).alloc _) hU
    go_wp2_with fail
    have hb := heap_alloc_at HZ1.out e.obj
    have he := El.box w1 e
    have hU' := hU.alloc e.obj
    refine (c53 p r room _ e l (H0.out.upd hU' (fun h => h) (fun h => h))).mono ?_
    rintro x w2 ⟨rfl, hP2, hU2⟩
    have hb2 := hU2.at hb (by omega)
    have he2 := hU2.at he (by omega)
    obtain ⟨b0, b1, b2, b3, b4⟩ := El.box_cells hb2
    obtain ⟨d0, d1, d2, d3, d4⟩ := El.box_cells he2
    have hf2 : ∀ j, w2.frozen? ⟨w.heap.size, j, none⟩ = false := free_of hb2
    have hlt2 := lt_of_heap he2
    replace hU2 := (hU'.mono (fun _ _ h => h.elim)).trans hU2
    clear hb he hU hU' hf hb2 he2
    have HP2 := Lib.hid hP2
    clear hP2
    go_wp2_with fail
    have hQ := fun x1 x2 x3 x4 x5 => (((((Upd.refl (fun b => b = w.heap.size) w2).setCell (p := ⟨w.heap.size, 0, none⟩) (fun _ => rfl) x1).setCell (p := ⟨w.heap.size, 1, none⟩) (fun _ => rfl) x2).setCell (p := ⟨w.heap.size, 2, none⟩) (fun _ => rfl) x3).setCell (p := ⟨w.heap.size, 3, none⟩) (fun _ => rfl) x4).setCell (p := ⟨w.heap.size, 4, none⟩) (fun _ => rfl) x5
    exact bodyPost_ret (v := .tuple #[e.val, .bool true]) (by simp [results, Try.results31, go_sem, b0, b1, b2, b3, b4]) rfl
      ⟨rfl, HP2.out.upd (hQ _ _ _ _ _) (by omega) (by omega), hU2.step (hQ _ _ _ _ _) (by omega)⟩
end Go.Proofs.Ytijkcahdegohiaa
