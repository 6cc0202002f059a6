/-
  The laws PipeMay and PipeNil, as calls.
-/
import Derived.Test.YtijkcahdegohiaaLawPa
namespace Go.Proofs.Ytijkcahdegohiaa
open Go.RowKit
attribute [local go_sem ↓] Go.wp_at_zero Go.wp_at_succ

set_option maxRecDepth 100000 in
set_option maxHeartbeats 1600000 in
theorem c7 (e : El) (w : World) : Calls Try.prog 7 #[e.val] w fun x w' => x = .returned (.bool true) ∧ Upd (fun _ => False) w w' := by
  have hbx := El.box w e
  have b0 := (El.box_cells hbx).1
  have b1 := (El.box_cells hbx).2.1
  have b2 := (El.box_cells hbx).2.2.1
  have b3 := (El.box_cells hbx).2.2.2.1
  have b4 := (El.box_cells hbx).2.2.2.2
  have HB := Lib.hid (hbx : (w.alloc e.obj).drew.heap[w.heap.size]? = _)
  clear hbx
  go_enter Try.func7, Try.ntmps7
  go_wp2_with fail
  go_region_held3 (fun w' => w'.cell? ⟨w.heap.size, 0, none⟩ = some (.int .i64 e.kind) ∧ w'.cell? ⟨w.heap.size, 1, none⟩ = some (.string e.key) ∧ w'.cell? ⟨w.heap.size, 2, none⟩ = some (.int .i64 e.time)
      ∧ w'.cell? ⟨w.heap.size, 3, none⟩ = some (.int .i64 e.value) ∧ w'.cell? ⟨w.heap.size, 4, none⟩ = some (.int .i64 e.at_))
    (first | exact El.box_cells HB.out | exact El.box_cells (hU1.at HB.out (fun h => h)) | exact El.box_cells (hU2.at (hU1.at HB.out (fun h => h)) (fun h => h)) | exact El.box_cells (hU3.at (hU2.at (hU1.at HB.out (fun h => h)) (fun h => h)) (fun h => h)) | go_keep)
    (first | (go_at_call 26; refine (c26 _).mono ?_; rintro x w1 ⟨rfl, hU1⟩) | (go_at_call 27; refine (c27 e _).mono ?_; rintro x w2 ⟨rfl, hU2⟩) | (go_at_call 28; refine (c28 e _).mono ?_; rintro x w3 ⟨rfl, hU3⟩))
  go_wp2_with fail
  go_ret
  exact ⟨rfl, ((((Upd.refl (fun _ => False) w).alloc e.obj).drew.trans hU1).trans hU2).trans hU3⟩

set_option maxRecDepth 100000 in
set_option maxHeartbeats 1600000 in
theorem c9 (e : El) (w : World) : Calls Try.prog 9 #[e.val] w fun x w' => x = .returned (.bool true) ∧ Upd (fun _ => False) w w' := by
  have hbx := El.box w e
  have hbs : (w.alloc e.obj).heap.size = w.heap.size + 1 := by simp
  go_enter Try.func9, Try.ntmps9
  go_wp2_with fail
  refine (c31_nil _).mono ?_
  rintro x w1 ⟨rfl, hU1⟩
  have h1 := hU1.at hbx (fun h => h)
  have hs1 := hU1.size
  rw [hbs] at hs1
  replace hU1 := ((Upd.refl (fun _ => False) w).alloc e.obj).trans hU1
  clear hbx hbs
  go_wp2_with fail
  have h1' := heap_alloc_at h1 El.zero.obj
  have h2 := El.box w1 El.zero
  have hbs : (w1.alloc El.zero.obj).heap.size = w1.heap.size + 1 := by simp
  refine (c32_nil _).mono ?_
  rintro x w2 ⟨rfl, hU2⟩
  replace h1' := hU2.at h1' (fun h => h)
  replace h2 := hU2.at h2 (fun h => h)
  have hs2 := hU2.size
  rw [hbs] at hs2
  replace hU2 := (hU1.alloc El.zero.obj).trans hU2
  clear h1 hbs hU1
  go_wp2_with fail
  have h1'' := heap_alloc_at h1' El.zero.obj
  have h2' := heap_alloc_at h2 El.zero.obj
  have h3 := El.box w2 El.zero
  have hbs : (w2.alloc El.zero.obj).heap.size = w2.heap.size + 1 := by simp
  refine (c26 _).mono ?_
  rintro x w3 ⟨rfl, hU3⟩
  replace h1'' := El.box_cells (hU3.at h1'' (fun h => h))
  replace h2' := hU3.at h2' (fun h => h)
  have h3' := hU3.at h3 (fun h => h)
  replace hU3 := (hU2.alloc El.zero.obj).trans hU3
  clear h1' h2 hbs hU2 h3
  obtain ⟨b0, b1, b2, b3, b4⟩ := h1''
  go_wp2_with fail
  refine (c30_nil _ e).mono ?_
  rintro x w4 ⟨rfl, hU4⟩
  obtain ⟨d0, d1, d2, d3, d4⟩ := El.zero_cells (hU4.at h2' (fun h => h))
  obtain ⟨f0, f1, f2, f3, f4⟩ := El.zero_cells (hU4.at h3' (fun h => h))
  replace hU4 := hU3.trans hU4
  clear hU3 h2' h3' b0 b1 b2 b3 b4
  go_wp2_with (first | (go_at_call 33; refine (c33_nil _).mono ?_; rintro x w5 ⟨rfl, rfl⟩) | (go_at_call 34; refine (c34_nil _).mono ?_; rintro x w5 ⟨rfl, rfl⟩))
  go_ret
  exact ⟨rfl, hU4⟩
end Go.Proofs.Ytijkcahdegohiaa
