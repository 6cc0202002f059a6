/-
  The law GateNil, as a call.
-/
import Derived.Test.YtijkcahdegohiaaLawGa
namespace Go.Proofs.Ytijkcahdegohiaa
open Go.RowKit

set_option maxHeartbeats 800000 in
theorem c39_nil (i : Int) (w : World) :
    Calls Try.prog 39 #[.pointer none, .int .i64 i] w fun x w' => x = .returned (.tuple #[El.zero.val, .int .i64 0, .bool false]) ∧ Upd (fun _ => False) w w' := by
  go_enter Try.func39, Try.ntmps39
  go_wp2
  exact bodyPost_ret (v := .tuple #[El.zero.val, .int .i64 0, .bool false]) (by simp [results, Try.results39, go_sem, El.zero]) rfl
      ⟨rfl, (Upd.refl _ w).alloc _⟩

set_option maxRecDepth 100000 in
set_option maxHeartbeats 1600000 in
theorem c14 (e : El) (i : Int) (w : World) : Calls Try.prog 14 #[e.val, .int .i64 i] w fun x w' => x = .returned (.bool true) ∧ Upd (fun _ => False) w w' := by
  have hbx := El.box w e
  have hbs : (w.alloc e.obj).heap.size = w.heap.size + 1 := by simp
  go_enter Try.func14, Try.ntmps14
  go_wp2_with fail
  refine (c39_nil i _).mono ?_
  rintro x w1 ⟨rfl, hU1⟩
  have h1 := hU1.at hbx (fun h => h)
  have hs1 := hU1.size
  rw [hbs] at hs1
  replace hU1 := ((Upd.refl (fun _ => False) w).alloc e.obj).trans hU1
  clear hbx hbs
  go_wp2_with fail
  have h1' := heap_alloc_at h1 El.zero.obj
  have h2 := El.box w1 El.zero
  refine (c40 _).mono ?_
  rintro x w2 ⟨rfl, hU2⟩
  replace h1' := hU2.at h1' (fun h => h)
  replace h2 := hU2.at h2 (fun h => h)
  replace hU2 := (hU1.alloc El.zero.obj).trans hU2
  obtain ⟨b0, b1, b2, b3, b4⟩ := El.box_cells h1'
  clear h1 hU1
  go_wp2_with fail
  refine (c36_nil _ i e).mono ?_
  rintro x w3 ⟨rfl, hU3⟩
  obtain ⟨d0, d1, d2, d3, d4⟩ := El.zero_cells (hU3.at h2 (fun h => h))
  replace hU3 := hU2.trans hU3
  clear hU2 h1' h2 b0 b1 b2 b3 b4
  go_wp2_with (first | (go_at_call 48; refine (c48_nil i _).mono ?_; rintro x w5 ⟨rfl, rfl⟩) | (go_at_call 49; refine (c49_nil i _).mono ?_; rintro x w5 ⟨rfl, rfl⟩) | (go_at_call 43; refine (c43_nil _).mono ?_; rintro x w5 ⟨rfl, rfl⟩) | (go_at_call 38; refine (c38 1 _).mono ?_; rintro x w6 ⟨rfl, hU6⟩) | (go_at_call 28; refine (c28 a1 _).mono ?_; rintro x w7 ⟨rfl, hU7⟩; have hm : mayB a1 = true := (by kernel_rfl); rw [hm]))
  go_ret
  exact ⟨rfl, (hU3.trans hU6).trans hU7⟩
end Go.Proofs.Ytijkcahdegohiaa
