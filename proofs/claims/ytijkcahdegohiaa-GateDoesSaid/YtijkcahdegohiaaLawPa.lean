/-
  The document's examples of layer 13 hold: 'awake' answers true.
-/
import Derived.Test.YtijkcahdegohiaaPipeD
import Derived.Deep.RegionHeld3
import Derived.Deep.DrawnRows
namespace Go.Proofs.Ytijkcahdegohiaa
open Go.RowKit
attribute [local go_sem ↓] Go.wp_at_zero Go.wp_at_succ

def mk (a : Int) : El := ⟨2, ⟨#[]⟩, 0, 0, a⟩
def br (a : Int) : El := ⟨3, ⟨#[]⟩, 0, 0, a⟩

set_option maxRecDepth 100000 in
set_option maxHeartbeats 1600000 in
theorem c26 (w : World) : Calls Try.prog 26 #[] w fun x w' => x = .returned (.bool true) ∧ Upd (fun _ => False) w w' := by
  go_enter Try.func26, Try.ntmps26
  go_wp2_with fail
  refine (c29 2 _ (by omega) (by omega)).mono ?_
  rintro x w1 ⟨rfl, hP1, hU1⟩
  have hsz1 := hU1.size
  go_wp2_with fail
  refine (c51 5 _).mono ?_
  rintro x w2 ⟨rfl, hU2⟩
  replace hP1 := hP1.upd hU2 (fun h => h) (fun h => h)
  replace hU1 := hU1.trans hU2
  clear hU2
  go_wp2_with fail
  refine (c30 _ _ 2 _ (mk 5) [] hP1).mono ?_
  rintro x w3 ⟨rfl, hP3, hU3⟩
  replace hU1 := hU1.step hU3 (by omega)
  have e1 : pushList 2 [] (mk 5) = [mk 5] := by rfl
  have e2 : pushCode 2 [] (mk 5) = 0 := by rfl
  rw [e1] at hP3
  rw [e2]
  clear e1 e2 hP1 hU3
  go_wp2_with fail
  refine (c30 _ _ 2 _ (br 1) [mk 5] hP3).mono ?_
  rintro x w4 ⟨rfl, hP4, hU4⟩
  replace hU1 := hU1.step hU4 (by omega)
  have e1 : pushList 2 [mk 5] (br 1) = [mk 5, br 1] := by rfl
  have e2 : pushCode 2 [mk 5] (br 1) = 0 := by rfl
  rw [e1] at hP4
  rw [e2]
  clear e1 e2 hP3 hU4
  go_wp2_with fail
  refine (c51 6 _).mono ?_
  rintro x w5 ⟨rfl, hU2⟩
  replace hP4 := hP4.upd hU2 (fun h => h) (fun h => h)
  replace hU1 := hU1.trans hU2
  clear hU2
  go_wp2_with fail
  refine (c30 _ _ 2 _ (mk 6) [mk 5, br 1] hP4).mono ?_
  rintro x w6 ⟨rfl, hP6, hU6⟩
  replace hU1 := hU1.step hU6 (by omega)
  have e1 : pushList 2 [mk 5, br 1] (mk 6) = [mk 5, br 1] := by rfl
  have e2 : pushCode 2 [mk 5, br 1] (mk 6) = 8 := by rfl
  rw [e1] at hP6
  rw [e2]
  clear e1 e2 hP4 hU6
  go_wp2_with fail
  refine (c31 _ _ 2 _ [mk 5, br 1] hP6).mono ?_
  have e3 : popEl [mk 5, br 1] = mk 5 := rfl
  rw [e3]
  rintro x w7 ⟨rfl, hP7, hU7⟩
  replace hU1 := hU1.step hU7 (by omega)
  have hbx := El.box w7 (mk 5)
  obtain ⟨b0, b1, b2, b3, b4⟩ := El.box_cells hbx
  have HP := Lib.hid (hP7.upd (((Upd.refl (fun _ => False) _).alloc (mk 5).obj).drew) (fun h => h) (fun h => h))
  have HB := Lib.hid (hbx : (w7.alloc (mk 5).obj).drew.heap[w7.heap.size]? = _)
  clear hP6 hU7 e3 hbx hP7
  go_wp2_with fail
  go_region_held3 (fun w' => w'.cell? ⟨w7.heap.size, 0, none⟩ = some (.int .i64 2) ∧ w'.cell? ⟨w7.heap.size, 1, none⟩ = some (.string ⟨#[]⟩) ∧ w'.cell? ⟨w7.heap.size, 2, none⟩ = some (.int .i64 0)
      ∧ w'.cell? ⟨w7.heap.size, 3, none⟩ = some (.int .i64 0) ∧ w'.cell? ⟨w7.heap.size, 4, none⟩ = some (.int .i64 5))
    (first | exact El.box_cells HB.out | exact El.box_cells (hU8.at HB.out (fun h => h)) | exact El.box_cells (hU9.at (hU8.at HB.out (fun h => h)) (fun h => h)) | go_keep)
    (first | (go_at_call 51; refine (c51 5 _).mono ?_; rintro x w8 ⟨rfl, hU8⟩; (have hP8 := HP.out.upd hU8 (fun h => h) (fun h => h))) | (go_at_call 33; refine (c33 _ _ 2 _ _ hP8).mono ?_; rintro x w9 ⟨rfl, rfl⟩) | (go_at_call 30; refine (c30_may _ _ ⟨4, ⟨#[]⟩, 0, 0, 0⟩ rfl).mono ?_; rintro x w9 ⟨rfl, hU9⟩))
  go_wp2_with fail
  go_ret
  exact ⟨rfl, ((hU1.alloc (mk 5).obj).drew.trans hU8).trans hU9⟩
end Go.Proofs.Ytijkcahdegohiaa
