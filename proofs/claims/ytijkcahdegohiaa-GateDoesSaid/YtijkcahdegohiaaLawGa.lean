/-
  The document's examples of layer 14 hold: 'awake' answers true. What 'rec', 'bar', 'fits' answer.
-/
import Derived.Test.YtijkcahdegohiaaGateE
import Derived.Test.YtijkcahdegohiaaLawPa
namespace Go.Proofs.Ytijkcahdegohiaa
open Go.RowKit
attribute [local go_sem ↓] Go.wp_at_zero Go.wp_at_succ

abbrev rcd (key : ByteArray) : El := ⟨1, key, 0, 0, 0⟩
theorem c37 (key : ByteArray) (w : World) :
    Calls Try.prog 37 #[.string key] w fun x w' => x = .returned (El.val (rcd key)) ∧ Upd (fun _ => False) w w' := by
  go_enter Try.func37, Try.ntmps37
  go_wp2
  exact bodyPost_ret (v := El.val (rcd key)) (by simp [results, Try.results37, go_sem]) rfl ⟨rfl, (Upd.refl _ _).alloc _⟩
theorem c38 (a : Int) (w : World) :
    Calls Try.prog 38 #[.int .i64 a] w fun x w' => x = .returned (El.val ⟨3, ⟨#[]⟩, 0, 0, a⟩) ∧ Upd (fun _ => False) w w' := by
  go_enter Try.func38, Try.ntmps38
  go_wp2
  exact bodyPost_ret (v := El.val ⟨3, ⟨#[]⟩, 0, 0, a⟩) (by simp [results, Try.results38, go_sem]) rfl ⟨rfl, (Upd.refl _ _).alloc _⟩
def fitsB (n room : Int) : Bool := decide (1 ≤ n) && (decide (n ≤ 8) && (decide (1 ≤ room) && decide (room ≤ 64)))
theorem c41 (n room : Int) (w : World) :
    Calls Try.prog 41 #[.int .i64 n, .int .i64 room] w fun x w' => x = .returned (.bool (fitsB n room)) ∧ w = w' := by
  by_cases h1 : 1 ≤ n <;> by_cases h2 : n ≤ 8 <;> by_cases h3 : 1 ≤ room <;> by_cases h4 : room ≤ 64
  all_goals go_enter Try.func41, Try.ntmps41
  all_goals go_wp2
  all_goals go_ret
  all_goals exact ⟨ret_bool (by simp [fitsB, h1, h2, h3, h4]), rfl⟩

theorem Upd.gate {w w1 w2 : World} {B C : Nat} (hU : Upd (fun _ => False) w w1) (hB : w.heap.size ≤ B) (h : Upd (inGate B C) w1 w2) : Upd (fun _ => False) w w2 :=
  hU.step h (fun i hi hg => by have := hg.1; omega)

abbrev aA : El := rcd ⟨#[97]⟩
abbrev aB : El := rcd ⟨#[98]⟩
abbrev a1 : El := ⟨3, ⟨#[]⟩, 0, 0, 1⟩
def S1 : GS := ⟨[[aA], []], [0, 0], [0, 0], [0, 0]⟩
def S2 : GS := ⟨[[aA, a1], []], [0, 0], [0, 0], [1, 0]⟩
def S3 : GS := ⟨[[aA, a1, aB], []], [0, 0], [0, 0], [1, 0]⟩
def S4 : GS := ⟨[[aA, a1, aB], [a1]], [0, 0], [0, 0], [1, 1]⟩
def S5 : GS := ⟨[[a1, aB], [a1]], [0, 0], [0, 0], [1, 1]⟩
def S6 : GS := ⟨[[aB], [a1]], [0, 0], [1, 0], [1, 1]⟩
def S7 : GS := ⟨[[aB], []], [0, 0], [0, 0], [1, 1]⟩
def S8 : GS := ⟨[[], []], [0, 0], [0, 0], [1, 1]⟩
/-- The three elements that awake keeps. -/
structure Boxes (w : World) (x y z : Nat) : Prop where
  x : w.heap[x]? = some aA.obj
  y : w.heap[y]? = some a1.obj
  z : w.heap[z]? = some aB.obj
theorem Boxes.upd {w w' : World} {x y z : Nat} (h : Boxes w x y z) (hU : Upd (fun _ => False) w w') : Boxes w' x y z :=
  ⟨hU.at h.x (fun h => h), hU.at h.y (fun h => h), hU.at h.z (fun h => h)⟩
theorem Boxes.cells {w : World} {x y z : Nat} (h : Boxes w x y z) :
    (w.cell? ⟨x, 0, none⟩ = some (.int .i64 1) ∧ w.cell? ⟨x, 1, none⟩ = some (.string ⟨#[97]⟩) ∧ w.cell? ⟨x, 2, none⟩ = some (.int .i64 0) ∧ w.cell? ⟨x, 3, none⟩ = some (.int .i64 0) ∧ w.cell? ⟨x, 4, none⟩ = some (.int .i64 0))
    ∧ (w.cell? ⟨y, 0, none⟩ = some (.int .i64 3) ∧ w.cell? ⟨y, 1, none⟩ = some (.string ⟨#[]⟩) ∧ w.cell? ⟨y, 2, none⟩ = some (.int .i64 0) ∧ w.cell? ⟨y, 3, none⟩ = some (.int .i64 0) ∧ w.cell? ⟨y, 4, none⟩ = some (.int .i64 1))
    ∧ (w.cell? ⟨z, 0, none⟩ = some (.int .i64 1) ∧ w.cell? ⟨z, 1, none⟩ = some (.string ⟨#[98]⟩) ∧ w.cell? ⟨z, 2, none⟩ = some (.int .i64 0) ∧ w.cell? ⟨z, 3, none⟩ = some (.int .i64 0) ∧ w.cell? ⟨z, 4, none⟩ = some (.int .i64 0)) :=
  ⟨El.box_cells h.x, El.box_cells h.y, El.box_cells h.z⟩
theorem p1 : pushC 4 (GS.start 2) 0 aA = 0 ∧ pushS 4 (GS.start 2) 0 aA = S1 := ⟨by kernel_rfl, by kernel_rfl⟩
theorem p2 : pushC 4 S1 0 a1 = 0 ∧ pushS 4 S1 0 a1 = S2 := ⟨by kernel_rfl, by kernel_rfl⟩
theorem p3 : pushC 4 S2 0 aB = 0 ∧ pushS 4 S2 0 aB = S3 := ⟨by kernel_rfl, by kernel_rfl⟩
theorem p4 : pushC 4 S3 1 a1 = 0 ∧ pushS 4 S3 1 a1 = S4 := ⟨by kernel_rfl, by kernel_rfl⟩
theorem n1 : gNext S4 0 = ((aA, 0, true), S5) := by kernel_rfl
theorem n2 : gNext S5 0 = ((El.zero, 0, true), S6) := by kernel_rfl
theorem n3 : S6.blocked 0 = 1 := by kernel_rfl
theorem n4 : gNext S6 0 = ((a1, 1, true), S7) := by kernel_rfl
theorem n5 : gNext S7 0 = ((aB, 0, true), S8) := by kernel_rfl
theorem n6 : S8.blocked 0 = 0 := by kernel_rfl

set_option maxRecDepth 100000 in
set_option maxHeartbeats 6400000 in
theorem c40 (w : World) : Calls Try.prog 40 #[] w fun x w' => x = .returned (.bool true) ∧ Upd (fun _ => False) w w' := by
  go_enter Try.func40, Try.ntmps40
  go_wp2_with fail
  refine (c35 2 4 _ (by omega) (by omega) (by omega) (by omega)).mono ?_
  rintro x w0 ⟨rfl, ⟨C, L, hG⟩, hU⟩
  have H0 := Lib.hid hG
  have hCs := hG.hC
  have hCg := hG.rg.2
  have V0 := Lib.hid hU
  clear hG hU
  go_wp2_with fail
  refine (c37 ⟨#[97]⟩ _).mono ?_
  rintro x u1 ⟨rfl, hU⟩
  have HX := Lib.hid (H0.out.upd0 hU)
  have VX := Lib.hid (V0.out.trans hU)
  clear hU
  go_wp2_with fail
  refine (c36 HX.out 0 aA).mono ?_
  rw [p1.1, p1.2]
  rintro x w1 ⟨rfl, hG, hU⟩
  have H1 := Lib.hid hG
  have V1 := Lib.hid (VX.out.gate (Nat.le_refl _) hU)
  clear hG hU HX VX
  go_wp2_with fail
  refine (c38 1 _).mono ?_
  rintro x u2 ⟨rfl, hU⟩
  have HX := Lib.hid (H1.out.upd0 hU)
  have VX := Lib.hid (V1.out.trans hU)
  clear hU
  go_wp2_with fail
  refine (c36 HX.out 0 a1).mono ?_
  rw [p2.1, p2.2]
  rintro x w2 ⟨rfl, hG, hU⟩
  have H2 := Lib.hid hG
  have V2 := Lib.hid (VX.out.gate (Nat.le_refl _) hU)
  clear hG hU HX VX
  go_wp2_with fail
  refine (c37 ⟨#[98]⟩ _).mono ?_
  rintro x u3 ⟨rfl, hU⟩
  have HX := Lib.hid (H2.out.upd0 hU)
  have VX := Lib.hid (V2.out.trans hU)
  clear hU
  go_wp2_with fail
  refine (c36 HX.out 0 aB).mono ?_
  rw [p3.1, p3.2]
  rintro x w3 ⟨rfl, hG, hU⟩
  have H3 := Lib.hid hG
  have V3 := Lib.hid (VX.out.gate (Nat.le_refl _) hU)
  clear hG hU HX VX
  go_wp2_with fail
  refine (c38 1 _).mono ?_
  rintro x u4 ⟨rfl, hU⟩
  have HX := Lib.hid (H3.out.upd0 hU)
  have VX := Lib.hid (V3.out.trans hU)
  clear hU
  go_wp2_with fail
  refine (c36 HX.out 1 a1).mono ?_
  rw [p4.1, p4.2]
  rintro x w4 ⟨rfl, hG, hU⟩
  have H4 := Lib.hid hG
  have V4 := Lib.hid (VX.out.gate (Nat.le_refl _) hU)
  clear hG hU HX VX
  go_wp2_with fail
  refine (c39 H4.out 0 (by omega) (by omega)).mono ?_
  rw [n1]
  rintro x w5 ⟨rfl, hG, hU⟩
  have HH5 := Lib.hid hG
  have VV5 := Lib.hid (V4.out.gate (Nat.le_refl _) hU)
  have hCs5 := hG.hC
  have HFX : Hid (C ≤ w5.heap.size) := Lib.hid hG.hC
  have HBX := Lib.hid (El.box w5 aA)
  have H5 := Lib.hid (hG.upd0 ((Upd.refl (fun _ => False) _).alloc (El.obj aA)))
  have V5 := Lib.hid (VV5.out.alloc (El.obj aA))
  clear hG hU hCs5 HH5 VV5
  go_wp2_with fail
  refine (c39 H5.out 0 (by omega) (by omega)).mono ?_
  rw [n2]
  rintro x w6 ⟨rfl, hG, hU⟩
  have HH6 := Lib.hid hG
  have VV6 := Lib.hid (V5.out.gate (Nat.le_refl _) hU)
  have hBX := hU.at HBX.out (fun h => by have := h.2; have := HFX.out; omega)
  have HBX := Lib.hid hBX
  clear hBX
  have H6 := HH6
  have V6 := VV6
  clear hG hU HH6 VV6
  go_wp2_with fail
  refine (c48 H6.out 0).mono ?_
  rw [n3]
  rintro x u6 ⟨rfl, rfl⟩
  go_wp2_with fail
  refine (c39 H6.out 0 (by omega) (by omega)).mono ?_
  rw [n4]
  rintro x w7 ⟨rfl, hG, hU⟩
  have HH7 := Lib.hid hG
  have VV7 := Lib.hid (V6.out.gate (Nat.le_refl _) hU)
  have hBX := hU.at HBX.out (fun h => by have := h.2; have := HFX.out; omega)
  have HBX := Lib.hid hBX
  clear hBX
  have hCs7 := hG.hC
  have HFY : Hid (C ≤ w7.heap.size) := Lib.hid hG.hC
  have HBY := Lib.hid (El.box w7 a1)
  have H7 := Lib.hid (hG.upd0 ((Upd.refl (fun _ => False) _).alloc (El.obj a1)))
  have V7 := Lib.hid (VV7.out.alloc (El.obj a1))
  clear hG hU hCs7 HH7 VV7
  have hBX := heap_alloc_at HBX.out (El.obj a1)
  have HBX := Lib.hid hBX
  clear hBX
  go_wp2_with fail
  refine (c39 H7.out 0 (by omega) (by omega)).mono ?_
  rw [n5]
  rintro x w8 ⟨rfl, hG, hU⟩
  have HH8 := Lib.hid hG
  have VV8 := Lib.hid (V7.out.gate (Nat.le_refl _) hU)
  have hBX := hU.at HBX.out (fun h => by have := h.2; have := HFX.out; omega)
  have HBX := Lib.hid hBX
  clear hBX
  have hBY := hU.at HBY.out (fun h => by have := h.2; have := HFY.out; omega)
  have HBY := Lib.hid hBY
  clear hBY
  have hCs8 := hG.hC
  have HFZ : Hid (C ≤ w8.heap.size) := Lib.hid hG.hC
  have HBZ := Lib.hid (El.box w8 aB)
  have H8 := Lib.hid (hG.upd0 ((Upd.refl (fun _ => False) _).alloc (El.obj aB)))
  have V8 := Lib.hid (VV8.out.alloc (El.obj aB))
  clear hG hU hCs8 HH8 VV8
  have hBX := heap_alloc_at HBX.out (El.obj aB)
  have HBX := Lib.hid hBX
  clear hBX
  have hBY := heap_alloc_at HBY.out (El.obj aB)
  have HBY := Lib.hid hBY
  clear hBY
  have HB8 := Lib.hid ((⟨HBX.out, HBY.out, HBZ.out⟩ : Boxes (w8.alloc (El.obj aB)) w5.heap.size w7.heap.size w8.heap.size).upd ((Upd.refl (fun _ => False) _).drew))
  have V8d := Lib.hid (V8.out.drew)
  have H8d := Lib.hid (H8.out.upd0 ((Upd.refl (fun _ => False) _).drew))
  clear HBX HBY HBZ H8 V8 hCs H0 V0 H1 V1 H2 V2 H3 V3 H4 V4 H5 V5 H6 V6 H7 V7
  go_wp2_with fail
  go_region_held3 (fun w' =>
    (w'.cell? ⟨w5.heap.size, 0, none⟩ = some (.int .i64 1) ∧ w'.cell? ⟨w5.heap.size, 1, none⟩ = some (.string ⟨#[97]⟩) ∧ w'.cell? ⟨w5.heap.size, 2, none⟩ = some (.int .i64 0) ∧ w'.cell? ⟨w5.heap.size, 3, none⟩ = some (.int .i64 0) ∧ w'.cell? ⟨w5.heap.size, 4, none⟩ = some (.int .i64 0))
    ∧ (w'.cell? ⟨w7.heap.size, 0, none⟩ = some (.int .i64 3) ∧ w'.cell? ⟨w7.heap.size, 1, none⟩ = some (.string ⟨#[]⟩) ∧ w'.cell? ⟨w7.heap.size, 2, none⟩ = some (.int .i64 0) ∧ w'.cell? ⟨w7.heap.size, 3, none⟩ = some (.int .i64 0) ∧ w'.cell? ⟨w7.heap.size, 4, none⟩ = some (.int .i64 1))
    ∧ (w'.cell? ⟨w8.heap.size, 0, none⟩ = some (.int .i64 1) ∧ w'.cell? ⟨w8.heap.size, 1, none⟩ = some (.string ⟨#[98]⟩) ∧ w'.cell? ⟨w8.heap.size, 2, none⟩ = some (.int .i64 0) ∧ w'.cell? ⟨w8.heap.size, 3, none⟩ = some (.int .i64 0) ∧ w'.cell? ⟨w8.heap.size, 4, none⟩ = some (.int .i64 0)))
    (first | exact HB8.out.cells | exact HB9.out.cells | exact HB10.out.cells | exact HB11.out.cells)
    (first | (go_at_call 37; refine (c37 ⟨#[97]⟩ _).mono ?_; rintro x w9 ⟨rfl, hU9⟩; (have HB9 := Lib.hid (HB8.out.upd hU9)); (have V9 := Lib.hid (V8d.out.trans hU9)); (have H9 := Lib.hid (H8d.out.upd0 hU9)); clear hU9) | (go_at_call 38; refine (c38 1 _).mono ?_; rintro x w10 ⟨rfl, hU10⟩; (have HB10 := Lib.hid (HB9.out.upd hU10)); (have V10 := Lib.hid (V9.out.trans hU10)); (have H10 := Lib.hid (H9.out.upd0 hU10)); clear hU10) | (go_at_call 37; refine (c37 ⟨#[98]⟩ _).mono ?_; rintro x w11 ⟨rfl, hU11⟩; (have HB11 := Lib.hid (HB10.out.upd hU11)); (have V11 := Lib.hid (V10.out.trans hU11)); (have H11 := Lib.hid (H10.out.upd0 hU11)); clear hU11) | (go_at_call 48; refine (c48 H11.out 0).mono ?_; rw [n6]; rintro x w12 ⟨rfl, rfl⟩))
  go_wp2_with fail
  go_ret
  exact ⟨rfl, V11.out⟩
end Go.Proofs.Ytijkcahdegohiaa
