/-
  The reference's New: four lists made in whatever order.
-/
import Derived.Test.YtijkcahdegohiaaRefA
import Derived.Test.YtijkcahdegohiaaRegL
namespace Go.Proofs.Ytijkcahdegohiaa
open Go.RowKit
attribute [local go_sem ↓] Go.wp_at_zero Go.wp_at_succ

theorem four {w : World} (o1 o2 o3 o4 : Obj) : ((((w.alloc o1).alloc o2).alloc o3).alloc o4).heap[w.heap.size]? = some o1 ∧ ((((w.alloc o1).alloc o2).alloc o3).alloc o4).heap[w.heap.size + 1]? = some o2
    ∧ ((((w.alloc o1).alloc o2).alloc o3).alloc o4).heap[w.heap.size + 1 + 1]? = some o3 ∧ ((((w.alloc o1).alloc o2).alloc o3).alloc o4).heap[w.heap.size + 1 + 1 + 1]? = some o4 := by
  have s1 : (w.alloc o1).heap.size = w.heap.size + 1 := by simp
  have s2 : ((w.alloc o1).alloc o2).heap.size = w.heap.size + 1 + 1 := by simp
  have s3 : (((w.alloc o1).alloc o2).alloc o3).heap.size = w.heap.size + 1 + 1 + 1 := by simp
  have a1 : (w.alloc o1).heap[w.heap.size]? = some o1 := by rw [heapK_alloc, if_pos rfl]
  have a2 : ((w.alloc o1).alloc o2).heap[w.heap.size + 1]? = some o2 := by rw [heapK_alloc, s1, if_pos rfl]
  have a3 : (((w.alloc o1).alloc o2).alloc o3).heap[w.heap.size + 1 + 1]? = some o3 := by rw [heapK_alloc, s2, if_pos rfl]
  have a4 : ((((w.alloc o1).alloc o2).alloc o3).alloc o4).heap[w.heap.size + 1 + 1 + 1]? = some o4 := by rw [heapK_alloc, s3, if_pos rfl]
  exact ⟨heap_alloc_at (heap_alloc_at (heap_alloc_at a1 _) _) _, heap_alloc_at (heap_alloc_at a2 _) _, heap_alloc_at a3 _, a4⟩
theorem ref_made {w : World} {o1 o2 o3 o4 : Obj} {n room B M K T : Nat} (h1 : 1 ≤ n) (h8 : n ≤ 8)
    (hb : ((((w.alloc o1).alloc o2).alloc o3).alloc o4).heap[B]? = some (.cells (Array.replicate n nilS) 52 (0, 0)))
    (hm : ((((w.alloc o1).alloc o2).alloc o3).alloc o4).heap[M]? = some (.cells (intRow (List.replicate n 0)) 3 (0, 0)))
    (hk : ((((w.alloc o1).alloc o2).alloc o3).alloc o4).heap[K]? = some (.cells (intRow (List.replicate n 0)) 3 (0, 0)))
    (ht : ((((w.alloc o1).alloc o2).alloc o3).alloc o4).heap[T]? = some (.cells (intRow (List.replicate n 0)) 3 (0, 0)))
    (hne : M ≠ K ∧ M ≠ T ∧ K ≠ T) (hD : w.heap.size ≤ B ∧ w.heap.size ≤ M ∧ w.heap.size ≤ K ∧ w.heap.size ≤ T) :
    (∃ R vs, Ending.returned (Value.pointer (some ⟨w.heap.size + 1 + 1 + 1 + 1, 0, none⟩)) = .returned (ptr R.r) ∧ RefAt (((((w.alloc o1).alloc o2).alloc o3).alloc o4).alloc (.cells #[.int .i64 room, .slice (some ⟨B, 0, none⟩) n n, .slice (some ⟨M, 0, none⟩) n n, .slice (some ⟨K, 0, none⟩) n n, .slice (some ⟨T, 0, none⟩) n n] 79 (0, 0))).drew w.heap.size
      (((((w.alloc o1).alloc o2).alloc o3).alloc o4).alloc (.cells #[.int .i64 room, .slice (some ⟨B, 0, none⟩) n n, .slice (some ⟨M, 0, none⟩) n n, .slice (some ⟨K, 0, none⟩) n n, .slice (some ⟨T, 0, none⟩) n n] 79 (0, 0))).drew.heap.size R room n vs (GS.start n))
      ∧ Upd (fun _ => False) w (((((w.alloc o1).alloc o2).alloc o3).alloc o4).alloc (.cells #[.int .i64 room, .slice (some ⟨B, 0, none⟩) n n, .slice (some ⟨M, 0, none⟩) n n, .slice (some ⟨K, 0, none⟩) n n, .slice (some ⟨T, 0, none⟩) n n] 79 (0, 0))).drew := by
  refine ⟨⟨⟨w.heap.size + 1 + 1 + 1 + 1, B, M, K, T⟩, List.replicate n nilS, rfl, ?_⟩, (((((Upd.refl _ w).alloc _).alloc _).alloc _).alloc _).alloc _ |>.drew⟩
  rw [show Array.replicate n nilS = (List.replicate n nilS).toArray by simp] at hb
  obtain ⟨W, hW⟩ : ∃ W, (((w.alloc o1).alloc o2).alloc o3).alloc o4 = W := ⟨_, rfl⟩
  have hsz : W.heap.size = w.heap.size + 1 + 1 + 1 + 1 := by rw [← hW]; simp
  rw [hW] at hb hm hk ht ⊢
  have l1 := lt_of_heap hb
  have l2 := lt_of_heap hm
  have l3 := lt_of_heap hk
  have l4 := lt_of_heap ht
  have hs2 : ∀ o : Obj, (W.alloc o).drew.heap.size = W.heap.size + 1 := fun o => by show (W.alloc o).heap.size = _; simp
  refine ⟨h1, h8, ?_, ⟨heap_alloc_at hb _, hD.1, by simp, by simp [GS.start], fun i hi => ?_, fun i j k hi hj h1 _ => ?_⟩, heap_alloc_at hm _, heap_alloc_at hk _, heap_alloc_at ht _, hne.1, hne.2.1, hne.2.2, ⟨by show _ ≤ w.heap.size + 1 + 1 + 1 + 1; omega, hD.2.1, hD.2.2.1, hD.2.2.2⟩, ?_, fun i j hi hj => ?_, Nat.le_refl _, ⟨by simp [GS.start], by simp [GS.start], by simp [GS.start], by simp [GS.start]⟩⟩
  · show (W.alloc _).heap[w.heap.size + 1 + 1 + 1 + 1]? = _
    rw [← hsz, heapK_alloc, if_pos rfl]
  · rw [getD_rep]
    show OwnAt _ _ 46 5 nilS ((List.replicate n []).getD i []).length (slotsVals ((List.replicate n []).getD i []))
    rw [getD_rep]
    exact OwnAt.nil _ _ _ _
  · rw [getD_rep] at h1; simp [Value.ownBlock] at h1
  · rw [hs2]
    refine ⟨?_, ?_, ?_, ?_, ?_⟩ <;> (try show w.heap.size + 1 + 1 + 1 + 1 < _) <;> (try dsimp only) <;> omega
  · rw [getD_rep] at hj; simp [Value.ownBlock] at hj

set_option maxRecDepth 100000 in
set_option maxHeartbeats 6400000 in
theorem c45 (n room : Nat) (w : World) (h1 : 1 ≤ n) (h8 : n ≤ 8) :
    Calls Try.prog 45 #[.int .i64 n, .int .i64 room] w fun x w' => (∃ R vs, x = .returned (ptr R.r) ∧ RefAt w' w.heap.size w'.heap.size R room n vs (GS.start n)) ∧ Upd (fun _ => False) w w' := by
  have hmk := fun w => make30 n (by omega) w
  have hmk2 := fun w => make70 n (by omega) w
  go_enter Try.func45, Try.ntmps45
  go_wp2_with fail
  go_region_held3 (fun _ => True) (first | trivial) (fail)
  all_goals
    go_wp2_with fail
    go_ret
    refine ref_made h1 h8 (by (first | exact (four _ _ _ _).1 | exact (four _ _ _ _).2.1 | exact (four _ _ _ _).2.2.1 | exact (four _ _ _ _).2.2.2)) (by (first | exact (four _ _ _ _).1 | exact (four _ _ _ _).2.1 | exact (four _ _ _ _).2.2.1 | exact (four _ _ _ _).2.2.2)) (by (first | exact (four _ _ _ _).1 | exact (four _ _ _ _).2.1 | exact (four _ _ _ _).2.2.1 | exact (four _ _ _ _).2.2.2)) (by (first | exact (four _ _ _ _).1 | exact (four _ _ _ _).2.1 | exact (four _ _ _ _).2.2.1 | exact (four _ _ _ _).2.2.2)) ⟨by omega, by omega, by omega⟩ ⟨by omega, by omega, by omega, by omega⟩
end Go.Proofs.Ytijkcahdegohiaa
