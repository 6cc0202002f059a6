/-
  Regions that draw their order: single operations as they are met, and GateCuts' append onto a history.
-/
import Derived.Test.YtijkcahdegohiaaRegL
import Derived.Test.YtijkcahdegohiaaRegA
import Derived.Test.YtijkcahdegohiaaCutM
namespace Go.Proofs.Ytijkcahdegohiaa
open Go.RowKit
set_option linter.unusedSimpArgs false
attribute [local go_sem ↓] Go.wp_at_zero Go.wp_at_succ

section
variable (a : Act) (o : Oper) (x : Operand) (w : World)
theorem run_field72_1 (b : Nat) (ho : o.op = .fieldAddr 72 x 1) (hx : a.eval x = .pointer (some ⟨b, 0, none⟩)) : (execOp a.eval o).run Try.prog w = .ok (.value (.pointer (some ⟨b, 1, none⟩))) w := by
  unfold execOp; simp only [ho, hx]; clear hx ho; go_simp
theorem run_field72_2 (b : Nat) (ho : o.op = .fieldAddr 72 x 2) (hx : a.eval x = .pointer (some ⟨b, 0, none⟩)) : (execOp a.eval o).run Try.prog w = .ok (.value (.pointer (some ⟨b, 2, none⟩))) w := by
  unfold execOp; simp only [ho, hx]; clear hx ho; go_simp
theorem run_load3 (b j : Nat) (i : Int) (ho : o.op = .load 3 x) (hx : a.eval x = .pointer (some ⟨b, j, none⟩)) (h : w.cell? ⟨b, j, none⟩ = some (.int .i64 i)) : (execOp a.eval o).run Try.prog w = .ok (.value (.int .i64 i)) w := by
  unfold execOp; simp only [ho, hx]; clear hx ho; go_simp
theorem run_load52 (b j : Nat) (A : Option Addr) (n cap : Nat) (ho : o.op = .load 52 x) (hx : a.eval x = .pointer (some ⟨b, j, none⟩)) (h : w.cell? ⟨b, j, none⟩ = some (.slice A n cap)) : (execOp a.eval o).run Try.prog w = .ok (.value (.slice A n cap)) w := by
  unfold execOp; simp only [ho, hx]; clear hx ho; go_simp
theorem run_load46_at (b j : Nat) (e : El) (ho : o.op = .load 46 x) (hx : a.eval x = .pointer (some ⟨b, j, none⟩)) (h : ElAt w b j e) : (execOp a.eval o).run Try.prog w = .ok (.value e.val) w := by
  obtain ⟨h0, h1, h2, h3, h4⟩ := h
  unfold execOp; simp only [ho, hx]; clear hx ho; go_simp
theorem run_index70 (y : Operand) (b n cap i : Nat) (ho : o.op = .indexAddr 70 x y) (hx : a.eval x = .slice (some ⟨b, 0, none⟩) n cap) (hy : a.eval y = .int .i64 i) (hi : i < n) : (execOp a.eval o).run Try.prog w = .ok (.value (.pointer (some ⟨b, i, none⟩))) w := by
  have i0 : (0 : Int) ≤ i := by omega
  have i1 : (i : Int) < n := by omega
  unfold execOp; simp only [ho, hx, hy]; clear hx hy ho; go_simp
variable {K : Act → World → Prop} {Q : Exit → Act → World → Prop}
theorem wp_build52 (e : El) (ho : o.op = .buildSlice 52 1 #[(0, x)]) (hx : a.eval x = e.val) (h : K (a.put o.dst (.slice (some ⟨w.heap.size, 0, none⟩) 1 1)) (w.alloc e.obj)) : o.wp Try.prog a w K Q := by
  unfold Oper.wp execOp
  simp only [ho, List.map_toArray, List.map_cons, List.map_nil, hx]
  have H := Lib.hid h
  clear h hx ho
  go_simp
  exact H.out
theorem wp_store52 (y : Operand) (b i : Nat) (A : Option Addr) (n cap : Nat) (u : Value) (ho : o.op = .store 52 x y) (hx : a.eval x = .pointer (some ⟨b, i, none⟩)) (hy : a.eval y = .slice A n cap) (hc : w.cell? ⟨b, i, none⟩ = some u) (hf : w.frozen? ⟨b, i, none⟩ = false)
    (h : K (a.put o.dst undef) (w.setCell ⟨b, i, none⟩ (.slice A n cap))) : o.wp Try.prog a w K Q := by
  unfold Oper.wp execOp
  simp only [ho, hx, hy]
  have H := Lib.hid h
  clear h hx hy ho
  go_simp
  exact H.out
end
def S16 (o b i : Nat) (e : El) (v : Value) (w' : World) : Prop := w'.cell? ⟨o, 1, none⟩ = some (.int .i64 i) ∧ ElAt w' o 2 e ∧ w'.cell? ⟨b, i, none⟩ = some v
theorem S16.of {w : World} {o b i : Nat} {e : El} {v : Value} (h : w.heap[o]? = some (opObj 0 i e)) (hc : w.cell? ⟨b, i, none⟩ = some v) : S16 o b i e v w := by
  obtain ⟨o0, o1, o2, o3, o4, o5, o6⟩ := op_cells h
  exact ⟨o1, ⟨o2, o3, o4, o5, o6⟩, hc⟩
set_option maxRecDepth 100000 in
set_option maxHeartbeats 1600000 in
theorem region16 {Q : Exit → Act → World → Prop} {a : Act} {w wi : World} {C : Nat} {L : Loc} {room n b c k : Nat} {vs : List Value} {H : List (List El)} {tl : List Int} {s : GS} (hM : CutMem wi w C L room n b c k vs H tl s) (o i : Nat) (e : El) (r rr : List El) (hi : i < n)
    (hr : H.getD i [] = r) (hrr : r ++ [e] = rr) (hk : k ≤ 100000) (hob : w.heap[o]? = some (opObj 0 i e)) (hs : a.tmps.size = 170) (h9 : a.eval (.tmp 9) = .slice (some ⟨b, 0, none⟩) n n) (h14 : a.eval (.tmp 14) = .pointer (some ⟨o, 0, none⟩))
    (hQ : ∀ vA vcap A4 cap4 w', CutMem wi w' C L room n b c (k + 1) (vs.set i (.slice A4 rr.length cap4)) (H.set i rr) tl s → w'.heap[o]? = some (opObj 0 i e) → Q .normal (((((((((((((a.put (some 75) (.slice (some ⟨b, 0, none⟩) n n)).put (some 76) (.pointer (some ⟨o, 1, none⟩))).put (some 77) (.int .i64 i)).put (some 78) (.slice (some ⟨b, 0, none⟩) n n)).put (some 79) (.pointer (some ⟨o, 1, none⟩))).put (some 80) (.int .i64 i)).put (some 81) (.pointer (some ⟨b, i, none⟩))).put (some 82) (.slice vA r.length vcap)).put (some 83) (.pointer (some ⟨o, 2, none⟩))).put (some 84) (e.val)).put (some 85) (.slice (some ⟨w.heap.size, 0, none⟩) 1 1)).put (some 86) (.slice A4 rr.length cap4)).put (some 87) (.pointer (some ⟨b, i, none⟩))) w') :
    Code.wp Try.prog (Code.region 16
      #[{ dst := some 75, op := Op.move (Operand.tmp 9), type := 70, pos := "law.go:103", after := #[], guard := none },
        { dst := some 76, op := Op.fieldAddr 72 (Operand.tmp 14) 1, type := 0, pos := "law.go:103", after := #[], guard := none },
        { dst := some 77, op := Op.load 3 (Operand.tmp 76), type := 3, pos := "law.go:103", after := #[{ on := 1, ground := Ground.data }], guard := none },
        { dst := some 78, op := Op.move (Operand.tmp 9), type := 70, pos := "law.go:103", after := #[], guard := none },
        { dst := some 79, op := Op.fieldAddr 72 (Operand.tmp 14) 1, type := 0, pos := "law.go:103", after := #[], guard := none },
        { dst := some 80, op := Op.load 3 (Operand.tmp 79), type := 3, pos := "law.go:103", after := #[{ on := 4, ground := Ground.data }], guard := none },
        { dst := some 81, op := Op.indexAddr 70 (Operand.tmp 78) (Operand.tmp 80), type := 0, pos := "law.go:103", after := #[{ on := 3, ground := Ground.data }, { on := 5, ground := Ground.data }], guard := none },
        { dst := some 82, op := Op.load 52 (Operand.tmp 81), type := 52, pos := "law.go:103", after := #[{ on := 6, ground := Ground.data }], guard := none },
        { dst := some 83, op := Op.fieldAddr 72 (Operand.tmp 14) 2, type := 0, pos := "law.go:103", after := #[], guard := none },
        { dst := some 84, op := Op.load 46 (Operand.tmp 83), type := 46, pos := "law.go:103", after := #[{ on := 8, ground := Ground.data }], guard := none },
        { dst := some 85, op := Op.buildSlice 52 1 #[(0, Operand.tmp 84)], type := 52, pos := "law.go:103", after := #[{ on := 9, ground := Ground.data }], guard := none },
        { dst := some 86, op := Op.call { callee := Callee.builtin Builtin.append, args := #[Operand.tmp 82, Operand.tmp 85], argTypes := #[52, 52] }, type := 52, pos := "law.go:103", after := #[{ on := 7, ground := Ground.data }, { on := 10, ground := Ground.data }], guard := none },
        { dst := some 87, op := Op.indexAddr 70 (Operand.tmp 75) (Operand.tmp 77), type := 0, pos := "law.go:103", after := #[{ on := 0, ground := Ground.data }, { on := 2, ground := Ground.data }, { on := 0, ground := Ground.phase }, { on := 1, ground := Ground.phase }, { on := 2, ground := Ground.phase }, { on := 3, ground := Ground.phase }, { on := 4, ground := Ground.phase }, { on := 5, ground := Ground.phase }, { on := 6, ground := Ground.phase }, { on := 7, ground := Ground.phase }, { on := 8, ground := Ground.phase }, { on := 9, ground := Ground.phase }, { on := 10, ground := Ground.phase }, { on := 11, ground := Ground.phase }], guard := none },
        { dst := none, op := Op.store 52 (Operand.tmp 87) (Operand.tmp 86), type := 0, pos := "law.go:103", after := #[{ on := 12, ground := Ground.data }, { on := 11, ground := Ground.data }, { on := 11, ground := Ground.chain }, { on := 0, ground := Ground.phase }, { on := 1, ground := Ground.phase }, { on := 2, ground := Ground.phase }, { on := 3, ground := Ground.phase }, { on := 4, ground := Ground.phase }, { on := 5, ground := Ground.phase }, { on := 6, ground := Ground.phase }, { on := 7, ground := Ground.phase }, { on := 8, ground := Ground.phase }, { on := 9, ground := Ground.phase }, { on := 10, ground := Ground.phase }, { on := 11, ground := Ground.phase }], guard := none }]
      true) Q a w := by
  obtain ⟨vA, vcap, hvi⟩ := hM.ns.shape hi
  rw [hr] at hvi
  have hlen := hM.len i hi
  rw [hr] at hlen
  have hM3 : CutMem wi (w.drew.alloc e.obj) C L room n b c k vs H tl s := hM.upd0 ((Upd.refl (fun _ => False) _).drew.alloc e.obj)
  have hob3 : (w.drew.alloc e.obj).heap[o]? = some (opObj 0 i e) := heap_alloc_at (w := w.drew) hob e.obj
  have hc2 : w.drew.cell? ⟨b, i, none⟩ = some (.slice vA r.length vcap) := by rw [← hvi]; exact hM.ns.cell hi
  have hc3 : (w.drew.alloc e.obj).cell? ⟨b, i, none⟩ = some (.slice vA r.length vcap) := by rw [← hvi]; exact hM3.ns.cell hi
  have hown := hM3.ns.own i hi
  rw [hr, hvi] at hown
  have heb : (w.drew.alloc e.obj).heap[w.heap.size]? = some e.obj := by rw [heapK_alloc]; exact if_pos rfl
  refine wp_region_last 13 (S := S16 o b i e (.slice vA r.length vcap)) (by kernel_rfl) (by kernel_rfl) (S16.of (w := w.drew) hob hc2) (fun hHeld => ?_)
  refine wpAnyH_take (i := 0) (v := .slice (some ⟨b, 0, none⟩) n n) rfl (by kernel_rfl) (by kernel_rfl) (by kernel_rfl) (fun _ _ _ h => h) (Or.inl ⟨rfl, fun w' hS => run_move46 _ _ _ _ rfl (by simp [Act.eval_put_eq, Act.eval_put_ne, Act.size_put, hs, h9, h14]) w'⟩) hHeld ?_
  refine wpAnyH_take (i := 1) (v := .pointer (some ⟨o, 1, none⟩)) rfl (by kernel_rfl) (by kernel_rfl) (by kernel_rfl) (fun _ _ _ h => h) (Or.inl ⟨rfl, fun w' hS => run_field72_1 _ _ _ w' o rfl (by simp [Act.eval_put_eq, Act.eval_put_ne, Act.size_put, hs, h9, h14])⟩) hHeld ?_
  refine wpAnyH_take (i := 2) (v := .int .i64 i) rfl (by kernel_rfl) (by kernel_rfl) (by kernel_rfl) (fun _ _ _ h => h) (Or.inl ⟨rfl, fun w' hS => run_load3 _ _ _ w' o 1 i rfl (by simp [Act.eval_put_eq, Act.eval_put_ne, Act.size_put, hs, h9, h14]) hS.1⟩) hHeld ?_
  refine wpAnyH_take (i := 3) (v := .slice (some ⟨b, 0, none⟩) n n) rfl (by kernel_rfl) (by kernel_rfl) (by kernel_rfl) (fun _ _ _ h => h) (Or.inl ⟨rfl, fun w' hS => run_move46 _ _ _ _ rfl (by simp [Act.eval_put_eq, Act.eval_put_ne, Act.size_put, hs, h9, h14]) w'⟩) hHeld ?_
  refine wpAnyH_take (i := 4) (v := .pointer (some ⟨o, 1, none⟩)) rfl (by kernel_rfl) (by kernel_rfl) (by kernel_rfl) (fun _ _ _ h => h) (Or.inl ⟨rfl, fun w' hS => run_field72_1 _ _ _ w' o rfl (by simp [Act.eval_put_eq, Act.eval_put_ne, Act.size_put, hs, h9, h14])⟩) hHeld ?_
  refine wpAnyH_take (i := 5) (v := .int .i64 i) rfl (by kernel_rfl) (by kernel_rfl) (by kernel_rfl) (fun _ _ _ h => h) (Or.inl ⟨rfl, fun w' hS => run_load3 _ _ _ w' o 1 i rfl (by simp [Act.eval_put_eq, Act.eval_put_ne, Act.size_put, hs, h9, h14]) hS.1⟩) hHeld ?_
  refine wpAnyH_take (i := 6) (v := .pointer (some ⟨b, i, none⟩)) rfl (by kernel_rfl) (by kernel_rfl) (by kernel_rfl) (fun _ _ _ h => h) (Or.inl ⟨rfl, fun w' hS => run_index70 _ _ _ w' _ b n n i rfl (by simp [Act.eval_put_eq, Act.eval_put_ne, Act.size_put, hs, h9, h14]) (by simp [Act.eval_put_eq, Act.eval_put_ne, Act.size_put, hs, h9, h14]) hi⟩) hHeld ?_
  refine wpAnyH_take (i := 7) (v := .slice vA r.length vcap) rfl (by kernel_rfl) (by kernel_rfl) (by kernel_rfl) (fun _ _ _ h => h) (Or.inl ⟨rfl, fun w' hS => run_load52 _ _ _ w' b i vA r.length vcap rfl (by simp [Act.eval_put_eq, Act.eval_put_ne, Act.size_put, hs, h9, h14]) hS.2.2⟩) hHeld ?_
  refine wpAnyH_take (i := 8) (v := .pointer (some ⟨o, 2, none⟩)) rfl (by kernel_rfl) (by kernel_rfl) (by kernel_rfl) (fun _ _ _ h => h) (Or.inl ⟨rfl, fun w' hS => run_field72_2 _ _ _ w' o rfl (by simp [Act.eval_put_eq, Act.eval_put_ne, Act.size_put, hs, h9, h14])⟩) hHeld ?_
  refine wpAnyH_take (i := 9) (v := e.val) rfl (by kernel_rfl) (by kernel_rfl) (by kernel_rfl) (fun _ _ _ h => h) (Or.inl ⟨rfl, fun w' hS => run_load46_at _ _ _ w' o 2 e rfl (by simp [Act.eval_put_eq, Act.eval_put_ne, Act.size_put, hs, h9, h14]) hS.2.1⟩) hHeld ?_
  obtain ⟨f0, hf0⟩ : ∃ f0, ((((((((((a.put (some 75) (.slice (some ⟨b, 0, none⟩) n n)).put (some 76) (.pointer (some ⟨o, 1, none⟩))).put (some 77) (.int .i64 i)).put (some 78) (.slice (some ⟨b, 0, none⟩) n n)).put (some 79) (.pointer (some ⟨o, 1, none⟩))).put (some 80) (.int .i64 i)).put (some 81) (.pointer (some ⟨b, i, none⟩))).put (some 82) (.slice vA r.length vcap)).put (some 83) (.pointer (some ⟨o, 2, none⟩))).put (some 84) (e.val)) = f0 := ⟨_, rfl⟩
  have hQ' := hQ vA vcap
  clear hQ
  rw [hf0] at hQ'
  have q9 : f0.eval (.tmp 84) = e.val := by rw [← hf0]; simp [Act.eval_put_eq, Act.eval_put_ne, Act.size_put, hs]
  have q75 : f0.eval (.tmp 75) = .slice (some ⟨b, 0, none⟩) n n := by rw [← hf0]; simp [Act.eval_put_eq, Act.eval_put_ne, Act.size_put, hs]
  have q77 : f0.eval (.tmp 77) = .int .i64 i := by rw [← hf0]; simp [Act.eval_put_eq, Act.eval_put_ne, Act.size_put, hs]
  have q82 : f0.eval (.tmp 82) = .slice vA r.length vcap := by rw [← hf0]; simp [Act.eval_put_eq, Act.eval_put_ne, Act.size_put, hs]
  have qs : f0.tmps.size = 170 := by rw [← hf0]; simp [Act.size_put, hs]
  change wpAnyH Try.prog .any _ _ _ _ _ ((((((((((a.put (some 75) (.slice (some ⟨b, 0, none⟩) n n)).put (some 76) (.pointer (some ⟨o, 1, none⟩))).put (some 77) (.int .i64 i)).put (some 78) (.slice (some ⟨b, 0, none⟩) n n)).put (some 79) (.pointer (some ⟨o, 1, none⟩))).put (some 80) (.int .i64 i)).put (some 81) (.pointer (some ⟨b, i, none⟩))).put (some 82) (.slice vA r.length vcap)).put (some 83) (.pointer (some ⟨o, 2, none⟩))).put (some 84) (e.val)) _
  rw [hf0]
  refine wpAnyH_ready (rs := [10]) (by kernel_rfl) (by simp) ?_
  refine AllReadyH.cons rfl (fun K hK => ?_) AllReadyH.nil
  rw [if_pos (by rfl)]
  refine wp_build52 _ _ _ _ e rfl q9 ?_
  refine hK.out _ _ (S16.of hob3 hc3) (fun hHeld2 => ?_)
  clear hK K
  refine wpAnyH_ready (rs := [11]) (by kernel_rfl) (by simp) ?_
  refine AllReadyH.cons rfl (fun K hK => ?_) AllReadyH.nil
  rw [if_pos (by rfl)]
  refine wp_append_els _ _ rfl _ r (by simp [Act.eval_put_eq, Act.eval_put_ne, Act.size_put, qs, q82]) hown w.heap.size e (by simp [Act.eval_put_eq, Act.eval_put_ne, Act.size_put, qs]) heb (by omega) hM3.low.2.2.2.2.2 ?_
  intro v' w4 hO4 hU4 hv4
  rw [hrr] at hO4
  obtain ⟨A4, cap4, rfl⟩ := hO4.shape
  rw [← hvi] at hU4 hv4
  have hob4 := hU4.at hob3 (hM3.ns.far hi hob3 (by decide))
  have hb4 := hU4.at hM3.ns.hb (hM3.ns.far hi hM3.ns.hb (by decide))
  have hc4 : w4.cell? ⟨b, i, none⟩ = some (.slice vA r.length vcap) := by
    rw [← hvi]
    exact cell_of hb4 i _ (by have := hM3.ns.lv; simp [List.getElem?_eq_getElem (show i < vs.length by omega)])
  refine hK.out _ _ (S16.of hob4 hc4) (fun hHeld3 => ?_)
  clear hK K
  refine wpAnyH_take (i := 12) (v := .pointer (some ⟨b, i, none⟩)) rfl (by kernel_rfl) (by kernel_rfl) (by kernel_rfl) (fun _ _ _ h => h) (Or.inl ⟨rfl, fun w' hS => run_index70 _ _ _ w' _ b n n i rfl (by simp [Act.eval_put_eq, Act.eval_put_ne, Act.size_put, qs, q75]) (by simp [Act.eval_put_eq, Act.eval_put_ne, Act.size_put, qs, q77]) hi⟩) hHeld3 ?_
  refine wpAnyH_done (by kernel_rfl) ?_ _
  refine atLast_normal (wpOp_step rfl (fun K hK => ?_))
  rw [if_pos (by rfl)]
  refine wp_store52 _ _ _ _ _ b i A4 rr.length cap4 _ rfl (by simp [Act.eval_put_eq, Act.eval_put_ne, Act.size_put, qs]) (by simp [Act.eval_put_eq, Act.eval_put_ne, Act.size_put, qs]) hc4 (free_of hb4 i) ?_
  refine hK _ _ ?_
  change Q .normal (((f0.put (some 85) (.slice (some ⟨w.heap.size, 0, none⟩) 1 1)).put (some 86) (.slice A4 rr.length cap4)).put (some 87) (.pointer (some ⟨b, i, none⟩))) _
  exact hQ' A4 cap4 _ (hM3.push hi (by rw [hr]; exact hrr) hO4 hU4 hv4) (heap_set_ne hob4 (a := ⟨b, i, none⟩) (ne_of_type hob4 hb4 (by decide)) _)
end Go.Proofs.Ytijkcahdegohiaa
