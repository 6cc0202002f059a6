/-
  The reference's Push.
-/
import Derived.Test.YtijkcahdegohiaaRefA
import Derived.Test.YtijkcahdegohiaaRegC
namespace Go.Proofs.Ytijkcahdegohiaa
open Go.RowKit
set_option linter.unusedSimpArgs false
attribute [local go_sem ↓] Go.wp_at_zero Go.wp_at_succ

section
variable (a : Act) (o : Oper) (x : Operand) (w : World)
theorem run_nilCheck (b : Nat) (ho : o.op = .nilCheck x) (hx : a.eval x = ptr b) : (execOp a.eval o).run Try.prog w = .ok (.value (ptr b)) w := by
  unfold execOp; simp only [ho, hx]; clear hx ho; go_simp
theorem run_field79 (b j : Nat) (hj : j < 5) (ho : o.op = .fieldAddr 79 x j) (hx : a.eval x = ptr b) : (execOp a.eval o).run Try.prog w = .ok (.value (.pointer (some ⟨b, j, none⟩))) w := by
  match j, hj with
  | 0, _ => unfold execOp; simp only [ho, hx]; clear hx ho; go_simp
  | 1, _ => unfold execOp; simp only [ho, hx]; clear hx ho; go_simp
  | 2, _ => unfold execOp; simp only [ho, hx]; clear hx ho; go_simp
  | 3, _ => unfold execOp; simp only [ho, hx]; clear hx ho; go_simp
  | 4, _ => unfold execOp; simp only [ho, hx]; clear hx ho; go_simp
theorem run_load70 (b j : Nat) (A : Option Addr) (n cap : Nat) (ho : o.op = .load 70 x) (hx : a.eval x = .pointer (some ⟨b, j, none⟩)) (h : w.cell? ⟨b, j, none⟩ = some (.slice A n cap)) : (execOp a.eval o).run Try.prog w = .ok (.value (.slice A n cap)) w := by
  unfold execOp; simp only [ho, hx]; clear hx ho; go_simp
end

def S46 (r b o i : Nat) (n : Nat) (e : El) (v : Value) (w' : World) : Prop := w'.cell? ⟨r, 1, none⟩ = some (.slice (some ⟨b, 0, none⟩) n n) ∧ ElAt w' o 0 e ∧ w'.cell? ⟨b, i, none⟩ = some v
set_option maxRecDepth 100000 in
set_option maxHeartbeats 1600000 in
theorem region46_5 {Q : Exit → Act → World → Prop} {a : Act} {w : World} {D E : Nat} {R : RLoc} {room n : Nat} {vs : List Value} {s : GS} (h : RefAt w D E R room n vs s) (o i : Nat) (e : El) (rr : List El) (hi : i < n)
    (hrr : s.pipe i ++ [e] = rr) (hk : (s.pipe i).length ≤ 100000) (hob : w.heap[o]? = some e.obj) (hoE : E ≤ o) (hs : a.tmps.size = 80) (h0 : a.eval (.tmp 0) = ptr R.r) (h1 : a.eval (.tmp 1) = .int .i64 i) (h5 : a.eval (.tmp 5) = .pointer (some ⟨o, 0, none⟩))
    (hQ : ∀ vA vcap A4 cap4 w', RefAt w' D w'.heap.size R room n (vs.set i (.slice A4 rr.length cap4)) (s.setPipe i rr) → Upd (fun k => D ≤ k ∧ k < E) w w' → Q .normal ((((((((((((((((a.put (some 53) (ptr R.r)).put (some 54) (ptr R.r)).put (some 55) (.pointer (some ⟨R.r, 1, none⟩))).put (some 56) (.slice (some ⟨R.b, 0, none⟩) n n)).put (some 57) (.int .i64 i)).put (some 58) (ptr R.r)).put (some 59) (ptr R.r)).put (some 60) (.pointer (some ⟨R.r, 1, none⟩))).put (some 61) (.slice (some ⟨R.b, 0, none⟩) n n)).put (some 62) (.int .i64 i)).put (some 63) (.pointer (some ⟨R.b, i, none⟩))).put (some 64) (.slice vA (s.pipe i).length vcap)).put (some 65) (e.val)).put (some 66) (.slice (some ⟨w.heap.size, 0, none⟩) 1 1)).put (some 67) (.slice A4 rr.length cap4)).put (some 68) (.pointer (some ⟨R.b, i, none⟩))) w') :
    Code.wp Try.prog (Code.region 5
      #[{ dst := some 53, op := Op.move (Operand.tmp 0), type := 76, pos := "ref.go:32", after := #[], guard := none },
        { dst := some 54, op := Op.nilCheck (Operand.tmp 53), type := 0, pos := "ref.go:32", after := #[{ on := 0, ground := Ground.data }], guard := none },
        { dst := some 55, op := Op.fieldAddr 79 (Operand.tmp 54) 1, type := 0, pos := "ref.go:32", after := #[{ on := 1, ground := Ground.data }], guard := none },
        { dst := some 56, op := Op.load 70 (Operand.tmp 55), type := 70, pos := "ref.go:32", after := #[{ on := 2, ground := Ground.data }], guard := none },
        { dst := some 57, op := Op.move (Operand.tmp 1), type := 3, pos := "ref.go:32", after := #[], guard := none },
        { dst := some 58, op := Op.move (Operand.tmp 0), type := 76, pos := "ref.go:32", after := #[], guard := none },
        { dst := some 59, op := Op.nilCheck (Operand.tmp 58), type := 0, pos := "ref.go:32", after := #[{ on := 5, ground := Ground.data }], guard := none },
        { dst := some 60, op := Op.fieldAddr 79 (Operand.tmp 59) 1, type := 0, pos := "ref.go:32", after := #[{ on := 6, ground := Ground.data }], guard := none },
        { dst := some 61, op := Op.load 70 (Operand.tmp 60), type := 70, pos := "ref.go:32", after := #[{ on := 7, ground := Ground.data }], guard := none },
        { dst := some 62, op := Op.move (Operand.tmp 1), type := 3, pos := "ref.go:32", after := #[], guard := none },
        { dst := some 63, op := Op.indexAddr 70 (Operand.tmp 61) (Operand.tmp 62), type := 0, pos := "ref.go:32", after := #[{ on := 8, ground := Ground.data }, { on := 9, ground := Ground.data }], guard := none },
        { dst := some 64, op := Op.load 52 (Operand.tmp 63), type := 52, pos := "ref.go:32", after := #[{ on := 10, ground := Ground.data }], guard := none },
        { dst := some 65, op := Op.load 46 (Operand.tmp 5), type := 46, pos := "ref.go:32", after := #[], guard := none },
        { dst := some 66, op := Op.buildSlice 52 1 #[(0, Operand.tmp 65)], type := 52, pos := "ref.go:32", after := #[{ on := 12, ground := Ground.data }], guard := none },
        { dst := some 67, op := Op.call { callee := Callee.builtin Builtin.append, args := #[Operand.tmp 64, Operand.tmp 66], argTypes := #[52, 52] }, type := 52, pos := "ref.go:32", after := #[{ on := 11, ground := Ground.data }, { on := 13, ground := Ground.data }], guard := none },
        { dst := some 68, op := Op.indexAddr 70 (Operand.tmp 56) (Operand.tmp 57), type := 0, pos := "ref.go:32", after := #[{ on := 3, ground := Ground.data }, { on := 4, ground := Ground.data }, { on := 0, ground := Ground.phase }, { on := 1, ground := Ground.phase }, { on := 2, ground := Ground.phase }, { on := 3, ground := Ground.phase }, { on := 4, ground := Ground.phase }, { on := 5, ground := Ground.phase }, { on := 6, ground := Ground.phase }, { on := 7, ground := Ground.phase }, { on := 8, ground := Ground.phase }, { on := 9, ground := Ground.phase }, { on := 10, ground := Ground.phase }, { on := 11, ground := Ground.phase }, { on := 12, ground := Ground.phase }, { on := 13, ground := Ground.phase }, { on := 14, ground := Ground.phase }], guard := none },
        { dst := none, op := Op.store 52 (Operand.tmp 68) (Operand.tmp 67), type := 0, pos := "ref.go:32", after := #[{ on := 15, ground := Ground.data }, { on := 14, ground := Ground.data }, { on := 14, ground := Ground.chain }, { on := 0, ground := Ground.phase }, { on := 1, ground := Ground.phase }, { on := 2, ground := Ground.phase }, { on := 3, ground := Ground.phase }, { on := 4, ground := Ground.phase }, { on := 5, ground := Ground.phase }, { on := 6, ground := Ground.phase }, { on := 7, ground := Ground.phase }, { on := 8, ground := Ground.phase }, { on := 9, ground := Ground.phase }, { on := 10, ground := Ground.phase }, { on := 11, ground := Ground.phase }, { on := 12, ground := Ground.phase }, { on := 13, ground := Ground.phase }, { on := 14, ground := Ground.phase }], guard := none }]
      true) Q a w := by
  obtain ⟨vA, vcap, hvi, hc0⟩ := h.cellL hi
  have h3 : RefAt (w.drew.alloc e.obj) D E R room n vs s := h.upd0 ((Upd.refl (fun _ => False) _).drew.alloc e.obj)
  have hob3 : (w.drew.alloc e.obj).heap[o]? = some e.obj := heap_alloc_at (w := w.drew) hob e.obj
  have mk : ∀ {wx : World}, RefAt wx D E R room n vs s → wx.heap[o]? = some e.obj → S46 R.r R.b o i n e (.slice vA (s.pipe i).length vcap) wx := fun hx hox => by
    obtain ⟨vA', vcap', hvi', hcx⟩ := hx.cellL hi
    rw [hvi] at hvi'
    injection hvi' with q1 q2 q3
    subst q1 q3
    obtain ⟨b0, b1, b2, b3, b4⟩ := El.box_cells hox
    exact ⟨hx.cells.2.1, ⟨b0, b1, b2, b3, b4⟩, hcx⟩
  have hown := h3.ns.own i hi
  rw [hvi] at hown
  have heb : (w.drew.alloc e.obj).heap[w.heap.size]? = some e.obj := by rw [heapK_alloc]; exact if_pos rfl
  refine wp_region_last 16 (S := S46 R.r R.b o i n e (.slice vA (s.pipe i).length vcap)) (by kernel_rfl) (by kernel_rfl) (mk (wx := w.drew) (h.upd0 (Upd.refl (fun _ => False) _).drew) hob) (fun hHeld => ?_)
  refine wpAnyH_take (i := 0) (v := ptr R.r) rfl (by kernel_rfl) (by kernel_rfl) (by kernel_rfl) (fun _ _ _ h => h) (Or.inl ⟨rfl, fun w' hS => run_move46 _ _ _ _ rfl (by simp [Act.eval_put_eq, Act.eval_put_ne, Act.size_put, hs, h0, h1, h5]) w'⟩) hHeld ?_
  refine wpAnyH_take (i := 1) (v := ptr R.r) rfl (by kernel_rfl) (by kernel_rfl) (by kernel_rfl) (fun _ _ _ h => h) (Or.inl ⟨rfl, fun w' hS => run_nilCheck _ _ _ w' R.r rfl (by simp [Act.eval_put_eq, Act.eval_put_ne, Act.size_put, hs, h0, h1, h5])⟩) hHeld ?_
  refine wpAnyH_take (i := 2) (v := .pointer (some ⟨R.r, 1, none⟩)) rfl (by kernel_rfl) (by kernel_rfl) (by kernel_rfl) (fun _ _ _ h => h) (Or.inl ⟨rfl, fun w' hS => run_field79 _ _ _ w' R.r 1 (by decide) rfl (by simp [Act.eval_put_eq, Act.eval_put_ne, Act.size_put, hs, h0, h1, h5])⟩) hHeld ?_
  refine wpAnyH_take (i := 3) (v := .slice (some ⟨R.b, 0, none⟩) n n) rfl (by kernel_rfl) (by kernel_rfl) (by kernel_rfl) (fun _ _ _ h => h) (Or.inl ⟨rfl, fun w' hS => run_load70 _ _ _ w' R.r 1 _ n n rfl (by simp [Act.eval_put_eq, Act.eval_put_ne, Act.size_put, hs, h0, h1, h5]) hS.1⟩) hHeld ?_
  refine wpAnyH_take (i := 4) (v := .int .i64 i) rfl (by kernel_rfl) (by kernel_rfl) (by kernel_rfl) (fun _ _ _ h => h) (Or.inl ⟨rfl, fun w' hS => run_move46 _ _ _ _ rfl (by simp [Act.eval_put_eq, Act.eval_put_ne, Act.size_put, hs, h0, h1, h5]) w'⟩) hHeld ?_
  refine wpAnyH_take (i := 5) (v := ptr R.r) rfl (by kernel_rfl) (by kernel_rfl) (by kernel_rfl) (fun _ _ _ h => h) (Or.inl ⟨rfl, fun w' hS => run_move46 _ _ _ _ rfl (by simp [Act.eval_put_eq, Act.eval_put_ne, Act.size_put, hs, h0, h1, h5]) w'⟩) hHeld ?_
  refine wpAnyH_take (i := 6) (v := ptr R.r) rfl (by kernel_rfl) (by kernel_rfl) (by kernel_rfl) (fun _ _ _ h => h) (Or.inl ⟨rfl, fun w' hS => run_nilCheck _ _ _ w' R.r rfl (by simp [Act.eval_put_eq, Act.eval_put_ne, Act.size_put, hs, h0, h1, h5])⟩) hHeld ?_
  refine wpAnyH_take (i := 7) (v := .pointer (some ⟨R.r, 1, none⟩)) rfl (by kernel_rfl) (by kernel_rfl) (by kernel_rfl) (fun _ _ _ h => h) (Or.inl ⟨rfl, fun w' hS => run_field79 _ _ _ w' R.r 1 (by decide) rfl (by simp [Act.eval_put_eq, Act.eval_put_ne, Act.size_put, hs, h0, h1, h5])⟩) hHeld ?_
  refine wpAnyH_take (i := 8) (v := .slice (some ⟨R.b, 0, none⟩) n n) rfl (by kernel_rfl) (by kernel_rfl) (by kernel_rfl) (fun _ _ _ h => h) (Or.inl ⟨rfl, fun w' hS => run_load70 _ _ _ w' R.r 1 _ n n rfl (by simp [Act.eval_put_eq, Act.eval_put_ne, Act.size_put, hs, h0, h1, h5]) hS.1⟩) hHeld ?_
  refine wpAnyH_take (i := 9) (v := .int .i64 i) rfl (by kernel_rfl) (by kernel_rfl) (by kernel_rfl) (fun _ _ _ h => h) (Or.inl ⟨rfl, fun w' hS => run_move46 _ _ _ _ rfl (by simp [Act.eval_put_eq, Act.eval_put_ne, Act.size_put, hs, h0, h1, h5]) w'⟩) hHeld ?_
  refine wpAnyH_take (i := 10) (v := .pointer (some ⟨R.b, i, none⟩)) rfl (by kernel_rfl) (by kernel_rfl) (by kernel_rfl) (fun _ _ _ h => h) (Or.inl ⟨rfl, fun w' hS => run_index70 _ _ _ w' _ R.b n n i rfl (by simp [Act.eval_put_eq, Act.eval_put_ne, Act.size_put, hs, h0, h1, h5]) (by simp [Act.eval_put_eq, Act.eval_put_ne, Act.size_put, hs, h0, h1, h5]) hi⟩) hHeld ?_
  refine wpAnyH_take (i := 11) (v := .slice vA (s.pipe i).length vcap) rfl (by kernel_rfl) (by kernel_rfl) (by kernel_rfl) (fun _ _ _ h => h) (Or.inl ⟨rfl, fun w' hS => run_load52 _ _ _ w' R.b i vA (s.pipe i).length vcap rfl (by simp [Act.eval_put_eq, Act.eval_put_ne, Act.size_put, hs, h0, h1, h5]) hS.2.2⟩) hHeld ?_
  refine wpAnyH_take (i := 12) (v := e.val) rfl (by kernel_rfl) (by kernel_rfl) (by kernel_rfl) (fun _ _ _ h => h) (Or.inl ⟨rfl, fun w' hS => run_load46_at _ _ _ w' o 0 e rfl (by simp [Act.eval_put_eq, Act.eval_put_ne, Act.size_put, hs, h0, h1, h5]) hS.2.1⟩) hHeld ?_
  obtain ⟨f0, hf0⟩ : ∃ f0, (((((((((((((a.put (some 53) (ptr R.r)).put (some 54) (ptr R.r)).put (some 55) (.pointer (some ⟨R.r, 1, none⟩))).put (some 56) (.slice (some ⟨R.b, 0, none⟩) n n)).put (some 57) (.int .i64 i)).put (some 58) (ptr R.r)).put (some 59) (ptr R.r)).put (some 60) (.pointer (some ⟨R.r, 1, none⟩))).put (some 61) (.slice (some ⟨R.b, 0, none⟩) n n)).put (some 62) (.int .i64 i)).put (some 63) (.pointer (some ⟨R.b, i, none⟩))).put (some 64) (.slice vA (s.pipe i).length vcap)).put (some 65) (e.val)) = f0 := ⟨_, rfl⟩
  have hQ' := hQ vA vcap
  clear hQ
  rw [hf0] at hQ'
  have q65 : f0.eval (.tmp 65) = e.val := by rw [← hf0]; simp [Act.eval_put_eq, Act.eval_put_ne, Act.size_put, hs]
  have q56 : f0.eval (.tmp 56) = .slice (some ⟨R.b, 0, none⟩) n n := by rw [← hf0]; simp [Act.eval_put_eq, Act.eval_put_ne, Act.size_put, hs]
  have q57 : f0.eval (.tmp 57) = .int .i64 i := by rw [← hf0]; simp [Act.eval_put_eq, Act.eval_put_ne, Act.size_put, hs]
  have q64 : f0.eval (.tmp 64) = .slice vA (s.pipe i).length vcap := by rw [← hf0]; simp [Act.eval_put_eq, Act.eval_put_ne, Act.size_put, hs]
  have qs : f0.tmps.size = 80 := by rw [← hf0]; simp [Act.size_put, hs]
  change wpAnyH Try.prog .any _ _ _ _ _ (((((((((((((a.put (some 53) (ptr R.r)).put (some 54) (ptr R.r)).put (some 55) (.pointer (some ⟨R.r, 1, none⟩))).put (some 56) (.slice (some ⟨R.b, 0, none⟩) n n)).put (some 57) (.int .i64 i)).put (some 58) (ptr R.r)).put (some 59) (ptr R.r)).put (some 60) (.pointer (some ⟨R.r, 1, none⟩))).put (some 61) (.slice (some ⟨R.b, 0, none⟩) n n)).put (some 62) (.int .i64 i)).put (some 63) (.pointer (some ⟨R.b, i, none⟩))).put (some 64) (.slice vA (s.pipe i).length vcap)).put (some 65) (e.val)) _
  rw [hf0]
  refine wpAnyH_ready (rs := [13]) (by kernel_rfl) (by simp) ?_
  refine AllReadyH.cons rfl (fun K hK => ?_) AllReadyH.nil
  rw [if_pos (by rfl)]
  refine wp_build52 _ _ _ _ e rfl q65 ?_
  refine hK.out _ _ (mk h3 hob3) (fun hHeld2 => ?_)
  clear hK K
  refine wpAnyH_ready (rs := [14]) (by kernel_rfl) (by simp) ?_
  refine AllReadyH.cons rfl (fun K hK => ?_) AllReadyH.nil
  rw [if_pos (by rfl)]
  refine wp_append_els _ _ rfl _ (s.pipe i) (by simp [Act.eval_put_eq, Act.eval_put_ne, Act.size_put, qs, q64, q56, q57]) hown w.heap.size e (by simp [Act.eval_put_eq, Act.eval_put_ne, Act.size_put, qs, q64, q56, q57]) heb hk (Nat.le_trans (Nat.le_of_lt (Nat.lt_of_le_of_lt h3.ns.lb h3.er.2.1)) h3.hE) ?_
  intro v' w4 hO4 hU4 hv4
  rw [hrr] at hO4
  obtain ⟨A4, cap4, rfl⟩ := hO4.shape
  rw [← hvi] at hU4 hv4
  have hfar : ∀ j, (vs.getD i nilS).ownBlock = some j → D ≤ j ∧ j < E := fun j hj => ⟨((h3.ns.own i hi).lt hj).1, h3.eo i j hi hj⟩
  have hob4 := hU4.at hob3 (fun hj => by have := (hfar o hj).2; omega)
  have hb4 := hU4.at h3.ns.hb (h3.ns.far hi h3.ns.hb (by decide))
  have hr4 := hU4.at h3.hr (h3.ns.far hi h3.hr (by decide))
  have hc4 : w4.cell? ⟨R.b, i, none⟩ = some (.slice vA (s.pipe i).length vcap) := by
    rw [← hvi]
    exact cell_of hb4 i _ (by have := h3.ns.lv; simp [List.getElem?_eq_getElem (show i < vs.length by omega)])
  obtain ⟨z0, z1, z2, z3, z4⟩ := El.box_cells hob4
  refine hK.out _ _ ⟨cell_of hr4 1 _ rfl, ⟨z0, z1, z2, z3, z4⟩, hc4⟩ (fun hHeld3 => ?_)
  clear hK K
  refine wpAnyH_take (i := 15) (v := .pointer (some ⟨R.b, i, none⟩)) rfl (by kernel_rfl) (by kernel_rfl) (by kernel_rfl) (fun _ _ _ h => h) (Or.inl ⟨rfl, fun w' hS => run_index70 _ _ _ w' _ R.b n n i rfl (by simp [Act.eval_put_eq, Act.eval_put_ne, Act.size_put, qs, q64, q56, q57]) (by simp [Act.eval_put_eq, Act.eval_put_ne, Act.size_put, qs, q64, q56, q57]) hi⟩) hHeld3 ?_
  refine wpAnyH_done (by kernel_rfl) ?_ _
  refine atLast_normal (wpOp_step rfl (fun K hK => ?_))
  rw [if_pos (by rfl)]
  refine wp_store52 _ _ _ _ _ R.b i A4 rr.length cap4 _ rfl (by simp [Act.eval_put_eq, Act.eval_put_ne, Act.size_put, qs, q64, q56, q57]) (by simp [Act.eval_put_eq, Act.eval_put_ne, Act.size_put, qs, q64, q56, q57]) hc4 (free_of hb4 i) ?_
  refine hK _ _ ?_
  change Q .normal (((f0.put (some 66) (.slice (some ⟨w.heap.size, 0, none⟩) 1 1)).put (some 67) (.slice A4 rr.length cap4)).put (some 68) (.pointer (some ⟨R.b, i, none⟩))) _
  have hE4 : E ≤ w4.heap.size := Nat.le_trans h3.hE hU4.size
  obtain ⟨hX, hV⟩ := h3.row hi (E' := w4.heap.size) hO4 hU4 hv4 hE4 (Nat.le_refl _) (fun j hj => (hO4.lt hj).2)
  refine hQ' A4 cap4 _ hX.grow ?_
  refine ((Upd.refl (fun _ => False) _).drew.alloc e.obj).mono (T := fun k => D ≤ k ∧ k < E) (fun _ _ h => h.elim) |>.step hV (fun j _ hj => ?_)
  rcases hj with rfl | hj
  · exact ⟨h3.ns.lb, h3.er.2.1⟩
  · exact hfar j hj
end Go.Proofs.Ytijkcahdegohiaa
