/-
  The reference's Next: the regions that store into what they have read.
-/
import Derived.Test.YtijkcahdegohiaaRefC
namespace Go.Proofs.Ytijkcahdegohiaa
open Go.RowKit
set_option linter.unusedSimpArgs false
attribute [local go_sem ↓] Go.wp_at_zero Go.wp_at_succ

section
variable (a : Act) (o : Oper) (x : Operand) (w : World)
theorem run_slice52_one (g off n : Nat) (ho : o.op = .slice 52 x (some (.const (.int .i64 1))) none none) (hx : a.eval x = .slice (some ⟨g, off, none⟩) (n + 1) 1) (hn : n + 1 ≤ 1) : (execOp a.eval o).run Try.prog w = .ok (.value (.slice (some ⟨g, off, none⟩) n 0)) w := by
  obtain rfl : n = 0 := by omega
  have hc : a.eval (.const (.int .i64 1)) = .int .i64 1 := rfl
  unfold execOp; simp only [ho, hx, hc, Option.map_some, Option.map_none]; clear hx ho hc; go_simp
theorem run_slice52_more (g off n cap : Nat) (ho : o.op = .slice 52 x (some (.const (.int .i64 1))) none none) (hx : a.eval x = .slice (some ⟨g, off, none⟩) (n + 1) cap) (_hn : n + 1 ≤ cap) (h1 : cap ≠ 1) : (execOp a.eval o).run Try.prog w = .ok (.value (.slice (some ⟨g, off + 5, none⟩) n (cap - 1))) w := by
  have hc : a.eval (.const (.int .i64 1)) = .int .i64 1 := rfl
  have e0 : ¬ ((n : Int) + 1 < 1) := by omega
  unfold execOp; simp only [ho, hx, hc, Option.map_some, Option.map_none]; clear hx ho hc; go_simp
theorem run_max (y : Operand) (p q r : Int) (hr : (if p < q then q else p) = r) (ho : o.op = .call { callee := .builtin .max, args := #[x, y], argTypes := #[3, 3] }) (hx : a.eval x = .int .i64 p) (hy : a.eval y = .int .i64 q) : (execOp a.eval o).run Try.prog w = .ok (.value (.int .i64 r)) w := by
  subst hr
  by_cases h : p < q
  · rw [if_pos h]
    unfold execOp; simp only [ho, resolve, invoke, builtin, List.map_toArray, List.map_cons, List.map_nil, hx, hy]; clear hx hy ho; go_simp
  · rw [if_neg h]
    unfold execOp; simp only [ho, resolve, invoke, builtin, List.map_toArray, List.map_cons, List.map_nil, hx, hy]; clear hx hy ho; go_simp
variable {K : Act → World → Prop} {Q : Exit → Act → World → Prop}
theorem wp_store3 (y : Operand) (b i : Nat) (v : Int) (u : Value) (ho : o.op = .store 3 x y) (hx : a.eval x = .pointer (some ⟨b, i, none⟩)) (hy : a.eval y = .int .i64 v) (hc : w.cell? ⟨b, i, none⟩ = some u) (hf : w.frozen? ⟨b, i, none⟩ = false)
    (h : K (a.put o.dst undef) (w.setCell ⟨b, i, none⟩ (.int .i64 v))) : o.wp Try.prog a w K Q := by
  unfold Oper.wp execOp
  simp only [ho, hx, hy]
  have H := Lib.hid h
  clear h hx hy ho
  go_simp
  exact H.out
end

set_option maxRecDepth 100000 in
set_option maxHeartbeats 1600000 in
theorem region47_6 {Q : Exit → Act → World → Prop} {a : Act} {w : World} {D E : Nat} {R : RLoc} {room n : Nat} {vs : List Value} {s : GS} (h : RefAt w D E R room n vs s) (i : Nat) (e : El) (l : List El) (hi : i < n) (hpl : s.pipe i = e :: l)
    (hs : a.tmps.size = 175) (h0 : a.eval (.tmp 0) = ptr R.r) (h8 : a.eval (.tmp 8) = .int .i64 i)
    (hQ : ∀ vA vcap A4 cap4 w', RefAt w' D E R room n (vs.set i (.slice A4 l.length cap4)) (s.setPipe i l) → Upd (fun k => k = R.b) w w' → Q .normal ((((((((((((((a.put (some 39) (ptr R.r)).put (some 40) (ptr R.r)).put (some 41) (.pointer (some ⟨R.r, 1, none⟩))).put (some 42) (.slice (some ⟨R.b, 0, none⟩) n n)).put (some 43) (.int .i64 i)).put (some 44) (ptr R.r)).put (some 45) (ptr R.r)).put (some 46) (.pointer (some ⟨R.r, 1, none⟩))).put (some 47) (.slice (some ⟨R.b, 0, none⟩) n n)).put (some 48) (.int .i64 i)).put (some 49) (.pointer (some ⟨R.b, i, none⟩))).put (some 50) (.slice vA (s.pipe i).length vcap)).put (some 51) (.slice A4 l.length cap4)).put (some 52) (.pointer (some ⟨R.b, i, none⟩))) w') :
    Code.wp Try.prog (Code.region 6 (List.toArray ({ dst := some 39, op := Op.move (Operand.tmp 0), type := 76, pos := "ref.go:66", after := #[], guard := none } ::
        { dst := some 40, op := Op.nilCheck (Operand.tmp 39), type := 0, pos := "ref.go:66", after := #[{ on := 0, ground := Ground.data }], guard := none } ::
        { dst := some 41, op := Op.fieldAddr 79 (Operand.tmp 40) 1, type := 0, pos := "ref.go:66", after := #[{ on := 1, ground := Ground.data }], guard := none } ::
        { dst := some 42, op := Op.load 70 (Operand.tmp 41), type := 70, pos := "ref.go:66", after := #[{ on := 2, ground := Ground.data }], guard := none } ::
        { dst := some 43, op := Op.move (Operand.tmp 8), type := 3, pos := "ref.go:66", after := #[], guard := none } ::
        { dst := some 44, op := Op.move (Operand.tmp 0), type := 76, pos := "ref.go:66", after := #[], guard := none } ::
        { dst := some 45, op := Op.nilCheck (Operand.tmp 44), type := 0, pos := "ref.go:66", after := #[{ on := 5, ground := Ground.data }], guard := none } ::
        { dst := some 46, op := Op.fieldAddr 79 (Operand.tmp 45) 1, type := 0, pos := "ref.go:66", after := #[{ on := 6, ground := Ground.data }], guard := none } ::
        { dst := some 47, op := Op.load 70 (Operand.tmp 46), type := 70, pos := "ref.go:66", after := #[{ on := 7, ground := Ground.data }], guard := none } ::
        { dst := some 48, op := Op.move (Operand.tmp 8), type := 3, pos := "ref.go:66", after := #[], guard := none } ::
        { dst := some 49, op := Op.indexAddr 70 (Operand.tmp 47) (Operand.tmp 48), type := 0, pos := "ref.go:66", after := #[{ on := 8, ground := Ground.data }, { on := 9, ground := Ground.data }], guard := none } ::
        { dst := some 50, op := Op.load 52 (Operand.tmp 49), type := 52, pos := "ref.go:66", after := #[{ on := 10, ground := Ground.data }], guard := none } ::
        { dst := some 51, op := Op.slice 52 (Operand.tmp 50) (some (Operand.const (Value.int IntKind.i64 1))) none none, type := 52, pos := "ref.go:66", after := #[{ on := 11, ground := Ground.data }], guard := none } ::
        { dst := some 52, op := Op.indexAddr 70 (Operand.tmp 42) (Operand.tmp 43), type := 0, pos := "ref.go:66", after := #[{ on := 3, ground := Ground.data }, { on := 4, ground := Ground.data }, { on := 0, ground := Ground.phase }, { on := 1, ground := Ground.phase }, { on := 2, ground := Ground.phase }, { on := 3, ground := Ground.phase }, { on := 4, ground := Ground.phase }, { on := 5, ground := Ground.phase }, { on := 6, ground := Ground.phase }, { on := 7, ground := Ground.phase }, { on := 8, ground := Ground.phase }, { on := 9, ground := Ground.phase }, { on := 10, ground := Ground.phase }, { on := 11, ground := Ground.phase }, { on := 12, ground := Ground.phase }], guard := none } ::
        { dst := none, op := Op.store 52 (Operand.tmp 52) (Operand.tmp 51), type := 0, pos := "ref.go:66", after := #[{ on := 13, ground := Ground.data }, { on := 12, ground := Ground.data }, { on := 0, ground := Ground.phase }, { on := 1, ground := Ground.phase }, { on := 2, ground := Ground.phase }, { on := 3, ground := Ground.phase }, { on := 4, ground := Ground.phase }, { on := 5, ground := Ground.phase }, { on := 6, ground := Ground.phase }, { on := 7, ground := Ground.phase }, { on := 8, ground := Ground.phase }, { on := 9, ground := Ground.phase }, { on := 10, ground := Ground.phase }, { on := 11, ground := Ground.phase }, { on := 12, ground := Ground.phase }], guard := none } :: []))
      true) Q a w := by
  obtain ⟨vA, vcap, hvi, hc0⟩ := h.cellL hi
  have hd : RefAt w.drew D E R room n vs s := h.upd0 (Upd.refl (fun _ => False) _).drew
  have hown := hd.ns.own i hi
  rw [hvi] at hown
  have hpl' : s.ls.getD i [] = e :: l := hpl
  rw [hpl'] at hown
  have hlen : (s.pipe i).length = l.length + 1 := by rw [hpl]; rfl
  have htail : ∃ A4 cap4, OwnAt w.drew D 46 5 (.slice A4 l.length cap4) l.length (slotsVals l) ∧ (Value.slice A4 l.length cap4).ownBlock = (vs.getD i nilS).ownBlock ∧
      ∀ (a' : Act) (o : Oper) (x : Operand) (w' : World), o.op = .slice 52 x (some (.const (.int .i64 1))) none none → a'.eval x = .slice vA (s.pipe i).length vcap → (execOp a'.eval o).run Try.prog w' = .ok (.value (.slice A4 l.length cap4)) w' := by
    obtain ⟨g, off, cap, hv, hB, hcc, hff⟩ := hown.cells (by simp)
    injection hv with q1 q2 q3
    subst q1 q3
    have hfit : l.length + 1 ≤ vcap := by
      obtain ⟨_, ⟨hn, _⟩ | ⟨g', off', cap', cur, hv', _, _, hle, _⟩⟩ := hown
      · cases hn
      · injection hv' with _ _ q; subst q; exact hle
    rw [hlen]
    have hown' : OwnAt w.drew D 46 5 (.slice (some ⟨g, off, none⟩) (l.length + 1) vcap) (l.length + 1) (slotsVals (e :: l)) := by rw [hlen] at hown; exact hown
    have hdr : (slotsVals (e :: l)).drop 5 = slotsVals l := by
      have : slotsVals (e :: l) = e.cells ++ slotsVals l := rfl
      rw [this, List.drop_append_of_le_length (by rw [El.cells_length]; exact Nat.le_refl _)]
      simp [El.cells]
    by_cases h1 : vcap = 1
    · subst h1
      have ht := hown'.tail1
      rw [hdr] at ht
      exact ⟨_, _, ht, by rw [hvi]; rfl, fun a' o x w' ho hx => run_slice52_one a' o x w' g off l.length ho hx hfit⟩
    · have ht := hown'.tail2
      rw [hdr] at ht
      exact ⟨_, _, ht, by rw [hvi]; rfl, fun a' o x w' ho hx => run_slice52_more a' o x w' g off l.length vcap ho hx hfit h1⟩
  obtain ⟨A4, cap4, hO4, hob, hrun⟩ := htail
  refine wp_region_last 14 (S := fun w' => w'.cell? ⟨R.r, 1, none⟩ = some (.slice (some ⟨R.b, 0, none⟩) n n) ∧ w'.cell? ⟨R.b, i, none⟩ = some (.slice vA (s.pipe i).length vcap)) (by kernel_rfl) (by kernel_rfl) ⟨hd.cells.2.1, hc0⟩ (fun hHeld => ?_)
  refine wpAnyH_take (i := 0) (v := ptr R.r) rfl (by kernel_rfl) (by kernel_rfl) (by kernel_rfl) (fun _ _ _ h => h) (Or.inl ⟨rfl, fun w' hS => run_move46 _ _ _ _ rfl (by simp [Act.eval_put_eq, Act.eval_put_ne, Act.size_put, Act.eval_const, hs, h0, h8]) w'⟩) hHeld ?_
  refine wpAnyH_take (i := 1) (v := ptr R.r) rfl (by kernel_rfl) (by kernel_rfl) (by kernel_rfl) (fun _ _ _ h => h) (Or.inl ⟨rfl, fun w' hS => run_nilCheck _ _ _ w' R.r rfl (by simp [Act.eval_put_eq, Act.eval_put_ne, Act.size_put, Act.eval_const, hs, h0, h8])⟩) hHeld ?_
  refine wpAnyH_take (i := 2) (v := .pointer (some ⟨R.r, 1, none⟩)) rfl (by kernel_rfl) (by kernel_rfl) (by kernel_rfl) (fun _ _ _ h => h) (Or.inl ⟨rfl, fun w' hS => run_field79 _ _ _ w' R.r 1 (by decide) rfl (by simp [Act.eval_put_eq, Act.eval_put_ne, Act.size_put, Act.eval_const, hs, h0, h8])⟩) hHeld ?_
  refine wpAnyH_take (i := 3) (v := .slice (some ⟨R.b, 0, none⟩) n n) rfl (by kernel_rfl) (by kernel_rfl) (by kernel_rfl) (fun _ _ _ h => h) (Or.inl ⟨rfl, fun w' hS => run_load70 _ _ _ w' R.r 1 _ n n rfl (by simp [Act.eval_put_eq, Act.eval_put_ne, Act.size_put, Act.eval_const, hs, h0, h8]) hS.1⟩) hHeld ?_
  refine wpAnyH_take (i := 4) (v := .int .i64 i) rfl (by kernel_rfl) (by kernel_rfl) (by kernel_rfl) (fun _ _ _ h => h) (Or.inl ⟨rfl, fun w' hS => run_move46 _ _ _ _ rfl (by simp [Act.eval_put_eq, Act.eval_put_ne, Act.size_put, Act.eval_const, hs, h0, h8]) w'⟩) hHeld ?_
  refine wpAnyH_take (i := 5) (v := ptr R.r) rfl (by kernel_rfl) (by kernel_rfl) (by kernel_rfl) (fun _ _ _ h => h) (Or.inl ⟨rfl, fun w' hS => run_move46 _ _ _ _ rfl (by simp [Act.eval_put_eq, Act.eval_put_ne, Act.size_put, Act.eval_const, hs, h0, h8]) w'⟩) hHeld ?_
  refine wpAnyH_take (i := 6) (v := ptr R.r) rfl (by kernel_rfl) (by kernel_rfl) (by kernel_rfl) (fun _ _ _ h => h) (Or.inl ⟨rfl, fun w' hS => run_nilCheck _ _ _ w' R.r rfl (by simp [Act.eval_put_eq, Act.eval_put_ne, Act.size_put, Act.eval_const, hs, h0, h8])⟩) hHeld ?_
  refine wpAnyH_take (i := 7) (v := .pointer (some ⟨R.r, 1, none⟩)) rfl (by kernel_rfl) (by kernel_rfl) (by kernel_rfl) (fun _ _ _ h => h) (Or.inl ⟨rfl, fun w' hS => run_field79 _ _ _ w' R.r 1 (by decide) rfl (by simp [Act.eval_put_eq, Act.eval_put_ne, Act.size_put, Act.eval_const, hs, h0, h8])⟩) hHeld ?_
  refine wpAnyH_take (i := 8) (v := .slice (some ⟨R.b, 0, none⟩) n n) rfl (by kernel_rfl) (by kernel_rfl) (by kernel_rfl) (fun _ _ _ h => h) (Or.inl ⟨rfl, fun w' hS => run_load70 _ _ _ w' R.r 1 _ n n rfl (by simp [Act.eval_put_eq, Act.eval_put_ne, Act.size_put, Act.eval_const, hs, h0, h8]) hS.1⟩) hHeld ?_
  refine wpAnyH_take (i := 9) (v := .int .i64 i) rfl (by kernel_rfl) (by kernel_rfl) (by kernel_rfl) (fun _ _ _ h => h) (Or.inl ⟨rfl, fun w' hS => run_move46 _ _ _ _ rfl (by simp [Act.eval_put_eq, Act.eval_put_ne, Act.size_put, Act.eval_const, hs, h0, h8]) w'⟩) hHeld ?_
  refine wpAnyH_take (i := 10) (v := .pointer (some ⟨R.b, i, none⟩)) rfl (by kernel_rfl) (by kernel_rfl) (by kernel_rfl) (fun _ _ _ h => h) (Or.inl ⟨rfl, fun w' hS => run_index70 _ _ _ w' _ R.b n n i rfl (by simp [Act.eval_put_eq, Act.eval_put_ne, Act.size_put, Act.eval_const, hs, h0, h8]) (by simp [Act.eval_put_eq, Act.eval_put_ne, Act.size_put, Act.eval_const, hs, h0, h8]) hi⟩) hHeld ?_
  refine wpAnyH_take (i := 11) (v := .slice vA (s.pipe i).length vcap) rfl (by kernel_rfl) (by kernel_rfl) (by kernel_rfl) (fun _ _ _ h => h) (Or.inl ⟨rfl, fun w' hS => run_load52 _ _ _ w' R.b i vA (s.pipe i).length vcap rfl (by simp [Act.eval_put_eq, Act.eval_put_ne, Act.size_put, Act.eval_const, hs, h0, h8]) hS.2⟩) hHeld ?_
  refine wpAnyH_take (i := 12) (v := .slice A4 l.length cap4) rfl (by kernel_rfl) (by kernel_rfl) (by kernel_rfl) (fun _ _ _ h => h) (Or.inl ⟨rfl, fun w' hS => hrun _ _ _ w' rfl (by simp [Act.eval_put_eq, Act.eval_put_ne, Act.size_put, Act.eval_const, hs, h0, h8])⟩) hHeld ?_
  refine wpAnyH_take (i := 13) (v := .pointer (some ⟨R.b, i, none⟩)) rfl (by kernel_rfl) (by kernel_rfl) (by kernel_rfl) (fun _ _ _ h => h) (Or.inl ⟨rfl, fun w' hS => run_index70 _ _ _ w' _ R.b n n i rfl (by simp [Act.eval_put_eq, Act.eval_put_ne, Act.size_put, Act.eval_const, hs, h0, h8]) (by simp [Act.eval_put_eq, Act.eval_put_ne, Act.size_put, Act.eval_const, hs, h0, h8]) hi⟩) hHeld ?_
  obtain ⟨f0, hf0⟩ : ∃ f0, ((((((((((((((a.put (some 39) (ptr R.r)).put (some 40) (ptr R.r)).put (some 41) (.pointer (some ⟨R.r, 1, none⟩))).put (some 42) (.slice (some ⟨R.b, 0, none⟩) n n)).put (some 43) (.int .i64 i)).put (some 44) (ptr R.r)).put (some 45) (ptr R.r)).put (some 46) (.pointer (some ⟨R.r, 1, none⟩))).put (some 47) (.slice (some ⟨R.b, 0, none⟩) n n)).put (some 48) (.int .i64 i)).put (some 49) (.pointer (some ⟨R.b, i, none⟩))).put (some 50) (.slice vA (s.pipe i).length vcap)).put (some 51) (.slice A4 l.length cap4)).put (some 52) (.pointer (some ⟨R.b, i, none⟩))) = f0 := ⟨_, rfl⟩
  have hQ' := hQ vA vcap A4 cap4
  clear hQ
  rw [hf0] at hQ'
  have q52 : f0.eval (.tmp 52) = .pointer (some ⟨R.b, i, none⟩) := by rw [← hf0]; simp [Act.eval_put_eq, Act.eval_put_ne, Act.size_put, hs]
  have q51 : f0.eval (.tmp 51) = .slice A4 l.length cap4 := by rw [← hf0]; simp [Act.eval_put_eq, Act.eval_put_ne, Act.size_put, hs]
  change wpAnyH Try.prog .any _ _ _ _ _ ((((((((((((((a.put (some 39) (ptr R.r)).put (some 40) (ptr R.r)).put (some 41) (.pointer (some ⟨R.r, 1, none⟩))).put (some 42) (.slice (some ⟨R.b, 0, none⟩) n n)).put (some 43) (.int .i64 i)).put (some 44) (ptr R.r)).put (some 45) (ptr R.r)).put (some 46) (.pointer (some ⟨R.r, 1, none⟩))).put (some 47) (.slice (some ⟨R.b, 0, none⟩) n n)).put (some 48) (.int .i64 i)).put (some 49) (.pointer (some ⟨R.b, i, none⟩))).put (some 50) (.slice vA (s.pipe i).length vcap)).put (some 51) (.slice A4 l.length cap4)).put (some 52) (.pointer (some ⟨R.b, i, none⟩))) _
  rw [hf0]
  refine wpAnyH_done (by kernel_rfl) ?_ _
  refine atLast_normal (wpOp_step rfl (fun K hK => ?_))
  rw [if_pos (by rfl)]
  refine wp_store52 _ _ _ _ _ R.b i A4 l.length cap4 _ rfl q52 q51 hc0 (free_of (w := w.drew) hd.ns.hb i) ?_
  refine hK _ _ ?_
  change Q .normal f0 _
  obtain ⟨hX, _⟩ := hd.row hi (w1 := w.drew) (E' := E) hO4 (Upd.refl _ _) (.inl hob) (Nat.le_refl _) hd.hE (fun j hj => hd.eo i j hi (by rw [← hob]; exact hj))
  exact hQ' _ hX (Upd.setCell (S := fun k => k = R.b) (p := ⟨R.b, i, none⟩) ((Upd.refl _ w).drew) (fun _ => rfl) _)

set_option maxRecDepth 100000 in
set_option maxHeartbeats 1600000 in
theorem region47_12 {Q : Exit → Act → World → Prop} {a : Act} {w : World} {D E : Nat} {R : RLoc} {room n : Nat} {vs : List Value} {s : GS} (h : RefAt w D E R room n vs s) (o i : Nat) (at_ : Int) (hi : i < n) (ho : w.cell? ⟨o, 4, none⟩ = some (.int .i64 at_))
    (hs : a.tmps.size = 175) (h0 : a.eval (.tmp 0) = ptr R.r) (h8 : a.eval (.tmp 8) = .int .i64 i) (h9 : a.eval (.tmp 9) = .pointer (some ⟨o, 0, none⟩))
    (hQ : ∀ z w', RefAt w' D E R room n vs (s.setMs (raiseL s.ms i at_)) → Upd (fun k => k = R.m) w w' → Q .normal ((((((((((((((((a.put (some 66) (ptr R.r)).put (some 67) (ptr R.r)).put (some 68) (.pointer (some ⟨R.r, 2, none⟩))).put (some 69) (.slice (some ⟨R.m, 0, none⟩) n n)).put (some 70) (.int .i64 i)).put (some 71) (ptr R.r)).put (some 72) (ptr R.r)).put (some 73) (.pointer (some ⟨R.r, 2, none⟩))).put (some 74) (.slice (some ⟨R.m, 0, none⟩) n n)).put (some 75) (.int .i64 i)).put (some 76) (.pointer (some ⟨R.m, i, none⟩))).put (some 77) (.int .i64 (s.ms.getD i 0))).put (some 78) (.pointer (some ⟨o, 4, none⟩))).put (some 79) (.int .i64 at_)).put (some 80) (.int .i64 z)).put (some 81) (.pointer (some ⟨R.m, i, none⟩))) w') :
    Code.wp Try.prog (Code.region 12 (List.toArray ({ dst := some 66, op := Op.move (Operand.tmp 0), type := 76, pos := "ref.go:72", after := #[], guard := none } ::
        { dst := some 67, op := Op.nilCheck (Operand.tmp 66), type := 0, pos := "ref.go:72", after := #[{ on := 0, ground := Ground.data }], guard := none } ::
        { dst := some 68, op := Op.fieldAddr 79 (Operand.tmp 67) 2, type := 0, pos := "ref.go:72", after := #[{ on := 1, ground := Ground.data }], guard := none } ::
        { dst := some 69, op := Op.load 30 (Operand.tmp 68), type := 30, pos := "ref.go:72", after := #[{ on := 2, ground := Ground.data }], guard := none } ::
        { dst := some 70, op := Op.move (Operand.tmp 8), type := 3, pos := "ref.go:72", after := #[], guard := none } ::
        { dst := some 71, op := Op.move (Operand.tmp 0), type := 76, pos := "ref.go:72", after := #[], guard := none } ::
        { dst := some 72, op := Op.nilCheck (Operand.tmp 71), type := 0, pos := "ref.go:72", after := #[{ on := 5, ground := Ground.data }], guard := none } ::
        { dst := some 73, op := Op.fieldAddr 79 (Operand.tmp 72) 2, type := 0, pos := "ref.go:72", after := #[{ on := 6, ground := Ground.data }], guard := none } ::
        { dst := some 74, op := Op.load 30 (Operand.tmp 73), type := 30, pos := "ref.go:72", after := #[{ on := 7, ground := Ground.data }], guard := none } ::
        { dst := some 75, op := Op.move (Operand.tmp 8), type := 3, pos := "ref.go:72", after := #[], guard := none } ::
        { dst := some 76, op := Op.indexAddr 30 (Operand.tmp 74) (Operand.tmp 75), type := 0, pos := "ref.go:72", after := #[{ on := 8, ground := Ground.data }, { on := 9, ground := Ground.data }], guard := none } ::
        { dst := some 77, op := Op.load 3 (Operand.tmp 76), type := 3, pos := "ref.go:72", after := #[{ on := 10, ground := Ground.data }], guard := none } ::
        { dst := some 78, op := Op.fieldAddr 46 (Operand.tmp 9) 2, type := 0, pos := "ref.go:72", after := #[], guard := none } ::
        { dst := some 79, op := Op.load 3 (Operand.tmp 78), type := 3, pos := "ref.go:72", after := #[{ on := 12, ground := Ground.data }], guard := none } ::
        { dst := some 80, op := Op.call { callee := Callee.builtin Builtin.max, args := #[Operand.tmp 77, Operand.tmp 79], argTypes := #[3, 3] }, type := 3, pos := "ref.go:72", after := #[{ on := 11, ground := Ground.data }, { on := 13, ground := Ground.data }], guard := none } ::
        { dst := some 81, op := Op.indexAddr 30 (Operand.tmp 69) (Operand.tmp 70), type := 0, pos := "ref.go:72", after := #[{ on := 3, ground := Ground.data }, { on := 4, ground := Ground.data }, { on := 0, ground := Ground.phase }, { on := 1, ground := Ground.phase }, { on := 2, ground := Ground.phase }, { on := 3, ground := Ground.phase }, { on := 4, ground := Ground.phase }, { on := 5, ground := Ground.phase }, { on := 6, ground := Ground.phase }, { on := 7, ground := Ground.phase }, { on := 8, ground := Ground.phase }, { on := 9, ground := Ground.phase }, { on := 10, ground := Ground.phase }, { on := 11, ground := Ground.phase }, { on := 12, ground := Ground.phase }, { on := 13, ground := Ground.phase }, { on := 14, ground := Ground.phase }], guard := none } ::
        { dst := none, op := Op.store 3 (Operand.tmp 81) (Operand.tmp 80), type := 0, pos := "ref.go:72", after := #[{ on := 15, ground := Ground.data }, { on := 14, ground := Ground.data }, { on := 0, ground := Ground.phase }, { on := 1, ground := Ground.phase }, { on := 2, ground := Ground.phase }, { on := 3, ground := Ground.phase }, { on := 4, ground := Ground.phase }, { on := 5, ground := Ground.phase }, { on := 6, ground := Ground.phase }, { on := 7, ground := Ground.phase }, { on := 8, ground := Ground.phase }, { on := 9, ground := Ground.phase }, { on := 10, ground := Ground.phase }, { on := 11, ground := Ground.phase }, { on := 12, ground := Ground.phase }, { on := 13, ground := Ground.phase }, { on := 14, ground := Ground.phase }], guard := none } :: []))
      true) Q a w := by
  have hd : RefAt w.drew D E R room n vs s := h.upd0 (Upd.refl (fun _ => False) _).drew
  obtain ⟨z, hz⟩ : ∃ z, (if s.ms.getD i 0 < at_ then at_ else s.ms.getD i 0) = z := ⟨_, rfl⟩
  replace hQ := hQ z
  refine wp_region_last 16 (S := fun w' => w'.cell? ⟨R.r, 2, none⟩ = some (.slice (some ⟨R.m, 0, none⟩) n n) ∧ w'.cell? ⟨R.m, i, none⟩ = some (.int .i64 (s.ms.getD i 0)) ∧ w'.cell? ⟨o, 4, none⟩ = some (.int .i64 at_)) (by kernel_rfl) (by kernel_rfl) ⟨hd.cells.2.2.1, hd.cellM hi, ho⟩ (fun hHeld => ?_)
  refine wpAnyH_take (i := 0) (v := ptr R.r) rfl (by kernel_rfl) (by kernel_rfl) (by kernel_rfl) (fun _ _ _ h => h) (Or.inl ⟨rfl, fun w' hS => run_move46 _ _ _ _ rfl (by simp [Act.eval_put_eq, Act.eval_put_ne, Act.size_put, Act.eval_const, hs, h0, h8, h9]) w'⟩) hHeld ?_
  refine wpAnyH_take (i := 1) (v := ptr R.r) rfl (by kernel_rfl) (by kernel_rfl) (by kernel_rfl) (fun _ _ _ h => h) (Or.inl ⟨rfl, fun w' hS => run_nilCheck _ _ _ w' R.r rfl (by simp [Act.eval_put_eq, Act.eval_put_ne, Act.size_put, Act.eval_const, hs, h0, h8, h9])⟩) hHeld ?_
  refine wpAnyH_take (i := 2) (v := .pointer (some ⟨R.r, 2, none⟩)) rfl (by kernel_rfl) (by kernel_rfl) (by kernel_rfl) (fun _ _ _ h => h) (Or.inl ⟨rfl, fun w' hS => run_field79 _ _ _ w' R.r 2 (by decide) rfl (by simp [Act.eval_put_eq, Act.eval_put_ne, Act.size_put, Act.eval_const, hs, h0, h8, h9])⟩) hHeld ?_
  refine wpAnyH_take (i := 3) (v := .slice (some ⟨R.m, 0, none⟩) n n) rfl (by kernel_rfl) (by kernel_rfl) (by kernel_rfl) (fun _ _ _ h => h) (Or.inl ⟨rfl, fun w' hS => run_load30 _ _ _ w' R.r 2 _ n n rfl (by simp [Act.eval_put_eq, Act.eval_put_ne, Act.size_put, Act.eval_const, hs, h0, h8, h9]) hS.1⟩) hHeld ?_
  refine wpAnyH_take (i := 4) (v := .int .i64 i) rfl (by kernel_rfl) (by kernel_rfl) (by kernel_rfl) (fun _ _ _ h => h) (Or.inl ⟨rfl, fun w' hS => run_move46 _ _ _ _ rfl (by simp [Act.eval_put_eq, Act.eval_put_ne, Act.size_put, Act.eval_const, hs, h0, h8, h9]) w'⟩) hHeld ?_
  refine wpAnyH_take (i := 5) (v := ptr R.r) rfl (by kernel_rfl) (by kernel_rfl) (by kernel_rfl) (fun _ _ _ h => h) (Or.inl ⟨rfl, fun w' hS => run_move46 _ _ _ _ rfl (by simp [Act.eval_put_eq, Act.eval_put_ne, Act.size_put, Act.eval_const, hs, h0, h8, h9]) w'⟩) hHeld ?_
  refine wpAnyH_take (i := 6) (v := ptr R.r) rfl (by kernel_rfl) (by kernel_rfl) (by kernel_rfl) (fun _ _ _ h => h) (Or.inl ⟨rfl, fun w' hS => run_nilCheck _ _ _ w' R.r rfl (by simp [Act.eval_put_eq, Act.eval_put_ne, Act.size_put, Act.eval_const, hs, h0, h8, h9])⟩) hHeld ?_
  refine wpAnyH_take (i := 7) (v := .pointer (some ⟨R.r, 2, none⟩)) rfl (by kernel_rfl) (by kernel_rfl) (by kernel_rfl) (fun _ _ _ h => h) (Or.inl ⟨rfl, fun w' hS => run_field79 _ _ _ w' R.r 2 (by decide) rfl (by simp [Act.eval_put_eq, Act.eval_put_ne, Act.size_put, Act.eval_const, hs, h0, h8, h9])⟩) hHeld ?_
  refine wpAnyH_take (i := 8) (v := .slice (some ⟨R.m, 0, none⟩) n n) rfl (by kernel_rfl) (by kernel_rfl) (by kernel_rfl) (fun _ _ _ h => h) (Or.inl ⟨rfl, fun w' hS => run_load30 _ _ _ w' R.r 2 _ n n rfl (by simp [Act.eval_put_eq, Act.eval_put_ne, Act.size_put, Act.eval_const, hs, h0, h8, h9]) hS.1⟩) hHeld ?_
  refine wpAnyH_take (i := 9) (v := .int .i64 i) rfl (by kernel_rfl) (by kernel_rfl) (by kernel_rfl) (fun _ _ _ h => h) (Or.inl ⟨rfl, fun w' hS => run_move46 _ _ _ _ rfl (by simp [Act.eval_put_eq, Act.eval_put_ne, Act.size_put, Act.eval_const, hs, h0, h8, h9]) w'⟩) hHeld ?_
  refine wpAnyH_take (i := 10) (v := .pointer (some ⟨R.m, i, none⟩)) rfl (by kernel_rfl) (by kernel_rfl) (by kernel_rfl) (fun _ _ _ h => h) (Or.inl ⟨rfl, fun w' hS => run_index30 _ _ _ w' _ R.m n n i rfl (by simp [Act.eval_put_eq, Act.eval_put_ne, Act.size_put, Act.eval_const, hs, h0, h8, h9]) (by simp [Act.eval_put_eq, Act.eval_put_ne, Act.size_put, Act.eval_const, hs, h0, h8, h9]) hi⟩) hHeld ?_
  refine wpAnyH_take (i := 11) (v := .int .i64 (s.ms.getD i 0)) rfl (by kernel_rfl) (by kernel_rfl) (by kernel_rfl) (fun _ _ _ h => h) (Or.inl ⟨rfl, fun w' hS => run_load3 _ _ _ w' R.m i (s.ms.getD i 0) rfl (by simp [Act.eval_put_eq, Act.eval_put_ne, Act.size_put, Act.eval_const, hs, h0, h8, h9]) hS.2.1⟩) hHeld ?_
  refine wpAnyH_take (i := 12) (v := .pointer (some ⟨o, 4, none⟩)) rfl (by kernel_rfl) (by kernel_rfl) (by kernel_rfl) (fun _ _ _ h => h) (Or.inl ⟨rfl, fun w' hS => run_field46_2 _ _ _ w' o rfl (by simp [Act.eval_put_eq, Act.eval_put_ne, Act.size_put, Act.eval_const, hs, h0, h8, h9])⟩) hHeld ?_
  refine wpAnyH_take (i := 13) (v := .int .i64 at_) rfl (by kernel_rfl) (by kernel_rfl) (by kernel_rfl) (fun _ _ _ h => h) (Or.inl ⟨rfl, fun w' hS => run_load3 _ _ _ w' o 4 at_ rfl (by simp [Act.eval_put_eq, Act.eval_put_ne, Act.size_put, Act.eval_const, hs, h0, h8, h9]) hS.2.2⟩) hHeld ?_
  refine wpAnyH_take (i := 14) (v := .int .i64 z) rfl (by kernel_rfl) (by kernel_rfl) (by kernel_rfl) (fun _ _ _ h => h) (Or.inl ⟨rfl, fun w' hS => run_max _ _ _ w' _ (s.ms.getD i 0) at_ z hz rfl (by simp [Act.eval_put_eq, Act.eval_put_ne, Act.size_put, Act.eval_const, hs, h0, h8, h9]) (by simp [Act.eval_put_eq, Act.eval_put_ne, Act.size_put, Act.eval_const, hs, h0, h8, h9])⟩) hHeld ?_
  refine wpAnyH_take (i := 15) (v := .pointer (some ⟨R.m, i, none⟩)) rfl (by kernel_rfl) (by kernel_rfl) (by kernel_rfl) (fun _ _ _ h => h) (Or.inl ⟨rfl, fun w' hS => run_index30 _ _ _ w' _ R.m n n i rfl (by simp [Act.eval_put_eq, Act.eval_put_ne, Act.size_put, Act.eval_const, hs, h0, h8, h9]) (by simp [Act.eval_put_eq, Act.eval_put_ne, Act.size_put, Act.eval_const, hs, h0, h8, h9]) hi⟩) hHeld ?_
  obtain ⟨f0, hf0⟩ : ∃ f0, ((((((((((((((((a.put (some 66) (ptr R.r)).put (some 67) (ptr R.r)).put (some 68) (.pointer (some ⟨R.r, 2, none⟩))).put (some 69) (.slice (some ⟨R.m, 0, none⟩) n n)).put (some 70) (.int .i64 i)).put (some 71) (ptr R.r)).put (some 72) (ptr R.r)).put (some 73) (.pointer (some ⟨R.r, 2, none⟩))).put (some 74) (.slice (some ⟨R.m, 0, none⟩) n n)).put (some 75) (.int .i64 i)).put (some 76) (.pointer (some ⟨R.m, i, none⟩))).put (some 77) (.int .i64 (s.ms.getD i 0))).put (some 78) (.pointer (some ⟨o, 4, none⟩))).put (some 79) (.int .i64 at_)).put (some 80) (.int .i64 z)).put (some 81) (.pointer (some ⟨R.m, i, none⟩))) = f0 := ⟨_, rfl⟩
  rw [hf0] at hQ
  have q81 : f0.eval (.tmp 81) = .pointer (some ⟨R.m, i, none⟩) := by rw [← hf0]; simp [Act.eval_put_eq, Act.eval_put_ne, Act.size_put, hs]
  have q80 : f0.eval (.tmp 80) = .int .i64 z := by rw [← hf0]; simp [Act.eval_put_eq, Act.eval_put_ne, Act.size_put, hs]
  change wpAnyH Try.prog .any _ _ _ _ _ ((((((((((((((((a.put (some 66) (ptr R.r)).put (some 67) (ptr R.r)).put (some 68) (.pointer (some ⟨R.r, 2, none⟩))).put (some 69) (.slice (some ⟨R.m, 0, none⟩) n n)).put (some 70) (.int .i64 i)).put (some 71) (ptr R.r)).put (some 72) (ptr R.r)).put (some 73) (.pointer (some ⟨R.r, 2, none⟩))).put (some 74) (.slice (some ⟨R.m, 0, none⟩) n n)).put (some 75) (.int .i64 i)).put (some 76) (.pointer (some ⟨R.m, i, none⟩))).put (some 77) (.int .i64 (s.ms.getD i 0))).put (some 78) (.pointer (some ⟨o, 4, none⟩))).put (some 79) (.int .i64 at_)).put (some 80) (.int .i64 z)).put (some 81) (.pointer (some ⟨R.m, i, none⟩))) _
  rw [hf0]
  refine wpAnyH_done (by kernel_rfl) ?_ _
  refine atLast_normal (wpOp_step rfl (fun K hK => ?_))
  rw [if_pos (by rfl)]
  refine wp_store3 _ _ _ _ _ R.m i _ _ rfl q81 q80 (hd.cellM hi) (free_of (w := w.drew) hd.hm i) ?_
  refine hK _ _ ?_
  change Q .normal f0 _
  have hX := hd.setM i z
  rw [← hz, raiseL_set _ _ _ (by rw [h.ln.ms]; exact hi), hz] at hX
  exact hQ _ hX (Upd.setCell (S := fun k => k = R.m) (p := ⟨R.m, i, none⟩) ((Upd.refl _ w).drew) (fun _ => rfl) _)
end Go.Proofs.Ytijkcahdegohiaa
