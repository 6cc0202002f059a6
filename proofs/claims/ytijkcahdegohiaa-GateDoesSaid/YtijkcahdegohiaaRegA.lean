/-
  GateAll's one region that draws its order: 'x == bar(b+1)' (a load beside a call that allocates), on its own.
-/
import Derived.Test.YtijkcahdegohiaaPlainA
import Derived.Deep.RegionHeld3
namespace Go.Proofs.Ytijkcahdegohiaa
open Go.RowKit
attribute [local go_sem ↓] Go.wp_at_zero Go.wp_at_succ

theorem Act.eval_put_eq (a : Act) (d : Nat) (v : Value) (h : d < a.tmps.size) : (a.put (some d) v).eval (.tmp d) = v := by
  simp [Act.put, Act.eval, Array.getD_eq_getD_getElem?, h]
theorem Act.eval_put_ne (a : Act) (d t : Nat) (v : Value) (h : d ≠ t) : (a.put (some d) v).eval (.tmp t) = a.eval (.tmp t) := by
  simp [Act.put, Act.eval, Array.getD_eq_getD_getElem?, h]
theorem Act.size_put (a : Act) (d : Nat) (v : Value) : (a.put (some d) v).tmps.size = a.tmps.size := by simp [Act.put]

def Five (b : Nat) (e : El) (w' : World) : Prop := w'.cell? ⟨b, 0, none⟩ = some (.int .i64 e.kind) ∧ w'.cell? ⟨b, 1, none⟩ = some (.string e.key) ∧ w'.cell? ⟨b, 2, none⟩ = some (.int .i64 e.time)
      ∧ w'.cell? ⟨b, 3, none⟩ = some (.int .i64 e.value) ∧ w'.cell? ⟨b, 4, none⟩ = some (.int .i64 e.at_)

set_option maxRecDepth 100000 in
theorem load46 (a : Act) (o : Oper) (x : Operand) (b : Nat) (e : El) (ho : o.op = .load 46 x) (hx : a.eval x = .pointer (some ⟨b, 0, none⟩)) (w : World) (h : Five b e w) :
    (execOp a.eval o).run Try.prog w = .ok (.value e.val) w := by
  obtain ⟨h0, h1, h2, h3, h4⟩ := h
  unfold execOp
  simp only [ho, hx]
  clear hx ho
  go_simp

theorem run_move46 (a : Act) (o : Oper) (x : Operand) (v : Value) (ho : o.op = .move x) (hx : a.eval x = v) (w : World) :
    (execOp a.eval o).run Try.prog w = .ok (.value v) w := by
  unfold execOp; simp only [ho, hx]; rfl
theorem run_assign46 (a : Act) (o : Oper) (x : Operand) (v : Value) (ho : o.op = .assign x) (hx : a.eval x = v) (w : World) :
    (execOp a.eval o).run Try.prog w = .ok (.value v) w := by
  unfold execOp; simp only [ho, hx]; rfl
theorem run_inc46 (a : Act) (o : Oper) (x : Operand) (n : Int) (ho : o.op = .binOp .add 3 x (.const (.int .i64 1)) 3) (hx : a.eval x = .int .i64 n) (hn0 : -1000000 ≤ n) (hn1 : n ≤ 1000000) (w : World) :
    (execOp a.eval o).run Try.prog w = .ok (.value (.int .i64 (n + 1))) w := by
  have hc : a.eval (.const (.int .i64 1)) = .int .i64 1 := rfl
  unfold execOp; simp only [ho, hx, hc]; clear hx ho hc; go_simp; (simp [IntKind.wrap, IntKind.bits, IntKind.signed]; omega)
theorem run_eql46 (a : Act) (o : Oper) (x y : Operand) (e : El) (m : Int) (r : Bool) (ho : o.op = .binOp .eql 46 x y 46) (hx : a.eval x = e.val) (hy : a.eval y = El.val ⟨3, ⟨#[]⟩, 0, 0, m⟩)
    (hr : (e.kind ≠ 3 ∧ r = false) ∨ (e = ⟨3, ⟨#[]⟩, 0, 0, m⟩ ∧ r = true)) (w : World) :
    (execOp a.eval o).run Try.prog w = .ok (.value (.bool r)) w := by
  unfold execOp; simp only [ho, hx, hy]; clear hx hy ho
  rcases hr with ⟨hk, rfl⟩ | ⟨rfl, rfl⟩
  · go_simp
  · go_simp
theorem wp_call38 {K : Act → World → Prop} {Q : Exit → Act → World → Prop} (a : Act) (o : Oper) (x : Operand) (n : Int) (ho : o.op = .call { callee := .value (.func 38), args := #[x], argTypes := #[3] }) (hx : a.eval x = .int .i64 n) (w : World)
    (h : ∀ w3, Upd (fun _ => False) w w3 → K (a.put o.dst (El.val ⟨3, ⟨#[]⟩, 0, 0, n⟩)) w3) : o.wp Try.prog a w K Q := by
  unfold Oper.wp execOp
  simp only [ho, resolve, invoke, Sem.run_bind, List.map_toArray, List.map_cons, List.map_nil, hx]
  have hf : a.eval (.func 38) = .func (.func 38) #[] #[] := rfl
  simp only [hf]
  clear hx hf
  have H := Lib.hid h
  clear h
  go_simp
  refine (c38 n w).mono ?_
  rintro z w3 ⟨rfl, hU⟩
  exact H.out w3 hU
set_option maxRecDepth 100000 in
theorem region36 {Q : Exit → Act → World → Prop} {a : Act} {w : World} (b : Nat) (e : El) (n : Int) (hs : a.tmps.size = 132) (h17 : a.eval (.tmp 17) = .pointer (some ⟨b, 0, none⟩)) (h10 : a.eval (.tmp 10) = .int .i64 n)
    (hn0 : -1000000 ≤ n) (hn1 : n ≤ 1000000) (hw : w.heap[b]? = some e.obj) (r : Bool)
    (hr : (e.kind ≠ 3 ∧ r = false) ∨ (e = ⟨3, ⟨#[]⟩, 0, 0, n + 1⟩ ∧ r = true))
    (hQ : ∀ w3, Upd (fun _ => False) w.drew w3 → Q .normal ((((((a.put (some 124) e.val).put (some 125) (.int .i64 n)).put (some 126) (.int .i64 (n + 1))).put (some 127) (El.val ⟨3, ⟨#[]⟩, 0, 0, n + 1⟩)).put (some 128) (.bool r)).put (some 15) (.bool r)) w3) :
    Code.wp Try.prog (Code.region 36
      #[{ dst := some 124, op := Op.load 46 (Operand.tmp 17), type := 46, pos := "law.go:210", after := #[],
          guard := none },
        { dst := some 125, op := Op.move (Operand.tmp 10), type := 3, pos := "law.go:210", after := #[],
          guard := none },
        { dst := some 126, op := Op.binOp BinOp.add 3 (Operand.tmp 125) (Operand.const (Value.int IntKind.i64 1)) 3,
          type := 3, pos := "law.go:210", after := #[{ on := 1, ground := Ground.data }], guard := none },
        { dst := some 127,
          op := Op.call { callee := Callee.value (Operand.func 38), args := #[Operand.tmp 126], argTypes := #[3] },
          type := 46, pos := "law.go:210", after := #[{ on := 2, ground := Ground.data }], guard := none },
        { dst := some 128, op := Op.binOp BinOp.eql 46 (Operand.tmp 124) (Operand.tmp 127) 46, type := 4,
          pos := "law.go:210", after := #[{ on := 0, ground := Ground.data }, { on := 3, ground := Ground.data }],
          guard := none },
        { dst := some 15, op := Op.assign (Operand.tmp 128), type := 4, pos := "law.go:210",
          after :=
            #[{ on := 4, ground := Ground.data }, { on := 3, ground := Ground.chain },
              { on := 0, ground := Ground.phase }, { on := 1, ground := Ground.phase },
              { on := 2, ground := Ground.phase }, { on := 3, ground := Ground.phase },
              { on := 4, ground := Ground.phase }],
          guard := none }]
      true) Q a w := by
  refine wp_region_noPanic ?_
  refine wp_region_held_drew (S := Five b e) (by kernel_rfl) (El.box_cells (w := w.drew) hw) (fun hHeld => ?_)
  refine wpAnyH_take (i := 0) (v := e.val) rfl (by kernel_rfl) (by kernel_rfl) (by kernel_rfl) (fun _ _ _ h => h) (Or.inl ⟨rfl, fun w' hS => load46 a _ _ b e rfl h17 w' hS⟩) hHeld ?_
  have q10 : (a.put (some 124) e.val).eval (.tmp 10) = .int .i64 n := by rw [Act.eval_put_ne _ _ _ _ (by decide)]; exact h10
  refine wpAnyH_take (i := 1) (v := .int .i64 n) rfl (by kernel_rfl) (by kernel_rfl) (by kernel_rfl) (fun _ _ _ h => h) (Or.inl ⟨rfl, fun w' hS => run_move46 _ _ _ _ rfl q10 w'⟩) hHeld ?_
  have q125 : ((a.put (some 124) e.val).put (some 125) (.int .i64 n)).eval (.tmp 125) = .int .i64 n := Act.eval_put_eq _ _ _ (by rw [Act.size_put, hs]; omega)
  refine wpAnyH_take (i := 2) (v := .int .i64 (n + 1)) rfl (by kernel_rfl) (by kernel_rfl) (by kernel_rfl) (fun _ _ _ h => h) (Or.inl ⟨rfl, fun w' hS => run_inc46 _ _ _ _ rfl q125 hn0 hn1 w'⟩) hHeld ?_
  refine wpAnyH_ready (rs := [3]) (by kernel_rfl) (by simp) ?_
  refine AllReadyH.cons rfl (fun K hK => ?_) AllReadyH.nil
  have q126 : (((a.put (some 124) e.val).put (some 125) (.int .i64 n)).put (some 126) (.int .i64 (n + 1))).eval (.tmp 126) = .int .i64 (n + 1) := Act.eval_put_eq _ _ _ (by rw [Act.size_put, Act.size_put, hs]; omega)
  obtain ⟨a3, ha3⟩ : ∃ a3, ((a.put (some 124) e.val).put (some 125) (.int .i64 n)).put (some 126) (.int .i64 (n + 1)) = a3 := ⟨_, rfl⟩
  change Shut (∀ a w, _ → (_ → wpAnyH _ _ _ _ _ _ _ _ _) → K a w) at hK
  change if _ then Oper.wp Try.prog _ (((a.put (some 124) e.val).put (some 125) (.int .i64 n)).put (some 126) (.int .i64 (n + 1))) _ _ _ else _
  rw [ha3] at q126 ⊢
  rw [if_pos (by rfl)]
  refine wp_call38 a3 _ _ _ rfl q126 _ fun w3 hU => ?_
  have hS3 : Five b e w3 := El.box_cells (hU.at (a := w.drew) hw (fun h => h))
  refine hK _ _ hS3 (fun hHeld3 => ?_)
  have hs3 : a3.tmps.size = 132 := by rw [← ha3, Act.size_put, Act.size_put, Act.size_put]; exact hs
  have q124 : (a3.put (some 127) (El.val ⟨3, ⟨#[]⟩, 0, 0, n + 1⟩)).eval (.tmp 124) = e.val := by
    rw [Act.eval_put_ne _ _ _ _ (by decide), ← ha3, Act.eval_put_ne _ _ _ _ (by decide), Act.eval_put_ne _ _ _ _ (by decide)]
    exact Act.eval_put_eq _ _ _ (by rw [hs]; omega)
  have q127 : (a3.put (some 127) (El.val ⟨3, ⟨#[]⟩, 0, 0, n + 1⟩)).eval (.tmp 127) = El.val ⟨3, ⟨#[]⟩, 0, 0, n + 1⟩ := Act.eval_put_eq _ _ _ (by rw [hs3]; omega)
  refine wpAnyH_take (i := 4) (v := .bool r) rfl (by kernel_rfl) (by kernel_rfl) (by kernel_rfl) (fun _ _ _ h => h) (Or.inl ⟨rfl, fun w' hS => run_eql46 _ _ _ _ e (n + 1) r rfl q124 q127 hr w'⟩) hHeld3 ?_
  have q128 : ((a3.put (some 127) (El.val ⟨3, ⟨#[]⟩, 0, 0, n + 1⟩)).put (some 128) (.bool r)).eval (.tmp 128) = .bool r := Act.eval_put_eq _ _ _ (by rw [Act.size_put, hs3]; omega)
  refine wpAnyH_take (i := 5) (v := .bool r) rfl (by kernel_rfl) (by kernel_rfl) (by kernel_rfl) (fun _ _ _ h => h) (Or.inl ⟨rfl, fun w' hS => run_assign46 _ _ _ _ rfl q128 w'⟩) hHeld3 ?_
  refine wpAnyH_done (by kernel_rfl) ?_ _
  refine NoPanic.normal ?_
  subst ha3
  exact hQ w3 hU
end Go.Proofs.Ytijkcahdegohiaa
