/-
  GateCuts' memory: the gate, the histories, how many were told; what each step makes of it.
-/
import Derived.Test.YtijkcahdegohiaaPlainC
namespace Go.Proofs.Ytijkcahdegohiaa
open Go.RowKit

/-- A call of a script, in a block of its own. -/
abbrev opObj (k i : Int) (e : El) : Obj := .cells #[.int .i64 k, .int .i64 i, .int .i64 e.kind, .string e.key, .int .i64 e.time, .int .i64 e.value, .int .i64 e.at_] 72 (0, 0)
theorem op_box (w : World) (k i : Int) (e : El) : (w.alloc (opObj k i e)).heap[w.heap.size]? = some (opObj k i e) := by rw [heapK_alloc, if_pos rfl]
theorem op_cells {w : World} {b : Nat} {k i : Int} {e : El} (h : w.heap[b]? = some (opObj k i e)) :
    w.cell? ⟨b, 0, none⟩ = some (.int .i64 k) ∧ w.cell? ⟨b, 1, none⟩ = some (.int .i64 i) ∧ w.cell? ⟨b, 2, none⟩ = some (.int .i64 e.kind) ∧ w.cell? ⟨b, 3, none⟩ = some (.string e.key) ∧ w.cell? ⟨b, 4, none⟩ = some (.int .i64 e.time)
      ∧ w.cell? ⟨b, 5, none⟩ = some (.int .i64 e.value) ∧ w.cell? ⟨b, 6, none⟩ = some (.int .i64 e.at_) :=
  ⟨cell_of h 0 _ rfl, cell_of h 1 _ rfl, cell_of h 2 _ rfl, cell_of h 3 _ rfl, cell_of h 4 _ rfl, cell_of h 5 _ rfl, cell_of h 6 _ rfl⟩

structure CutMem (w wr : World) (C : Nat) (L : Loc) (room n b c k : Nat) (vs : List Value) (H : List (List El)) (tl : List Int) (s : GS) : Prop where
  gt : GateIn wr w.heap.size C w.heap.size L room n s
  ns : NestAt wr C b n vs H
  tb : wr.heap[c]? = some (.cells (intRow tl) 3 (0, 0))
  cb : C ≤ c
  ltl : tl.length = n
  len : ∀ j, j < n → (H.getD j []).length ≤ k
  ud : Upd (fun _ => False) w wr

section
variable {w wr w2 : World} {C : Nat} {L : Loc} {room n b c k : Nat} {vs : List Value} {H : List (List El)} {tl : List Int} {s s2 : GS}
theorem CutMem.low (h : CutMem w wr C L room n b c k vs H tl s) : w.heap.size < C ∧ C ≤ b ∧ b < wr.heap.size ∧ C ≤ c ∧ c < wr.heap.size ∧ C ≤ wr.heap.size :=
  ⟨Nat.lt_of_le_of_lt h.gt.rg.1 h.gt.rg.2, h.ns.lb, lt_of_heap h.ns.hb, h.cb, lt_of_heap h.tb, h.gt.hC⟩
theorem CutMem.gate (h : CutMem w wr C L room n b c k vs H tl s) (hG : GateIn w2 w.heap.size C w.heap.size L room n s2) (hU : Upd (inGate w.heap.size C) wr w2) : CutMem w w2 C L room n b c k vs H tl s2 :=
  ⟨hG, h.ns.upd hU (fun j h1 _ h3 => by have := h3.2; omega), hU.at h.tb (fun h3 => by have := h3.2; have := h.cb; omega), h.cb, h.ltl, h.len, h.ud.gate (Nat.le_refl _) hU⟩
theorem CutMem.upd0 (h : CutMem w wr C L room n b c k vs H tl s) (hU : Upd (fun _ => False) wr w2) : CutMem w w2 C L room n b c k vs H tl s :=
  ⟨h.gt.upd0 hU, h.ns.upd0 hU, hU.at h.tb (fun h => h), h.cb, h.ltl, h.len, h.ud.trans hU⟩
theorem CutMem.more (h : CutMem w wr C L room n b c k vs H tl s) : CutMem w wr C L room n b c (k + 1) vs H tl s :=
  ⟨h.gt, h.ns, h.tb, h.cb, h.ltl, fun j hj => Nat.le_succ_of_le (h.len j hj), h.ud⟩
/-- Input i's history has grown by one. -/
theorem CutMem.push (h : CutMem w wr C L room n b c k vs H tl s) {i : Nat} (hi : i < n) {r2 : List El} {e : El} (hr : H.getD i [] ++ [e] = r2) {w4 : World} {v' : Value} (hO : OwnAt w4 C 46 5 v' r2.length (slotsVals r2))
    (hU : Upd (fun j => (vs.getD i nilS).ownBlock = some j) wr w4) (hv : v'.ownBlock = (vs.getD i nilS).ownBlock ∨ ∃ g, v'.ownBlock = some g ∧ wr.heap.size ≤ g) :
    CutMem w (w4.setCell ⟨b, i, none⟩ v') C L room n b c (k + 1) (vs.set i v') (H.set i r2) tl s := by
  obtain ⟨hN, hV⟩ := h.ns.set hi hO hU hv
  obtain ⟨l1, l2, l3, l4, l5, l6⟩ := h.low
  have hfar : ∀ j, (vs.getD i nilS).ownBlock = some j → C ≤ j := fun j hj => ((h.ns.own i hi).lt hj).1
  refine ⟨h.gt.upd hV (fun j h1 h2 h3 => ?_), hN, hV.at h.tb (fun h3 => ?_), h.cb, h.ltl, fun j hj => ?_, h.ud.step hV (fun j h1 h3 => ?_)⟩
  · rcases h3 with rfl | h3
    · omega
    · have := hfar j h3; omega
  · rcases h3 with h3 | h3
    · exact ne_of_type h.tb h.ns.hb (by decide) h3
    · exact h.ns.far hi h.tb (by decide) h3
  · by_cases hij : i = j
    · subst hij
      rw [getD_set_eq _ _ _ _ (by rw [h.ns.lr]; exact hi), ← hr, List.length_append]
      have := h.len i hi
      simp only [List.length_cons, List.length_nil]; omega
    · rw [getD_set_ne' _ _ _ _ _ hij]; exact Nat.le_succ_of_le (h.len j hj)
  · rcases h3 with rfl | h3
    · omega
    · have := hfar j h3; omega
/-- How many of input i were told. -/
theorem CutMem.told (h : CutMem w wr C L room n b c k vs H tl s) (i : Nat) (x : Int) : CutMem w (wr.setCell ⟨c, i, none⟩ (.int .i64 x)) C L room n b c k vs H (tl.set i x) s := by
  obtain ⟨l1, l2, l3, l4, l5, l6⟩ := h.low
  have hV : Upd (fun j => j = c) wr (wr.setCell ⟨c, i, none⟩ (.int .i64 x)) := Upd.setCell (S := fun j => j = c) (p := ⟨c, i, none⟩) (Upd.refl _ _) (fun _ => rfl) _
  refine ⟨h.gt.upd hV (fun j h1 h2 h3 => by omega), h.ns.other hV (fun j cs t m h3 h4 => ?_), ?_, h.cb, by simpa using h.ltl, h.len, h.ud.step hV (fun j h1 h3 => by omega)⟩
  · subst h3
    have e := h.tb.symm.trans h4
    injection e with e
    injection e with _ e2
    subst e2
    exact ⟨by decide, by decide⟩
  · rw [heap_set h.tb, intRow_set]
theorem CutMem.toldCell (h : CutMem w wr C L room n b c k vs H tl s) {i : Nat} (hi : i < n) : wr.cell? ⟨c, i, none⟩ = some (.int .i64 (tl.getD i 0)) :=
  cell_of h.tb i _ (intRow_get _ _ _ (by simp [List.getElem?_eq_getElem (show i < tl.length by rw [h.ltl]; exact hi)]))
end
/-- What holds at each round's head. -/
structure CutMid (w wr : World) (C : Nat) (L : Loc) (room n b c k : Nat) (vs : List Value) (H : List (List El)) (tl : List Int) (last : Int) (s : GS) : Prop where
  me : CutMem w wr C L room n b c k vs H tl s
  ph : CutPh n s H tl last
end Go.Proofs.Ytijkcahdegohiaa
