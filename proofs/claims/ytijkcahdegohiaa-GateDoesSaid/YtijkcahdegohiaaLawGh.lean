/-
  What GateCuts asks of a history: the record at a place (nth), the records ahead of a barrier (ahead). A script of a gate's calls, as it is read.
-/
import Derived.Test.YtijkcahdegohiaaNest
namespace Go.Proofs.Ytijkcahdegohiaa
open Go.RowKit
attribute [local go_sem ↓] Go.wp_at_zero Go.wp_at_succ

/-- A slice of elements that is read. -/
def ElsRd (w : World) (A : Option Addr) (l : List El) : Prop :=
  ∃ b off, (l ≠ [] → A = some ⟨b, off, none⟩) ∧ ∀ i e, l[i]? = some e → ElAt w b (off + i * 5) e
theorem ElsRd.upd0 {w w' : World} {A : Option Addr} {l : List El} (h : ElsRd w A l) (hU : Upd (fun _ => False) w w') : ElsRd w' A l := by
  obtain ⟨b, off, hA, hc⟩ := h
  exact ⟨b, off, hA, fun i x hx => (hc i x hx).upd hU (fun h => h)⟩
theorem OwnAt.els {w : World} {B : Nat} {v : Value} {l : List El} (h : OwnAt w B 46 5 v l.length (slotsVals l)) : ∃ A cap, v = .slice A l.length cap ∧ ElsRd w A l := by
  obtain ⟨h1, ⟨rfl, h0⟩ | ⟨g, off, cap, cur, rfl, hB, hg, hle, hm, hs, hc⟩⟩ := h
  · have : l = [] := List.eq_nil_of_length_eq_zero h0
    subst this
    exact ⟨none, 0, rfl, 0, 0, fun h => absurd rfl h, fun i e hi => by simp at hi⟩
  · refine ⟨_, cap, rfl, g, off, fun _ => rfl, fun i e hi => ?_⟩
    have hget := fun j hj => slotsVals_get l i j e hi hj
    have hcell : ∀ j, j < 5 → w.cell? ⟨g, off + i * 5 + j, none⟩ = e.cells[j]? := fun j hj => by
      have h2 : e.cells[j]? = some (e.cells[j]'(by rw [El.cells_length]; exact hj)) := List.getElem?_eq_getElem (by rw [El.cells_length]; exact hj)
      have h3 := hget j hj
      rw [h2] at h3 ⊢
      have := hc (i * 5 + j) _ h3
      rw [Nat.add_assoc]
      exact cell_of hg _ _ this
    exact ⟨by simpa [El.cells] using hcell 0 (by omega), by simpa [El.cells] using hcell 1 (by omega), by simpa [El.cells] using hcell 2 (by omega), by simpa [El.cells] using hcell 3 (by omega), by simpa [El.cells] using hcell 4 (by omega)⟩

/-- A script of a gate's calls: kind, number, element. -/
def Ops14Rd (w : World) (A : Option Addr) (os : List (Int × Int × El)) : Prop :=
  (∃ b off, (os ≠ [] → A = some ⟨b, off, none⟩) ∧ ∀ i x, os[i]? = some x → w.cell? ⟨b, off + i * 7, none⟩ = some (.int .i64 x.1) ∧ w.cell? ⟨b, off + i * 7 + 1, none⟩ = some (.int .i64 x.2.1) ∧ ElAt w b (off + i * 7 + 2) x.2.2)
    ∧ ∀ x ∈ os, -9223372036854775808 ≤ x.2.1 ∧ x.2.1 ≤ 9223372036854775807
theorem Ops14Rd.upd0 {w w' : World} {A : Option Addr} {os : List (Int × Int × El)} (h : Ops14Rd w A os) (hU : Upd (fun _ => False) w w') : Ops14Rd w' A os := by
  obtain ⟨⟨b, off, hA, hc⟩, hr⟩ := h
  refine ⟨⟨b, off, hA, fun i x hx => ?_⟩, hr⟩
  obtain ⟨h1, h2, h3⟩ := hc i x hx
  have hlt := World.block_lt_of_cell? w _ h1
  exact ⟨(World.cell?_of_block (w := w) (hU.block b hlt (fun h => h))).trans h1, (World.cell?_of_block (w := w) (hU.block b hlt (fun h => h))).trans h2, h3.upd hU (fun h => h)⟩

/-- The records alone. -/
def recsOf (l : List El) : List El := l.filter fun e => decide (e.kind = 1)
def nthR (l : List El) (m : Nat) : El := (recsOf l).getD m El.zero
theorem nthR_nil (m : Nat) : nthR [] m = El.zero := rfl
theorem nthR_zero {e : El} {l : List El} (h : e.kind = 1) : nthR (e :: l) 0 = e := by simp [nthR, recsOf, h]
theorem nthR_succ {e : El} {l : List El} (h : e.kind = 1) (m : Nat) : nthR (e :: l) (m + 1) = nthR l m := by simp [nthR, recsOf, h]
theorem nthR_skip {e : El} {l : List El} (h : e.kind ≠ 1) (m : Nat) : nthR (e :: l) m = nthR l m := by simp [nthR, recsOf, h]
/-- How many records stand ahead of a barrier, counted on from n. -/
def aheadF : List El → Int → Int → Int
  | [], _, _ => -1
  | e :: l, a, n => if e.kind = 3 ∧ e.at_ = a then n else aheadF l a (if e.kind = 1 then n + 1 else n)

theorem drop_of_get {α : Type} {l : List α} {i : Nat} {x : α} (h : l[i]? = some x) : l.drop i = x :: l.drop (i + 1) := by
  obtain ⟨hi, rfl⟩ := List.getElem?_eq_some_iff.1 h
  exact List.drop_eq_getElem_cons hi

set_option maxRecDepth 100000 in
set_option maxHeartbeats 1600000 in
theorem c42 (A : Option Addr) (cap N m : Nat) (l : List El) (w : World) (h : ElsRd w A l) (hN : l.length = N) (hlen : N ≤ 1000000) (hm : m ≤ 1000000) :
    Calls Try.prog 42 #[.slice A N cap, .int .i64 m] w fun x w' => x = .returned (nthR l m).val ∧ Upd (fun _ => False) w w' := by
  have HRD := Lib.hid h
  have HU := Lib.hid ((Upd.refl (fun _ => False) w).alloc El.zero.obj)
  have HB := Lib.hid (El.box w El.zero)
  have HN := Lib.hid hN
  obtain ⟨R, hR⟩ : ∃ R, nthR l m = R := ⟨_, rfl⟩
  have HR := Lib.hid hR
  rw [hR]
  clear h hN hR
  go_enter Try.func42, Try.ntmps42
  go_wp2_with fail
  go_loopw [1, 5] (fun tm ti wr => ∃ (i m : Nat), i ≤ N ∧ m ≤ 1000000 ∧ ti = .int .i64 i ∧ tm = .int .i64 m ∧ nthR (l.drop i) m = R ∧ wr.heap[w.heap.size]? = some El.zero.obj ∧ Upd (fun _ => False) w wr) (fun _ ti _ => N - (intOf ti).toNat)
  case atStart => exact ⟨0, m, by omega, hm, rfl, rfl, HR.out, HB.out, HU.out⟩
  case round =>
    obtain ⟨i, m, hi, hm, rfl, rfl, hRi, hb, hu⟩ := hrel
    have HRI := Lib.hid hRi
    have HBR := Lib.hid hb
    have HUR := Lib.hid hu
    clear hRi hb hu HU HB
    by_cases hlt : i < N
    · obtain ⟨e, he⟩ : ∃ e, l[i]? = some e := ⟨_, List.getElem?_eq_getElem (by rw [HN.out]; exact hlt)⟩
      obtain ⟨b, off, hA, hc⟩ := HRD.out.upd0 HUR.out
      obtain ⟨e0, e1, e2, e3, e4⟩ := hc i e he
      obtain rfl := hA (by intro e; rw [e] at he; simp at he)
      have HD := Lib.hid (drop_of_get he)
      have a1 : (0 : Int) ≤ i := by omega
      have a2 : (i : Int) < N := by omega
      clear hc hA he
      obtain ⟨k, key, t, v, a⟩ := e
      dsimp only at e0 e1 e2 e3 e4
      by_cases hk : k = 1
      · subst hk
        cases m with
        | zero =>
          have hr := HRI.out
          rw [HD.out, nthR_zero rfl] at hr
          have HRE := Lib.hid hr
          obtain ⟨d0, d1, d2, d3, d4⟩ := El.zero_cells HBR.out
          have hf := free_of HBR.out
          have hsz := lt_of_heap HBR.out
          clear hr
          go_wp2_with fail
          have hU := HUR.out.setEl w.heap.size (fun h => absurd h (Nat.lt_irrefl _)) (.int .i64 1) (.string key) (.int .i64 t) (.int .i64 v) (.int .i64 a)
          obtain rfl := HRE.out
          exact bodyPost_ret (v := El.val ⟨1, key, t, v, a⟩) (by simp [results, Try.results42, go_sem, d0, d1, d2, d3, d4]) rfl ⟨rfl, hU⟩
        | succ m =>
          have hr := HRI.out
          rw [HD.out, nthR_succ rfl] at hr
          have HRE := Lib.hid hr
          have hm0 : ¬ ((m : Int) + 1) = 0 := by omega
          clear hr
          go_wp2_with fail
          exact ⟨⟨i + 1, m, by omega, by omega, by go_num, by go_num, HRE.out, HBR.out, HUR.out⟩, by simp [intOf]; omega⟩
      · have hkb : (k == 1) = false := by simp [hk]
        have hr := HRI.out
        rw [HD.out, nthR_skip hk] at hr
        have HRE := Lib.hid hr
        clear hr
        go_wp2_with fail
        exact ⟨⟨i + 1, m, by omega, by omega, by go_num, rfl, HRE.out, HBR.out, HUR.out⟩, by simp [intOf]; omega⟩
    · obtain rfl : N = i := by omega
      have hr := HRI.out
      rw [List.drop_eq_nil_of_le (by rw [HN.out]; exact Nat.le_refl _), nthR_nil] at hr
      have HRE := Lib.hid hr
      obtain ⟨d0, d1, d2, d3, d4⟩ := El.zero_cells HBR.out
      have hf := free_of HBR.out
      have hsz := lt_of_heap HBR.out
      clear hr
      go_wp2_with fail
      have hU := HUR.out.setEl w.heap.size (fun h => absurd h (Nat.lt_irrefl _)) (.int .i64 0) (.string ⟨#[]⟩) (.int .i64 0) (.int .i64 0) (.int .i64 0)
      obtain rfl := HRE.out
      exact bodyPost_ret (v := El.zero.val) (by simp [results, Try.results42, go_sem, El.zero, d0, d1, d2, d3, d4]) rfl ⟨rfl, hU⟩

set_option maxRecDepth 100000 in
set_option maxHeartbeats 1600000 in
theorem c44 (A : Option Addr) (cap N : Nat) (at_ : Int) (l : List El) (w : World) (h : ElsRd w A l) (hN : l.length = N) (hlen : N ≤ 1000000) :
    Calls Try.prog 44 #[.slice A N cap, .int .i64 at_] w fun x w' => x = .returned (.int .i64 (aheadF l at_ 0)) ∧ w = w' := by
  have HRD := Lib.hid h
  have HN := Lib.hid hN
  obtain ⟨R, hR⟩ : ∃ R, aheadF l at_ 0 = R := ⟨_, rfl⟩
  have HR := Lib.hid hR
  rw [hR]
  clear h hN hR
  go_enter Try.func44, Try.ntmps44
  go_wp2_with fail
  go_loopw [5, 6] (fun tn ti wr => ∃ (i n : Nat), i ≤ N ∧ n ≤ i ∧ ti = .int .i64 i ∧ tn = .int .i64 n ∧ aheadF (l.drop i) at_ n = R ∧ wr = w) (fun _ ti _ => N - (intOf ti).toNat)
  case atStart => exact ⟨0, 0, by omega, by omega, rfl, rfl, HR.out, rfl⟩
  case round =>
    obtain ⟨i, n, hi, hn, rfl, rfl, hRi, rfl⟩ := hrel
    have HRI := Lib.hid hRi
    clear hRi
    by_cases hlt : i < N
    · obtain ⟨e, he⟩ : ∃ e, l[i]? = some e := ⟨_, List.getElem?_eq_getElem (by rw [HN.out]; exact hlt)⟩
      obtain ⟨b, off, hA, hc⟩ := HRD.out
      obtain ⟨e0, e1, e2, e3, e4⟩ := hc i e he
      obtain rfl := hA (by intro e; rw [e] at he; simp at he)
      have HD := Lib.hid (drop_of_get he)
      have a1 : (0 : Int) ≤ i := by omega
      have a2 : (i : Int) < N := by omega
      clear hc hA he
      obtain ⟨k, key, t, v, a⟩ := e
      dsimp only at e0 e1 e2 e3 e4
      by_cases hk : k = 3
      · subst hk
        by_cases ha : a = at_
        · subst ha
          have hr := HRI.out
          rw [HD.out, aheadF, if_pos ⟨rfl, rfl⟩] at hr
          have HRE := Lib.hid hr
          clear hr
          go_wp2_with fail
          obtain rfl := HRE.out
          go_ret
          exact ⟨rfl, rfl⟩
        · have hr := HRI.out
          rw [HD.out, aheadF, if_neg (fun h => ha h.2), if_neg (by show ¬ (3 : Int) = 1; decide)] at hr
          have HRE := Lib.hid hr
          have hab : (a == at_) = false := by simp [ha]
          clear hr
          go_wp2_with fail
          exact ⟨⟨i + 1, n, by omega, by omega, by go_num, rfl, HRE.out, trivial⟩, by simp [intOf]; omega⟩
      · have hkb : (k == 3) = false := by simp [hk]
        by_cases hk1 : k = 1
        · subst hk1
          have hr := HRI.out
          rw [HD.out, aheadF, if_neg (fun h => absurd h.1 (by show ¬ (1 : Int) = 3; decide)), if_pos rfl] at hr
          have HRE := Lib.hid hr
          clear hr
          go_wp2_with fail
          exact ⟨⟨i + 1, n + 1, by omega, by omega, by go_num, by go_num, HRE.out, trivial⟩, by simp [intOf]; omega⟩
        · have hkb1 : (k == 1) = false := by simp [hk1]
          have hr := HRI.out
          rw [HD.out, aheadF, if_neg (fun h => hk h.1), if_neg hk1] at hr
          have HRE := Lib.hid hr
          clear hr
          go_wp2_with fail
          exact ⟨⟨i + 1, n, by omega, by omega, by go_num, rfl, HRE.out, trivial⟩, by simp [intOf]; omega⟩
    · obtain rfl : N = i := by omega
      have hr := HRI.out
      rw [List.drop_eq_nil_of_le (by rw [HN.out]; exact Nat.le_refl _), aheadF] at hr
      have HRE := Lib.hid hr
      clear hr
      go_wp2_with fail
      obtain rfl := HRE.out
      go_ret
      exact ⟨rfl, rfl⟩
/-- append of one element onto a slice of elements of the call's own, as one operation of a region. -/
theorem wp_append_els {w : World} {o : Oper} {a : Act} {K : Act → World → Prop} {Q : Exit → Act → World → Prop} (s x : Operand)
    (ho : o.op = .call { callee := .builtin .append, args := #[s, x], argTypes := #[52, 52] }) {B : Nat} (v : Value) (l : List El) (hs : a.eval s = v) (h : OwnAt w B 46 5 v l.length (slotsVals l))
    (b : Nat) (e : El) (hx : a.eval x = .slice (some ⟨b, 0, none⟩) 1 1) (hb : w.heap[b]? = some e.obj) (hn : l.length ≤ 100000) (hB : B ≤ w.heap.size)
    (hK : ∀ v' w', OwnAt w' B 46 5 v' (l ++ [e]).length (slotsVals (l ++ [e])) → Upd (fun k => v.ownBlock = some k) w w' → (v'.ownBlock = v.ownBlock ∨ ∃ g, v'.ownBlock = some g ∧ w.heap.size ≤ g) → K (a.put o.dst v') w') : o.wp Try.prog a w K Q := by
  obtain ⟨i, hi, hz, hsz, hby⟩ := info_parts Try.info46
  obtain ⟨v', w', hr, h2, h3, h4⟩ := h.append (P := Try.prog) 52 o.type i _ 48 Try.underlying52 hi hz hsz hby rfl (by decide) b e.cells rfl (El.obj_cells hb) e.cells_one (by unfold maxLen; omega) (by omega) hB
  unfold Oper.wp execOp
  simp only [ho, resolve, invoke, builtin, Sem.run_bind, Sem.run_pure, Result.andThen_ok, List.map_toArray, List.map_cons, List.map_nil, hs, hx, hr]
  refine hK v' w' ?_ (OwnAt.owns_grown h3 (fun k hk _ => hk)) h4
  rw [slotsVals_snoc, List.length_append]
  exact h2
end Go.Proofs.Ytijkcahdegohiaa
