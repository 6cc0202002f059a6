/-
  The contracts of package mark (and of watershedref08): what each call answers and which block it turns.
-/
import Derived.Test.YtijkcahdegohiaaPipeD
import Derived.Deep.MidRow
import Derived.Deep.RegionHeld3
namespace Go.Proofs.Ytijkcahdegohiaa
open Go.RowKit

abbrev forever : Int := 1000000001
/-- The least of all, Forever where there is none. -/
def leastL (l : List Int) : Int := l.foldl (fun o x => if x < o then x else o) forever
theorem leastL_snoc (l : List Int) (x : Int) : leastL (l ++ [x]) = if x < leastL l then x else leastL l := by
  unfold leastL; rw [List.foldl_append]; rfl
/-- The sixteen numbers of marks: what there is no input for stands at Forever. -/
def padL (l : List Int) : List Int := l ++ List.replicate (16 - l.length) forever
def markRow (l : List Int) : Array Value := ((padL l).map (Value.int .i64) ++ [Value.int .i64 l.length]).toArray
theorem padL_length (l : List Int) (h : l.length ≤ 16) : (padL l).length = 16 := by simp [padL]; omega
theorem leastL_pad (l : List Int) : leastL (padL l) = leastL l := by
  unfold padL
  have hle : ∀ (xs : List Int) (a : Int), xs.foldl (fun o x => if x < o then x else o) a ≤ a := by
    intro xs
    induction xs with
    | nil => intro a; exact Int.le_refl _
    | cons x xs ih => intro a; refine Int.le_trans (ih _) ?_; show (if x < a then x else a) ≤ a; split <;> omega
  have h : ∀ n a, a ≤ forever → (List.replicate n forever).foldl (fun o x => if x < o then x else o) a = a := by
    intro n
    induction n with
    | zero => intro a _; rfl
    | succ n ih => intro a ha; rw [List.replicate_succ, List.foldl_cons, if_neg (by omega)]; exact ih a ha
  unfold leastL
  rw [List.foldl_append]
  exact h _ _ (hle l forever)

/-- Marks at block b: those of l's inputs. -/
structure MarksAt (w : World) (b : Nat) (l : List Int) : Prop where
  lo : 1 ≤ l.length
  hi : l.length ≤ 16
  row : w.heap[b]? = some (.cells (markRow l) 84 (0, 0))
theorem MarksAt.upd {S : Nat → Prop} {w w' : World} {b : Nat} {l : List Int} (h : MarksAt w b l) (hU : Upd S w w') (hb : ¬ S b) : MarksAt w' b l := ⟨h.lo, h.hi, hU.at h.row hb⟩
theorem MarksAt.cell {w : World} {b : Nat} {l : List Int} (h : MarksAt w b l) (i : Nat) (hi : i < 16) : w.cell? ⟨b, i, none⟩ = some (.int .i64 ((padL l).getD i 0)) := by
  refine cell_of h.row i _ ?_
  have hl := padL_length l h.hi
  simp [markRow, List.getElem?_append_left (show i < ((padL l).map (Value.int .i64)).length by simpa using (by omega)), List.getElem?_eq_getElem (show i < (padL l).length by omega)]
theorem MarksAt.n {w : World} {b : Nat} {l : List Int} (h : MarksAt w b l) : w.cell? ⟨b, 16, none⟩ = some (.int .i64 l.length) := by
  refine cell_of h.row 16 _ ?_
  have hl := padL_length l h.hi
  simp only [markRow, List.getElem?_toArray]
  rw [List.getElem?_append_right (by simp [hl])]
  simp [hl]
theorem MarksAt.range {w : World} {b : Nat} {l : List Int} (h : MarksAt w b l) : w.rangeAt b 0 ((padL l).map (Value.int .i64)) := fun j v hv => by
  have hj := (List.getElem?_eq_some_iff.1 hv).1
  refine cell_of h.row (0 + j) v ?_
  rw [Nat.zero_add]
  simp only [markRow, List.getElem?_toArray]
  rw [List.getElem?_append_left hj]
  exact hv

theorem Try.size82 : (Try.prog.info? 82).map (·.size) = some 16 := by kernel_rfl
theorem Try.info3 : (Try.prog.info? 3).map (fun i => (i.zero, i.size, i.bytes)) = some (some (.int .i64 0), 1, 8) := by kernel_rfl
theorem index82 (l : List Int) (k : Nat) (x : Int) (hk : k < 16) (hx : l[k]? = some x) (w : World) :
    (Instr.index 82 (.agg ((l.map (Value.int .i64)).toArray)) (.int .i64 k)).run Try.prog w = .ok (.int .i64 x) w := by
  obtain ⟨i3, hi, _, hs, _⟩ := info_parts Try.info3
  have hc : ¬ 16 ≤ k := by omega
  simp [Instr.index, asIntOf, run_underlying Try.underlying82, run_underlying Try.underlying3, part, isAgg, sizeOf, typeInfo, hi, hs, hc, hx]

theorem take_snoc_get {l : List Int} {k : Nat} {x : Int} (h : l[k]? = some x) : l.take (k + 1) = l.take k ++ [x] := by
  rw [List.take_add_one, h]; rfl

set_option maxRecDepth 100000 in
set_option maxHeartbeats 800000 in
theorem c22 (b : Nat) (l : List Int) (w : World) (h : MarksAt w b l) :
    Calls Try.prog 22 #[ptr b] w fun x w' => x = .returned (.int .i64 (leastL l)) ∧ w = w' := by
  have hr := h.range
  have hl := padL_length l h.hi
  have hp := leastL_pad l
  generalize padL l = p at *
  have HP := Lib.hid hp
  have hsz : (Try.prog.info? 82).map (·.size) = some (p.map (Value.int .i64)).length := by rw [Try.size82]; simp [hl]
  clear hp
  have HL := Lib.hid hl
  have HR := Lib.hid hr
  have HZ := Lib.hid hsz
  clear hl h hr hsz
  go_enter Try.func22, Try.ntmps22
  go_wp2_with (refine wpList_load_mid rfl 82 _ rfl b 0 rfl (p.map (Value.int .i64)) _ HR.out Try.underlying82 rfl HZ.out ?_)
  go_loop [3, 12] (fun o i => ∃ k : Nat, k ≤ 16 ∧ i = .int .i64 k ∧ o = .int .i64 (leastL (p.take k))) (fun _ i => 16 - (intOf i).toNat)
  case atStart => exact ⟨0, by omega, rfl, rfl⟩
  case round =>
    obtain ⟨k, hk, rfl, rfl⟩ := hrel
    by_cases hlt : k < 16
    · obtain ⟨x, hx⟩ : ∃ x, p[k]? = some x := ⟨_, List.getElem?_eq_getElem (by rw [HL.out]; exact hlt)⟩
      have hix := index82 p k x hlt hx w
      have HX := Lib.hid hx
      have HS := Lib.hid (leastL_snoc (p.take k) x)
      generalize leastL (p.take k) = y at *
      clear hx
      go_wp2
      rw [← take_snoc_get HX.out] at HS
      exact ⟨⟨k + 1, by omega, by go_num, by rw [HS.out]⟩, by simp [intOf]; omega⟩
    · obtain rfl : k = 16 := by omega
      have HT : Hid (p.take 16 = p) := List.take_of_length_le (by rw [HL.out]; exact Nat.le_refl _)
      go_wp2
      go_ret
      exact ⟨ret_int (by rw [HT.out, HP.out]), rfl⟩

theorem c22_nil (w : World) : Calls Try.prog 22 #[.pointer none] w fun x w' => x = .returned (.int .i64 0) ∧ w = w' := by
  go_enter Try.func22, Try.ntmps22
  go_wp2
  go_ret
  exact ⟨rfl, rfl⟩

/-! ### New -/
theorem c21_bad (n : Int) (w : World) (h : n < 1 ∨ 16 < n) :
    Calls Try.prog 21 #[.int .i64 n] w fun x w' => x = .returned (.tuple #[.pointer none, .int .i64 1]) ∧ w = w' := by
  rcases h with h | h
  · go_enter Try.func21, Try.ntmps21
    go_wp2
    go_ret2
    exact ⟨rfl, rfl⟩
  · have h' : ¬ n < 1 := by omega
    go_enter Try.func21, Try.ntmps21
    go_wp2
    go_ret2
    exact ⟨rfl, rfl⟩

def padNum (n k i : Nat) : Int := if n ≤ i ∧ i < k then forever else 0
def padRow (n k : Nat) : Array Value := ((List.range 16).map (fun i => Value.int .i64 (padNum n k i)) ++ [Value.int .i64 n]).toArray
theorem padRow_start (n : Nat) : padRow n n = #[.int .i64 0, .int .i64 0, .int .i64 0, .int .i64 0, .int .i64 0, .int .i64 0, .int .i64 0, .int .i64 0, .int .i64 0, .int .i64 0, .int .i64 0, .int .i64 0, .int .i64 0, .int .i64 0, .int .i64 0, .int .i64 0, .int .i64 n] := by
  have h : ∀ i, padNum n n i = 0 := fun i => by unfold padNum; rw [if_neg (by omega)]
  simp only [padRow, h]
  rfl
theorem padRow_end (n : Nat) (h2 : n ≤ 16) : padRow n 16 = markRow (List.replicate n 0) := by
  match n, h2 with
  | 0, _ | 1, _ | 2, _ | 3, _ | 4, _ | 5, _ | 6, _ | 7, _ | 8, _ | 9, _ | 10, _ | 11, _ | 12, _ | 13, _ | 14, _ | 15, _ | 16, _ => rfl
  | n + 17, h => exact absurd h (by omega)
theorem padRow_cell (n k i : Nat) (hi : i < 16) : (padRow n k)[i]? = some (.int .i64 (padNum n k i)) := by
  simp only [padRow, List.getElem?_toArray]
  rw [List.getElem?_append_left (by simpa using hi), List.getElem?_map, List.getElem?_range hi]
  rfl
theorem padRow_set (n k : Nat) (h : n ≤ k) (hk : k < 16) : (padRow n k).setIfInBounds k (.int .i64 forever) = padRow n (k + 1) := by
  simp only [padRow, List.setIfInBounds_toArray]
  congr 1
  rw [List.set_append_left _ _ (by simpa using hk)]
  congr 1
  apply List.ext_getElem?
  intro i
  rw [List.getElem?_set]
  simp only [List.length_map, List.length_range, List.getElem?_map]
  by_cases hik : k = i
  · subst hik
    rw [if_pos rfl, if_pos hk, List.getElem?_range hk]
    simp [padNum, h]
  · rw [if_neg hik]
    have : padNum n k i = padNum n (k + 1) i := by
      unfold padNum
      by_cases hc : n ≤ i ∧ i < k
      · rw [if_pos hc, if_pos (by omega)]
      · rw [if_neg hc, if_neg (by omega)]
    by_cases h16 : i < 16
    · rw [List.getElem?_range h16]; simp [this]
    · rw [List.getElem?_eq_none (by simpa using h16)]; rfl

set_option maxRecDepth 100000 in
set_option maxHeartbeats 800000 in
theorem c21 (n : Nat) (w : World) (h1 : 1 ≤ n) (h2 : n ≤ 16) :
    Calls Try.prog 21 #[.int .i64 n] w fun x w' => x = .returned (.tuple #[ptr w.heap.size, .int .i64 0]) ∧ MarksAt w' w.heap.size (List.replicate n 0) ∧ Upd (fun _ => False) w w' := by
  have hst := Lib.hid (padRow_start n)
  have hen := Lib.hid (padRow_end n h2)
  have hlt1 : ((n : Int) < 1) = False := by simp; omega
  have hlt2 : ((16 : Int) < n) = False := by simp; omega
  go_enter Try.func21, Try.ntmps21
  go_wp2
  go_loopw [5] (fun i wr => ∃ k : Nat, n ≤ k ∧ k ≤ 16 ∧ i = .int .i64 k ∧ wr.heap[w.heap.size]? = some (.cells (padRow n k) 84 (0, 0)) ∧ Upd (fun _ => False) w wr) (fun i _ => 16 - (intOf i).toNat)
  case atStart => exact ⟨n, by omega, by omega, rfl, by rw [hst.out, heapK_alloc, if_pos rfl], (Upd.refl _ _).alloc _⟩
  case round =>
    obtain ⟨k, hk, hk', rfl, hrow, hU⟩ := hrel
    have HR := Lib.hid hrow
    have HU := Lib.hid hU
    by_cases hlt : k < 16
    · have hc := cell_of hrow k _ (padRow_cell n k k hlt)
      have hf := free_of hrow k
      clear hrow hU
      go_wp2
      go_roundw
      case rel => exact ⟨k + 1, by omega, by omega, by go_num, by rw [heap_set HR.out, padRow_set n k hk hlt], HU.out.setCell (by simp) _⟩
      case measure => simp [intOf]; omega
    · obtain rfl : k = 16 := by omega
      clear hrow hU
      go_wp2
      go_ret2
      exact ⟨rfl, ⟨by simpa using h1, by simpa using h2, by rw [← hen.out]; exact HR.out⟩, HU.out⟩
end Go.Proofs.Ytijkcahdegohiaa
