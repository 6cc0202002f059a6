/-
  What all the proofs of this seat share: an element as data, what a world's blocks hold, which blocks a call has turned ('Upd'). No program in sight.
-/
import Derived.WalkKit
import Derived.WalkSpells
import Derived.WalkLawsBesides
import Derived.StillTailTactics
import Derived.Lib.Hide
namespace Go.Proofs.Ytijkcahdegohiaa
open Go.RowKit

/-- An element: five cells. -/
structure El where
  kind : Int
  key : ByteArray
  time : Int
  value : Int
  at_ : Int

def El.cells (e : El) : List Value := [.int .i64 e.kind, .string e.key, .int .i64 e.time, .int .i64 e.value, .int .i64 e.at_]
abbrev El.val (e : El) : Value := .agg #[.int .i64 e.kind, .string e.key, .int .i64 e.time, .int .i64 e.value, .int .i64 e.at_]
/-- The zero element. -/
def El.zero : El := ⟨0, ⟨#[]⟩, 0, 0, 0⟩
theorem El.cells_length (e : El) : e.cells.length = 5 := rfl

/-! ### Which blocks a call has turned -/
structure Upd (S : Nat → Prop) (w w' : World) : Prop where
  os : w'.os = w.os
  tape : w'.tape = w.tape
  output : w'.output = w.output
  size : w.heap.size ≤ w'.heap.size
  block : ∀ k, k < w.heap.size → ¬ S k → w'.heap[k]? = w.heap[k]?

theorem Upd.refl (S : Nat → Prop) (w : World) : Upd S w w := ⟨rfl, rfl, rfl, Nat.le_refl _, fun _ _ _ => rfl⟩
theorem Upd.trans {S : Nat → Prop} {a b c : World} (h : Upd S a b) (k : Upd S b c) : Upd S a c :=
  ⟨k.os.trans h.os, k.tape.trans h.tape, k.output.trans h.output, Nat.le_trans h.size k.size,
   fun i hi hs => (k.block i (Nat.lt_of_lt_of_le hi h.size) hs).trans (h.block i hi hs)⟩
theorem Upd.mono {S T : Nat → Prop} {a b : World} (h : Upd S a b) (hST : ∀ k, k < a.heap.size → S k → T k) : Upd T a b :=
  ⟨h.os, h.tape, h.output, h.size, fun i hi hs => h.block i hi (fun hS => hs (hST i hi hS))⟩
/-- What is turned may be a block that was not there at the first world. -/
theorem Upd.step {S T : Nat → Prop} {a b c : World} (h : Upd S a b) (k : Upd T b c) (hT : ∀ i, i < a.heap.size → T i → S i) : Upd S a c :=
  ⟨k.os.trans h.os, k.tape.trans h.tape, k.output.trans h.output, Nat.le_trans h.size k.size,
   fun i hi hs => (k.block i (Nat.lt_of_lt_of_le hi h.size) (fun ht => hs (hT i hi ht))).trans (h.block i hi hs)⟩
theorem Upd.drew {S : Nat → Prop} {a w : World} (h : Upd S a w) : Upd S a w.drew := ⟨h.os, h.tape, h.output, h.size, h.block⟩
theorem Upd.drewN {S : Nat → Prop} {a w : World} (h : Upd S a w) (n : Nat) : Upd S a (w.drewN n) := ⟨h.os, h.tape, h.output, h.size, h.block⟩
theorem Upd.alloc {S : Nat → Prop} {a w : World} (h : Upd S a w) (o : Obj) : Upd S a (w.alloc o) :=
  h.step (T := fun _ => False) ⟨rfl, rfl, rfl, by simp, fun k hk _ => Below.heap_alloc _ _ _ hk⟩ (fun _ _ h => h.elim)
theorem Upd.setCell {S : Nat → Prop} {a w : World} (h : Upd S a w) {p : Addr} (hp : p.block < a.heap.size → S p.block) (u : Value) : Upd S a (w.setCell p u) :=
  h.step (T := fun k => k = p.block) ⟨rfl, rfl, rfl, by simp [World.setCell], fun k _ hk => Below.heap_setCell _ _ _ _ (fun e => hk e)⟩
    (fun i hi e => by subst e; exact hp hi)
theorem Upd.below {a b : World} (h : Upd (fun _ => False) a b) : Below a.heap.size a b :=
  ⟨h.os, h.tape, h.output, h.size, fun k hk => h.block k hk (fun h => h)⟩
theorem Upd.ofBelow {a b : World} (h : Below a.heap.size a b) : Upd (fun _ => False) a b :=
  ⟨h.os, h.tape, h.output, h.size, fun k hk _ => h.block k hk⟩
/-- A block that stands where nothing was turned. -/
theorem Upd.at {S : Nat → Prop} {a b : World} (h : Upd S a b) {k : Nat} {o : Obj} (hk : a.heap[k]? = some o) (hS : ¬ S k) : b.heap[k]? = some o :=
  (h.block k (Array.getElem?_eq_some_iff.1 hk).1 hS).trans hk
theorem lt_of_heap {w : World} {k : Nat} {o : Obj} (h : w.heap[k]? = some o) : k < w.heap.size := (Array.getElem?_eq_some_iff.1 h).1

/-! ### Blocks behind the world's steps -/
theorem heap_drew' (w : World) (k : Nat) : w.drew.heap[k]? = w.heap[k]? := rfl
theorem heap_drewN' (w : World) (n k : Nat) : (w.drewN n).heap[k]? = w.heap[k]? := rfl
theorem heap_alloc_at {w : World} {k : Nat} {o : Obj} (h : w.heap[k]? = some o) (o' : Obj) : (w.alloc o').heap[k]? = some o := by
  rw [Below.heap_alloc w o' k (lt_of_heap h)]; exact h
theorem cell_of {w : World} {b : Nat} {cs : Array Value} {t : TypeId} {m : Nat × Nat} (h : w.heap[b]? = some (.cells cs t m)) (j : Nat) (v : Value) (hv : cs[j]? = some v) : w.cell? ⟨b, j, none⟩ = some v := by
  rw [cell_of_row w b j cs t m h]; exact hv
theorem free_of {w : World} {b : Nat} {cs : Array Value} {t : TypeId} (h : w.heap[b]? = some (.cells cs t (0, 0))) (j : Nat) : w.frozen? ⟨b, j, none⟩ = false := frozen_of_row w b j cs t h
theorem heap_set {w : World} {g : Nat} {cs : Array Value} {t : TypeId} (hg : w.heap[g]? = some (.cells cs t (0, 0))) (i : Nat) (v : Value) :
    (w.setCell ⟨g, i, none⟩ v).heap[g]? = some (.cells (cs.setIfInBounds i v) t (0, 0)) := heap_setCell_same w g i cs t v hg
theorem heap_set_ne {w : World} {g : Nat} {o : Obj} (hg : w.heap[g]? = some o) {a : Addr} (h : g ≠ a.block) (v : Value) :
    (w.setCell a v).heap[g]? = some o := by rw [heap_setCell_other w a g v h]; exact hg

/-- An object with one cell written. -/
def objSet (i : Nat) (v : Value) : Obj → Obj
  | .cells c t m => .cells (c.setIfInBounds i v) t m
  | o => o
theorem objSet_cells (i : Nat) (v : Value) (c : Array Value) (t : TypeId) (m : Nat × Nat) : objSet i v (.cells c t m) = .cells (c.setIfInBounds i v) t m := rfl
theorem heapK_setCell (w : World) (g i : Nat) (v : Value) (k : Nat) : (w.setCell ⟨g, i, none⟩ v).heap[k]? = if k = g then (w.heap[k]?).map (objSet i v) else w.heap[k]? := by
  simp only [World.setCell, Array.getElem?_modify]
  by_cases h : g = k
  · subst h
    rw [if_pos rfl, if_pos rfl]
    cases hg : w.heap[g]? with
    | none => rfl
    | some o => cases o <;> rfl
  · rw [if_neg h, if_neg (fun e => h e.symm)]
theorem heapK_alloc (w : World) (o : Obj) (k : Nat) : (w.alloc o).heap[k]? = if k = w.heap.size then some o else w.heap[k]? := by
  show (w.heap.push o)[k]? = _
  rw [Array.getElem?_push]

/-! ### A row of elements -/
def slotsVals (s : List El) : List Value := s.flatMap El.cells
theorem slotsVals_length (s : List El) : (slotsVals s).length = s.length * 5 := by
  induction s with
  | nil => rfl
  | cons e s ih =>
    have h : slotsVals (e :: s) = e.cells ++ slotsVals s := rfl
    rw [h, List.length_append, ih, El.cells_length]; simp only [List.length_cons]; omega
theorem slotsVals_get (s : List El) : ∀ (i j : Nat) (e : El), s[i]? = some e → j < 5 → (slotsVals s)[i * 5 + j]? = e.cells[j]? := by
  induction s with
  | nil => intro i j e h; simp at h
  | cons e0 s ih =>
    intro i j e h hj
    have h' : slotsVals (e0 :: s) = e0.cells ++ slotsVals s := rfl
    rw [h']
    cases i with
    | zero =>
      simp at h; subst h
      rw [Nat.zero_mul, Nat.zero_add, List.getElem?_append_left (by rw [El.cells_length]; omega)]
    | succ i =>
      simp at h
      rw [List.getElem?_append_right (by rw [El.cells_length]; omega), El.cells_length]
      have e1 : (i + 1) * 5 + j - 5 = i * 5 + j := by omega
      rw [e1]
      exact ih i j e h hj
theorem slots_cells {w : World} {r : Nat} {s : List El} {t : TypeId} {m : Nat × Nat} (h : w.heap[r]? = some (.cells (slotsVals s).toArray t m)) {i : Nat} {e : El} (hi : s[i]? = some e) :
    w.cell? ⟨r, i * 5, none⟩ = some (.int .i64 e.kind) ∧ w.cell? ⟨r, i * 5 + 1, none⟩ = some (.string e.key) ∧ w.cell? ⟨r, i * 5 + 2, none⟩ = some (.int .i64 e.time)
      ∧ w.cell? ⟨r, i * 5 + 3, none⟩ = some (.int .i64 e.value) ∧ w.cell? ⟨r, i * 5 + 4, none⟩ = some (.int .i64 e.at_) := by
  have g := fun j hj => slotsVals_get s i j e hi hj
  refine ⟨cell_of h _ _ ?_, cell_of h _ _ ?_, cell_of h _ _ ?_, cell_of h _ _ ?_, cell_of h _ _ ?_⟩
  · simpa [El.cells] using g 0 (by omega)
  · simpa [El.cells] using g 1 (by omega)
  · simpa [El.cells] using g 2 (by omega)
  · simpa [El.cells] using g 3 (by omega)
  · simpa [El.cells] using g 4 (by omega)
theorem slotsVals_set (s : List El) : ∀ (i : Nat) (e : El), i < s.length →
    (((((slotsVals s).set (i * 5) (.int .i64 e.kind)).set (i * 5 + 1) (.string e.key)).set (i * 5 + 2) (.int .i64 e.time)).set (i * 5 + 3) (.int .i64 e.value)).set (i * 5 + 4) (.int .i64 e.at_) = slotsVals (s.set i e) := by
  induction s with
  | nil => intro i e h; simp at h
  | cons e0 s ih =>
    intro i e h
    have h' : ∀ x xs, slotsVals (x :: xs) = x.cells ++ slotsVals xs := fun _ _ => rfl
    cases i with
    | zero =>
      simp only [List.set_cons_zero, h']
      simp [El.cells]
    | succ i =>
      simp only [List.set_cons_succ, h']
      have hl : ∀ (xs : List Value) (k : Nat) (v : Value), (e0.cells ++ xs).set ((i + 1) * 5 + k) v = e0.cells ++ xs.set (i * 5 + k) v := by
        intro xs k v
        rw [List.set_append_right _ _ (by rw [El.cells_length]; omega), El.cells_length]
        have e1 : (i + 1) * 5 + k - 5 = i * 5 + k := by omega
        rw [e1]
      have h0 := fun xs v => hl xs 0 v
      simp only [Nat.add_zero] at h0
      rw [h0, hl, hl, hl, hl, ih i e (by simpa using h)]
theorem slots_set {w : World} {r : Nat} {s : List El} {t : TypeId} (h : w.heap[r]? = some (.cells (slotsVals s).toArray t (0, 0))) {i : Nat} (e : El) (hi : i < s.length) :
    (((((w.setCell ⟨r, i * 5, none⟩ (.int .i64 e.kind)).setCell ⟨r, i * 5 + 1, none⟩ (.string e.key)).setCell ⟨r, i * 5 + 2, none⟩ (.int .i64 e.time)).setCell ⟨r, i * 5 + 3, none⟩ (.int .i64 e.value)).setCell ⟨r, i * 5 + 4, none⟩ (.int .i64 e.at_)).heap[r]?
      = some (.cells (slotsVals (s.set i e)).toArray t (0, 0)) := by
  rw [heap_set (heap_set (heap_set (heap_set (heap_set h _ _) _ _) _ _) _ _) _ _]
  simp only [List.setIfInBounds_toArray]
  rw [slotsVals_set s i e hi]
/-- A region whose head only reads, in the text's order; its tail in the one order there is. The world stands as 'w.drew'. -/
theorem wp_region_tail {P : Program} {id : Nat} {Q : Exit → Act → World → Prop} {a : Act} {w : World} {l : List Oper} (n : Nat) (hm : P.follows .mixedOrders = true) (hB : Region.lexTailB .any l.toArray n = true)
    (h : wpStill P l.toArray w.drew (fun a' => wpList P l.toArray Q (l.drop n) a' w.drew) (l.take n) a) : (Code.region id l.toArray true).wp P Q a w :=
  wp_region_still_tail n hm hB h

/-! ### An element in a block of its own -/
abbrev El.obj (e : El) : Obj := .cells #[.int .i64 e.kind, .string e.key, .int .i64 e.time, .int .i64 e.value, .int .i64 e.at_] 46 (0, 0)
theorem El.box (w : World) (e : El) : (w.alloc e.obj).heap[w.heap.size]? = some e.obj := by rw [heapK_alloc, if_pos rfl]
theorem El.box_cells {w : World} {b : Nat} {e : El} (h : w.heap[b]? = some e.obj) :
    w.cell? ⟨b, 0, none⟩ = some (.int .i64 e.kind) ∧ w.cell? ⟨b, 1, none⟩ = some (.string e.key) ∧ w.cell? ⟨b, 2, none⟩ = some (.int .i64 e.time)
      ∧ w.cell? ⟨b, 3, none⟩ = some (.int .i64 e.value) ∧ w.cell? ⟨b, 4, none⟩ = some (.int .i64 e.at_) :=
  ⟨cell_of h 0 _ rfl, cell_of h 1 _ rfl, cell_of h 2 _ rfl, cell_of h 3 _ rfl, cell_of h 4 _ rfl⟩

theorem El.zero_cells {w : World} {b : Nat} (h : w.heap[b]? = some El.zero.obj) :
    w.cell? ⟨b, 0, none⟩ = some (.int .i64 0) ∧ w.cell? ⟨b, 1, none⟩ = some (.string ⟨#[]⟩) ∧ w.cell? ⟨b, 2, none⟩ = some (.int .i64 0)
      ∧ w.cell? ⟨b, 3, none⟩ = some (.int .i64 0) ∧ w.cell? ⟨b, 4, none⟩ = some (.int .i64 0) := El.box_cells h
/-! ### What 'make' makes -/
def zeroRow (n : Nat) : Array Value := (slotsVals (List.replicate n El.zero)).toArray
theorem made_zeroRow (n : Nat) : madeCells (Value.agg #[.int .i64 0, .string ⟨#[]⟩, .int .i64 0, .int .i64 0, .int .i64 0]).cells (n * 5) = zeroRow n := by
  apply Array.ext
  · rw [size_madeCells]; simp [zeroRow, slotsVals_length]
  · intro i h1 h2
    rw [size_madeCells] at h1
    have hd : i / 5 < n := by omega
    have hg := slotsVals_get (List.replicate n El.zero) (i / 5) (i % 5) El.zero (by rw [List.getElem?_replicate]; simp [hd]) (Nat.mod_lt _ (by omega))
    rw [show i / 5 * 5 + i % 5 = i from by omega] at hg
    have h2' : i < (slotsVals (List.replicate n El.zero)).length := by simpa [zeroRow] using h2
    rw [List.getElem?_eq_getElem h2'] at hg
    have h5 : i % 5 < 5 := Nat.mod_lt _ (by omega)
    have e2 : (zeroRow n)[i]'h2 = (slotsVals (List.replicate n El.zero))[i]'h2' := by simp [zeroRow]
    rw [e2]
    have e1 : (madeCells (Value.agg #[.int .i64 0, .string ⟨#[]⟩, .int .i64 0, .int .i64 0, .int .i64 0]).cells (n * 5))[i]'(by rw [size_madeCells]; exact h1) = El.zero.cells[i % 5]'h5 := by
      simp only [madeCells, Value.cells]
      rw [Array.getElem_map]
      simp only [Array.getElem_range]
      have : (#[Value.int .i64 0, .string ⟨#[]⟩, .int .i64 0, .int .i64 0, .int .i64 0] : Array Value).size = 5 := rfl
      rw [this]
      have hr : ∀ j (hj : j < 5), (#[Value.int .i64 0, .string ⟨#[]⟩, .int .i64 0, .int .i64 0, .int .i64 0] : Array Value)[j]! = El.zero.cells[j]'hj := by
        intro j hj
        match j, hj with
        | 0, _ => rfl
        | 1, _ => rfl
        | 2, _ => rfl
        | 3, _ => rfl
        | 4, _ => rfl
      exact hr _ h5
    rw [e1]
    rw [List.getElem?_eq_getElem h5] at hg
    exact (Option.some.inj hg).symm
theorem zeroRow_eq (n : Nat) : zeroRow n = (slotsVals (List.replicate n El.zero)).toArray := rfl

/-! ### A ring's places -/
theorem mod_room {x room : Nat} (h : x < room + room) : x % room = if x < room then x else x - room := by
  split
  · exact Nat.mod_eq_of_lt (by assumption)
  · rw [Nat.mod_eq_sub_mod (by omega), Nat.mod_eq_of_lt (by omega)]
theorem ring_push {s l : List El} {k room : Nat} (e : El) (hk : k < room) (hs : s.length = room) (hl : l.length < room)
    (hg : ∀ i, i < l.length → s[(k + i) % room]? = l[i]?) :
    ∀ i, i < (l ++ [e]).length → (s.set ((k + l.length) % room) e)[(k + i) % room]? = (l ++ [e])[i]? := by
  intro i hi
  simp only [List.length_append, List.length_cons, List.length_nil] at hi
  have hm := mod_room (x := k + l.length) (room := room) (by omega)
  have hm' := mod_room (x := k + i) (room := room) (by omega)
  by_cases h : i < l.length
  · rw [List.getElem?_append_left h, ← hg i h, List.getElem?_set_ne]
    rw [hm, hm']
    split <;> split <;> omega
  · obtain rfl : i = l.length := by omega
    rw [List.getElem?_set_self (by rw [hs]; exact Nat.mod_lt _ (by omega))]
    simp
theorem ring_drop {s l : List El} {k room : Nat} (e z : El) (hk : k < room) (_hs : s.length = room) (hl : (e :: l).length ≤ room)
    (hg : ∀ i, i < (e :: l).length → s[(k + i) % room]? = (e :: l)[i]?) :
    ∀ i, i < l.length → (s.set k z)[((k + 1) % room + i) % room]? = l[i]? := by
  intro i hi
  simp only [List.length_cons] at hl
  have h1 := hg (i + 1) (by simp; omega)
  simp only [List.getElem?_cons_succ] at h1
  rw [← h1]
  have e1 : ((k + 1) % room + i) % room = (k + (i + 1)) % room := by
    rw [Nat.mod_add_mod]; congr 1; omega
  rw [e1, List.getElem?_set_ne]
  rw [mod_room (x := k + (i + 1)) (room := room) (by omega)]
  split <;> omega
end Go.Proofs.Ytijkcahdegohiaa
