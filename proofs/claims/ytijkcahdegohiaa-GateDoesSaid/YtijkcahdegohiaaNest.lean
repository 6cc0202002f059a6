/-
  A slice of slices of elements of the call's own: what an append onto one of them, or a 'l[1:]' of one, makes of it. No program's function in sight.
-/
import Derived.Test.YtijkcahdegohiaaLawPd
import Derived.Test.YtijkcahdegohiaaLawMr
import Derived.Test.YtijkcahdegohiaaPlainA
namespace Go.Proofs.Ytijkcahdegohiaa
open Go.RowKit

abbrev nilS : Value := .slice none 0 0
theorem OwnAt.typed {w : World} {B : Nat} {e : TypeId} {size : Nat} {v : Value} {n : Nat} {xs : List Value} (h : OwnAt w B e size v n xs) {k : Nat} (hk : v.ownBlock = some k) : ∃ cur, w.heap[k]? = some (.cells cur e (0, 0)) := by
  obtain ⟨h1, ⟨rfl, _⟩ | ⟨g, off, cap, cur, rfl, hB, hg, hr⟩⟩ := h
  · simp [Value.ownBlock] at hk
  · simp [Value.ownBlock] at hk
    subst hk
    exact ⟨cur, hg⟩

/-- The rows lie in slices of their own in blocks from D on; their slices lie in block b. -/
structure NestAt (w : World) (D b n : Nat) (vs : List Value) (rows : List (List El)) : Prop where
  hb : w.heap[b]? = some (.cells vs.toArray 52 (0, 0))
  lb : D ≤ b
  lv : vs.length = n
  lr : rows.length = n
  own : ∀ i, i < n → OwnAt w D 46 5 (vs.getD i nilS) (rows.getD i []).length (slotsVals (rows.getD i []))
  inj : ∀ i j k, i < n → j < n → (vs.getD i nilS).ownBlock = some k → (vs.getD j nilS).ownBlock = some k → i = j

section
variable {w w' : World} {D b n : Nat} {vs : List Value} {rows : List (List El)}
theorem NestAt.far (h : NestAt w D b n vs rows) {i : Nat} (hi : i < n) {k : Nat} {c : Array Value} {t : TypeId} {m : Nat × Nat} (hk : w.heap[k]? = some (.cells c t m)) (ht : t ≠ 46) : ¬ (vs.getD i nilS).ownBlock = some k := fun hv => by
  obtain ⟨cur, hc⟩ := (h.own i hi).typed hv
  exact ne_of_type hk hc ht rfl
theorem NestAt.upd {S : Nat → Prop} (h : NestAt w D b n vs rows) (hU : Upd S w w') (hS : ∀ k, D ≤ k → k < w.heap.size → ¬ S k) : NestAt w' D b n vs rows :=
  ⟨hU.at h.hb (hS _ h.lb (lt_of_heap h.hb)), h.lb, h.lv, h.lr, fun i hi => (h.own i hi).upd hU (fun k hk => hS k ((h.own i hi).lt hk).1 ((h.own i hi).lt hk).2), h.inj⟩
theorem NestAt.upd0 (h : NestAt w D b n vs rows) (hU : Upd (fun _ => False) w w') : NestAt w' D b n vs rows := h.upd hU (fun _ _ _ h => h)
/-- A block of another kind was turned. -/
theorem NestAt.other {S : Nat → Prop} (h : NestAt w D b n vs rows) (hU : Upd S w w') (hS : ∀ k c t m, S k → w.heap[k]? = some (.cells c t m) → t ≠ 52 ∧ t ≠ 46) : NestAt w' D b n vs rows :=
  ⟨hU.at h.hb (fun hk => (hS _ _ _ _ hk h.hb).1 rfl), h.lb, h.lv, h.lr, fun i hi => (h.own i hi).upd hU (fun k hk hs => by
    obtain ⟨cur, hc⟩ := (h.own i hi).typed hk
    exact (hS _ _ _ _ hs hc).2 rfl), h.inj⟩
/-- Row i has become l, its slice v'. -/
theorem NestAt.set (h : NestAt w D b n vs rows) {i : Nat} (hi : i < n) {l : List El} {v' : Value} {w1 : World} (hO : OwnAt w1 D 46 5 v' l.length (slotsVals l)) (hU : Upd (fun k => (vs.getD i nilS).ownBlock = some k) w w1)
    (hv : v'.ownBlock = (vs.getD i nilS).ownBlock ∨ ∃ g, v'.ownBlock = some g ∧ w.heap.size ≤ g) :
    NestAt (w1.setCell ⟨b, i, none⟩ v') D b n (vs.set i v') (rows.set i l) ∧ Upd (fun k => k = b ∨ (vs.getD i nilS).ownBlock = some k) w (w1.setCell ⟨b, i, none⟩ v') := by
  have hb1 := hU.at h.hb (h.far hi h.hb (by decide))
  have hV : Upd (fun k => k = b) w1 (w1.setCell ⟨b, i, none⟩ v') := Upd.setCell (S := fun k => k = b) (p := ⟨b, i, none⟩) (Upd.refl _ _) (fun _ => rfl) v'
  refine ⟨⟨?_, h.lb, by simpa using h.lv, by simpa using h.lr, fun j hj => ?_, fun j k x hj hk hxj hxk => ?_⟩, (hU.mono (T := fun k => k = b ∨ (vs.getD i nilS).ownBlock = some k) (fun _ _ h => .inr h)).step hV (fun _ _ h => .inl h)⟩
  · rw [heap_set hb1]; simp [List.setIfInBounds_toArray]
  · by_cases hij : i = j
    · subst hij
      rw [getD_set_eq _ _ _ _ (by rw [h.lv]; exact hi), getD_set_eq _ _ _ _ (by rw [h.lr]; exact hi)]
      refine hO.upd hV (fun k hk hkb => ?_)
      subst hkb
      obtain ⟨cur, hc⟩ := hO.typed hk
      exact ne_of_type hb1 hc (by decide) rfl
    · rw [getD_set_ne' _ _ _ _ _ hij, getD_set_ne' _ _ _ _ _ hij]
      refine ((h.own j hj).upd hU (fun k hk hki => hij (h.inj i j k hi hj hki hk))).upd hV (fun k hk hkb => ?_)
      subst hkb
      exact h.far hj h.hb (by decide) hk
  · by_cases hij : i = j
    · subst hij
      by_cases hik : i = k
      · exact hik
      · rw [getD_set_eq _ _ _ _ (by rw [h.lv]; exact hi)] at hxj
        rw [getD_set_ne' _ _ _ _ _ hik] at hxk
        rcases hv with hv | ⟨g, hv, hg⟩
        · exact h.inj i k x hi hk (by rw [← hv]; exact hxj) hxk
        · have h1 := ((h.own k hk).lt hxk).2
          rw [hxj] at hv; injection hv with hv
          omega
    · rw [getD_set_ne' _ _ _ _ _ hij] at hxj
      by_cases hik : i = k
      · subst hik
        rw [getD_set_eq _ _ _ _ (by rw [h.lv]; exact hi)] at hxk
        rcases hv with hv | ⟨g, hv, hg⟩
        · exact h.inj j i x hj hi hxj (by rw [← hv]; exact hxk)
        · have h1 := ((h.own j hj).lt hxj).2
          rw [hxk] at hv; injection hv with hv
          omega
      · rw [getD_set_ne' _ _ _ _ _ hik] at hxk
        exact h.inj j k x hj hk hxj hxk
/-- The cell that a walk reads: row i's slice. -/
theorem NestAt.cell (h : NestAt w D b n vs rows) {i : Nat} (hi : i < n) : w.cell? ⟨b, i, none⟩ = some (vs.getD i nilS) :=
  cell_of h.hb i _ (by simp [List.getElem?_eq_getElem (show i < vs.length by rw [h.lv]; exact hi)])
theorem NestAt.shape (h : NestAt w D b n vs rows) {i : Nat} (hi : i < n) : ∃ A cap, vs.getD i nilS = .slice A (rows.getD i []).length cap := (h.own i hi).shape
end

theorem Try.info52 : (Try.prog.info? 52).map (fun i => (i.zero, i.size, i.bytes)) = some (some nilS, 1, 24) := by kernel_rfl
theorem made_nilRow (n : Nat) : madeCells nilS.cells (n * 1) = (List.replicate n nilS).toArray := by
  apply Array.ext
  · rw [size_madeCells]; simp
  · intro i h1 h2
    have e2 : ((List.replicate n nilS).toArray)[i]'h2 = nilS := by simp
    have e1 : (madeCells nilS.cells (n * 1))[i]'h1 = nilS := by
      simp only [madeCells, Value.cells]
      rw [Array.getElem_map]
      simp only [Array.getElem_range]
      have : (#[nilS] : Array Value).size = 1 := rfl
      rw [this, Nat.mod_one]
      rfl
    rw [e1, e2]
theorem make70 (n : Nat) (hn : n ≤ 1000000) (w : World) : (Instr.makeSlice 70 (.int .i64 n) (.int .i64 n)).run Try.prog w = .ok (.slice (some ⟨w.heap.size, 0, none⟩) n n) (w.alloc (.cells (List.replicate n nilS).toArray 52 (0, 0))) := by
  obtain ⟨i, hi, hz, hs, hb⟩ := info_parts Try.info52
  have h := run_make (P := Try.prog) w 70 52 i _ Try.underlying70 hi hz .i64 .i64 n n (by omega) (by omega) (by rw [hb]; omega) (by omega)
  rw [h, hs, Int.toNat_natCast, made_nilRow]
theorem getD_rep {α : Type} (n i : Nat) (x : α) : (List.replicate n x).getD i x = x := by
  rw [List.getD_eq_getElem?_getD, List.getElem?_replicate]
  split <;> rfl
/-- Rows of none. -/
theorem NestAt.start (w : World) (D n : Nat) (h : D ≤ w.heap.size) : NestAt (w.alloc (.cells (List.replicate n nilS).toArray 52 (0, 0))) D w.heap.size n (List.replicate n nilS) (List.replicate n []) := by
  refine ⟨by rw [heapK_alloc, if_pos rfl], h, by simp, by simp, fun i hi => ?_, fun i j k hi hj h1 _ => ?_⟩
  · rw [getD_rep, getD_rep]; exact OwnAt.nil _ _ _ _
  · rw [getD_rep] at h1; simp [Value.ownBlock] at h1
end Go.Proofs.Ytijkcahdegohiaa
