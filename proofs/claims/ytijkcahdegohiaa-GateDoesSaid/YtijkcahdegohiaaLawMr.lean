/-
  The law MarkRaises, as a call.
-/
import Derived.Test.YtijkcahdegohiaaLawM
namespace Go.Proofs.Ytijkcahdegohiaa
open Go.RowKit

/-! ### The least of a list -/
theorem leastL_le_aux : ∀ (l : List Int) (a : Int), l.foldl (fun o x => if x < o then x else o) a ≤ a ∧ ∀ x ∈ l, l.foldl (fun o x => if x < o then x else o) a ≤ x
  | [], a => ⟨Int.le_refl _, fun x hx => by cases hx⟩
  | y :: l, a => by
    rw [List.foldl_cons]
    obtain ⟨h1, h2⟩ := leastL_le_aux l (if y < a then y else a)
    have hy : (if y < a then y else a) ≤ y ∧ (if y < a then y else a) ≤ a := by split <;> omega
    refine ⟨by omega, fun x hx => ?_⟩
    rcases List.mem_cons.1 hx with rfl | hx
    · omega
    · exact h2 x hx
theorem leastL_le {l : List Int} {x : Int} (h : x ∈ l) : leastL l ≤ x := (leastL_le_aux l forever).2 x h
theorem leastL_le_forever (l : List Int) : leastL l ≤ forever := (leastL_le_aux l forever).1
theorem le_leastL_aux {m : Int} : ∀ (l : List Int) (a : Int), m ≤ a → (∀ x ∈ l, m ≤ x) → m ≤ l.foldl (fun o x => if x < o then x else o) a
  | [], a, h, _ => h
  | y :: l, a, h, h' => by
    rw [List.foldl_cons]
    have hy := h' y (by simp)
    exact le_leastL_aux l _ (by split <;> omega) (fun x hx => h' x (by simp [hx]))
theorem le_leastL {l : List Int} {m : Int} (h : m ≤ forever) (h' : ∀ x ∈ l, m ≤ x) : m ≤ leastL l := le_leastL_aux l forever h h'
theorem raiseL_length (l : List Int) (i : Nat) (a : Int) : (raiseL l i a).length = l.length := by unfold raiseL; split <;> simp
theorem leastL_raise (l : List Int) (i : Nat) (a : Int) : leastL l ≤ leastL (raiseL l i a) := by
  refine le_leastL (leastL_le_forever l) fun x hx => ?_
  unfold raiseL at hx
  split at hx
  · rename_i hlt
    rcases List.mem_or_eq_of_mem_set hx with h | rfl
    · exact leastL_le h
    · by_cases hi : i < l.length
      · have : l.getD i 0 ∈ l := by simp [List.getElem?_eq_getElem hi]
        have := leastL_le this
        omega
      · rw [List.set_eq_of_length_le (by omega)] at hx
        exact leastL_le hx
  · exact leastL_le hx
theorem raiseL_getD (l : List Int) (i : Nat) (a : Int) (hi : i < l.length) : (raiseL l i a).getD i 0 = if l.getD i 0 < a then a else l.getD i 0 := by
  unfold raiseL
  split
  · simp [hi]
  · rfl
theorem raiseL_set (l : List Int) (i : Nat) (a : Int) (hi : i < l.length) : l.set i (if l.getD i 0 < a then a else l.getD i 0) = raiseL l i a := by
  unfold raiseL
  split
  · rfl
  · apply List.ext_getElem?
    intro j
    rw [List.getElem?_set]
    split
    · rename_i e; subst e; simp [List.getElem?_eq_getElem hi]
    · rfl

/-! ### Slices of pairs that are read; a slice of whole numbers of the call's own -/
def PairsRd (w : World) (A : Option Addr) (cs : List (Int × Int)) : Prop :=
  ∃ b off, (cs ≠ [] → A = some ⟨b, off, none⟩) ∧ ∀ i x, cs[i]? = some x → w.cell? ⟨b, off + i * 2, none⟩ = some (.int .i64 x.1) ∧ w.cell? ⟨b, off + i * 2 + 1, none⟩ = some (.int .i64 x.2)
theorem PairsRd.upd0 {w w' : World} {A : Option Addr} {cs : List (Int × Int)} (h : PairsRd w A cs) (hU : Upd (fun _ => False) w w') : PairsRd w' A cs := by
  obtain ⟨b, off, hA, hc⟩ := h
  refine ⟨b, off, hA, fun i x hx => ?_⟩
  obtain ⟨h1, h2⟩ := hc i x hx
  have hlt := World.block_lt_of_cell? w _ h1
  exact ⟨(World.cell?_of_block (w := w) (hU.block b hlt (fun h => h))).trans h1, (World.cell?_of_block (w := w) (hU.block b hlt (fun h => h))).trans h2⟩
def intRow (zs : List Int) : Array Value := (zs.map (Value.int .i64)).toArray
theorem intRow_get (zs : List Int) (i : Nat) (x : Int) (h : zs[i]? = some x) : (intRow zs)[i]? = some (.int .i64 x) := by simp [intRow, h]
theorem intRow_set (zs : List Int) (i : Nat) (x : Int) : (intRow zs).setIfInBounds i (.int .i64 x) = intRow (zs.set i x) := by simp [intRow, List.map_set]
theorem made_intRow (n : Nat) : madeCells (Value.int .i64 0).cells (n * 1) = intRow (List.replicate n 0) := by
  apply Array.ext
  · rw [size_madeCells]; simp [intRow]
  · intro i h1 h2
    have e2 : (intRow (List.replicate n 0))[i]'h2 = .int .i64 0 := by simp [intRow]
    have e1 : (madeCells (Value.int .i64 0).cells (n * 1))[i]'h1 = .int .i64 0 := by
      simp only [madeCells, Value.cells]
      rw [Array.getElem_map]
      simp only [Array.getElem_range]
      have : (#[Value.int .i64 0] : Array Value).size = 1 := rfl
      rw [this, Nat.mod_one]
      rfl
    rw [e1, e2]
theorem make30 (n : Nat) (hn : n ≤ 1000000) (w : World) : (Instr.makeSlice 30 (.int .i64 n) (.int .i64 n)).run Try.prog w = .ok (.slice (some ⟨w.heap.size, 0, none⟩) n n) (w.alloc (.cells (intRow (List.replicate n 0)) 3 (0, 0))) := by
  obtain ⟨i, hi, hz, hs, hb⟩ := info_parts Try.info3
  have h := run_make (P := Try.prog) w 30 3 i _ Try.underlying30 hi hz .i64 .i64 n n (by omega) (by omega) (by rw [hb]; omega) (by omega)
  rw [h, hs, Int.toNat_natCast, made_intRow]
theorem IntsRd.ofRow {w : World} {b : Nat} {zs : List Int} {t : TypeId} {m : Nat × Nat} (h : w.heap[b]? = some (.cells (intRow zs) t m)) : IntsRd w (some ⟨b, 0, none⟩) zs :=
  ⟨b, 0, fun _ => rfl, fun i x hx => cell_of h _ _ (by rw [Nat.zero_add]; exact intRow_get zs i x hx)⟩

theorem c25n (A : Option Addr) (n cap : Nat) (zs : List Int) (w : World) (h : IntsRd w A zs) (hn : zs.length = n) (hlen : n ≤ 1000000) :
    Calls Try.prog 25 #[.slice A n cap] w fun x w' => x = .returned (.int .i64 (leastL zs)) ∧ w = w' := by
  subst hn
  exact c25 A cap zs w h hlen
set_option maxRecDepth 100000 in
set_option maxHeartbeats 1600000 in
theorem c5_far (A : Option Addr) (cap n : Nat) (m : Int) (w : World) (h : 300 < n) :
    Calls Try.prog 5 #[.int .i64 m, .slice A n cap] w fun x w' => x = .returned (.bool true) ∧ Upd (fun _ => False) w w' := by
  have h' : (300 : Int) < n := by omega
  go_enter Try.func5, Try.ntmps5
  go_wp2_with fail
  go_ret
  exact ⟨rfl, Upd.refl _ _⟩

set_option maxRecDepth 100000 in
set_option maxHeartbeats 1600000 in
theorem c5_bad (A : Option Addr) (cap n : Nat) (m : Int) (w : World) (h : n ≤ 300) (hm : m < 1 ∨ 16 < m) :
    Calls Try.prog 5 #[.int .i64 m, .slice A n cap] w fun x w' => x = .returned (.bool true) ∧ Upd (fun _ => False) w w' := by
  have h' : ¬ (300 : Int) < n := by omega
  have HM := Lib.hid hm
  by_cases h1 : m < 1
  · clear hm
    go_enter Try.func5, Try.ntmps5
    go_wp2_with (first | (go_at_call 21; refine (c21_bad m _ HM.out).mono ?_; rintro x w1 ⟨rfl, rfl⟩) | (go_at_call 19; refine (c19 _).mono ?_; rintro x w2 ⟨rfl, hU2⟩))
    go_ret
    exact ⟨rfl, hU2⟩
  · have h2 : 16 < m := by omega
    clear hm
    go_enter Try.func5, Try.ntmps5
    go_wp2_with (first | (go_at_call 21; refine (c21_bad m _ HM.out).mono ?_; rintro x w1 ⟨rfl, rfl⟩) | (go_at_call 19; refine (c19 _).mono ?_; rintro x w2 ⟨rfl, hU2⟩))
    go_ret
    exact ⟨rfl, hU2⟩

set_option maxRecDepth 100000 in
set_option maxHeartbeats 6400000 in
theorem c5_run (A : Option Addr) (cap n : Nat) (cs : List (Int × Int)) (w : World) (h : PairsRd w A cs) (hl : cs.length ≤ 300) (h1 : 1 ≤ n) (h2 : n ≤ 16) :
    Calls Try.prog 5 #[.int .i64 n, .slice A cs.length cap] w fun x w' => x = .returned (.bool true) ∧ Upd (fun _ => False) w w' := by
  have HRD := Lib.hid h
  generalize hN : cs.length = N at *
  have HN := Lib.hid hN
  have g0 : ¬ (300 : Int) < N := by omega
  have g1 : ¬ (n : Int) < 1 := by omega
  have g2 : ¬ (16 : Int) < n := by omega
  clear h hN
  go_enter Try.func5, Try.ntmps5
  go_wp2_with fail
  refine (c21 n _ h1 h2).mono ?_
  rintro x w1 ⟨rfl, hM1, hU1⟩
  have HM1 := Lib.hid hM1
  have HU1 := Lib.hid hU1
  have hs1 := lt_of_heap hM1.row
  have hmk := fun w => make30 n (by omega) w
  clear hM1 hU1
  go_wp2_with fail
  clear hmk
  go_loopw [8] (fun i wr => ∃ (k : Nat) (zs : List Int), k ≤ N ∧ zs.length = n ∧ i = .int .i64 k ∧ MarksAt wr w.heap.size zs ∧ wr.heap[w1.heap.size]? = some (.cells (intRow zs) 3 (0, 0)) ∧ Upd (fun _ => False) w wr) (fun i _ => N - (intOf i).toNat)
  case atStart => exact ⟨0, List.replicate n 0, by omega, by simp, rfl, HM1.out.upd ((Upd.refl (fun _ => False) _).alloc _) (fun h => h), by rw [heapK_alloc, if_pos rfl], HU1.out.alloc _⟩
  case round =>
    obtain ⟨k, zs, hk, hz, rfl, hM, hrow, hU⟩ := hrel
    have HZ := Lib.hid hz
    have HM := Lib.hid hM
    have HROW := Lib.hid hrow
    have HU := Lib.hid hU
    clear hz hM hrow hU HM1 HU1
    by_cases hlt : k < N
    · obtain ⟨⟨i, a⟩, hx⟩ : ∃ x, cs[k]? = some x := ⟨_, List.getElem?_eq_getElem (by rw [HN.out]; exact hlt)⟩
      obtain ⟨ab, off, hA, hc⟩ := HRD.out.upd0 HU.out
      obtain ⟨hc1, hc2⟩ := hc k _ hx
      dsimp only at hc1 hc2
      obtain rfl := hA (by intro e; rw [e] at hx; simp at hx)
      have a1 : (0 : Int) ≤ k := by omega
      have a2 : (k : Int) < N := by omega
      clear hc hA hx
      by_cases hir : 0 ≤ i ∧ i < n
      · obtain ⟨i0, i1⟩ := hir
        obtain ⟨j, rfl⟩ := Int.eq_ofNat_of_zero_le i0
        have hj : j < n := by omega
        by_cases hma : isMark a = true
        · have HMA := Lib.hid hma
          clear hma
          obtain ⟨x, hx⟩ : ∃ x, zs[j]? = some x := ⟨_, List.getElem?_eq_getElem (by rw [HZ.out]; exact hj)⟩
          have hxd : zs.getD j 0 = x := by simp [hx]
          have hrl := raiseL_getD zs j a (by rw [HZ.out]; exact hj)
          have hrs := raiseL_set zs j a (by rw [HZ.out]; exact hj)
          have hmono := leastL_raise zs j a
          have hrz : (raiseL zs j a).length = n := by rw [raiseL_length]; exact HZ.out
          rw [hxd] at hrl hrs
          have HX := Lib.hid hx
          have HRS := Lib.hid hrs
          have HRZ := Lib.hid hrz
          clear hx hxd hrs hrz
          go_wp2_with fail
          refine (c22 _ zs _ HM.out).mono ?_
          rintro x1 w2 ⟨rfl, rfl⟩
          go_wp2_with fail
          refine (c23 _ zs j a _ HM.out (by rw [HZ.out]; exact hj) HMA.out).mono ?_
          rintro x1 w3 ⟨rfl, hM3, hU3⟩
          have HM3 := Lib.hid hM3
          have hrow3 := hU3.at HROW.out (by omega)
          have HROW3 := Lib.hid hrow3
          have HU3 := Lib.hid (HU.out.step hU3 (by omega))
          have hcl := cell_of hrow3 j _ (intRow_get zs j x HX.out)
          have hfl := free_of hrow3 j
          have hltL := lt_of_heap hrow3
          clear hM3 hrow3 hU3 hc1 hc2
          go_wp2_with fail
          refine (c24 _ (raiseL zs j a) j _ HM3.out (by rw [HRZ.out]; exact hj)).mono ?_
          rw [hrl]
          have HRL := Lib.hid hrl
          clear hrl
          rintro x1 w4 ⟨rfl, rfl⟩
          have b1 : (j : Int) < n := by omega
          by_cases hxa : x < a
          · have hrow5 := heap_set HROW3.out j (.int .i64 a)
            have e0 := HRS.out
            rw [if_pos hxa] at e0
            rw [intRow_set, e0] at hrow5
            have HROW5 := Lib.hid hrow5
            have HM5 := Lib.hid (HM3.out.upd (Upd.setCell (S := fun k => k = w1.heap.size) (p := ⟨w1.heap.size, j, none⟩) (Upd.refl _ _) (fun _ => rfl) (.int .i64 a)) (by omega))
            have HU5 := Lib.hid (Upd.setCell (p := ⟨w1.heap.size, j, none⟩) HU3.out (by simp; omega) (.int .i64 a))
            clear hrow5 e0
            rw [if_pos hxa]
            go_wp2_with (go_at_call 17; refine (c17' a _).mono ?_; rw [HMA.out]; rintro x wx ⟨rfl, rfl⟩)
            refine (c25n _ n n (raiseL zs j a) _ (IntsRd.ofRow HROW5.out) HRZ.out (by omega)).mono ?_
            rintro x1 w6 ⟨rfl, rfl⟩
            go_wp2_with fail
            refine (c22 _ (raiseL zs j a) _ HM5.out).mono ?_
            rintro x1 w7 ⟨rfl, rfl⟩
            go_wp2_with fail
            go_roundw
            case rel => exact ⟨k + 1, raiseL zs j a, by omega, HRZ.out, by go_num, HM5.out, HROW5.out, HU5.out⟩
            case measure => simp [intOf]; omega
          · have hrow5 := heap_set HROW3.out j (.int .i64 x)
            have e0 := HRS.out
            rw [if_neg hxa] at e0
            rw [intRow_set, e0] at hrow5
            have HROW5 := Lib.hid hrow5
            have HM5 := Lib.hid (HM3.out.upd (Upd.setCell (S := fun k => k = w1.heap.size) (p := ⟨w1.heap.size, j, none⟩) (Upd.refl _ _) (fun _ => rfl) (.int .i64 x)) (by omega))
            have HU5 := Lib.hid (Upd.setCell (p := ⟨w1.heap.size, j, none⟩) HU3.out (by simp; omega) (.int .i64 x))
            clear hrow5 e0
            rw [if_neg hxa]
            go_wp2_with (go_at_call 17; refine (c17' a _).mono ?_; rw [HMA.out]; rintro x wx ⟨rfl, rfl⟩)
            refine (c25n _ n n (raiseL zs j a) _ (IntsRd.ofRow HROW5.out) HRZ.out (by omega)).mono ?_
            rintro x1 w6 ⟨rfl, rfl⟩
            go_wp2_with fail
            refine (c22 _ (raiseL zs j a) _ HM5.out).mono ?_
            rintro x1 w7 ⟨rfl, rfl⟩
            go_wp2_with fail
            go_roundw
            case rel => exact ⟨k + 1, raiseL zs j a, by omega, HRZ.out, by go_num, HM5.out, HROW5.out, HU5.out⟩
            case measure => simp [intOf]; omega
        · have HMA : Hid (isMark a = false) := Lib.hid (by simpa using hma)
          clear hma
          go_wp2_with (first | (go_at_call 22; refine (c22 _ zs _ HM.out).mono ?_; rintro x wx ⟨rfl, rfl⟩) | (go_at_call 23; refine (c23_bad _ zs _ a _ HM.out (.inr (.inr HMA.out))).mono ?_; rintro x wx ⟨rfl, rfl⟩) | (go_at_call 24; refine (c24 _ zs j _ HM.out (by rw [HZ.out]; exact hj)).mono ?_; rintro x wx ⟨rfl, rfl⟩) | (go_at_call 17; refine (c17' a _).mono ?_; rw [HMA.out]; rintro x wx ⟨rfl, rfl⟩))
          go_roundw
          case rel => exact ⟨k + 1, zs, by omega, HZ.out, by go_num, HM.out, HROW.out, HU.out⟩
          case measure => simp [intOf]; omega
      · have HOUT := Lib.hid (show i < 0 ∨ (zs.length : Int) ≤ i ∨ isMark a = false by rw [HZ.out]; omega)
        have HOUT2 := Lib.hid (show i < 0 ∨ (zs.length : Int) ≤ i by rw [HZ.out]; omega)
        by_cases i0 : i < 0
        · clear hir
          go_wp2_with (first | (go_at_call 22; refine (c22 _ zs _ HM.out).mono ?_; rintro x wx ⟨rfl, rfl⟩) | (go_at_call 23; refine (c23_bad _ zs _ a _ HM.out HOUT.out).mono ?_; rintro x wx ⟨rfl, rfl⟩) | (go_at_call 24; refine (c24_bad _ zs i _ HM.out HOUT2.out).mono ?_; rintro x wx ⟨rfl, rfl⟩))
          go_roundw
          case rel => exact ⟨k + 1, zs, by omega, HZ.out, by go_num, HM.out, HROW.out, HU.out⟩
          case measure => simp [intOf]; omega
        · have i1 : (n : Int) ≤ i := by omega
          clear hir
          go_wp2_with (first | (go_at_call 22; refine (c22 _ zs _ HM.out).mono ?_; rintro x wx ⟨rfl, rfl⟩) | (go_at_call 23; refine (c23_bad _ zs _ a _ HM.out HOUT.out).mono ?_; rintro x wx ⟨rfl, rfl⟩) | (go_at_call 24; refine (c24_bad _ zs i _ HM.out HOUT2.out).mono ?_; rintro x wx ⟨rfl, rfl⟩))
          go_roundw
          case rel => exact ⟨k + 1, zs, by omega, HZ.out, by go_num, HM.out, HROW.out, HU.out⟩
          case measure => simp [intOf]; omega
    · obtain rfl : k = N := by omega
      go_wp2_with (go_at_call 19; refine (c19 _).mono ?_; rintro x w2 ⟨rfl, hU2⟩)
      go_ret
      exact ⟨rfl, HU.out.trans hU2⟩

/-- MarkRaises, as a call. -/
theorem c5 (m : Int) (A : Option Addr) (cap : Nat) (cs : List (Int × Int)) (w : World) (h : PairsRd w A cs) :
    Calls Try.prog 5 #[.int .i64 m, .slice A cs.length cap] w fun x w' => x = .returned (.bool true) ∧ Upd (fun _ => False) w w' := by
  by_cases hl : 300 < cs.length
  · exact c5_far A cap cs.length m w hl
  · by_cases hm : m < 1 ∨ 16 < m
    · exact c5_bad A cap cs.length m w (by omega) hm
    · obtain ⟨n, rfl⟩ := Int.eq_ofNat_of_zero_le (show 0 ≤ m by omega)
      exact c5_run A cap n cs w h (by omega) (by omega) (by omega)
end Go.Proofs.Ytijkcahdegohiaa
