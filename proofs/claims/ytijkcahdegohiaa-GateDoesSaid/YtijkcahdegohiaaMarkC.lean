/-
  The contracts of mark's Next and Late, of watershedref08's Next and Least; the document's examples of layer 8 hold.
-/
import Derived.Test.YtijkcahdegohiaaMarkB
namespace Go.Proofs.Ytijkcahdegohiaa
open Go.RowKit

def NextOk (m b t : Int) : Prop := (0 ≤ m ∧ m ≤ 1000000001) ∧ -1 ≤ b ∧ b ≤ 1000000 ∧ 0 ≤ t ∧ t ≤ 1000000000
def nextV (m b t : Int) : Int := if b < 0 then m else if m < t - b then t - b else m

theorem ret_int2 {k k' : IntKind} {a b c d : Int} (h : a = b) (h' : c = d) : Ending.returned (.tuple #[.int k a, .int k' c]) = .returned (.tuple #[.int k b, .int k' d]) := by rw [h, h']

set_option maxRecDepth 100000 in
set_option maxHeartbeats 1600000 in
theorem c15 (m b t : Int) (w : World) (h : NextOk m b t) :
    Calls Try.prog 15 #[.int .i64 m, .int .i64 b, .int .i64 t] w fun x w' => x = .returned (.tuple #[.int .i64 (nextV m b t), .int .i64 0]) ∧ w = w' := by
  obtain ⟨⟨h1, h2⟩, h3, h4, h5, h6⟩ := h
  have HM : Hid (isMark m = true) := by unfold isMark; show _ = true; simp; omega
  have g3 : ¬ b < -1 := by omega
  have g4 : ¬ 1000000 < b := by omega
  have g5 : ¬ t < 0 := by omega
  have g6 : ¬ 1000000000 < t := by omega
  by_cases hb : b < 0
  · go_enter Try.func15, Try.ntmps15
    go_wp2_with (go_at_call 50; refine (c50 m _).mono ?_; rw [HM.out]; rintro x w1 ⟨rfl, rfl⟩)
    go_ret2
    exact ⟨ret_int2 (by unfold nextV; rw [if_pos hb]) rfl, rfl⟩
  · by_cases hc : m < t - b
    · go_enter Try.func15, Try.ntmps15
      go_wp2_with (go_at_call 50; refine (c50 m _).mono ?_; rw [HM.out]; rintro x w1 ⟨rfl, rfl⟩)
      go_ret2
      exact ⟨ret_int2 (by unfold nextV; rw [if_neg (by omega), if_pos hc]) rfl, rfl⟩
    · go_enter Try.func15, Try.ntmps15
      go_wp2_with (go_at_call 50; refine (c50 m _).mono ?_; rw [HM.out]; rintro x w1 ⟨rfl, rfl⟩)
      go_ret2
      exact ⟨ret_int2 (by unfold nextV; rw [if_neg (by omega), if_neg (by omega)]) rfl, rfl⟩

set_option maxRecDepth 100000 in
set_option maxHeartbeats 1600000 in
theorem c15_bad (m b t : Int) (w : World) (h : ¬ NextOk m b t) :
    Calls Try.prog 15 #[.int .i64 m, .int .i64 b, .int .i64 t] w fun x w' => x = .returned (.tuple #[.int .i64 0, .int .i64 1]) ∧ w = w' := by
  by_cases hm : isMark m = true
  · have HM := Lib.hid hm
    have hm' : 0 ≤ m ∧ m ≤ 1000000001 := by simpa [isMark] using hm
    clear hm
    by_cases g3 : b < -1
    · clear h hm'
      go_enter Try.func15, Try.ntmps15
      go_wp2_with (go_at_call 50; refine (c50 m _).mono ?_; rw [HM.out]; rintro x w1 ⟨rfl, rfl⟩)
      go_ret2
      exact ⟨rfl, rfl⟩
    · by_cases g4 : 1000000 < b
      · clear h hm'
        go_enter Try.func15, Try.ntmps15
        go_wp2_with (go_at_call 50; refine (c50 m _).mono ?_; rw [HM.out]; rintro x w1 ⟨rfl, rfl⟩)
        go_ret2
        exact ⟨rfl, rfl⟩
      · by_cases g5 : t < 0
        · clear h hm'
          go_enter Try.func15, Try.ntmps15
          go_wp2_with (go_at_call 50; refine (c50 m _).mono ?_; rw [HM.out]; rintro x w1 ⟨rfl, rfl⟩)
          go_ret2
          exact ⟨rfl, rfl⟩
        · have g6 : 1000000000 < t := by
            refine Classical.byContradiction fun g6 => h ⟨hm', by omega, by omega, by omega, by omega⟩
          clear h hm'
          go_enter Try.func15, Try.ntmps15
          go_wp2_with (go_at_call 50; refine (c50 m _).mono ?_; rw [HM.out]; rintro x w1 ⟨rfl, rfl⟩)
          go_ret2
          exact ⟨rfl, rfl⟩
  · have HM : Hid (isMark m = false) := Lib.hid (by simpa using hm)
    clear h hm
    go_enter Try.func15, Try.ntmps15
    go_wp2_with (go_at_call 50; refine (c50 m _).mono ?_; rw [HM.out]; rintro x w1 ⟨rfl, rfl⟩)
    go_ret2
    exact ⟨rfl, rfl⟩

theorem c16 (m t : Int) (w : World) : Calls Try.prog 16 #[.int .i64 m, .int .i64 t] w fun x w' => x = .returned (.bool (decide (t < m))) ∧ w = w' := by
  go_enter Try.func16, Try.ntmps16
  go_wp2
  go_ret
  exact ⟨rfl, rfl⟩

set_option maxRecDepth 100000 in
set_option maxHeartbeats 1600000 in
theorem c20 (m b t : Int) (w : World) (h : NextOk m b t) :
    Calls Try.prog 20 #[.int .i64 m, .int .i64 b, .int .i64 t] w fun x w' => x = .returned (.int .i64 (nextV m b t)) ∧ w = w' := by
  obtain ⟨⟨h1, h2⟩, h3, h4, h5, h6⟩ := h
  by_cases hb : b < 0
  · go_enter Try.func20, Try.ntmps20
    go_wp2
    go_ret
    exact ⟨ret_int (by unfold nextV; rw [if_pos hb]), rfl⟩
  · by_cases hc : t - b < m
    · go_enter Try.func20, Try.ntmps20
      go_wp2
      go_ret
      exact ⟨ret_int (by unfold nextV; rw [if_neg (by omega), if_neg (by omega)]), rfl⟩
    · go_enter Try.func20, Try.ntmps20
      go_wp2
      go_ret
      exact ⟨ret_int (by unfold nextV; rw [if_neg (by omega)]; split <;> omega), rfl⟩

/-! ### Slices of whole numbers that are read -/
def IntsRd (w : World) (A : Option Addr) (zs : List Int) : Prop :=
  ∃ b off, (zs ≠ [] → A = some ⟨b, off, none⟩) ∧ ∀ i x, zs[i]? = some x → w.cell? ⟨b, off + i, none⟩ = some (.int .i64 x)
theorem IntsRd.upd {S : Nat → Prop} {w w' : World} {A : Option Addr} {zs : List Int} (h : IntsRd w A zs) (hU : Upd S w w') (hS : ∀ a, A = some a → ¬ S a.block) : IntsRd w' A zs := by
  obtain ⟨b, off, hA, hc⟩ := h
  refine ⟨b, off, hA, fun i x hx => ?_⟩
  have h1 := hc i x hx
  have hne : zs ≠ [] := by intro e; subst e; simp at hx
  have hlt := World.block_lt_of_cell? w _ h1
  rw [← h1]
  exact World.cell?_of_block (w := w) (hU.block b hlt (hS _ (hA hne)))
theorem IntsRd.upd0 {w w' : World} {A : Option Addr} {zs : List Int} (h : IntsRd w A zs) (hU : Upd (fun _ => False) w w') : IntsRd w' A zs := h.upd hU (fun _ _ h => h)

set_option maxRecDepth 100000 in
set_option maxHeartbeats 1600000 in
theorem c25 (A : Option Addr) (cap : Nat) (zs : List Int) (w : World) (h : IntsRd w A zs) (hlen : zs.length ≤ 1000000) :
    Calls Try.prog 25 #[.slice A zs.length cap] w fun x w' => x = .returned (.int .i64 (leastL zs)) ∧ w = w' := by
  obtain ⟨b, off, hA, hc⟩ := h
  have HA := Lib.hid hA
  have HC := Lib.hid hc
  generalize hn : zs.length = n at *
  have HN := Lib.hid hn
  clear hA hc hn
  go_enter Try.func25, Try.ntmps25
  go_wp2
  go_loop [3, 4] (fun o i => ∃ k : Nat, k ≤ n ∧ i = .int .i64 k ∧ o = .int .i64 (leastL (zs.take k))) (fun _ i => n - (intOf i).toNat)
  case atStart => exact ⟨0, by omega, rfl, rfl⟩
  case round =>
    obtain ⟨k, hk, rfl, rfl⟩ := hrel
    by_cases hlt : k < n
    · obtain ⟨x, hx⟩ : ∃ x, zs[k]? = some x := ⟨_, List.getElem?_eq_getElem (by rw [HN.out]; exact hlt)⟩
      have hcell := HC.out k x hx
      obtain rfl := HA.out (by intro e; rw [e] at hx; simp at hx)
      have HS := Lib.hid (leastL_snoc (zs.take k) x)
      rw [← take_snoc_get hx] at HS
      generalize leastL (zs.take k) = y at *
      have a1 : (0 : Int) ≤ k := by omega
      have a2 : (k : Int) < n := by omega
      clear hx
      by_cases hxy : x < y
      · go_wp2
        exact ⟨⟨k + 1, by omega, by go_num, by rw [HS.out, if_pos hxy]⟩, by simp [intOf]; omega⟩
      · go_wp2
        exact ⟨⟨k + 1, by omega, by go_num, by rw [HS.out, if_neg hxy]⟩, by simp [intOf]; omega⟩
    · obtain rfl : k = n := by omega
      have HT : Hid (zs.take k = zs) := List.take_of_length_le (by rw [HN.out]; exact Nat.le_refl _)
      go_wp2
      go_ret
      exact ⟨ret_int (by rw [HT.out]), rfl⟩

set_option maxRecDepth 100000 in
set_option maxHeartbeats 1600000 in
theorem c19 (w : World) : Calls Try.prog 19 #[] w fun x w' => x = .returned (.bool true) ∧ Upd (fun _ => False) w w' := by
  go_enter Try.func19, Try.ntmps19
  go_wp2_with fail
  refine (c21 2 _ (by omega) (by omega)).mono ?_
  rintro x w1 ⟨rfl, hM1, hU1⟩
  go_wp2_with fail
  refine (c23 _ (List.replicate 2 0) 0 5 _ hM1 (by simp) rfl).mono ?_
  have e1 : raiseL (List.replicate 2 0) 0 5 = [5, 0] := by decide
  have e2 : leastL [5, 0] = 0 := by decide
  have e3 : decide (leastL (List.replicate 2 0) < 0) = false := by decide
  rw [e1, e2, e3]
  rintro x w2 ⟨rfl, hM2, hU2⟩
  replace hU1 := hU1.step hU2 (by omega)
  clear e1 e2 e3 hM1 hU2
  go_wp2_with fail
  refine (c23 _ [5, 0] 1 3 _ hM2 (by simp) rfl).mono ?_
  have e1 : raiseL [5, 0] 1 3 = [5, 3] := by decide
  have e2 : leastL [5, 3] = 3 := by decide
  have e3 : decide (leastL [5, 0] < 3) = true := by decide
  rw [e1, e2, e3]
  rintro x w3 ⟨rfl, hM3, hU3⟩
  replace hU1 := hU1.step hU3 (by omega)
  clear e1 e2 e3 hM2 hU3
  go_wp2_with fail
  refine (c15 0 3 10 _ ⟨⟨by omega, by omega⟩, by omega, by omega, by omega, by omega⟩).mono ?_
  have e1 : nextV 0 3 10 = 7 := by decide
  rw [e1]
  rintro x w4 ⟨rfl, rfl⟩
  clear e1
  go_wp2
  go_ret
  exact ⟨rfl, hU1⟩
end Go.Proofs.Ytijkcahdegohiaa
