/-
  The law MarkOnTime, as a call.
-/
import Derived.Test.YtijkcahdegohiaaLawM
namespace Go.Proofs.Ytijkcahdegohiaa
open Go.RowKit

/-! ### The plain law -/
def mkL (b : Int) (l : List Int) : Int := l.foldl (fun m t => nextV m b t) 0
def lateB (b : Int) (l : List Int) (t : Int) : Bool := l.any fun u => decide (t < u - b)
def TimesOk (l : List Int) : Prop := ∀ x ∈ l, 0 ≤ x ∧ x ≤ 1000000000
theorem mkL_snoc (b : Int) (l : List Int) (t : Int) : mkL b (l ++ [t]) = nextV (mkL b l) b t := by simp [mkL]
theorem lateB_snoc (b : Int) (l : List Int) (u t : Int) : lateB b (l ++ [u]) t = (lateB b l t || decide (t < u - b)) := by simp [lateB]
theorem nextV_mono (m b t : Int) : m ≤ nextV m b t := by
  unfold nextV
  split
  · omega
  · split <;> omega
theorem mkL_range (b : Int) (hb : 0 ≤ b) : ∀ l : List Int, TimesOk l → ∀ m, 0 ≤ m → m ≤ 1000000000 → 0 ≤ l.foldl (fun m t => nextV m b t) m ∧ l.foldl (fun m t => nextV m b t) m ≤ 1000000000
  | [], _, m, h0, h1 => ⟨h0, h1⟩
  | t :: l, h, m, h0, h1 => by
    have ht := h t (by simp)
    have hm := nextV_mono m b t
    have hx : nextV m b t ≤ 1000000000 := by
      unfold nextV
      split
      · omega
      · split <;> omega
    rw [List.foldl_cons]
    exact mkL_range b hb l (fun x hx => h x (by simp [hx])) _ (by omega) hx
theorem late_law (b : Int) (hb : 0 ≤ b) (t : Int) : ∀ l : List Int, ∀ m, decide (t < l.foldl (fun m t => nextV m b t) m) = (decide (t < m) || lateB b l t)
  | [], m => by
    rw [List.foldl_nil]
    show _ = (decide (t < m) || false)
    rw [Bool.or_false]
  | u :: l, m => by
    rw [List.foldl_cons, late_law b hb t l]
    have e1 : lateB b (u :: l) t = (decide (t < u - b) || lateB b l t) := by simp [lateB]
    rw [e1, ← Bool.or_assoc]
    congr 1
    unfold nextV
    rw [if_neg (by omega), Bool.eq_iff_iff]
    split <;> simp <;> omega
theorem late_eq (b : Int) (hb : 0 ≤ b) (t : Int) (ht : 0 ≤ t) (l : List Int) : decide (t < mkL b l) = lateB b l t := by
  unfold mkL
  rw [late_law b hb t l 0, decide_eq_false (by omega), Bool.false_or]

theorem IntsRd.get {w : World} {b off : Nat} {zs : List Int} (h : IntsRd w (some ⟨b, off, none⟩) zs) {i : Nat} {x : Int} (hx : zs[i]? = some x) : w.cell? ⟨b, off + i, none⟩ = some (.int .i64 x) := by
  obtain ⟨b', off', hA, hc⟩ := h
  have e := hA (by intro e; rw [e] at hx; simp at hx)
  simp only [Option.some.injEq, Addr.mk.injEq, and_true] at e
  obtain ⟨rfl, rfl⟩ := e
  exact hc i x hx

set_option maxRecDepth 100000 in
set_option maxHeartbeats 3200000 in
theorem c4_run (A : Option Addr) (cap : Nat) (zs : List Int) (b : Int) (w : World) (h : IntsRd w A zs) (hn : zs.length ≤ 300) (hb0 : 0 ≤ b) (hb1 : b ≤ 1000000) :
    Calls Try.prog 4 #[.slice A zs.length cap, .int .i64 b] w fun x w' => x = .returned (.bool true) ∧ Upd (fun _ => False) w w' := by
  have HRD := Lib.hid h
  generalize hl : zs.length = n at *
  have HN := Lib.hid hl
  have g0 : ¬ (300 : Int) < n := by omega
  have g1 : ¬ b < 0 := by omega
  have g2 : ¬ 1000000 < b := by omega
  clear h hl
  go_enter Try.func4, Try.ntmps4
  go_wp2
  go_loopw [5, 6] (fun m i wr => ∃ k : Nat, k ≤ n ∧ i = .int .i64 k ∧ m = .int .i64 (mkL b (zs.take k)) ∧ TimesOk (zs.take k) ∧ Upd (fun _ => False) w wr) (fun _ i _ => n - (intOf i).toNat)
  case atStart => exact ⟨0, by omega, rfl, rfl, (fun x hx => by simp at hx), Upd.refl _ _⟩
  case round =>
    obtain ⟨k, hk, rfl, rfl, hT, hU⟩ := hrel
    have HU := Lib.hid hU
    have HTK := Lib.hid hT
    clear hU hT
    by_cases hlt : k < n
    · obtain ⟨t, ht⟩ : ∃ t, zs[k]? = some t := ⟨_, List.getElem?_eq_getElem (by rw [HN.out]; exact hlt)⟩
      obtain ⟨ab, off, hA, hc⟩ := HRD.out.upd0 HU.out
      have hcell := hc k t ht
      obtain rfl := hA (by intro e; rw [e] at ht; simp at ht)
      have HC := Lib.hid hc
      have HTT := Lib.hid ht
      have a1 : (0 : Int) ≤ k := by omega
      have a2 : (k : Int) < n := by omega
      clear hc hA ht
      by_cases hok : isTime t = true
      · have HOK := Lib.hid hok
        have hok' : 0 ≤ t ∧ t ≤ 1000000000 := by simpa [isTime] using hok
        obtain ⟨t0, t1⟩ := hok'
        clear hok
        go_wp2_with (go_at_call 18; refine (c18' t _).mono ?_; rw [HOK.out]; rintro x w1 ⟨rfl, rfl⟩)
        go_loopw [7, 8] (fun lt i wr => ∃ j : Nat, j ≤ k ∧ i = .int .i64 j ∧ lt = .bool (lateB b (zs.take j) t) ∧ Upd (fun _ => False) w wr) (fun _ i _ => k - (intOf i).toNat)
        case atStart => exact ⟨0, by omega, rfl, rfl, HU.out⟩
        case round =>
          obtain ⟨j, hj, rfl, rfl, hU'⟩ := hrel
          have HU' := Lib.hid hU'
          clear hU'
          by_cases hjk : j < k
          · obtain ⟨u, hu⟩ : ∃ u, zs[j]? = some u := ⟨_, List.getElem?_eq_getElem (by rw [HN.out]; omega)⟩
            have hu' : 0 ≤ u ∧ u ≤ 1000000000 := HTK.out u (List.mem_iff_getElem?.2 ⟨j, by rw [List.getElem?_take, if_pos hjk]; exact hu⟩)
            obtain ⟨u0, u1⟩ := hu'
            have hc1 := (HRD.out.upd0 HU'.out).get hu
            have hc2 := (HRD.out.upd0 HU'.out).get HTT.out
            have hs := lateB_snoc b (zs.take j) u t
            rw [← take_snoc_get hu] at hs
            have b1 : (0 : Int) ≤ j := by omega
            have b2 : (j : Int) < n := by omega
            clear hu hcell
            cases hlb : lateB b (zs.take j) t with
            | true =>
              rw [hlb] at hs
              have HS := Lib.hid hs
              clear hs hlb
              go_wp2_with fail
              go_quiet (fail)
              go_wp2_with fail
              go_roundw
              case rel => exact ⟨j + 1, by omega, by go_num, by rw [HS.out]; rfl, HU'.out.drewN _⟩
              case measure => simp [intOf]; omega
            | false =>
              rw [hlb] at hs
              have HS := Lib.hid hs
              clear hs hlb
              go_wp2_with fail
              go_quiet (fail)
              go_wp2_with fail
              go_roundw
              case rel => exact ⟨j + 1, by omega, by go_num, by rw [HS.out]; rfl, HU'.out.drewN _⟩
              case measure => simp [intOf]; omega
          · obtain rfl : j = k := by omega
            have hc2 := (HRD.out.upd0 HU'.out).get HTT.out
            have hle := late_eq b hb0 t t0 (zs.take j)
            have HLE := Lib.hid hle
            clear hle hcell
            go_wp2_with (first | (go_at_call 16; refine (c16 _ t _).mono ?_; rw [HLE.out]; rintro x w1 ⟨rfl, rfl⟩))
            have hr := mkL_range b hb0 (zs.take j) HTK.out 0 (by omega) (by omega)
            have hok2 : NextOk (mkL b (zs.take j)) b t := ⟨⟨hr.1, by have := hr.2; unfold mkL; omega⟩, by omega, by omega, by omega, by omega⟩
            have hs := mkL_snoc b (zs.take j) t
            rw [← take_snoc_get HTT.out] at hs
            have hge := nextV_mono (mkL b (zs.take j)) b t
            have HTK2 : Hid (TimesOk (zs.take (j + 1))) := Lib.hid (by
              rw [take_snoc_get HTT.out]
              intro x hx
              rcases List.mem_append.1 hx with hx | hx
              · exact HTK.out x hx
              · have : x = t := by simpa using hx
                rw [this]; exact ⟨t0, t1⟩)
            have HS := Lib.hid hs
            have HO2 := Lib.hid hok2
            clear hr hs hok2
            refine (c15 _ b t _ HO2.out).mono ?_
            rintro x w1 ⟨rfl, rfl⟩
            go_wp2_with fail
            go_roundw
            case rel => exact ⟨j + 1, by omega, by go_num, by rw [HS.out], HTK2.out, HU'.out⟩
            case measure => simp [intOf]; omega
      · have HOK : Hid (isTime t = false) := Lib.hid (by simpa using hok)
        clear hok
        go_wp2_with (go_at_call 18; refine (c18' t _).mono ?_; rw [HOK.out]; rintro x w1 ⟨rfl, rfl⟩)
        go_ret
        exact ⟨rfl, HU.out⟩
    · obtain rfl : k = n := by omega
      go_wp2_with (go_at_call 19; refine (c19 _).mono ?_; rintro x w2 ⟨rfl, hU2⟩)
      go_ret
      exact ⟨rfl, HU.out.trans hU2⟩

theorem c4_far (A : Option Addr) (cap : Nat) (n : Nat) (b : Int) (w : World) (h : 300 < n ∨ b < 0 ∨ 1000000 < b) :
    Calls Try.prog 4 #[.slice A n cap, .int .i64 b] w fun x w' => x = .returned (.bool true) ∧ Upd (fun _ => False) w w' := by
  by_cases h1 : (300 : Int) < n
  · go_enter Try.func4, Try.ntmps4
    go_wp2
    go_ret
    exact ⟨rfl, Upd.refl _ _⟩
  · by_cases h2 : b < 0
    · go_enter Try.func4, Try.ntmps4
      go_wp2
      go_ret
      exact ⟨rfl, Upd.refl _ _⟩
    · have h3 : 1000000 < b := by omega
      clear h
      go_enter Try.func4, Try.ntmps4
      go_wp2
      go_ret
      exact ⟨rfl, Upd.refl _ _⟩

/-- MarkOnTime, as a call. -/
theorem c4 (A : Option Addr) (cap : Nat) (zs : List Int) (w : World) (h : IntsRd w A zs) (b : Int) :
    Calls Try.prog 4 #[.slice A zs.length cap, .int .i64 b] w fun x w' => x = .returned (.bool true) ∧ Upd (fun _ => False) w w' := by
  by_cases hf : 300 < zs.length ∨ b < 0 ∨ 1000000 < b
  · exact c4_far A cap zs.length b w hf
  · exact c4_run A cap zs b w h (by omega) (by omega) (by omega)
end Go.Proofs.Ytijkcahdegohiaa
