/-
  The laws of layer 8, as calls.
-/
import Derived.Test.YtijkcahdegohiaaMarkC
namespace Go.Proofs.Ytijkcahdegohiaa
open Go.RowKit

def isTime (n : Int) : Bool := decide (0 ≤ n) && decide (n ≤ 1000000000)
theorem c17' (n : Int) (w : World) : Calls Try.prog 17 #[.int .i64 n] w fun x w' => x = .returned (.bool (isMark n)) ∧ w = w' := c17 n w
theorem c18' (n : Int) (w : World) : Calls Try.prog 18 #[.int .i64 n] w fun x w' => x = .returned (.bool (isTime n)) ∧ w = w' := c18 n w

theorem nextOk_iff (m b t : Int) : NextOk m b t ↔ isMark m = true ∧ -1 ≤ b ∧ b ≤ 1000000 ∧ isTime t = true := by
  simp [NextOk, isMark, isTime]

set_option maxRecDepth 100000 in
set_option maxHeartbeats 1600000 in
theorem c3_ok (m b t : Int) (w : World) (h : NextOk m b t) :
    Calls Try.prog 3 #[.int .i64 m, .int .i64 b, .int .i64 t] w fun x w' => x = .returned (.bool true) ∧ Upd (fun _ => False) w w' := by
  have H := Lib.hid h
  have h' := (nextOk_iff m b t).1 h
  obtain ⟨hm, h1, h2, ht⟩ := h'
  have HM := Lib.hid hm
  have HT := Lib.hid ht
  clear h hm ht
  have g1 : ¬ b < -1 := by omega
  have g2 : ¬ 1000000 < b := by omega
  go_enter Try.func3, Try.ntmps3
  go_wp2_with (first | (go_at_call 15; refine (c15 m b t _ H.out).mono ?_; rintro x w1 ⟨rfl, rfl⟩) | (go_at_call 16; refine (c16 m t _).mono ?_; rintro x w1 ⟨rfl, rfl⟩) | (go_at_call 17; refine (c17' m _).mono ?_; rw [HM.out]; rintro x w1 ⟨rfl, rfl⟩) | (go_at_call 18; refine (c18' t _).mono ?_; rw [HT.out]; rintro x w1 ⟨rfl, rfl⟩) | (go_at_call 20; refine (c20 m b t _ H.out).mono ?_; rintro x w1 ⟨rfl, rfl⟩) | (go_at_call 19; refine (c19 _).mono ?_; rintro x w2 ⟨rfl, hU⟩))
  go_ret
  exact ⟨rfl, hU⟩

set_option maxRecDepth 100000 in
set_option maxHeartbeats 1600000 in
theorem c3_bad (m b t : Int) (w : World) (h : ¬ NextOk m b t) :
    Calls Try.prog 3 #[.int .i64 m, .int .i64 b, .int .i64 t] w fun x w' => x = .returned (.bool true) ∧ Upd (fun _ => False) w w' := by
  have H := Lib.hid h
  have h' := fun a => h ((nextOk_iff m b t).2 a)
  clear h
  by_cases hm : isMark m = true
  · have HM := Lib.hid hm
    by_cases g1 : b < -1
    · clear h' hm
      go_enter Try.func3, Try.ntmps3
      go_wp2_with (first | (go_at_call 15; refine (c15_bad m b t _ H.out).mono ?_; rintro x w1 ⟨rfl, rfl⟩) | (go_at_call 16; refine (c16 m t _).mono ?_; rintro x w1 ⟨rfl, rfl⟩) | (go_at_call 17; refine (c17' m _).mono ?_; rw [HM.out]; rintro x w1 ⟨rfl, rfl⟩) | (go_at_call 19; refine (c19 _).mono ?_; rintro x w2 ⟨rfl, hU⟩))
      go_ret
      exact ⟨rfl, hU⟩
    · by_cases g2 : 1000000 < b
      · clear h' hm
        go_enter Try.func3, Try.ntmps3
        go_wp2_with (first | (go_at_call 15; refine (c15_bad m b t _ H.out).mono ?_; rintro x w1 ⟨rfl, rfl⟩) | (go_at_call 16; refine (c16 m t _).mono ?_; rintro x w1 ⟨rfl, rfl⟩) | (go_at_call 17; refine (c17' m _).mono ?_; rw [HM.out]; rintro x w1 ⟨rfl, rfl⟩) | (go_at_call 19; refine (c19 _).mono ?_; rintro x w2 ⟨rfl, hU⟩))
        go_ret
        exact ⟨rfl, hU⟩
      · have HT : Hid (isTime t = false) := Lib.hid (by
          cases ht : isTime t with
          | false => rfl
          | true => exact absurd ⟨hm, by omega, by omega, ht⟩ h')
        clear h' hm
        go_enter Try.func3, Try.ntmps3
        go_wp2_with (first | (go_at_call 15; refine (c15_bad m b t _ H.out).mono ?_; rintro x w1 ⟨rfl, rfl⟩) | (go_at_call 16; refine (c16 m t _).mono ?_; rintro x w1 ⟨rfl, rfl⟩) | (go_at_call 17; refine (c17' m _).mono ?_; rw [HM.out]; rintro x w1 ⟨rfl, rfl⟩) | (go_at_call 18; refine (c18' t _).mono ?_; rw [HT.out]; rintro x w1 ⟨rfl, rfl⟩) | (go_at_call 19; refine (c19 _).mono ?_; rintro x w2 ⟨rfl, hU⟩))
        go_ret
        exact ⟨rfl, hU⟩
  · have HM : Hid (isMark m = false) := Lib.hid (by simpa using hm)
    clear h' hm
    go_enter Try.func3, Try.ntmps3
    go_wp2_with (first | (go_at_call 15; refine (c15_bad m b t _ H.out).mono ?_; rintro x w1 ⟨rfl, rfl⟩) | (go_at_call 16; refine (c16 m t _).mono ?_; rintro x w1 ⟨rfl, rfl⟩) | (go_at_call 17; refine (c17' m _).mono ?_; rw [HM.out]; rintro x w1 ⟨rfl, rfl⟩) | (go_at_call 19; refine (c19 _).mono ?_; rintro x w2 ⟨rfl, hU⟩))
    go_ret
    exact ⟨rfl, hU⟩

/-- MarkNexts, as a call. -/
theorem c3 (m : Int) (_ : (Lit.int .i64 m).wf = true) (b : Int) (_ : (Lit.int .i64 b).wf = true) (t : Int) (_ : (Lit.int .i64 t).wf = true) (w : World) :
    Calls Try.prog 3 #[.int .i64 m, .int .i64 b, .int .i64 t] w fun x w' => x = .returned (.bool true) ∧ Upd (fun _ => False) w w' := by
  by_cases h : NextOk m b t
  · exact c3_ok m b t w h
  · exact c3_bad m b t w h

set_option maxRecDepth 100000 in
set_option maxHeartbeats 1600000 in
/-- MarkNil, as a call. -/
theorem c6 (i : Int) (_ : (Lit.int .i64 i).wf = true) (a : Int) (_ : (Lit.int .i64 a).wf = true) (w : World) :
    Calls Try.prog 6 #[.int .i64 i, .int .i64 a] w fun x w' => x = .returned (.bool true) ∧ Upd (fun _ => False) w w' := by
  go_enter Try.func6, Try.ntmps6
  go_wp2_with (first | (go_at_call 23; refine (c23_nil i a _).mono ?_; rintro x w1 ⟨rfl, rfl⟩) | (go_at_call 24; refine (c24_nil i _).mono ?_; rintro x w1 ⟨rfl, rfl⟩) | (go_at_call 22; refine (c22_nil _).mono ?_; rintro x w1 ⟨rfl, rfl⟩) | (go_at_call 19; refine (c19 _).mono ?_; rintro x w2 ⟨rfl, hU⟩))
  go_ret
  exact ⟨rfl, hU⟩
end Go.Proofs.Ytijkcahdegohiaa
