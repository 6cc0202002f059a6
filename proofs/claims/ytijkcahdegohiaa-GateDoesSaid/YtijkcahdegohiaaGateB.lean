/-
  A gate's Push.
-/
import Derived.Test.YtijkcahdegohiaaGateA
import Derived.Deep.RegionHeld3
import Derived.Deep.DeepCutAuto
import Derived.Deep.DrawnRows
namespace Go.Proofs.Ytijkcahdegohiaa
open Go.RowKit
attribute [local go_sem ↓] Go.wp_at_zero Go.wp_at_succ

/-- Push is refused ahead of the pipe: there is no such input, or a barrier that isn't greater. -/
def GS.refuses (s : GS) (i : Int) (e : El) : Prop := (i < 0 ∨ (s.ls.length : Int) ≤ i) ∨ e.kind = 3 ∧ e.at_ ≤ s.lst i.toNat
instance (s : GS) (i : Int) (e : El) : Decidable (s.refuses i e) := by unfold GS.refuses; exact inferInstance
def pushC (room : Nat) (s : GS) (i : Int) (e : El) : Int := if s.refuses i e then 1 else pushCode room (s.pipe i.toNat) e
def pushS (room : Nat) (s : GS) (i : Int) (e : El) : GS :=
  if s.refuses i e then s
  else if pushCode room (s.pipe i.toNat) e = 0 then
    (if e.kind = 3 then (s.setPipe i.toNat (s.pipe i.toNat ++ [e])).setTs (s.ts.set i.toNat e.at_) else s.setPipe i.toNat (s.pipe i.toNat ++ [e]))
  else s

def inGate (B C : Nat) (k : Nat) : Prop := B ≤ k ∧ k < C

set_option maxRecDepth 100000 in
set_option maxHeartbeats 1600000 in
theorem c36_out {w : World} {B C g room n : Nat} {L : Loc} {s : GS} (h : GateIn w B C g L room n s) (i : Int) (e : El) (hi : i < 0 ∨ (n : Int) ≤ i) :
    Calls Try.prog 36 #[ptr g, .int .i64 i, e.val] w fun x w' => x = .returned (.int .i64 1) ∧ Upd (fun _ => False) w w' := by
  have HI := Lib.hid hi
  have H := Lib.hid (h.upd0 ((Upd.refl (fun _ => False) w).alloc e.obj))
  clear hi h
  go_enter Try.func36, Try.ntmps36
  go_wp2_with (go_at_call 55; refine (c55_out H.out i HI.out).mono ?_; rintro x w1 ⟨rfl, rfl⟩)
  go_quiet (fail)
  go_wp2_with fail
  go_ret
  exact ⟨rfl, ((Upd.refl _ _).alloc _).drewN _⟩

set_option maxRecDepth 100000 in
set_option maxHeartbeats 1600000 in
theorem c36_low {w : World} {B C g room n : Nat} {L : Loc} {s : GS} (h : GateIn w B C g L room n s) (i : Nat) (e : El) (hi : i < n) (hk : e.kind = 3) (ha : e.at_ ≤ s.lst i) :
    Calls Try.prog 36 #[ptr g, .int .i64 i, e.val] w fun x w' => x = .returned (.int .i64 1) ∧ Upd (fun _ => False) w w' := by
  have hg' := h.upd0 ((Upd.refl (fun _ => False) w).alloc e.obj)
  have H := Lib.hid hg'
  obtain ⟨c0, c1, c2⟩ := h.cellsI hi
  have hlt := Nat.lt_of_lt_of_le (h.ri i hi).1.2 h.hC
  obtain ⟨k, key, t, v, a⟩ := e
  dsimp only at hk ha
  subst hk
  clear h hg'
  generalize s.lst i = q at *
  go_enter Try.func36, Try.ntmps36
  go_wp2_with (go_at_call 55; refine (c55 H.out i hi).mono ?_; rintro x w1 ⟨rfl, rfl⟩)
  go_quiet (fail)
  go_wp2_with fail
  go_ret
  exact ⟨rfl, ((Upd.refl _ _).alloc _).drewN _⟩

theorem setPipe_self (s : GS) (i : Nat) (hi : i < s.ls.length) : s.setPipe i (s.pipe i) = s := by
  unfold GS.setPipe GS.pipe
  have : s.ls.set i (s.ls.getD i []) = s.ls := by
    apply List.ext_getElem?
    intro j
    rw [List.getElem?_set]
    split
    · rename_i e; subst e; simp [List.getElem?_eq_getElem hi]
    · rfl
  rw [this]
theorem pushCode_zero {room : Nat} {l : List El} {e : El} (h : pushCode room l e = 0) : mayB e = true ∧ pushList room l e = l ++ [e] := by
  unfold pushCode at h
  unfold pushList
  by_cases hm : mayB e = true
  · rw [if_pos hm] at h ⊢
    by_cases hl : l.length = room
    · rw [if_pos hl] at h; omega
    · rw [if_neg hl]; exact ⟨hm, rfl⟩
  · rw [if_neg hm] at h; omega
theorem pushCode_ne {room : Nat} {l : List El} {e : El} (h : pushCode room l e ≠ 0) : pushList room l e = l := by
  unfold pushCode at h
  unfold pushList
  by_cases hm : mayB e = true
  · rw [if_pos hm] at h ⊢
    by_cases hl : l.length = room
    · rw [if_pos hl]
    · rw [if_neg hl] at h; omega
  · rw [if_neg hm]

theorem pushS_no {room : Nat} {s : GS} {i : Nat} {e : El} (h : ¬ s.refuses i e) (hk : e.kind ≠ 3) (hc : pushCode room (s.pipe i) e = 0) : pushS room s i e = s.setPipe i (s.pipe i ++ [e]) := by
  unfold pushS
  rw [if_neg h, Int.toNat_natCast, if_pos hc, if_neg hk]
theorem pushS_bar {room : Nat} {s : GS} {i : Nat} {e : El} (h : ¬ s.refuses i e) (hk : e.kind = 3) (hc : pushCode room (s.pipe i) e = 0) : pushS room s i e = (s.setPipe i (s.pipe i ++ [e])).setTs (s.ts.set i e.at_) := by
  unfold pushS
  rw [if_neg h, Int.toNat_natCast, if_pos hc, if_pos hk]
theorem pushS_not {room : Nat} {s : GS} {i : Nat} {e : El} (h : ¬ s.refuses i e) (hc : pushCode room (s.pipe i) e ≠ 0) : pushS room s i e = s := by
  unfold pushS
  rw [if_neg h, Int.toNat_natCast, if_neg hc]
theorem pushC_not {room : Nat} {s : GS} {i : Nat} {e : El} (h : ¬ s.refuses i e) : pushC room s i e = pushCode room (s.pipe i) e := by
  unfold pushC
  rw [if_neg h, Int.toNat_natCast]
theorem pushC_ref {room : Nat} {s : GS} {i : Int} {e : El} (h : s.refuses i e) : pushC room s i e = 1 := if_pos h
theorem pushS_ref {room : Nat} {s : GS} {i : Int} {e : El} (h : s.refuses i e) : pushS room s i e = s := if_pos h

set_option maxRecDepth 100000 in
set_option maxHeartbeats 3200000 in
/-- Neither refused nor a barrier. -/
theorem c36_no {w : World} {B C g room n : Nat} {L : Loc} {s : GS} (h : GateIn w B C g L room n s) (i : Nat) (e : El) (hi : i < n) (hk : e.kind ≠ 3) (hr : ¬ s.refuses i e) :
    Calls Try.prog 36 #[ptr g, .int .i64 i, e.val] w fun x w' => x = .returned (.int .i64 (pushC room s i e)) ∧ GateIn w' B C g L room n (pushS room s i e) ∧ Upd (inGate B C) w w' := by
  have hg' := h.upd0 ((Upd.refl (fun _ => False) w).alloc (El.obj e))
  have H := Lib.hid hg'
  obtain ⟨c0, c1, c2⟩ := h.cellsI hi
  have hlt := Nat.lt_of_lt_of_le (h.ri i hi).1.2 h.hC
  have RP := Lib.hid (h.ri i hi).2
  have HC := Lib.hid h.hC
  obtain ⟨q, hq⟩ : ∃ q, q = s.lst i := ⟨_, rfl⟩
  rw [← hq] at c2
  have hkb : (e.kind == 3) = false := by simp [hk]
  have HK := Lib.hid hk
  have HREF := Lib.hid hr
  clear h hg' hk hr hq
  go_enter Try.func36, Try.ntmps36
  go_wp2_with (go_at_call 55; refine (c55 H.out i hi).mono ?_; rintro x w1 ⟨rfl, rfl⟩)
  go_quiet (fail)
  go_wp2_with fail
  refine wp_region_tail 5 (by kernel_rfl) (by kernel_rfl) ?_
  simp only [List.take_succ_cons, List.take_zero, List.drop_succ_cons, List.drop_zero]
  repeat still_step
  refine wpStill_nil ?_
  have HW : Hid (GateIn ((w.alloc (El.obj e)).drewN (nq + 1)) B C g L room n s) := Lib.hid (H.out.upd0 ((Upd.refl _ _).drewN _))
  go_wp2_with fail
  refine (c30 _ _ room _ e (s.pipe i) (HW.out.hp i hi)).mono ?_
  rintro x w2 ⟨rfl, hP2, hU2⟩
  have HU2 : Hid (Upd (inGate B C) w w2) := Lib.hid (Upd.step (((Upd.refl (inGate B C) w).alloc (El.obj e)).drewN (nq + 1)) hU2 (fun j _ hj => by
    rcases hj with rfl | rfl
    · exact RP.out.1
    · exact RP.out.2))
  have hbx := El.box w e
  have hfar : ¬ (w.heap.size = L.ps i ∨ w.heap.size = L.rs i) := by
    have h1 := RP.out.1.2
    have h2 := RP.out.2.2
    have h3 := HC.out
    omega
  obtain ⟨b0, b1, b2, b3, b4⟩ := El.box_cells (hU2.at (a := (w.alloc (El.obj e)).drewN (nq + 1)) hbx hfar)
  by_cases hpc : pushCode room (s.pipe i) e = 0
  · obtain ⟨hm, hpl⟩ := pushCode_zero hpc
    rw [hpl] at hP2
    have HF := Lib.hid (HW.out.pipe hi hP2 (fun x hx => by
      rcases List.mem_append.1 hx with hx | hx
      · exact HW.out.may i hi x hx
      · have : x = e := by simpa using hx
        rw [this]; exact hm) hU2)
    have HPS := Lib.hid (pushS_no HREF.out (HK.out) hpc)
    have HPC := Lib.hid ((pushC_not HREF.out).trans hpc)
    rw [hpc]
    clear hpc hm hpl hP2 hU2 hbx hfar
    go_wp2_with fail
    go_ret
    rw [HPS.out, HPC.out]
    exact ⟨rfl, HF.out, HU2.out⟩
  · have hpl := pushCode_ne hpc
    rw [hpl] at hP2
    have hF := HW.out.pipe hi hP2 (HW.out.may i hi) hU2
    have hss := setPipe_self s i (by rw [HW.out.lls]; exact hi)
    rw [hss] at hF
    have HF := Lib.hid hF
    have HPS := Lib.hid (pushS_not HREF.out hpc)
    have HPC := Lib.hid (pushC_not (room := room) HREF.out)
    clear hpl hP2 hU2 hbx hfar hss hF
    go_wp2_with fail
    go_ret
    rw [HPS.out, HPC.out]
    exact ⟨rfl, HF.out, HU2.out⟩

set_option maxRecDepth 100000 in
set_option maxHeartbeats 3200000 in
/-- A barrier that is not refused. -/
theorem c36_bar {w : World} {B C g room n : Nat} {L : Loc} {s : GS} (h : GateIn w B C g L room n s) (i : Nat) (e : El) (hi : i < n) (hk : e.kind = 3) (hr : ¬ s.refuses i e) :
    Calls Try.prog 36 #[ptr g, .int .i64 i, e.val] w fun x w' => x = .returned (.int .i64 (pushC room s i e)) ∧ GateIn w' B C g L room n (pushS room s i e) ∧ Upd (inGate B C) w w' := by
  obtain ⟨k, key, t, v, a⟩ := e
  dsimp only at hk
  subst hk
  have ha : s.lst i < a := by
    refine Int.not_le.1 fun ha => hr (.inr ⟨rfl, ?_⟩)
    rw [Int.toNat_natCast]; exact ha
  have hg' := h.upd0 ((Upd.refl (fun _ => False) w).alloc (El.obj ⟨3, key, t, v, a⟩))
  have H := Lib.hid hg'
  obtain ⟨c0, c1, c2⟩ := h.cellsI hi
  have hlt := Nat.lt_of_lt_of_le (h.ri i hi).1.2 h.hC
  have RP := Lib.hid (h.ri i hi).2
  have HC := Lib.hid h.hC
  obtain ⟨q, hq⟩ : ∃ q, q = s.lst i := ⟨_, rfl⟩
  rw [← hq] at c2
  have hab : ¬ a ≤ q := by omega
  have HREF := Lib.hid hr
  clear h hg' hr hq ha
  go_enter Try.func36, Try.ntmps36
  go_wp2_with (go_at_call 55; refine (c55 H.out i hi).mono ?_; rintro x w1 ⟨rfl, rfl⟩)
  go_quiet (fail)
  go_wp2_with fail
  refine wp_region_tail 5 (by kernel_rfl) (by kernel_rfl) ?_
  simp only [List.take_succ_cons, List.take_zero, List.drop_succ_cons, List.drop_zero]
  repeat still_step
  refine wpStill_nil ?_
  have HW : Hid (GateIn ((w.alloc (El.obj ⟨3, key, t, v, a⟩)).drewN (nq + 1)) B C g L room n s) := Lib.hid (H.out.upd0 ((Upd.refl _ _).drewN _))
  go_wp2_with fail
  refine (c30 _ _ room _ ⟨3, key, t, v, a⟩ (s.pipe i) (HW.out.hp i hi)).mono ?_
  rintro x w2 ⟨rfl, hP2, hU2⟩
  have HU2 : Hid (Upd (inGate B C) w w2) := Lib.hid (Upd.step (((Upd.refl (inGate B C) w).alloc (El.obj ⟨3, key, t, v, a⟩)).drewN (nq + 1)) hU2 (fun j _ hj => by
    rcases hj with rfl | rfl
    · exact RP.out.1
    · exact RP.out.2))
  have hbx := El.box w ⟨3, key, t, v, a⟩
  have hfar : ¬ (w.heap.size = L.ps i ∨ w.heap.size = L.rs i) := by
    have h1 := RP.out.1.2
    have h2 := RP.out.2.2
    have h3 := HC.out
    omega
  obtain ⟨b0, b1, b2, b3, b4⟩ := El.box_cells (hU2.at (a := (w.alloc (El.obj ⟨3, key, t, v, a⟩)).drewN (nq + 1)) hbx hfar)
  by_cases hpc : pushCode room (s.pipe i) ⟨3, key, t, v, a⟩ = 0
  · obtain ⟨hm, hpl⟩ := pushCode_zero hpc
    rw [hpl] at hP2
    have HF := Lib.hid (HW.out.pipe hi hP2 (fun x hx => by
      rcases List.mem_append.1 hx with hx | hx
      · exact HW.out.may i hi x hx
      · have : x = ⟨3, key, t, v, a⟩ := by simpa using hx
        rw [this]; exact hm) hU2)
    have HPS := Lib.hid (pushS_bar HREF.out (rfl) hpc)
    have HPC := Lib.hid ((pushC_not HREF.out).trans hpc)
    rw [hpc]
    obtain ⟨d0, d1, d2⟩ := HF.out.cellsI hi
    have hfz := free_of (HF.out.hin i hi)
    have HL := Lib.hid (HF.out.last hi a)
    have HU3 : Hid (Upd (inGate B C) w (w2.setCell ⟨L.ins i, 2, none⟩ (.int .i64 a))) := Lib.hid (HU2.out.setCell (p := ⟨L.ins i, 2, none⟩) (fun _ => (HF.out.ri i hi).1) _)
    clear hpc hm hpl hP2 hU2 hbx hfar
    go_wp2_with fail
    go_ret
    rw [HPS.out, HPC.out]
    exact ⟨rfl, HL.out, HU3.out⟩
  · have hpl := pushCode_ne hpc
    rw [hpl] at hP2
    have hF := HW.out.pipe hi hP2 (HW.out.may i hi) hU2
    have hss := setPipe_self s i (by rw [HW.out.lls]; exact hi)
    rw [hss] at hF
    have HF := Lib.hid hF
    have HPS := Lib.hid (pushS_not HREF.out hpc)
    have HPC := Lib.hid (pushC_not (room := room) HREF.out)
    clear hpl hP2 hU2 hbx hfar hss hF
    go_wp2_with fail
    go_ret
    rw [HPS.out, HPC.out]
    exact ⟨rfl, HF.out, HU2.out⟩

/-- Push on a gate. -/
theorem c36 {w : World} {B C g room n : Nat} {L : Loc} {s : GS} (h : GateIn w B C g L room n s) (i : Int) (e : El) :
    Calls Try.prog 36 #[ptr g, .int .i64 i, e.val] w fun x w' => x = .returned (.int .i64 (pushC room s i e)) ∧ GateIn w' B C g L room n (pushS room s i e) ∧ Upd (inGate B C) w w' := by
  by_cases hi : i < 0 ∨ (n : Int) ≤ i
  · have hr : s.refuses i e := .inl (by rw [h.lls]; exact hi)
    rw [pushC_ref hr, pushS_ref hr]
    refine (c36_out h i e hi).mono ?_
    rintro x w' ⟨rfl, hU⟩
    exact ⟨rfl, h.upd0 hU, hU.mono (fun _ _ h => h.elim)⟩
  · obtain ⟨j, rfl⟩ := Int.eq_ofNat_of_zero_le (show 0 ≤ i by omega)
    have hj : j < n := by omega
    by_cases hr : s.refuses j e
    · rw [pushC_ref hr, pushS_ref hr]
      rcases hr with hr | ⟨hk, ha⟩
      · rw [h.lls] at hr; exact absurd hr hi
      · rw [Int.toNat_natCast] at ha
        refine (c36_low h j e hj hk ha).mono ?_
        rintro x w' ⟨rfl, hU⟩
        exact ⟨rfl, h.upd0 hU, hU.mono (fun _ _ h => h.elim)⟩
    · by_cases hk : e.kind = 3
      · exact c36_bar h j e hj hk hr
      · exact c36_no h j e hj hk hr

theorem c36_nil (w : World) (i : Int) (e : El) : Calls Try.prog 36 #[.pointer none, .int .i64 i, e.val] w fun x w' => x = .returned (.int .i64 3) ∧ Upd (fun _ => False) w w' := by
  go_enter Try.func36, Try.ntmps36
  go_wp2
  go_ret
  exact ⟨rfl, (Upd.refl _ _).alloc _⟩
end Go.Proofs.Ytijkcahdegohiaa
