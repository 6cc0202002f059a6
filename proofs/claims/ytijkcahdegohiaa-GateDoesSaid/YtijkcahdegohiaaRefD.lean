/-
  The reference's Push, as a call.
-/
import Derived.Test.YtijkcahdegohiaaRefC
namespace Go.Proofs.Ytijkcahdegohiaa
open Go.RowKit
attribute [local go_sem ↓] Go.wp_at_zero Go.wp_at_succ

set_option maxRecDepth 100000 in
set_option maxHeartbeats 1600000 in
theorem c46_out {w : World} {D E : Nat} {R : RLoc} {room n : Nat} {vs : List Value} {s : GS} (h : RefAt w D E R room n vs s) (i : Int) (e : El) (hi : i < 0 ∨ (n : Int) ≤ i) :
    Calls Try.prog 46 #[ptr R.r, .int .i64 i, e.val] w fun x w' => x = .returned (.int .i64 1) ∧ Upd (fun _ => False) w w' := by
  have H := Lib.hid (h.upd0 ((Upd.refl (fun _ => False) w).alloc e.obj))
  have hS : (w.alloc e.obj).drew.cell? ⟨R.r, 1, none⟩ = some (.slice (some ⟨R.b, 0, none⟩) n n) := H.out.cells.2.1
  have hS0 : (w.alloc e.obj).cell? ⟨R.r, 1, none⟩ = some (.slice (some ⟨R.b, 0, none⟩) n n) := H.out.cells.2.1
  have hS1 := h.cells.2.1
  have hlr := lt_of_heap h.hr
  clear h
  by_cases i0 : i < 0
  · clear hi
    go_enter Try.func46, Try.ntmps46
    go_wp2_with fail
    go_quiet (fail)
    go_wp2_with fail
    go_ret
    exact ⟨rfl, ((Upd.refl _ _).alloc _).drewN _⟩
  · have i1 : (n : Int) ≤ i := by omega
    obtain ⟨j, rfl⟩ := Int.eq_ofNat_of_zero_le (show 0 ≤ i by omega)
    have i2 : n ≤ j := by omega
    have q0 : decide ((j : Int) < 0) = false := decide_eq_false i0
    have q1 : decide (n ≤ j) = true := decide_eq_true i2
    have q2 : decide ((n : Int) ≤ j) = true := decide_eq_true i1
    clear hi
    go_enter Try.func46, Try.ntmps46
    go_wp2_with fail
    go_quiet (fail)
    go_wp2_with fail
    go_ret
    exact ⟨rfl, ((Upd.refl _ _).alloc _).drewN _⟩

theorem RefAt.pushRd {w : World} {D E : Nat} {R : RLoc} {room n : Nat} {vs : List Value} {s : GS} (h : RefAt w D E R room n vs s) {o i : Nat} {e : El} (hi : i < n) (ho : w.heap[o]? = some e.obj) : PushRd w R n o i e (s.lst i) := by
  obtain ⟨b0, b1, b2, b3, b4⟩ := El.box_cells ho
  exact ⟨h.cells.2.1, h.cells.2.2.2.2, ⟨b0, b1, b2, b3, b4⟩, h.cellT hi⟩

set_option maxRecDepth 100000 in
set_option maxHeartbeats 3200000 in
theorem c46_in {w : World} {D E : Nat} {R : RLoc} {room n : Nat} {vs : List Value} {s : GS} (h : RefAt w D E R room n vs s) (i : Nat) (e : El) (hi : i < n) (hlen : (s.pipe i).length ≤ 100000) :
    Calls Try.prog 46 #[ptr R.r, .int .i64 i, e.val] w fun x w' => x = .returned (.int .i64 (pushC room s i e)) ∧ (∃ vs', RefAt w' D w'.heap.size R room n vs' (pushS room s i e)) ∧ Upd (fun k => D ≤ k ∧ k < E) w w' := by
  have H0 := Lib.hid h
  have HB := Lib.hid (El.box w e)
  have H := Lib.hid (h.upd0 ((Upd.refl (fun _ => False) w).alloc e.obj))
  have i0 : (0 : Int) ≤ i := by omega
  have i1 : (i : Int) < n := by omega
  have hoE := h.hE
  clear h
  obtain ⟨c, hc⟩ : ∃ c, pushC room s i e = c := ⟨_, rfl⟩
  obtain ⟨s2, hs2⟩ : ∃ s2, pushS room s i e = s2 := ⟨_, rfl⟩
  rw [hc, hs2]
  have HC := Lib.hid hc
  have HS2 := Lib.hid hs2
  clear hc hs2
  by_cases hm : mayB e = true
  · by_cases h3 : e.kind = 3
    · by_cases ha : e.at_ ≤ s.lst i
      · have hr : s.refuses i e := .inr ⟨h3, by rw [Int.toNat_natCast]; exact ha⟩
        have hc := HC.out
        rw [pushC_ref hr] at hc
        have hs := HS2.out
        rw [pushS_ref hr] at hs
        subst hc hs
        have H3 := Lib.hid h3
        have HA := Lib.hid ha
        have HMM := Lib.hid hm
        clear h3 ha hr hm
        go_enter Try.func46, Try.ntmps46
        go_wp2_with fail
        refine region46_1B (H.out.upd0 (Upd.refl (fun _ => False) _).drew |>.pushRd hi (show (w.alloc e.obj).drew.heap[w.heap.size]? = _ from HB.out)) hi HMM.out (decide_eq_true H3.out) (decide_eq_true HA.out) rfl rfl rfl rfl ?_
        intro w2 hU2
        simp only [Act.put, List.setIfInBounds_toArray, List.set_cons_zero, List.set_cons_succ]
        have HU2 := Lib.hid hU2
        clear hU2
        go_wp2_with fail
        go_ret
        exact ⟨rfl, ⟨vs, (H.out.upd0 HU2.out).grow⟩, (((Upd.refl (fun _ => False) w).alloc e.obj).trans HU2.out).mono (fun _ _ h => h.elim)⟩
      · have hr : ¬ s.refuses i e := by
          rintro (h | ⟨_, h⟩)
          · rw [H0.out.ln.ls] at h; omega
          · rw [Int.toNat_natCast] at h; exact ha h
        have hc := HC.out
        rw [pushC_not hr] at hc
        have H3 := Lib.hid h3
        have HA := Lib.hid ha
        have HMM := Lib.hid hm
        have HRF := Lib.hid hr
        have HCC := Lib.hid hc
        obtain ⟨vA, vcap, hvi, hcb⟩ := H0.out.cellL hi
        clear h3 ha hr hm hc hcb hvi
        go_enter Try.func46, Try.ntmps46
        go_wp2_with fail
        refine region46_1C (H.out.upd0 (Upd.refl (fun _ => False) _).drew |>.pushRd hi (show (w.alloc e.obj).drew.heap[w.heap.size]? = _ from HB.out)) hi HMM.out (decide_eq_true H3.out) (decide_eq_false (by have := HA.out; omega)) rfl rfl rfl rfl ?_
        intro w2 hU2
        simp only [Act.put, List.setIfInBounds_toArray, List.set_cons_zero, List.set_cons_succ]
        have HR2 := Lib.hid (H.out.upd0 hU2)
        have HB2 := Lib.hid (hU2.at HB.out (fun h => h))
        have HU2 := Lib.hid (((Upd.refl (fun _ => False) w).alloc e.obj).trans hU2)
        clear hU2
        obtain ⟨c0, c1, c2, c3, c4⟩ := HR2.out.cells
        obtain ⟨wA, wcap, _, d2⟩ := HR2.out.cellL hi
        have HS3 : Hid (w2.drew.cell? ⟨R.r, 0, none⟩ = some (.int .i64 room) ∧ w2.drew.cell? ⟨R.r, 1, none⟩ = some (.slice (some ⟨R.b, 0, none⟩) n n) ∧ w2.drew.cell? ⟨R.b, i, none⟩ = some (.slice wA (s.pipe i).length wcap)) := Lib.hid ⟨c0, c1, d2⟩
        clear c0 c1 c2 c3 c4 d2
        by_cases hfull : (s.pipe i).length = room
        · have hpc : c = 8 := by rw [← HCC.out]; unfold pushCode; rw [if_pos HMM.out, if_pos hfull]
          have hps : s2 = s := by rw [← HS2.out]; exact pushS_keep (by rw [HC.out, hpc]; decide)
          subst hpc hps
          have hfb : (((GS.pipe _ i).length : Int) == (room : Int)) = true := (by simp [hfull] : (((s2.pipe i).length : Int) == (room : Int)) = true)
          go_wp2_with fail
          go_region_held3 (fun w' => w'.cell? ⟨R.r, 0, none⟩ = some (.int .i64 room) ∧ w'.cell? ⟨R.r, 1, none⟩ = some (.slice (some ⟨R.b, 0, none⟩) n n) ∧ w'.cell? ⟨R.b, i, none⟩ = some (.slice wA (s2.pipe i).length wcap))
            (first | exact HS3.out)
            (fail)
          go_wp2_with fail
          go_ret
          exact ⟨rfl, ⟨vs, (HR2.out.upd0 ((Upd.refl (fun _ => False) _).drew)).grow⟩, (HU2.out.trans ((Upd.refl (fun _ => False) _).drew)).mono (fun _ _ h => h.elim)⟩
        · have hfb : (((s.pipe i).length : Int) == (room : Int)) = false := by simp; omega
          have hpc : pushCode room (s.pipe i) e = 0 := by unfold pushCode; rw [if_pos HMM.out, if_neg hfull]
          have hc0 : c = 0 := by rw [← HCC.out]; exact hpc
          have hps : s2 = (s.setPipe i (s.pipe i ++ [e])).setTs (s.ts.set i e.at_) := by rw [← HS2.out]; exact pushS_bar HRF.out H3.out hpc
          subst hc0 hps
          clear hpc
          go_wp2_with fail
          go_region_held3 (fun w' => w'.cell? ⟨R.r, 0, none⟩ = some (.int .i64 room) ∧ w'.cell? ⟨R.r, 1, none⟩ = some (.slice (some ⟨R.b, 0, none⟩) n n) ∧ w'.cell? ⟨R.b, i, none⟩ = some (.slice wA (s.pipe i).length wcap))
            (first | exact HS3.out)
            (fail)
          have HR3 := Lib.hid (HR2.out.upd0 ((Upd.refl (fun _ => False) _).drew))
          go_wp2_with fail
          refine region46_5 HR3.out w.heap.size i e _ hi rfl hlen (show w2.drew.heap[w.heap.size]? = _ from HB2.out) hoE rfl rfl rfl rfl ?_
          intro vA vcap A4 cap4 w5 hR5 hU5
          simp only [Act.put, List.setIfInBounds_toArray, List.set_cons_zero, List.set_cons_succ]
          have HR5 := Lib.hid hR5
          have HB5 := Lib.hid (hU5.at (show w2.drew.heap[w.heap.size]? = _ from HB2.out) (fun h => by have := h.2; omega))
          have HU5 := Lib.hid ((HU2.out.drew.mono (T := fun k => D ≤ k ∧ k < E) (fun _ _ h => h.elim)).trans hU5)
          obtain ⟨z0, z1, z2, z3, z4⟩ := El.box_cells HB5.out
          obtain ⟨c0, c1, c2, c3, c4⟩ := HR5.out.cells
          have hct := HR5.out.cellT hi
          have hft := free_of HR5.out.ht i
          have hlt := lt_of_heap HR5.out.ht
          have HR6 := Lib.hid (HR5.out.upd0 ((Upd.refl (fun _ => False) _).drew))
          have HT := Lib.hid (HR6.out.setT i e.at_)
          have HNT : Hid (w.heap.size ≠ R.t) := Lib.hid (by have := H0.out.er.2.2.2.2; omega)
          have HB6 := Lib.hid (heap_set_ne (show w5.drew.heap[w.heap.size]? = _ from HB5.out) (a := ⟨R.t, i, none⟩) HNT.out (.int .i64 e.at_))
          have HS6 : Hid (w5.drew.cell? ⟨R.r, 4, none⟩ = some (.slice (some ⟨R.t, 0, none⟩) n n) ∧ w5.drew.cell? ⟨w.heap.size, 4, none⟩ = some (.int .i64 e.at_)) := Lib.hid ⟨c4, z4⟩
          have HS7 := Lib.hid (show _ ∧ _ from ⟨HT.out.cells.2.2.2.2, (El.box_cells HB6.out).2.2.2.2⟩)
          have HKD : (e.kind == 3) = true := by rw [H3.out]; rfl
          clear hR5 hU5
          go_wp2_with fail
          have hct6 : w5.drew.cell? ⟨R.t, i, none⟩ = _ := hct
          have hft6 : w5.drew.frozen? ⟨R.t, i, none⟩ = false := hft
          go_region_held3 (fun w' => w'.cell? ⟨R.r, 4, none⟩ = some (.slice (some ⟨R.t, 0, none⟩) n n) ∧ w'.cell? ⟨w.heap.size, 4, none⟩ = some (.int .i64 e.at_))
            (first | exact HS6.out | exact HS7.out)
            (fail)
          go_wp2_with fail
          go_ret
          refine ⟨rfl, ⟨_, HT.out.grow⟩, ?_⟩
          refine HU5.out.drew.step (T := fun k => k = R.t) (Upd.setCell (S := fun k => k = R.t) (p := ⟨R.t, i, none⟩) (Upd.refl _ _) (fun _ => rfl) _) (fun j _ hj => ?_)
          subst hj
          exact ⟨H0.out.dr.2.2.2, H0.out.er.2.2.2.2⟩
    · have hr : ¬ s.refuses i e := by
        rintro (h | ⟨h, _⟩)
        · rw [H0.out.ln.ls] at h; omega
        · exact h3 h
      have hc := HC.out
      rw [pushC_not hr] at hc
      have H3 := Lib.hid h3
      have HMM := Lib.hid hm
      have HRF := Lib.hid hr
      have HCC := Lib.hid hc
      obtain ⟨vA, vcap, hvi, hcb⟩ := H0.out.cellL hi
      clear h3 hr hm hc hcb hvi
      go_enter Try.func46, Try.ntmps46
      go_wp2_with fail
      refine region46_1D (H.out.upd0 (Upd.refl (fun _ => False) _).drew |>.pushRd hi (show (w.alloc e.obj).drew.heap[w.heap.size]? = _ from HB.out)) hi HMM.out (decide_eq_false H3.out) rfl rfl rfl rfl ?_
      intro w2 hU2
      simp only [Act.put, List.setIfInBounds_toArray, List.set_cons_zero, List.set_cons_succ]
      have HR2 := Lib.hid (H.out.upd0 hU2)
      have HB2 := Lib.hid (hU2.at HB.out (fun h => h))
      have HU2 := Lib.hid (((Upd.refl (fun _ => False) w).alloc e.obj).trans hU2)
      clear hU2
      obtain ⟨c0, c1, c2, c3, c4⟩ := HR2.out.cells
      obtain ⟨wA, wcap, _, d2⟩ := HR2.out.cellL hi
      have HS3 : Hid (w2.drew.cell? ⟨R.r, 0, none⟩ = some (.int .i64 room) ∧ w2.drew.cell? ⟨R.r, 1, none⟩ = some (.slice (some ⟨R.b, 0, none⟩) n n) ∧ w2.drew.cell? ⟨R.b, i, none⟩ = some (.slice wA (s.pipe i).length wcap)) := Lib.hid ⟨c0, c1, d2⟩
      clear c0 c1 c2 c3 c4 d2
      by_cases hfull : (s.pipe i).length = room
      · have hpc : c = 8 := by rw [← HCC.out]; unfold pushCode; rw [if_pos HMM.out, if_pos hfull]
        have hps : s2 = s := by rw [← HS2.out]; exact pushS_keep (by rw [HC.out, hpc]; decide)
        subst hpc hps
        have hfb : (((GS.pipe _ i).length : Int) == (room : Int)) = true := (by simp [hfull] : (((s2.pipe i).length : Int) == (room : Int)) = true)
        go_wp2_with fail
        go_region_held3 (fun w' => w'.cell? ⟨R.r, 0, none⟩ = some (.int .i64 room) ∧ w'.cell? ⟨R.r, 1, none⟩ = some (.slice (some ⟨R.b, 0, none⟩) n n) ∧ w'.cell? ⟨R.b, i, none⟩ = some (.slice wA (s2.pipe i).length wcap))
          (first | exact HS3.out)
          (fail)
        go_wp2_with fail
        go_ret
        exact ⟨rfl, ⟨vs, (HR2.out.upd0 ((Upd.refl (fun _ => False) _).drew)).grow⟩, (HU2.out.trans ((Upd.refl (fun _ => False) _).drew)).mono (fun _ _ h => h.elim)⟩
      · have hfb : (((s.pipe i).length : Int) == (room : Int)) = false := by simp; omega
        have hpc : pushCode room (s.pipe i) e = 0 := by unfold pushCode; rw [if_pos HMM.out, if_neg hfull]
        have hc0 : c = 0 := by rw [← HCC.out]; exact hpc
        have hps : s2 = s.setPipe i (s.pipe i ++ [e]) := by rw [← HS2.out]; exact pushS_no HRF.out H3.out hpc
        subst hc0 hps
        clear hpc
        go_wp2_with fail
        go_region_held3 (fun w' => w'.cell? ⟨R.r, 0, none⟩ = some (.int .i64 room) ∧ w'.cell? ⟨R.r, 1, none⟩ = some (.slice (some ⟨R.b, 0, none⟩) n n) ∧ w'.cell? ⟨R.b, i, none⟩ = some (.slice wA (s.pipe i).length wcap))
          (first | exact HS3.out)
          (fail)
        have HR3 := Lib.hid (HR2.out.upd0 ((Upd.refl (fun _ => False) _).drew))
        go_wp2_with fail
        refine region46_5 HR3.out w.heap.size i e _ hi rfl hlen (show w2.drew.heap[w.heap.size]? = _ from HB2.out) hoE rfl rfl rfl rfl ?_
        intro vA vcap A4 cap4 w5 hR5 hU5
        simp only [Act.put, List.setIfInBounds_toArray, List.set_cons_zero, List.set_cons_succ]
        have HR5 := Lib.hid hR5
        have HB5 := Lib.hid (hU5.at (show w2.drew.heap[w.heap.size]? = _ from HB2.out) (fun h => by have := h.2; omega))
        have HU5 := Lib.hid ((HU2.out.drew.mono (T := fun k => D ≤ k ∧ k < E) (fun _ _ h => h.elim)).trans hU5)
        obtain ⟨z0, z1, z2, z3, z4⟩ := El.box_cells HB5.out
        have HKD : (e.kind == 3) = false := by simp [H3.out]
        clear hR5 hU5
        go_wp2_with fail
        go_ret
        exact ⟨rfl, ⟨_, HR5.out.grow⟩, HU5.out⟩
  · have hm : mayB e = false := by simpa using hm
    have hcs : pushC room s i e = 1 ∧ pushS room s i e = s := by
      by_cases hr : s.refuses i e
      · exact ⟨pushC_ref hr, pushS_ref hr⟩
      · have hc : pushCode room (s.pipe i) e = 1 := by unfold pushCode; rw [hm]; rfl
        exact ⟨(pushC_not hr).trans hc, pushS_not hr (by omega)⟩
    have hc := HC.out
    rw [hcs.1] at hc
    have hs := HS2.out
    rw [hcs.2] at hs
    subst hc hs
    have HMM := Lib.hid hm
    clear hcs hm
    go_enter Try.func46, Try.ntmps46
    go_wp2_with fail
    refine region46_1A (H.out.upd0 (Upd.refl (fun _ => False) _).drew |>.pushRd hi (show (w.alloc e.obj).drew.heap[w.heap.size]? = _ from HB.out)) hi HMM.out rfl rfl rfl rfl ?_
    intro w2 hU2
    simp only [Act.put, List.setIfInBounds_toArray, List.set_cons_zero, List.set_cons_succ]
    have HU2 := Lib.hid hU2
    clear hU2
    go_wp2_with fail
    go_ret
    exact ⟨rfl, ⟨vs, (H.out.upd0 HU2.out).grow⟩, (((Upd.refl (fun _ => False) w).alloc e.obj).trans HU2.out).mono (fun _ _ h => h.elim)⟩

/-- The reference's Push. -/
theorem c46 {w : World} {D E : Nat} {R : RLoc} {room n : Nat} {vs : List Value} {s : GS} (h : RefAt w D E R room n vs s) (i : Int) (e : El) (hlen : ∀ j, j < n → (s.pipe j).length ≤ 100000) :
    Calls Try.prog 46 #[ptr R.r, .int .i64 i, e.val] w fun x w' => x = .returned (.int .i64 (pushC room s i e)) ∧ (∃ vs', RefAt w' D w'.heap.size R room n vs' (pushS room s i e)) ∧ Upd (fun k => D ≤ k ∧ k < E) w w' := by
  by_cases hi : i < 0 ∨ (n : Int) ≤ i
  · have hr : s.refuses i e := .inl (by rw [h.ln.ls]; exact hi)
    rw [pushC_ref hr, pushS_ref hr]
    refine (c46_out h i e hi).mono fun x w' ⟨he, hU⟩ => ⟨he, ⟨vs, (h.upd0 hU).grow⟩, hU.mono (fun _ _ h => h.elim)⟩
  · obtain ⟨j, rfl⟩ := Int.eq_ofNat_of_zero_le (show 0 ≤ i by omega)
    exact c46_in h j e (by omega) (hlen j (by omega))
end Go.Proofs.Ytijkcahdegohiaa
