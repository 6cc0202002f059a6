/-
  The law GateDoes, as a call.
-/
import Derived.Test.YtijkcahdegohiaaRefE
import Derived.Test.YtijkcahdegohiaaRefG
import Derived.Test.YtijkcahdegohiaaLawGc
namespace Go.Proofs.Ytijkcahdegohiaa
open Go.RowKit
attribute [local go_sem ↓] Go.wp_at_zero Go.wp_at_succ

set_option maxRecDepth 100000 in
set_option maxHeartbeats 1600000 in
theorem c13_far (n room : Int) (A : Option Addr) (N cap : Nat) (w : World) (h : 600 < N) :
    Calls Try.prog 13 #[.int .i64 n, .int .i64 room, .slice A N cap] w fun x w' => x = .returned (.bool true) ∧ Upd (fun _ => False) w w' := by
  have hN' : (600 : Int) < N := by omega
  clear h
  go_enter Try.func13, Try.ntmps13
  go_wp2_with fail
  go_ret
  exact ⟨rfl, Upd.refl _ _⟩

set_option maxRecDepth 100000 in
set_option maxHeartbeats 1600000 in
theorem c13_bad (n room : Int) (A : Option Addr) (N cap : Nat) (w : World) (h : N ≤ 600) (hf : fitsB n room = false) :
    Calls Try.prog 13 #[.int .i64 n, .int .i64 room, .slice A N cap] w fun x w' => x = .returned (.bool true) ∧ Upd (fun _ => False) w w' := by
  have hN' : ¬ (600 : Int) < N := by omega
  have HF := Lib.hid hf
  have HB : Hid (¬ (1 ≤ n ∧ n ≤ 8 ∧ 1 ≤ room ∧ room ≤ 64)) := Lib.hid (fun hh => by simp [fitsB, hh] at hf)
  clear h hf
  go_enter Try.func13, Try.ntmps13
  go_wp2_with fail
  refine (c35_bad n room _ HB.out).mono ?_
  rintro x w1 ⟨rfl, hU1⟩
  have HU1 := Lib.hid hU1
  clear hU1
  go_wp2_with (first | (go_at_call 41; refine (c41 n room _).mono ?_; rw [HF.out]; rintro x w2 ⟨rfl, rfl⟩) | (go_at_call 40; refine (c40 _).mono ?_; rintro x w2 ⟨rfl, hU2⟩))
  go_ret
  exact ⟨rfl, HU1.out.trans hU2⟩

/-- What holds at each round's head. -/
structure DoMid (w wr : World) (C D E : Nat) (L : Loc) (R : RLoc) (room n : Nat) (vs : List Value) (s : GS) : Prop where
  gt : GateIn wr w.heap.size C w.heap.size L room n s
  rf : RefAt wr D E R room n vs s
  ud : Upd (fun _ => False) w wr
  cd : C ≤ D
section
variable {w wr w2 : World} {C D E : Nat} {L : Loc} {R : RLoc} {room n : Nat} {vs : List Value} {s : GS}
theorem DoMid.upd0 (h : DoMid w wr C D E L R room n vs s) (hU : Upd (fun _ => False) wr w2) : DoMid w w2 C D E L R room n vs s :=
  ⟨h.gt.upd0 hU, h.rf.upd0 hU, h.ud.trans hU, h.cd⟩
theorem DoMid.len (h : DoMid w wr C D E L R room n vs s) (r2 : room ≤ 64) : ∀ j, j < n → (s.pipe j).length ≤ 100000 := fun j hj => by
  have := (h.gt.hp j hj).fits; omega
theorem DoMid.low (h : DoMid w wr C D E L R room n vs s) : w.heap.size < C ∧ C ≤ D ∧ D < E ∧ E ≤ wr.heap.size :=
  ⟨Nat.lt_of_le_of_lt h.gt.rg.1 h.gt.rg.2, h.cd, Nat.lt_of_le_of_lt h.rf.dr.1 h.rf.er.1, h.rf.hE⟩
end

theorem blocked_out {s : GS} {n : Nat} (h : Lens s n) : s.blocked (-1) = 0 ∧ s.blocked n = 0 ∧ s.len n = 0 ∧ s.len (-1) = 0 := by
  refine ⟨if_pos (.inl (by decide)), if_pos (.inr (by rw [h.bs]; exact Int.le_refl _)), if_pos (.inr (by rw [h.ls]; exact Int.le_refl _)), if_pos (.inl (by decide))⟩
theorem blocked_in {s : GS} {n : Nat} (h : Lens s n) {i : Nat} (hi : i < n) : s.blocked i = s.blk i ∧ s.len i = ((s.pipe i).length : Int) := by
  unfold GS.blocked GS.len
  rw [if_neg (by rw [h.bs]; omega), if_neg (by rw [h.ls]; omega), Int.toNat_natCast]
  exact ⟨rfl, rfl⟩

set_option maxRecDepth 100000 in
set_option maxHeartbeats 12800000 in
theorem c13_run (n room : Nat) (A : Option Addr) (cap : Nat) (os : List (Int × Int × El)) (w : World) (hR : Ops14Rd w A os) (hl : os.length ≤ 600) (h1 : 1 ≤ n) (h8 : n ≤ 8) (r1 : 1 ≤ room) (r2 : room ≤ 64) :
    Calls Try.prog 13 #[.int .i64 n, .int .i64 room, .slice A os.length cap] w fun x w' => x = .returned (.bool true) ∧ Upd (fun _ => False) w w' := by
  have HRD := Lib.hid hR
  generalize hN : os.length = N at *
  have HN := Lib.hid hN
  have g0 : ¬ (600 : Int) < N := by omega
  have hf : fitsB n room = true := by unfold fitsB; simp; omega
  have HF := Lib.hid hf
  clear hR hN hf
  go_enter Try.func13, Try.ntmps13
  go_wp2_with fail
  refine (c35 n room _ h1 h8 r1 r2).mono ?_
  rintro x w0 ⟨rfl, ⟨C, L, hG⟩, hU⟩
  have HG := Lib.hid hG
  have HU := Lib.hid hU
  clear hG hU
  go_wp2_with (go_at_call 41; refine (c41 n room _).mono ?_; rw [HF.out]; rintro x w1 ⟨rfl, rfl⟩)
  refine (c45 n room _ h1 h8).mono ?_
  rintro x w1 ⟨⟨R, vs0, rfl, hR0⟩, hU1⟩
  have H0 : Hid (DoMid w w1 C w0.heap.size w1.heap.size L R room n vs0 (GS.start n)) := Lib.hid ⟨HG.out.upd0 hU1, hR0, HU.out.trans hU1, HG.out.hC⟩
  clear hR0 hU1 HG HU
  go_wp2_with fail
  go_loopw [10] (fun tn wr => ∃ (k E : Nat) (vs : List Value) (s : GS), k ≤ N ∧ tn = .int .i64 k ∧ DoMid w wr C w0.heap.size E L R room n vs s) (fun tn _ => N - (intOf tn).toNat)
  case atStart => exact ⟨0, _, _, _, by omega, rfl, H0.out⟩
  case round =>
    obtain ⟨k, E, vs, s, hk, rfl, hM⟩ := hrel
    have HM := Lib.hid hM
    clear hM H0
    by_cases hlt : k < N
    · obtain ⟨⟨kd, I, e⟩, hx⟩ : ∃ x, os[k]? = some x := ⟨_, List.getElem?_eq_getElem (by rw [HN.out]; exact hlt)⟩
      obtain ⟨⟨ob, off, hA, hc⟩, hrng⟩ := HRD.out.upd0 HM.out.ud
      obtain ⟨hc0, hc1, e0, e1, e2, e3, e4⟩ := hc k _ hx
      have hI := hrng _ (List.mem_of_getElem? hx)
      dsimp only at hc0 hc1 e0 e1 e2 e3 e4 hI
      obtain rfl := hA (by intro e; rw [e] at hx; simp at hx)
      have a1 : (0 : Int) ≤ k := by omega
      have a2 : (k : Int) < N := by omega
      clear hc hA hx hrng
      have HM1 : Hid (DoMid w (wr.alloc (opObj kd I e)) C w0.heap.size E L R room n vs s) := Lib.hid (HM.out.upd0 ((Upd.refl (fun _ => False) wr).alloc (opObj kd I e)))
      have HOB := Lib.hid (op_box wr kd I e)
      by_cases k0 : kd = 0
      · subst k0
        obtain ⟨pc, hpc⟩ : ∃ pc, pushC room s I e = pc := ⟨_, rfl⟩
        obtain ⟨s2, hs2⟩ : ∃ s2, pushS room s I e = s2 := ⟨_, rfl⟩
        have HPC := Lib.hid hpc
        have HS2 := Lib.hid hs2
        have HMD : Hid (DoMid w (wr.alloc (opObj 0 I e)).drew C w0.heap.size E L R room n vs s) := Lib.hid (HM1.out.upd0 ((Upd.refl (fun _ => False) _).drew))
        have HO1 : Hid ((wr.alloc (opObj 0 I e)).drew.heap[wr.heap.size]? = some (opObj 0 I e)) := HOB
        have HSA := Lib.hid (op_cells HO1.out).2
        have HLEN := Lib.hid (HM.out.len r2)
        have HLOW := Lib.hid HM.out.low
        clear hpc hs2
        go_wp2_with fail
        go_region_held3 (fun w' => w'.cell? ⟨wr.heap.size, 1, none⟩ = some (.int .i64 I) ∧ w'.cell? ⟨wr.heap.size, 2, none⟩ = some (.int .i64 e.kind) ∧ w'.cell? ⟨wr.heap.size, 3, none⟩ = some (.string e.key) ∧ w'.cell? ⟨wr.heap.size, 4, none⟩ = some (.int .i64 e.time) ∧ w'.cell? ⟨wr.heap.size, 5, none⟩ = some (.int .i64 e.value) ∧ w'.cell? ⟨wr.heap.size, 6, none⟩ = some (.int .i64 e.at_))
          (first | exact HSA.out | exact HSB.out | exact HSC.out)
          (first | (go_at_call 36; refine (c36 HMD.out.gt I e).mono ?_; rw [HPC.out, HS2.out]; rintro x w3 ⟨rfl, hG3, hU3⟩; (have HG3 := Lib.hid hG3); (have HR3 := Lib.hid (HMD.out.rf.upd hU3 (fun j h1 h2 h3 => by have := h3.2; have := HLOW.out; omega))); (have HV3 := Lib.hid (HMD.out.ud.gate (Nat.le_refl _) hU3)); (have HO3 := Lib.hid (hU3.at HO1.out (fun h => by have := h.2; have := HLOW.out; omega))); (have HSB := Lib.hid (op_cells HO3.out).2); clear hG3 hU3) | (go_at_call 46; refine (c46 HR3.out I e HLEN.out).mono ?_; rw [HPC.out, HS2.out]; rintro x w4 ⟨rfl, ⟨vs4, hR4⟩, hU4⟩; (have HM4 : Hid (DoMid w w4 C w0.heap.size w4.heap.size L R room n vs4 s2) := Lib.hid ⟨HG3.out.upd hU4 (fun j h1 h2 h3 => by have := h3.1; have := HLOW.out; omega), hR4, HV3.out.step hU4 (fun j h1 h3 => by have := h3.1; have := HLOW.out; omega), HM1.out.cd⟩); (have HSC := Lib.hid (op_cells (hU4.at HO3.out (fun h => by have := h.2; have := HLOW.out; omega))).2); clear hR4 hU4))
        go_wp2_with fail
        have HT := Lib.hid (HM4.out.upd0 ((Upd.refl (fun _ => False) _).drew))
        obtain ⟨MM, hMM⟩ : ∃ MM, leastL (GS.ms s2) = MM := ⟨_, rfl⟩
        have HMM := Lib.hid hMM
        have HNG := Lib.hid (blocked_out HM4.out.rf.ln)
        have HST := Lib.hid HT.out.rf.cells.2.2.1
        clear hMM
        go_region_held3 (fun w' => w'.cell? ⟨R.r, 2, none⟩ = some (.slice (some ⟨R.m, 0, none⟩) n n))
          (first | exact HST.out)
          (first | (go_at_call 43; refine (c43 HT.out.gt).mono ?_; rw [HMM.out]; rintro x w1 ⟨rfl, rfl⟩) | (go_at_call 25; refine (c25n _ n n (GS.ms s2) _ (IntsRd.ofRow HT.out.rf.hm) HT.out.rf.ln.ms (by omega)).mono ?_; rw [HMM.out]; rintro x w1 ⟨rfl, rfl⟩) | (go_at_call 48; refine (c48 HT.out.gt _).mono ?_; (first | rw [HNG.out.1] | rw [HNG.out.2.1]); rintro x w1 ⟨rfl, rfl⟩) | (go_at_call 49; refine (c49 HT.out.gt _).mono ?_; (first | rw [HNG.out.2.2.1] | rw [HNG.out.2.2.2]); rintro x w1 ⟨rfl, rfl⟩))
        go_wp2_with fail
        go_loopw [18] (fun ti wr => ∃ i : Nat, i ≤ n ∧ ti = .int .i64 i ∧ DoMid w wr C w0.heap.size w4.heap.size L R room n vs4 s2) (fun ti _ => n - (intOf ti).toNat)
        case atStart => exact ⟨0, by omega, rfl, HT.out⟩
        case round =>
          obtain ⟨i, hi, rfl, hMX⟩ := hrel
          have HMX := Lib.hid hMX
          clear hMX HT HST HNG
          by_cases hin : i < n
          · have i0 : (0 : Int) ≤ i := by omega
            have i1 : (i : Int) < n := by omega
            obtain ⟨rA, rcap, _, hcl⟩ := HMX.out.rf.cellL hin
            have HMY := Lib.hid (HMX.out.upd0 ((Upd.refl (fun _ => False) _).drew))
            have HBI := Lib.hid (blocked_in HMX.out.rf.ln hin)
            obtain ⟨bi, hbi⟩ : ∃ bi, GS.blk s2 i = bi := ⟨_, rfl⟩
            obtain ⟨li, hli⟩ : ∃ li, (GS.pipe s2 i).length = li := ⟨_, rfl⟩
            have hbi2 := (blocked_in HMX.out.rf.ln hin).1.trans hbi
            have hli2 := (blocked_in HMX.out.rf.ln hin).2.trans (congrArg Nat.cast hli)
            have HBI := Lib.hid hbi2
            have HLI := Lib.hid hli2
            have hcb := HMX.out.rf.cellB hin
            rw [hbi] at hcb
            rw [hli] at hcl
            have HSX : Hid (_ ∧ _ ∧ _ ∧ _) := Lib.hid ⟨HMY.out.rf.cells.2.1, HMY.out.rf.cells.2.2.2.1, (show (World.drew _).cell? ⟨R.k, i, none⟩ = _ from hcb), (show (World.drew _).cell? ⟨R.b, i, none⟩ = _ from hcl)⟩
            clear hbi hli hbi2 hli2 hcb hcl
            go_wp2_with fail
            go_region_held3 (fun w' => w'.cell? ⟨R.r, 1, none⟩ = some (.slice (some ⟨R.b, 0, none⟩) n n) ∧ w'.cell? ⟨R.r, 3, none⟩ = some (.slice (some ⟨R.k, 0, none⟩) n n) ∧ w'.cell? ⟨R.k, i, none⟩ = some (.int .i64 bi) ∧ w'.cell? ⟨R.b, i, none⟩ = some (.slice rA li rcap))
              (first | exact HSX.out)
              (first | (go_at_call 48; refine (c48 HMY.out.gt i).mono ?_; rw [HBI.out]; rintro x w1 ⟨rfl, rfl⟩) | (go_at_call 49; refine (c49 HMY.out.gt i).mono ?_; rw [HLI.out]; rintro x w1 ⟨rfl, rfl⟩))
            go_wp2_with fail
            go_roundw
            case rel => exact ⟨i + 1, by omega, by go_num, HMY.out⟩
            case measure => simp [intOf]; omega
          · obtain rfl : n = i := by omega
            go_wp2_with fail
            first
              | (go_roundw
                 case rel => exact ⟨k + 1, _, _, _, by omega, by go_num, HMX.out⟩
                 case measure => simp [intOf]; omega)
              | exact ⟨⟨k + 1, _, _, _, by omega, by go_num, HMX.out⟩, by simp [intOf]; omega⟩
      · have k0b : (kd == 0) = false := by simp [k0]
        by_cases k1 : kd = 1
        · subst k1
          clear k0 k0b
          obtain ⟨⟨⟨⟨kx, key, tx, vx, ax⟩, ix, ok⟩, s3⟩, hGN⟩ : ∃ G, gNext s I = G := ⟨_, rfl⟩
          have HGN := Lib.hid hGN
          have HLEN := Lib.hid (HM.out.len r2)
          have HMAY := Lib.hid HM.out.gt.may
          have HLOW := Lib.hid HM.out.low
          clear hGN
          obtain ⟨o0, o1, o2, o3, o4, o5, o6⟩ := op_cells HOB.out
          go_wp2_with fail
          refine (c39 HM1.out.gt I hI.1 hI.2).mono ?_
          rw [HGN.out]
          rintro _ w3 ⟨rfl, hG3, hU3⟩
          have HG3 := Lib.hid (hG3.upd0 ((Upd.refl (fun _ => False) _).alloc (El.obj ⟨kx, key, tx, vx, ax⟩)))
          have HR3 := Lib.hid ((HM1.out.rf.upd hU3 (fun j h1 h2 h3 => by have := h3.2; have := HLOW.out; omega)).upd0 ((Upd.refl (fun _ => False) _).alloc (El.obj ⟨kx, key, tx, vx, ax⟩)))
          have HV3 := Lib.hid ((HM1.out.ud.gate (Nat.le_refl _) hU3).alloc (El.obj ⟨kx, key, tx, vx, ax⟩))
          have hO3 := hU3.at HOB.out (fun h => by have := h.2; have := HLOW.out; omega)
          have hE3 : E ≤ w3.heap.size := Nat.le_trans HM1.out.rf.hE hU3.size
          have hlo := lt_of_heap hO3
          clear o0 o1 o2 o3 o4 o5 o6 e0 e1 e2 e3 e4 hc0 hc1
          obtain ⟨o0, o1, o2, o3, o4, o5, o6⟩ := op_cells hO3
          have HX3 := Lib.hid (El.box w3 ⟨kx, key, tx, vx, ax⟩)
          clear hG3 hU3 hO3
          dsimp only
          go_wp2_with fail
          refine (c47 HR3.out I hI.1 hI.2 HMAY.out HLEN.out).mono ?_
          rw [HGN.out]
          rintro _ w4 ⟨rfl, ⟨vs4, hR4⟩, hU4⟩
          have hfar : ∀ j, nxS R j → w0.heap.size ≤ j ∧ j < E := fun j hj => by
            have h1 := HR3.out.ns.lb
            have h2 := HR3.out.dr
            have h3 := HR3.out.er
            rcases hj with rfl | rfl | rfl <;> omega
          have HM5 : Hid (DoMid w (w4.alloc (El.obj ⟨kx, key, tx, vx, ax⟩)) C w0.heap.size E L R room n vs4 s3) := Lib.hid
            ⟨(HG3.out.upd hU4 (fun j h1 h2 h3 => by have := (hfar j h3).1; have := HLOW.out; omega)).upd0 ((Upd.refl (fun _ => False) _).alloc _), hR4.upd0 ((Upd.refl (fun _ => False) _).alloc _), (HV3.out.step hU4 (fun j h1 h3 => by have := (hfar j h3).1; have := HLOW.out; omega)).alloc _, HM1.out.cd⟩
          have hX4 := hU4.at HX3.out (fun h => by have := (hfar _ h).2; omega)
          have hlx := lt_of_heap hX4
          obtain ⟨x0, x1, x2, x3, x4⟩ := El.box_cells hX4
          dsimp only at x0 x1 x2 x3 x4
          clear hR4 hU4 hX4 hfar o0 o1 o2 o3 o4 o5 o6 HG3 HR3 HV3
          dsimp only
          go_wp2_with fail
          have HT := Lib.hid (HM5.out.upd0 ((Upd.refl (fun _ => False) _).drew))
          obtain ⟨MM, hMM⟩ : ∃ MM, leastL (GS.ms s3) = MM := ⟨_, rfl⟩
          have HMM := Lib.hid hMM
          have HNG := Lib.hid (blocked_out HM5.out.rf.ln)
          have HST := Lib.hid HT.out.rf.cells.2.2.1
          clear hMM
          go_region_held3 (fun w' => w'.cell? ⟨R.r, 2, none⟩ = some (.slice (some ⟨R.m, 0, none⟩) n n))
            (first | exact HST.out)
            (first | (go_at_call 43; refine (c43 HT.out.gt).mono ?_; rw [HMM.out]; rintro x w1 ⟨rfl, rfl⟩) | (go_at_call 25; refine (c25n _ n n (GS.ms s3) _ (IntsRd.ofRow HT.out.rf.hm) HT.out.rf.ln.ms (by omega)).mono ?_; rw [HMM.out]; rintro x w1 ⟨rfl, rfl⟩) | (go_at_call 48; refine (c48 HT.out.gt _).mono ?_; (first | rw [HNG.out.1] | rw [HNG.out.2.1]); rintro x w1 ⟨rfl, rfl⟩) | (go_at_call 49; refine (c49 HT.out.gt _).mono ?_; (first | rw [HNG.out.2.2.1] | rw [HNG.out.2.2.2]); rintro x w1 ⟨rfl, rfl⟩))
          go_wp2_with fail
          go_loopw [18] (fun ti wr => ∃ i : Nat, i ≤ n ∧ ti = .int .i64 i ∧ DoMid w wr C w0.heap.size E L R room n vs4 s3) (fun ti _ => n - (intOf ti).toNat)
          case atStart => exact ⟨0, by omega, rfl, HT.out⟩
          case round =>
            obtain ⟨i, hi, rfl, hMX⟩ := hrel
            have HMX := Lib.hid hMX
            clear hMX HT HST HNG
            by_cases hin : i < n
            · have i0 : (0 : Int) ≤ i := by omega
              have i1 : (i : Int) < n := by omega
              obtain ⟨rA, rcap, _, hcl⟩ := HMX.out.rf.cellL hin
              have HMY := Lib.hid (HMX.out.upd0 ((Upd.refl (fun _ => False) _).drew))
              have HBI := Lib.hid (blocked_in HMX.out.rf.ln hin)
              obtain ⟨bi, hbi⟩ : ∃ bi, GS.blk s3 i = bi := ⟨_, rfl⟩
              obtain ⟨li, hli⟩ : ∃ li, (GS.pipe s3 i).length = li := ⟨_, rfl⟩
              have hbi2 := (blocked_in HMX.out.rf.ln hin).1.trans hbi
              have hli2 := (blocked_in HMX.out.rf.ln hin).2.trans (congrArg Nat.cast hli)
              have HBI := Lib.hid hbi2
              have HLI := Lib.hid hli2
              have hcb := HMX.out.rf.cellB hin
              rw [hbi] at hcb
              rw [hli] at hcl
              have HSX : Hid (_ ∧ _ ∧ _ ∧ _) := Lib.hid ⟨HMY.out.rf.cells.2.1, HMY.out.rf.cells.2.2.2.1, (show (World.drew _).cell? ⟨R.k, i, none⟩ = _ from hcb), (show (World.drew _).cell? ⟨R.b, i, none⟩ = _ from hcl)⟩
              clear hbi hli hbi2 hli2 hcb hcl
              go_wp2_with fail
              go_region_held3 (fun w' => w'.cell? ⟨R.r, 1, none⟩ = some (.slice (some ⟨R.b, 0, none⟩) n n) ∧ w'.cell? ⟨R.r, 3, none⟩ = some (.slice (some ⟨R.k, 0, none⟩) n n) ∧ w'.cell? ⟨R.k, i, none⟩ = some (.int .i64 bi) ∧ w'.cell? ⟨R.b, i, none⟩ = some (.slice rA li rcap))
                (first | exact HSX.out)
                (first | (go_at_call 48; refine (c48 HMY.out.gt i).mono ?_; rw [HBI.out]; rintro x w1 ⟨rfl, rfl⟩) | (go_at_call 49; refine (c49 HMY.out.gt i).mono ?_; rw [HLI.out]; rintro x w1 ⟨rfl, rfl⟩))
              go_wp2_with fail
              go_roundw
              case rel => exact ⟨i + 1, by omega, by go_num, HMY.out⟩
              case measure => simp [intOf]; omega
            · obtain rfl : n = i := by omega
              go_wp2_with fail
              first
                | (go_roundw
                   case rel => exact ⟨k + 1, _, _, _, by omega, by go_num, HMX.out⟩
                   case measure => simp [intOf]; omega)
                | exact ⟨⟨k + 1, _, _, _, by omega, by go_num, HMX.out⟩, by simp [intOf]; omega⟩
        · have k1b : (kd == 1) = false := by simp [k1]
          go_wp2_with fail
          have HT := Lib.hid (HM1.out.upd0 ((Upd.refl (fun _ => False) _).drew))
          obtain ⟨MM, hMM⟩ : ∃ MM, leastL (GS.ms s) = MM := ⟨_, rfl⟩
          have HMM := Lib.hid hMM
          have HNG := Lib.hid (blocked_out HM1.out.rf.ln)
          have HST := Lib.hid HT.out.rf.cells.2.2.1
          clear hMM
          go_region_held3 (fun w' => w'.cell? ⟨R.r, 2, none⟩ = some (.slice (some ⟨R.m, 0, none⟩) n n))
            (first | exact HST.out)
            (first | (go_at_call 43; refine (c43 HT.out.gt).mono ?_; rw [HMM.out]; rintro x w1 ⟨rfl, rfl⟩) | (go_at_call 25; refine (c25n _ n n (GS.ms s) _ (IntsRd.ofRow HT.out.rf.hm) HT.out.rf.ln.ms (by omega)).mono ?_; rw [HMM.out]; rintro x w1 ⟨rfl, rfl⟩) | (go_at_call 48; refine (c48 HT.out.gt _).mono ?_; (first | rw [HNG.out.1] | rw [HNG.out.2.1]); rintro x w1 ⟨rfl, rfl⟩) | (go_at_call 49; refine (c49 HT.out.gt _).mono ?_; (first | rw [HNG.out.2.2.1] | rw [HNG.out.2.2.2]); rintro x w1 ⟨rfl, rfl⟩))
          go_wp2_with fail
          go_loopw [18] (fun ti wr => ∃ i : Nat, i ≤ n ∧ ti = .int .i64 i ∧ DoMid w wr C w0.heap.size E L R room n vs s) (fun ti _ => n - (intOf ti).toNat)
          case atStart => exact ⟨0, by omega, rfl, HT.out⟩
          case round =>
            obtain ⟨i, hi, rfl, hMX⟩ := hrel
            have HMX := Lib.hid hMX
            clear hMX HT HST HNG
            by_cases hin : i < n
            · have i0 : (0 : Int) ≤ i := by omega
              have i1 : (i : Int) < n := by omega
              obtain ⟨rA, rcap, _, hcl⟩ := HMX.out.rf.cellL hin
              have HMY := Lib.hid (HMX.out.upd0 ((Upd.refl (fun _ => False) _).drew))
              have HBI := Lib.hid (blocked_in HMX.out.rf.ln hin)
              obtain ⟨bi, hbi⟩ : ∃ bi, GS.blk s i = bi := ⟨_, rfl⟩
              obtain ⟨li, hli⟩ : ∃ li, (GS.pipe s i).length = li := ⟨_, rfl⟩
              have hbi2 := (blocked_in HMX.out.rf.ln hin).1.trans hbi
              have hli2 := (blocked_in HMX.out.rf.ln hin).2.trans (congrArg Nat.cast hli)
              have HBI := Lib.hid hbi2
              have HLI := Lib.hid hli2
              have hcb := HMX.out.rf.cellB hin
              rw [hbi] at hcb
              rw [hli] at hcl
              have HSX : Hid (_ ∧ _ ∧ _ ∧ _) := Lib.hid ⟨HMY.out.rf.cells.2.1, HMY.out.rf.cells.2.2.2.1, (show (World.drew _).cell? ⟨R.k, i, none⟩ = _ from hcb), (show (World.drew _).cell? ⟨R.b, i, none⟩ = _ from hcl)⟩
              clear hbi hli hbi2 hli2 hcb hcl
              go_wp2_with fail
              go_region_held3 (fun w' => w'.cell? ⟨R.r, 1, none⟩ = some (.slice (some ⟨R.b, 0, none⟩) n n) ∧ w'.cell? ⟨R.r, 3, none⟩ = some (.slice (some ⟨R.k, 0, none⟩) n n) ∧ w'.cell? ⟨R.k, i, none⟩ = some (.int .i64 bi) ∧ w'.cell? ⟨R.b, i, none⟩ = some (.slice rA li rcap))
                (first | exact HSX.out)
                (first | (go_at_call 48; refine (c48 HMY.out.gt i).mono ?_; rw [HBI.out]; rintro x w1 ⟨rfl, rfl⟩) | (go_at_call 49; refine (c49 HMY.out.gt i).mono ?_; rw [HLI.out]; rintro x w1 ⟨rfl, rfl⟩))
              go_wp2_with fail
              go_roundw
              case rel => exact ⟨i + 1, by omega, by go_num, HMY.out⟩
              case measure => simp [intOf]; omega
            · obtain rfl : n = i := by omega
              go_wp2_with fail
              first
                | (go_roundw
                   case rel => exact ⟨k + 1, _, _, _, by omega, by go_num, HMX.out⟩
                   case measure => simp [intOf]; omega)
                | exact ⟨⟨k + 1, _, _, _, by omega, by go_num, HMX.out⟩, by simp [intOf]; omega⟩
    · obtain rfl : N = k := by omega
      go_wp2_with fail
      refine (c40 _).mono ?_
      rintro x w2 ⟨rfl, hU2⟩
      go_wp2_with fail
      go_ret
      exact ⟨rfl, HM.out.ud.trans hU2⟩

/-- GateDoes, as a call. -/
theorem c13 (n room : Int) (A : Option Addr) (cap : Nat) (os : List (Int × Int × El)) (w : World) (hR : Ops14Rd w A os) :
    Calls Try.prog 13 #[.int .i64 n, .int .i64 room, .slice A os.length cap] w fun x w' => x = .returned (.bool true) ∧ Upd (fun _ => False) w w' := by
  by_cases h : 600 < os.length
  · exact c13_far n room A _ cap w h
  · cases hf : fitsB n room with
    | false => exact c13_bad n room A _ cap w (by omega) hf
    | true =>
      simp [fitsB] at hf
      obtain ⟨a, rfl⟩ := Int.eq_ofNat_of_zero_le (show 0 ≤ n by omega)
      obtain ⟨b, rfl⟩ := Int.eq_ofNat_of_zero_le (show 0 ≤ room by omega)
      exact c13_run a b A cap os w hR (by omega) (by omega) (by omega) (by omega) (by omega)
end Go.Proofs.Ytijkcahdegohiaa
