/-
  The law GateMarks, as a call.
-/
import Derived.Test.YtijkcahdegohiaaPlainM
import Derived.Test.YtijkcahdegohiaaLawGl
namespace Go.Proofs.Ytijkcahdegohiaa
open Go.RowKit
attribute [local go_sem ↓] Go.wp_at_zero Go.wp_at_succ

set_option maxRecDepth 100000 in
set_option maxHeartbeats 1600000 in
theorem c12_far (n : Int) (A A2 : Option Addr) (N cap N2 cap2 : Nat) (w : World) (h : n < 1 ∨ 8 < n ∨ (N : Int) ≠ n) :
    Calls Try.prog 12 #[.int .i64 n, .slice A N cap, .slice A2 N2 cap2] w fun x w' => x = .returned (.bool true) ∧ Upd (fun _ => False) w w' := by
  by_cases h1 : n < 1
  · clear h
    go_enter Try.func12, Try.ntmps12
    go_wp2_with fail
    go_ret
    exact ⟨rfl, Upd.refl _ _⟩
  · by_cases h8 : 8 < n
    · clear h
      go_enter Try.func12, Try.ntmps12
      go_wp2_with fail
      go_ret
      exact ⟨rfl, Upd.refl _ _⟩
    · have hN : ¬ (N : Int) = n := by omega
      have hNb : ((N : Int) != n) = true := by simp [hN]
      clear h
      go_enter Try.func12, Try.ntmps12
      go_wp2_with fail
      go_ret
      exact ⟨rfl, Upd.refl _ _⟩

/-- What holds at each round's head: marks alone stand in the gate; nothing yet in the inputs from i on. -/
structure MkA (w wr : World) (C : Nat) (L : Loc) (n i : Nat) (s : GS) : Prop where
  gt : GateIn wr w.heap.size C w.heap.size L 64 n s
  ph : PhM n s
  ud : Upd (fun _ => False) w wr
  ms : s.ms = List.replicate n 0
  nil : ∀ j, i ≤ j → restQ s j = 0 ∧ topAt s j = 0

theorem gNext_lens {n : Nat} {s : GS} (hl : Lens s n) (pick : Int) : Lens (gNext s pick).2 n := by
  unfold gNext
  split
  · exact hl
  · unfold taken
    split
    · exact ⟨by simpa [GS.setPipe, GS.setMs] using hl.ls, by show (raiseL _ _ _).length = n; rw [raiseL_length]; exact hl.ms, hl.bs, hl.ts⟩
    · split
      · unfold barR
        split
        · exact ⟨by simpa [GS.setPipe] using hl.ls, hl.ms, hl.bs, hl.ts⟩
        · split
          · exact ⟨by simpa [GS.setPipe, GS.setBs] using hl.ls, hl.ms, by simpa [GS.setPipe, GS.setBs] using hl.bs, hl.ts⟩
          · exact ⟨by simpa [GS.setPipe, GS.setBs] using hl.ls, hl.ms, by simpa [GS.setPipe, GS.setBs] using hl.bs, hl.ts⟩
      · exact ⟨by simpa [GS.setPipe] using hl.ls, hl.ms, hl.bs, hl.ts⟩
/-- What holds at the head of the loop that takes: N - k are left. -/
structure MkB (w wr : World) (C : Nat) (L : Loc) (n N k : Nat) (LT : Int) (s : GS) : Prop where
  gt : GateIn wr w.heap.size C w.heap.size L 64 n s
  ph : PhM n s
  ud : Upd (fun _ => False) w wr
  rest : sumQ (restQ s) n + k = N
  tops : leastL (tops (topAt s) n) = LT

set_option maxRecDepth 100000 in
set_option maxHeartbeats 12800000 in
theorem c12_run (n : Nat) (A A2 : Option Addr) (cap cap2 : Nat) (zss : List (List Int)) (ps : List Int) (w : World) (hR : RowsRd w A zss) (hP : PicksRd w A2 ps) (h1 : 1 ≤ n) (h8 : n ≤ 8) (hz : zss.length = n) :
    Calls Try.prog 12 #[.int .i64 n, .slice A n cap, .slice A2 ps.length cap2] w fun x w' => x = .returned (.bool true) ∧ Upd (fun _ => False) w w' := by
  have HRD := Lib.hid hR
  have HPK := Lib.hid hP
  have HN := Lib.hid hz
  have g0 : ¬ (n : Int) < 1 := by omega
  have g1 : ¬ (8 : Int) < n := by omega
  clear hR hP hz
  go_enter Try.func12, Try.ntmps12
  go_wp2_with fail
  refine (c35 n 64 _ h1 h8 (by omega) (by omega)).mono ?_
  rintro x w0 ⟨rfl, ⟨C, L, hG⟩, hU⟩
  have H0 : Hid (MkA w w0 C L n 0 (GS.start n)) := Lib.hid ⟨hG, PhM.start n, hU, rfl, fun j _ => ⟨by unfold restQ; rw [start_pipe]; rfl, start_top n j⟩⟩
  clear hG hU
  go_wp2_with fail
  go_loopw [9, 10, 11] (fun tn tl ti wr => ∃ (i : Nat) (s : GS), i ≤ n ∧ ti = .int .i64 i ∧ tn = .int .i64 (sumQ (restQ s) n) ∧ tl = .int .i64 (leastL (tops (topAt s) i)) ∧ sumQ (restQ s) n ≤ 60 * i ∧ MkA w wr C L n i s) (fun _ _ ti _ => n - (intOf ti).toNat)
  case atStart => exact ⟨0, _, by omega, rfl, by rw [start_rest]; rfl, rfl, by rw [start_rest]; omega, H0.out⟩
  case round =>
    obtain ⟨i, s, hi, rfl, rfl, rfl, hsum, hA⟩ := hrel
    have HA := Lib.hid hA
    clear hA H0
    by_cases hlt : i < n
    · obtain ⟨zs, hz⟩ : ∃ zs, zss[i]? = some zs := ⟨_, List.getElem?_eq_getElem (by rw [HN.out]; exact hlt)⟩
      obtain ⟨rb, off, hRA, hrc⟩ := HRD.out
      obtain ⟨rA, rcap, hrcell, hints⟩ := hrc i zs hz
      have hrbl := World.block_lt_of_cell? w _ hrcell
      obtain rfl := hRA (by intro e; rw [e] at hz; simp at hz)
      have HZR := Lib.hid hints
      have HRC := Lib.hid hrcell
      have bi0 : (0 : Int) ≤ i := by omega
      have bi1 : (i : Int) < n := by omega
      obtain ⟨LT, hLT⟩ : ∃ LT, leastL (tops (topAt s) i) = LT := ⟨_, rfl⟩
      have HLT := Lib.hid hLT
      rw [hLT]
      clear hrc hRA hz hints hrcell hLT
      go_wp2_with fail
      go_loopw [9, 12, 13] (fun tn tt tk wr => ∃ (k : Nat) (s : GS), k ≤ 60 ∧ tk = .int .i64 k ∧ tn = .int .i64 (sumQ (restQ s) n) ∧ tt = .int .i64 (topAt s i) ∧ sumQ (restQ s) n ≤ 60 * i + k ∧ restQ s i ≤ k ∧ MkA w wr C L n (i + 1) s ∧ leastL (tops (topAt s) i) = LT) (fun _ _ tk _ => 60 - (intOf tk).toNat)
      case atStart =>
        have hnil := HA.out.nil i (Nat.le_refl _)
        exact ⟨0, s, by omega, rfl, rfl, by rw [hnil.2], by omega, by rw [hnil.1]; omega, ⟨HA.out.gt, HA.out.ph, HA.out.ud, HA.out.ms, fun j hj => HA.out.nil j (by omega)⟩, HLT.out⟩
      case round =>
        obtain ⟨k, s1, hk, rfl, rfl, rfl, hsum1, hrest, hA, hL⟩ := hrel
        have HA1 := Lib.hid hA
        have HL1 := Lib.hid hL
        have hrc := (World.cell?_of_block (w := w) (hA.ud.block rb hrbl (fun h => h))).trans HRC.out
        clear hA hL HA
        have hr' : restQ s1 i = (s1.pipe i).length := rfl
        have ki0 : (0 : Int) ≤ k := by omega
        by_cases hkl : k < zs.length ∧ k < 60
        · have hk1 : (k : Int) < zs.length := by omega
          have hk2 : (k : Int) < 60 := by omega
          obtain ⟨z, hz⟩ : ∃ z, zs[k]? = some z := ⟨_, List.getElem?_eq_getElem hkl.1⟩
          obtain ⟨zb, zoff, hZA, hZc⟩ := HZR.out
          obtain rfl := hZA (by intro e; rw [e] at hz; simp at hz)
          have hzc := hZc k z hz
          have hzl := World.block_lt_of_cell? w _ hzc
          have HZC := Lib.hid hzc
          have hzc1 := (World.cell?_of_block (w := w) (HA1.out.ud.block zb hzl (fun h => h))).trans hzc
          clear hz hZc hZA hzc
          go_wp2_with fail
          refine (c36 HA1.out.gt i (mE z)).mono ?_
          by_cases hz0 : 0 ≤ z ∧ z ≤ 1000000001
          · obtain ⟨hpc, hph, hsq, hms, hri, hrj, hti, htj⟩ := HA1.out.ph.push HA1.out.gt.lens hlt (by omega) hz0
            rw [hpc]
            rintro x u2 ⟨rfl, hG, hU⟩
            obtain ⟨s2, hs2⟩ : ∃ s2, pushS 64 s1 i (mE z) = s2 := ⟨_, rfl⟩
            rw [hs2] at hph hsq hms hri hrj hti htj hG
            have HM2 : Hid (MkA w u2 C L n (i + 1) s2) := Lib.hid ⟨hG, hph, HA1.out.ud.gate (Nat.le_refl _) hU, hms.trans HA1.out.ms, fun j hj => by rw [hrj j (by omega), htj j (by omega)]; exact HA1.out.nil j hj⟩
            have HL2 : Hid (leastL (tops (topAt s2) i) = LT) := Lib.hid (by rw [tops_congr (T' := topAt s1) (fun j hj => htj j (by omega))]; exact HL1.out)
            have hrc2 := (World.cell?_of_block (w := w) (HM2.out.ud.block rb hrbl (fun h => h))).trans HRC.out
            have hzc2 := (World.cell?_of_block (w := w) (HM2.out.ud.block zb hzl (fun h => h))).trans HZC.out
            have HSQ := Lib.hid hsq
            have HTI := Lib.hid hti
            have HRI := Lib.hid hri
            clear hpc hph hsq hms hri hrj hti htj hG hU hs2 hrc hzc1
            go_wp2_with fail
            exact ⟨⟨k + 1, s2, by omega, by go_num, by rw [HSQ.out]; go_num, by rw [HTI.out], by rw [HSQ.out]; omega, by rw [HRI.out]; omega, HM2.out, HL2.out⟩, by simp [intOf]; omega⟩
          · obtain ⟨hpc, hps⟩ := PhM.refuse (i := i) (s := s1) hz0
            rw [hpc, hps]
            rintro x u2 ⟨rfl, hG, hU⟩
            have HM2 : Hid (MkA w u2 C L n (i + 1) s1) := Lib.hid ⟨hG, HA1.out.ph, HA1.out.ud.gate (Nat.le_refl _) hU, HA1.out.ms, HA1.out.nil⟩
            have hrc2 := (World.cell?_of_block (w := w) (HM2.out.ud.block rb hrbl (fun h => h))).trans HRC.out
            have hzc2 := (World.cell?_of_block (w := w) (HM2.out.ud.block zb hzl (fun h => h))).trans HZC.out
            clear hpc hps hG hU hrc hzc1
            by_cases hzn : 0 ≤ z
            · have hzb : ¬ z ≤ 1000000001 := fun h => hz0 ⟨hzn, h⟩
              clear hz0
              go_wp2_with fail
              exact ⟨⟨k + 1, s1, by omega, by go_num, rfl, rfl, by omega, by omega, HM2.out, HL1.out⟩, by simp [intOf]; omega⟩
            · clear hz0
              go_wp2_with fail
              exact ⟨⟨k + 1, s1, by omega, by go_num, rfl, rfl, by omega, by omega, HM2.out, HL1.out⟩, by simp [intOf]; omega⟩
        · have hkl' : ¬ (k : Int) < zs.length ∨ (k : Int) < zs.length ∧ ¬ (k : Int) < 60 := by omega
          clear hkl
          rcases hkl' with hkl | ⟨hk1, hkl⟩
          · go_wp2_with fail
            exact ⟨⟨i + 1, s1, by omega, by go_num, rfl, by rw [tops_succ, leastL_snoc, HL1.out], by omega, HA1.out⟩, by simp [intOf]; omega⟩
          · go_wp2_with fail
            exact ⟨⟨i + 1, s1, by omega, by go_num, rfl, by rw [tops_succ, leastL_snoc, HL1.out], by omega, HA1.out⟩, by simp [intOf]; omega⟩
    · obtain rfl : n = i := by omega
      obtain ⟨LT, hLT⟩ : ∃ LT, leastL (tops (topAt s) n) = LT := ⟨_, rfl⟩
      obtain ⟨N, hNN⟩ : ∃ N, sumQ (restQ s) n = N := ⟨_, rfl⟩
      have HB0 : Hid (MkB w wr C L n N 0 LT s) := Lib.hid ⟨HA.out.gt, HA.out.ph, HA.out.ud, by omega, hLT⟩
      have hms0 : leastL s.ms = 0 := by rw [HA.out.ms]; exact least_zeros n h1
      rw [hNN] at hsum
      rw [hLT, hNN]
      have HMS := Lib.hid hms0
      clear hNN hLT HA hms0
      go_wp2_with fail
      go_loopw [15, 16] (fun tw tk wr => ∃ (k : Nat) (s2 : GS), k ≤ N ∧ tk = .int .i64 k ∧ tw = .int .i64 (leastL s2.ms) ∧ MkB w wr C L n N k LT s2) (fun _ tk _ => N - (intOf tk).toNat)
      case atStart => exact ⟨0, s, by omega, rfl, by rw [HMS.out], HB0.out⟩
      case round =>
        obtain ⟨k, s2, hk, rfl, rfl, hB⟩ := hrel
        have HB := Lib.hid hB
        clear hB HB0
        have xi0 : (0 : Int) ≤ k := by omega
        by_cases hkN : k < N
        · have hkN' : (k : Int) < N := by omega
          obtain ⟨pk, hpk⟩ : ∃ pk, ps.getD k 0 = pk := ⟨_, rfl⟩
          have HPKE := Lib.hid hpk
          have hpr : -9223372036854775808 ≤ pk ∧ pk ≤ 9223372036854775807 := by
            by_cases h : k < ps.length
            · refine HPK.out.2 pk ?_
              rw [← hpk]
              simp [List.getElem?_eq_getElem h]
            · rw [← hpk]; simp [List.getElem?_eq_none (show ps.length ≤ k by omega)]
          clear hpk
          go_upto_if 118 with fail
          go_cut [17] (fun s17 wx => s17 = .int .i64 pk ∧ wx = wr)
          case first =>
            by_cases hil : k < ps.length
            · obtain ⟨pb, poff, hPA, hPc⟩ := HPK.out.1
              have hpz : ps[k]? = some pk := by
                have := HPKE.out
                rw [List.getD_eq_getElem?_getD, List.getElem?_eq_getElem hil] at this
                rw [List.getElem?_eq_getElem hil, ← this]; rfl
              obtain rfl := hPA (by intro e; rw [e] at hpz; simp at hpz)
              have hpc := hPc k pk hpz
              have hpl := World.block_lt_of_cell? w _ hpc
              replace hpc := (World.cell?_of_block (w := w) (HB.out.ud.block pb hpl (fun h => h))).trans hpc
              have hil' : (k : Int) < ps.length := by omega
              have hd : decide ((k : Int) < ps.length) = true := decide_eq_true hil'
              try rw [hd]
              clear hPc hPA hpz
              go_wp2_with fail
              go_meet
              exact ⟨rfl, rfl⟩
            · have hil' : ¬ (k : Int) < ps.length := by omega
              have hp0 : pk = 0 := by rw [← HPKE.out]; simp [List.getElem?_eq_none (show ps.length ≤ k by omega)]
              have hd : decide ((k : Int) < ps.length) = false := decide_eq_false hil'
              try rw [hd]
              go_wp2_with fail
              go_meet
              exact ⟨by rw [hp0], rfl⟩
          case rest =>
            obtain ⟨rfl, rfl⟩ := hcut
            go_wp2_with fail
            refine (c39 HB.out.gt pk hpr.1 hpr.2).mono ?_
            obtain ⟨hn1, hph, hsq, hls, htp, hel⟩ := HB.out.ph.next HB.out.gt.lens pk (by have := HB.out.rest; omega)
            have hlen3 := gNext_lens HB.out.gt.lens pk
            obtain ⟨⟨⟨x, ix, ok⟩, s3⟩, hR⟩ : ∃ R, gNext s2 pk = R := ⟨_, rfl⟩
            rw [hR] at hlen3 hn1 hph hsq hls htp hel ⊢
            dsimp only at hlen3 hn1 hph hsq hls htp hel ⊢
            subst hn1
            have HLEN : Hid (Lens s3 n) := Lib.hid hlen3
            have HTL : Hid (leastL (tops (topAt s3) n) = LT) := Lib.hid (by rw [tops_congr htp]; exact HB.out.tops)
            have HPH := Lib.hid hph
            have HSQ := Lib.hid hsq
            obtain ⟨c3, hc3⟩ : ∃ c3, leastL s3.ms = c3 := ⟨_, rfl⟩
            obtain ⟨c2, hc2⟩ : ∃ c2, leastL s2.ms = c2 := ⟨_, rfl⟩
            rw [hc3, hc2] at hls hel
            rw [hc2]
            have HC3 := Lib.hid hc3
            have q1 : decide (c3 < c2) = false := decide_eq_false (by omega)
            have q2 : c3 ≤ LT := by rw [← hc3, ← HTL.out]; exact least_le_tops HLEN.out
            have q3 : decide (LT < c3) = false := decide_eq_false (by omega)
            clear hph hsq htp hR hc3 hc2 q2
            by_cases hro : c2 < c3
            · have q4 : decide (c2 < c3) = true := decide_eq_true hro
              rw [if_pos hro] at hel
              subst hel
              rintro _ w3 ⟨rfl, hG, hU⟩
              have HG3 := Lib.hid (hG.upd0 (((Upd.refl (fun _ => False) _).alloc (El.obj (mE c3))).drew))
              have HV3 := Lib.hid (((HB.out.ud.gate (Nat.le_refl _) hU).alloc (El.obj (mE c3))).drew)
              have HX3 := Lib.hid (show (w3.alloc (El.obj (mE c3))).drew.heap[w3.heap.size]? = _ from El.box w3 (mE c3))
              have HN3 : Hid (MkB w (w3.alloc (El.obj (mE c3))).drew C L n N (k + 1) LT s3) := Lib.hid ⟨HG3.out, HPH.out, HV3.out, by have := HSQ.out; have := HB.out.rest; omega, HTL.out⟩
              clear hG hU
              go_wp2_with fail
              go_region_held3 (fun w' => w'.cell? ⟨w3.heap.size, 0, none⟩ = some (.int .i64 2))
                (first | exact (El.box_cells HX3.out).1)
                (first | (go_at_call 43; refine (c43 HG3.out).mono ?_; rw [HC3.out]; rintro x w1 ⟨rfl, rfl⟩))
              go_wp2_with (go_at_call 43; refine (c43 HG3.out).mono ?_; rw [HC3.out]; rintro x w1 ⟨rfl, rfl⟩)
              exact ⟨⟨k + 1, s3, by omega, by go_num, by rw [HC3.out], HN3.out⟩, by simp [intOf]; omega⟩
            · have q4 : decide (c2 < c3) = false := decide_eq_false hro
              rw [if_neg hro] at hel
              subst hel
              rintro _ w3 ⟨rfl, hG, hU⟩
              have HG3 := Lib.hid (hG.upd0 (((Upd.refl (fun _ => False) _).alloc (El.obj El.zero)).drew))
              have HV3 := Lib.hid (((HB.out.ud.gate (Nat.le_refl _) hU).alloc (El.obj El.zero)).drew)
              have HX3 := Lib.hid (show (w3.alloc (El.obj El.zero)).drew.heap[w3.heap.size]? = _ from El.box w3 El.zero)
              have HN3 : Hid (MkB w (w3.alloc (El.obj El.zero)).drew C L n N (k + 1) LT s3) := Lib.hid ⟨HG3.out, HPH.out, HV3.out, by have := HSQ.out; have := HB.out.rest; omega, HTL.out⟩
              clear hG hU
              go_wp2_with fail
              go_region_held3 (fun w' => w'.cell? ⟨w3.heap.size, 0, none⟩ = some (.int .i64 0))
                (first | exact (El.box_cells HX3.out).1)
                (first | (go_at_call 43; refine (c43 HG3.out).mono ?_; rw [HC3.out]; rintro x w1 ⟨rfl, rfl⟩))
              go_wp2_with (go_at_call 43; refine (c43 HG3.out).mono ?_; rw [HC3.out]; rintro x w1 ⟨rfl, rfl⟩)
              exact ⟨⟨k + 1, s3, by omega, by go_num, by rw [HC3.out], HN3.out⟩, by simp [intOf]; omega⟩
        · obtain rfl : N = k := by omega
          obtain ⟨hlt, hnn⟩ := least_tops HB.out.gt.lens (show sumQ (restQ s2) n = 0 by have := HB.out.rest; omega)
          rw [HB.out.tops] at hlt
          have HLE := Lib.hid hlt
          have hn0 := hnn 0
          clear hlt hnn
          go_wp2_with fail
          refine (c39 HB.out.gt 0 (by omega) (by omega)).mono ?_
          rw [hn0]
          rintro _ w3 ⟨rfl, hG, hU⟩
          have HG3 := Lib.hid (hG.upd0 ((Upd.refl (fun _ => False) _).alloc El.zero.obj))
          have HV3 := Lib.hid ((HB.out.ud.gate (Nat.le_refl _) hU).alloc El.zero.obj)
          clear hG hU hn0
          go_wp2_with fail
          refine (c40 _).mono ?_
          rintro x w4 ⟨rfl, hU4⟩
          have HG4 := Lib.hid (HG3.out.upd0 hU4)
          have HV4 := Lib.hid (HV3.out.trans hU4)
          clear hU4
          go_wp2_with (go_at_call 43; refine (c43 HG4.out).mono ?_; rw [HLE.out]; rintro x w1 ⟨rfl, rfl⟩)
          go_ret
          exact ⟨rfl, HV4.out⟩

theorem c12 (n : Int) (A A2 : Option Addr) (cap cap2 : Nat) (zss : List (List Int)) (ps : List Int) (w : World) (hR : RowsRd w A zss) (hP : PicksRd w A2 ps) :
    Calls Try.prog 12 #[.int .i64 n, .slice A zss.length cap, .slice A2 ps.length cap2] w fun x w' => x = .returned (.bool true) ∧ Upd (fun _ => False) w w' := by
  by_cases h : n < 1 ∨ 8 < n ∨ (zss.length : Int) ≠ n
  · exact c12_far n A A2 _ cap _ cap2 w h
  · obtain ⟨k, rfl⟩ := Int.eq_ofNat_of_zero_le (show 0 ≤ n by omega)
    have hz : zss.length = k := by omega
    rw [hz]
    exact c12_run k A A2 cap cap2 zss ps w hR hP (by omega) (by omega) hz
end Go.Proofs.Ytijkcahdegohiaa
