/-
  The law GateAll, as a call.
-/
import Derived.Test.YtijkcahdegohiaaPlainA
import Derived.Test.YtijkcahdegohiaaRegA
import Derived.Test.YtijkcahdegohiaaMarkC
namespace Go.Proofs.Ytijkcahdegohiaa
open Go.RowKit
attribute [local go_sem ↓] Go.wp_at_zero Go.wp_at_succ

/-- Numbers as they are read, each of 64 bits. -/
def PicksRd (w : World) (A : Option Addr) (zs : List Int) : Prop := IntsRd w A zs ∧ ∀ z ∈ zs, -9223372036854775808 ≤ z ∧ z ≤ 9223372036854775807
/-- Rows of numbers, as they are read. -/
def RowsRd (w : World) (A : Option Addr) (zss : List (List Int)) : Prop :=
  ∃ b off, (zss ≠ [] → A = some ⟨b, off, none⟩) ∧ ∀ i zs, zss[i]? = some zs → ∃ A' cap, w.cell? ⟨b, off + i, none⟩ = some (.slice A' zs.length cap) ∧ IntsRd w A' zs
theorem RowsRd.upd0 {w w' : World} {A : Option Addr} {zss : List (List Int)} (h : RowsRd w A zss) (hU : Upd (fun _ => False) w w') : RowsRd w' A zss := by
  obtain ⟨b, off, hA, hc⟩ := h
  refine ⟨b, off, hA, fun i zs hi => ?_⟩
  obtain ⟨A', cap, h1, h2⟩ := hc i zs hi
  exact ⟨A', cap, (World.cell?_of_block (w := w) (hU.block b (World.block_lt_of_cell? w _ h1) (fun h => h))).trans h1, h2.upd0 hU⟩
/-- What a row gives to an input. -/
def krow (zs : List Int) (i : Nat) : Nat := if 0 < zs.getD i 0 then (zs.getD i 0 % 20).toNat else 0
theorem sumQ_snoc (q : Nat → Nat) (i x : Nat) : sumQ (putF q i x) (i + 1) = sumQ q i + x := by
  rw [sumQ, putF_eq, sumQ_congr (g := q) (fun j hj => putF_ne q x (by omega))]
theorem krow_lt (zs : List Int) (i : Nat) : krow zs i < 20 := by unfold krow; split <;> omega

set_option maxRecDepth 100000 in
set_option maxHeartbeats 1600000 in
theorem c10_far (n : Int) (A A2 : Option Addr) (N cap N2 cap2 : Nat) (w : World) (h : n < 1 ∨ 8 < n ∨ 30 < N) :
    Calls Try.prog 10 #[.int .i64 n, .slice A N cap, .slice A2 N2 cap2] w fun x w' => x = .returned (.bool true) ∧ Upd (fun _ => False) w w' := by
  by_cases h1 : n < 1
  · clear h
    go_enter Try.func10, Try.ntmps10
    go_wp2_with fail
    go_ret
    exact ⟨rfl, Upd.refl _ _⟩
  · by_cases h8 : 8 < n
    · clear h
      go_enter Try.func10, Try.ntmps10
      go_wp2_with fail
      go_ret
      exact ⟨rfl, Upd.refl _ _⟩
    · have hN : (30 : Int) < N := by omega
      clear h
      go_enter Try.func10, Try.ntmps10
      go_wp2_with fail
      go_ret
      exact ⟨rfl, Upd.refl _ _⟩

structure AllA (w wr : World) (B C g : Nat) (L : Loc) (n b i m : Nat) (q : Nat → Nat) (s : GS) : Prop where
  gt : GateIn wr B C g L 64 n s
  ph : PhA n b i m q s
  ud : Upd (fun _ => False) w wr
structure AllB (w wr : World) (B C g : Nat) (L : Loc) (n b : Nat) (d : Nat → Bool) (q : Nat → Nat) (s : GS) : Prop where
  gt : GateIn wr B C g L 64 n s
  ph : PhB n b d q s
  ud : Upd (fun _ => False) w wr

/-- What holds at the head of the loop that takes. -/
def AllC (w wr : World) (C : Nat) (L : Loc) (n b idx many : Nat) (dn : Bool) : Prop :=
  (dn = false → ∃ d q s, AllB w wr w.heap.size C w.heap.size L n b d q s ∧ many = sumQ q n ∧ idx + sumQ (leftM d q) n ≤ 160 * (b + 1)) ∧
  (dn = true → many = 0 ∧ ∃ q s, AllA w wr w.heap.size C w.heap.size L n (b + 1) 0 0 q s ∧ idx ≤ 160 * (b + 1))
set_option maxRecDepth 100000 in
set_option maxHeartbeats 12800000 in
theorem c10_run (n : Nat) (A A2 : Option Addr) (cap cap2 : Nat) (zss : List (List Int)) (ps : List Int) (w : World) (hR : RowsRd w A zss) (hP : PicksRd w A2 ps) (h1 : 1 ≤ n) (h8 : n ≤ 8) (h30 : zss.length ≤ 30) :
    Calls Try.prog 10 #[.int .i64 n, .slice A zss.length cap, .slice A2 ps.length cap2] w fun x w' => x = .returned (.bool true) ∧ Upd (fun _ => False) w w' := by
  have HRD := Lib.hid hR
  have HPK := Lib.hid hP
  generalize hN : zss.length = N at *
  have HN := Lib.hid hN
  have g0 : ¬ (n : Int) < 1 := by omega
  have g1 : ¬ (8 : Int) < n := by omega
  have g2 : ¬ (30 : Int) < N := by omega
  clear hR hP hN
  go_enter Try.func10, Try.ntmps10
  go_wp2_with fail
  refine (c35 n 64 _ h1 h8 (by omega) (by omega)).mono ?_
  rintro x w0 ⟨rfl, ⟨C, L, hG⟩, hU⟩
  have H0 : Hid (AllA w w0 w.heap.size C w.heap.size L n 0 0 0 (fun _ => 0) (GS.start n)) := Lib.hid ⟨hG, PhA.start n _, hU⟩
  clear hG hU
  go_wp2_with fail
  go_loopw [9, 10] (fun tn tb wr => ∃ (idx b : Nat) (q : Nat → Nat) (s : GS), b ≤ N ∧ tb = .int .i64 b ∧ tn = .int .i64 idx ∧ idx ≤ 160 * b ∧ AllA w wr w.heap.size C w.heap.size L n b 0 0 q s) (fun _ tb _ => N - (intOf tb).toNat)
  case atStart => exact ⟨0, 0, _, _, by omega, rfl, rfl, by omega, H0.out⟩
  case round =>
    obtain ⟨idx, b, q0, s0, hb, rfl, rfl, hidx, hA⟩ := hrel
    have HA := Lib.hid hA
    clear hA H0
    by_cases hlt : b < N
    · obtain ⟨zs, hz⟩ : ∃ zs, zss[b]? = some zs := ⟨_, List.getElem?_eq_getElem (by rw [HN.out]; exact hlt)⟩
      obtain ⟨rb, off, hRA, hrc⟩ := HRD.out
      obtain ⟨rA, rcap, hrcell, hints⟩ := hrc b zs hz
      have hrbl := World.block_lt_of_cell? w _ hrcell
      obtain rfl := hRA (by intro e; rw [e] at hz; simp at hz)
      have HZR := Lib.hid hints
      have HRC := Lib.hid hrcell
      have bi0 : (0 : Int) ≤ b := by omega
      have bi1 : (b : Int) < N := by omega
      clear hrc hRA hz hints hrcell
      go_wp2_with fail
      go_loopw [11, 12] (fun tm ti wr => ∃ (i : Nat) (q : Nat → Nat) (s : GS), i ≤ n ∧ ti = .int .i64 i ∧ tm = .int .i64 (sumQ q i) ∧ Hid (∀ j, j < i → q j ≤ 19) ∧ AllA w wr w.heap.size C w.heap.size L n b i 0 q s) (fun _ ti _ => n - (intOf ti).toNat)
      case atStart => exact ⟨0, q0, s0, by omega, rfl, rfl, Lib.hid (fun j hj => by omega), HA.out⟩
      case round =>
        obtain ⟨i, q, s, hi, rfl, rfl, HQ, hA⟩ := hrel
        have HA1 := Lib.hid hA
        clear hA HA
        have hsum := sumQ_le HQ.out
        by_cases hin : i < n
        · have ii0 : (0 : Int) ≤ i := by omega
          have ii1 : (i : Int) < n := by omega
          go_upto_region 15 with fail
          have hrc := (World.cell?_of_block (w := w) (HA1.out.ud.block rb hrbl (fun h => h))).trans HRC.out
          go_cut [69] (fun s69 wx => s69 = .bool (decide (0 < zs.getD i 0)) ∧ wx = wr)
          case first =>
            by_cases hil : i < zs.length
            · obtain ⟨z, hz⟩ : ∃ z, zs[i]? = some z := ⟨_, List.getElem?_eq_getElem hil⟩
              obtain ⟨zb, zoff, hZA, hZc⟩ := HZR.out
              obtain rfl := hZA (by intro e; rw [e] at hz; simp at hz)
              have hzc := hZc i z hz
              have hzl := World.block_lt_of_cell? w _ hzc
              replace hzc := (World.cell?_of_block (w := w) (HA1.out.ud.block zb hzl (fun h => h))).trans hzc
              have hil' : (i : Int) < zs.length := by omega
              have hzd : zs.getD i 0 = z := by simp [hz]
              have HZD := Lib.hid hzd
              clear hz hZc hZA hzd
              by_cases hz0 : 0 < z
              · go_wp2_with fail
                go_meet
                exact ⟨by rw [HZD.out]; simp [hz0], rfl⟩
              · go_wp2_with fail
                go_meet
                exact ⟨by rw [HZD.out]; simp [hz0], rfl⟩
            · have hil' : ¬ (i : Int) < zs.length := by omega
              have hzd : zs.getD i 0 = 0 := by simp [List.getElem?_eq_none (show zs.length ≤ i by omega)]
              have HZD := Lib.hid hzd
              clear hzd
              go_wp2_with fail
              go_meet
              exact ⟨by rw [HZD.out]; rfl, rfl⟩
          case rest =>
            obtain ⟨rfl, rfl⟩ := hcut
            obtain ⟨kk, hkk⟩ : ∃ kk, krow zs i = kk := ⟨_, rfl⟩
            have hk20 : kk < 20 := by rw [← hkk]; exact krow_lt zs i
            have HKK := Lib.hid hkk
            clear hkk
            go_upto_if 69 with fail
            go_cut [13] (fun s13 wx => s13 = .int .i64 kk ∧ wx = wc)
            case first =>
              by_cases hc : 0 < zs.getD i 0
              · have hil : i < zs.length := Nat.lt_of_not_le fun h => by simp [List.getElem?_eq_none h] at hc
                obtain ⟨z, hz⟩ : ∃ z, zs[i]? = some z := ⟨_, List.getElem?_eq_getElem hil⟩
                obtain ⟨zb, zoff, hZA, hZc⟩ := HZR.out
                obtain rfl := hZA (by intro e; rw [e] at hz; simp at hz)
                have hzc := hZc i z hz
                have hzl := World.block_lt_of_cell? w _ hzc
                replace hzc := (World.cell?_of_block (w := w) (HA1.out.ud.block zb hzl (fun h => h))).trans hzc
                have hil' : (i : Int) < zs.length := by omega
                have hzd : zs.getD i 0 = z := by simp [hz]
                have hd : decide (0 < zs.getD i 0) = true := decide_eq_true hc
                rw [hzd] at hc
                have hkz : (kk : Int) = z % 20 := by
                  rw [← HKK.out]; unfold krow
                  rw [hzd, if_pos hc]
                  omega
                rw [hd]
                have HKZ := Lib.hid hkz
                clear hz hZc hZA hzd hd hkz
                go_wp2_with fail
                go_meet
                exact ⟨by rw [HKZ.out], rfl⟩
              · have hd : decide (0 < zs.getD i 0) = false := decide_eq_false hc
                have hk0 : kk = 0 := by rw [← HKK.out]; unfold krow; rw [if_neg hc]
                rw [hd]
                go_wp2_with fail
                go_meet
                exact ⟨by rw [hk0]; rfl, rfl⟩
            case rest =>
              obtain ⟨rfl, rfl⟩ := hcut
              clear hrc
              go_wp2_with fail
              go_loopw [14] (fun tm wr => ∃ (m : Nat) (s : GS), m ≤ kk ∧ tm = .int .i64 m ∧ AllA w wr w.heap.size C w.heap.size L n b i m q s) (fun tm _ => kk - (intOf tm).toNat)
              case atStart => exact ⟨0, s, by omega, rfl, HA1.out⟩
              case round =>
                obtain ⟨m, s1, hm, rfl, hA⟩ := hrel
                have HA2 := Lib.hid hA
                clear hA HA1
                by_cases hmk : m < kk
                · have mi0 : (0 : Int) ≤ m := by omega
                  have mi1 : (m : Int) < kk := by omega
                  obtain ⟨hpc, hph⟩ := HA2.out.ph.push_rec HA2.out.gt.lens hin (by omega)
                  have HPH := Lib.hid hph
                  have HPC := Lib.hid hpc
                  clear hph hpc
                  go_wp2_with fail
                  refine (c37 ⟨#[114]⟩ _).mono ?_
                  rintro x u1 ⟨rfl, hU⟩
                  have HX := Lib.hid (HA2.out.gt.upd0 hU)
                  have VX := Lib.hid (HA2.out.ud.trans hU)
                  clear hU
                  go_wp2_with fail
                  refine (c36 HX.out i rR).mono ?_
                  rw [HPC.out]
                  rintro x u2 ⟨rfl, hG, hU⟩
                  have HN2 : Hid (AllA w u2 w.heap.size C w.heap.size L n b i (m + 1) q (pushS 64 s1 i rR)) := Lib.hid ⟨hG, HPH.out, VX.out.gate (Nat.le_refl _) hU⟩
                  clear hG hU
                  go_wp2_with fail
                  first
                    | (go_roundw
                       case rel => exact ⟨m + 1, _, by omega, by go_num, HN2.out⟩
                       case measure => simp [intOf]; omega)
                    | exact ⟨⟨m + 1, _, by omega, by go_num, HN2.out⟩, by simp [intOf]; omega⟩
                · obtain rfl : kk = m := by omega
                  obtain ⟨hpc, hph⟩ := HA2.out.ph.push_bar HA2.out.gt.lens hin (by omega) (by omega)
                  have HPH := Lib.hid hph
                  have HPC := Lib.hid hpc
                  have HSN := Lib.hid (sumQ_snoc q i kk)
                  clear hph hpc
                  go_wp2_with fail
                  refine (c38 ((b : Int) + 1) _).mono ?_
                  rintro x u1 ⟨rfl, hU⟩
                  have HX := Lib.hid (HA2.out.gt.upd0 hU)
                  have VX := Lib.hid (HA2.out.ud.trans hU)
                  clear hU
                  go_wp2_with fail
                  refine (c36 HX.out i (bE (b + 1))).mono ?_
                  rw [HPC.out]
                  rintro x u2 ⟨rfl, hG, hU⟩
                  have HN2 : Hid (AllA w u2 w.heap.size C w.heap.size L n b (i + 1) 0 (putF q i kk) (pushS 64 s1 i (bE (b + 1)))) := Lib.hid ⟨hG, HPH.out, VX.out.gate (Nat.le_refl _) hU⟩
                  have HQ2 : Hid (∀ j, j < i + 1 → putF q i kk j ≤ 19) := Lib.hid (fun j hj => by
                    by_cases e : j = i
                    · subst e; rw [putF_eq]; omega
                    · rw [putF_ne _ _ e]; exact HQ.out j (by omega))
                  clear hG hU
                  go_wp2_with fail
                  exact ⟨⟨i + 1, putF q i kk, _, by omega, by go_num, by rw [HSN.out]; go_num, HQ2, HN2.out⟩, by simp [intOf]; omega⟩
        · obtain rfl : n = i := by omega
          have HLM : Hid (sumQ (leftM (fun _ => false) q) n ≤ 160) := Lib.hid (by
            have := sumQ_le (f := leftM (fun _ => false) q) (c := 20) (n := n) (fun j hj => by
              have := HQ.out j hj
              show (if false = true then 0 else q j + 1) ≤ 20
              rw [if_neg (by decide)]; omega)
            omega)
          have HB0 : Hid (AllB w wr w.heap.size C w.heap.size L n b (fun _ => false) q s) := Lib.hid ⟨HA1.out.gt, HA1.out.ph.toB (by omega), HA1.out.ud⟩
          clear HA1
          go_wp2_with fail
          go_loopw [9, 11, 15] (fun tn tm td wr => ∃ (idx many : Nat) (dn : Bool), tn = .int .i64 idx ∧ tm = .int .i64 many ∧ td = .bool dn ∧ many ≤ 160 * (b + 1) ∧ AllC w wr C L n b idx many dn) (fun tn _ _ _ => 160 * (b + 1) - (intOf tn).toNat)
          case atStart =>
            exact ⟨idx, sumQ q n, false, rfl, rfl, rfl, by omega, fun _ => ⟨_, q, s, HB0.out, rfl, by have := HLM.out; omega⟩, fun h => by cases h⟩
          case round =>
            obtain ⟨idx', many, dn, rfl, rfl, rfl, hmany, hC⟩ := hrel
            clear HB0 HLM HQ
            cases dn with
            | false =>
              obtain ⟨d, q', s', hB, hmq, hidq⟩ := hC.1 rfl
              have HB := Lib.hid hB
              obtain ⟨j0, hj0, hd0⟩ := hB.ph.ex
              have hge := sumQ_ge (f := leftM d q') hj0
              have hl0 : leftM d q' j0 = q' j0 + 1 := by unfold leftM; rw [hd0]; rfl
              have xi0 : (0 : Int) ≤ idx' := by omega
              obtain ⟨pk, hpk⟩ : ∃ pk, ps.getD idx' 0 = pk := ⟨_, rfl⟩
              have HPKE := Lib.hid hpk
              have hpr : -9223372036854775808 ≤ pk ∧ pk ≤ 9223372036854775807 := by
                by_cases h : idx' < ps.length
                · refine HPK.out.2 pk ?_
                  rw [← hpk]
                  simp [List.getElem?_eq_getElem h]
                · rw [← hpk]; simp [List.getElem?_eq_none (show ps.length ≤ idx' by omega)]
              obtain ⟨hnx1, hnx2⟩ := hB.ph.next hB.gt.lens pk
              have HMQ := Lib.hid hmq
              clear hC hB hj0 hd0 hpk hmq
              go_upto_if 103 with fail
              go_cut [16] (fun s16 wx => s16 = .int .i64 pk ∧ wx = wr)
              case first =>
                by_cases hil : idx' < ps.length
                · obtain ⟨pb, poff, hPA, hPc⟩ := HPK.out.1
                  have hpz : ps[idx']? = some pk := by
                    have := HPKE.out
                    rw [List.getD_eq_getElem?_getD, List.getElem?_eq_getElem hil] at this
                    rw [List.getElem?_eq_getElem hil, ← this]; rfl
                  obtain rfl := hPA (by intro e; rw [e] at hpz; simp at hpz)
                  have hpc := hPc idx' pk hpz
                  have hpl := World.block_lt_of_cell? w _ hpc
                  replace hpc := (World.cell?_of_block (w := w) (HB.out.ud.block pb hpl (fun h => h))).trans hpc
                  have hil' : (idx' : Int) < ps.length := by omega
                  have hd : decide ((idx' : Int) < ps.length) = true := decide_eq_true hil'
                  try rw [hd]
                  clear hPc hPA hpz
                  go_wp2_with fail
                  go_meet
                  exact ⟨rfl, rfl⟩
                · have hil' : ¬ (idx' : Int) < ps.length := by omega
                  have hp0 : pk = 0 := by rw [← HPKE.out]; simp [List.getElem?_eq_none (show ps.length ≤ idx' by omega)]
                  have hd : decide ((idx' : Int) < ps.length) = false := decide_eq_false hil'
                  try rw [hd]
                  go_wp2_with fail
                  go_meet
                  exact ⟨by rw [hp0], rfl⟩
              case rest =>
                obtain ⟨rfl, rfl⟩ := hcut
                go_wp2_with fail
                refine (c39 HB.out.gt pk hpr.1 hpr.2).mono ?_
                obtain ⟨⟨⟨x, ix, ok⟩, s2⟩, hR⟩ : ∃ R, gNext s' pk = R := ⟨_, rfl⟩
                rw [hR] at hnx1 hnx2 ⊢
                dsimp only at hnx1 hnx2 ⊢
                subst hnx1
                rcases hnx2 with ⟨rfl, q2, hs1, hs2, hph⟩ | ⟨rfl, d2, hs2, hph⟩ | ⟨rfl, hs0, hs1, hph⟩
                · rintro _ w2 ⟨rfl, hG, hU⟩
                  have HG2 := Lib.hid (hG.upd0 (((Upd.refl (fun _ => False) _).alloc (El.obj rR)).drew))
                  have HV2 := Lib.hid (((HB.out.ud.gate (Nat.le_refl _) hU).alloc (El.obj rR)).drew)
                  have HX2 := Lib.hid (show (w2.alloc (El.obj rR)).drew.heap[w2.heap.size]? = _ from El.box w2 rR)
                  have HPH := Lib.hid hph
                  clear hG hU hph
                  go_wp2_with fail
                  refine region36 w2.heap.size rR b rfl rfl rfl (by omega) (by omega) (El.box w2 rR) false (.inl ⟨by decide, rfl⟩) ?_
                  intro w3 hU3
                  simp only [Act.put, List.setIfInBounds_toArray, List.set_cons_zero, List.set_cons_succ]
                  have HG3 := Lib.hid (HG2.out.upd0 hU3)
                  have HV3 := Lib.hid (HV2.out.trans hU3)
                  clear hU3
                  go_wp2_with fail
                  have hmq := HMQ.out
                  have hmm : (many : Int) - 1 = (sumQ q2 n : Nat) := by omega
                  exact ⟨⟨idx' + 1, sumQ q2 n, false, by go_num, by rw [hmm], rfl, by omega, fun _ => ⟨d, q2, s2, ⟨HG3.out, HPH.out, HV3.out⟩, rfl, by omega⟩, fun h => by cases h⟩, by simp [intOf]; omega⟩
                · rintro _ w2 ⟨rfl, hG, hU⟩
                  have HG2 := Lib.hid (hG.upd0 (((Upd.refl (fun _ => False) _).alloc (El.obj El.zero)).drew))
                  have HV2 := Lib.hid (((HB.out.ud.gate (Nat.le_refl _) hU).alloc (El.obj El.zero)).drew)
                  have HX2 := Lib.hid (show (w2.alloc (El.obj El.zero)).drew.heap[w2.heap.size]? = _ from El.box w2 El.zero)
                  have HPH := Lib.hid hph
                  clear hG hU hph
                  go_wp2_with fail
                  refine region36 w2.heap.size El.zero b rfl rfl rfl (by omega) (by omega) (El.box w2 El.zero) false (.inl ⟨by decide, rfl⟩) ?_
                  intro w3 hU3
                  simp only [Act.put, List.setIfInBounds_toArray, List.set_cons_zero, List.set_cons_succ]
                  have HG3 := Lib.hid (HG2.out.upd0 hU3)
                  have HV3 := Lib.hid (HV2.out.trans hU3)
                  clear hU3
                  go_wp2_with fail
                  have hmq := HMQ.out
                  exact ⟨⟨idx' + 1, many, false, by go_num, rfl, rfl, by omega, fun _ => ⟨d2, q', s2, ⟨HG3.out, HPH.out, HV3.out⟩, hmq, by omega⟩, fun h => by cases h⟩, by simp [intOf]; omega⟩
                · rintro _ w2 ⟨rfl, hG, hU⟩
                  have HG2 := Lib.hid (hG.upd0 (((Upd.refl (fun _ => False) _).alloc (El.obj (bE ((b : Int) + 1)))).drew))
                  have HV2 := Lib.hid (((HB.out.ud.gate (Nat.le_refl _) hU).alloc (El.obj (bE ((b : Int) + 1)))).drew)
                  have HX2 := Lib.hid (show (w2.alloc (El.obj (bE ((b : Int) + 1)))).drew.heap[w2.heap.size]? = _ from El.box w2 (bE ((b : Int) + 1)))
                  have HPH := Lib.hid hph
                  clear hG hU hph
                  go_wp2_with fail
                  refine region36 w2.heap.size (bE ((b : Int) + 1)) b rfl rfl rfl (by omega) (by omega) (El.box w2 (bE ((b : Int) + 1))) true (.inr ⟨rfl, rfl⟩) ?_
                  intro w3 hU3
                  simp only [Act.put, List.setIfInBounds_toArray, List.set_cons_zero, List.set_cons_succ]
                  have HG3 := Lib.hid (HG2.out.upd0 hU3)
                  have HV3 := Lib.hid (HV2.out.trans hU3)
                  clear hU3
                  go_wp2_with fail
                  have hmq := HMQ.out
                  exact ⟨⟨idx' + 1, many, true, by go_num, rfl, rfl, by omega, fun h => (by cases h), fun _ => ⟨by omega, q', s2, ⟨HG3.out, HPH.out, HV3.out⟩, by omega⟩⟩, by simp [intOf]; omega⟩
            | true =>
              obtain ⟨rfl, q', s', hA, hidq⟩ := hC.2 rfl
              have HA3 := Lib.hid hA
              clear hC hA
              go_wp2_with fail
              exact ⟨⟨idx', b + 1, q', s', by omega, by go_num, rfl, by omega, HA3.out⟩, by simp [intOf]; omega⟩
    · obtain rfl : N = b := by omega
      go_wp2_with fail
      refine (c40 _).mono ?_
      rintro x w2 ⟨rfl, hU2⟩
      go_wp2_with fail
      go_ret
      exact ⟨rfl, HA.out.ud.trans hU2⟩

theorem c10 (n : Int) (A A2 : Option Addr) (cap cap2 : Nat) (zss : List (List Int)) (ps : List Int) (w : World) (hR : RowsRd w A zss) (hP : PicksRd w A2 ps) :
    Calls Try.prog 10 #[.int .i64 n, .slice A zss.length cap, .slice A2 ps.length cap2] w fun x w' => x = .returned (.bool true) ∧ Upd (fun _ => False) w w' := by
  by_cases h : n < 1 ∨ 8 < n ∨ 30 < zss.length
  · exact c10_far n A A2 _ cap _ cap2 w h
  · obtain ⟨k, rfl⟩ := Int.eq_ofNat_of_zero_le (show 0 ≤ n by omega)
    exact c10_run k A A2 cap cap2 zss ps w hR hP (by omega) (by omega) (by omega)
end Go.Proofs.Ytijkcahdegohiaa
