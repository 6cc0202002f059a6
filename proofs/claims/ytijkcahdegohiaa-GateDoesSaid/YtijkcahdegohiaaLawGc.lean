/-
  The law GateCuts, as a call.
-/
import Derived.Test.YtijkcahdegohiaaRegC
import Derived.Test.YtijkcahdegohiaaLawGm
namespace Go.Proofs.Ytijkcahdegohiaa
open Go.RowKit
attribute [local go_sem ↓] Go.wp_at_zero Go.wp_at_succ

set_option maxRecDepth 100000 in
set_option maxHeartbeats 1600000 in
theorem c11_far (n room : Int) (A : Option Addr) (N cap : Nat) (w : World) (h : 600 < N ∨ fitsB n room = false) :
    Calls Try.prog 11 #[.int .i64 n, .int .i64 room, .slice A N cap] w fun x w' => x = .returned (.bool true) ∧ Upd (fun _ => False) w w' := by
  by_cases hN : 600 < N
  · have hN' : (600 : Int) < N := by omega
    clear h
    go_enter Try.func11, Try.ntmps11
    go_wp2_with fail
    go_ret
    exact ⟨rfl, Upd.refl _ _⟩
  · have hN' : ¬ (600 : Int) < N := by omega
    have hf := h.resolve_left hN
    have HF := Lib.hid hf
    clear h hf
    go_enter Try.func11, Try.ntmps11
    go_wp2_with (go_at_call 41; refine (c41 n room _).mono ?_; rw [HF.out]; rintro x w1 ⟨rfl, rfl⟩)
    go_ret
    exact ⟨rfl, Upd.refl _ _⟩

theorem CutS24 {w w' : World} {o b c i : Nat} {v0 v1 v2 v3 v4 v5 v6 : Value} (h : w.cell? ⟨o, 0, none⟩ = some v0 ∧ w.cell? ⟨o, 1, none⟩ = some v1 ∧ w.cell? ⟨o, 2, none⟩ = some v2 ∧ w.cell? ⟨o, 3, none⟩ = some v3 ∧ w.cell? ⟨o, 4, none⟩ = some v4 ∧ w.cell? ⟨b, i, none⟩ = some v5 ∧ w.cell? ⟨c, i, none⟩ = some v6) (hU : Upd (fun _ => False) w w') :
    w'.cell? ⟨o, 0, none⟩ = some v0 ∧ w'.cell? ⟨o, 1, none⟩ = some v1 ∧ w'.cell? ⟨o, 2, none⟩ = some v2 ∧ w'.cell? ⟨o, 3, none⟩ = some v3 ∧ w'.cell? ⟨o, 4, none⟩ = some v4 ∧ w'.cell? ⟨b, i, none⟩ = some v5 ∧ w'.cell? ⟨c, i, none⟩ = some v6 := by
  have k : ∀ (b j : Nat) (v : Value), w.cell? ⟨b, j, none⟩ = some v → w'.cell? ⟨b, j, none⟩ = some v := fun b j v h => (World.cell?_of_block (w := w) (hU.block b (World.block_lt_of_cell? w _ h) (fun h => h))).trans h
  obtain ⟨h0, h1, h2, h3, h4, h5, h6⟩ := h
  exact ⟨k _ _ _ h0, k _ _ _ h1, k _ _ _ h2, k _ _ _ h3, k _ _ _ h4, k _ _ _ h5, k _ _ _ h6⟩
theorem CutPh.told {n : Nat} {s : GS} {H : List (List El)} {tl : List Int} {last : Int} (h : CutPh n s H tl last) {i : Nat} (hi : i < n) : 0 ≤ tl.getD i 0 ∧ tl.getD i 0 ≤ (H.getD i []).length := by
  obtain ⟨T, hT, ht, _⟩ := (h.all i hi).split
  have h1 : (recsOf T).length ≤ T.length := List.length_filter_le _ _
  rw [ht, hT, List.length_append]
  omega

set_option maxRecDepth 100000 in
set_option maxHeartbeats 12800000 in
theorem c11_run (n room : Nat) (A : Option Addr) (cap : Nat) (os : List (Int × Int × El)) (w : World) (hR : Ops14Rd w A os) (hl : os.length ≤ 600) (h1 : 1 ≤ n) (h8 : n ≤ 8) (r1 : 1 ≤ room) (r2 : room ≤ 64) :
    Calls Try.prog 11 #[.int .i64 n, .int .i64 room, .slice A os.length cap] w fun x w' => x = .returned (.bool true) ∧ Upd (fun _ => False) w w' := by
  have HRD := Lib.hid hR
  generalize hN : os.length = N at *
  have HN := Lib.hid hN
  have g0 : ¬ (600 : Int) < N := by omega
  have hf : fitsB n room = true := by unfold fitsB; simp; omega
  have HF := Lib.hid hf
  clear hR hN hf
  go_enter Try.func11, Try.ntmps11
  go_wp2_with (go_at_call 41; refine (c41 n room _).mono ?_; rw [HF.out]; rintro x w1 ⟨rfl, rfl⟩)
  refine (c35 n room _ h1 h8 r1 r2).mono ?_
  rintro x w0 ⟨rfl, ⟨C, L, hG⟩, hU⟩
  have hC := hG.hC
  have HG := Lib.hid hG
  have HU := Lib.hid hU
  clear hG hU
  have hmk := fun w => make30 n (by omega) w
  have hmk2 := fun w => make70 n (by omega) w
  go_wp2_with fail
  clear hmk hmk2
  have H0 : Hid (CutMid w ((w0.alloc (.cells (List.replicate n nilS).toArray 52 (0, 0))).alloc (.cells (intRow (List.replicate n 0)) 3 (0, 0))) C L room n w0.heap.size (w0.heap.size + 1) 0 (List.replicate n nilS) (List.replicate n []) (List.replicate n 0) 0 (GS.start n)) := Lib.hid
    ⟨⟨HG.out.upd0 (((Upd.refl (fun _ => False) _).alloc _).alloc _), (NestAt.start w0 C n hC).upd0 ((Upd.refl (fun _ => False) _).alloc _), by rw [heapK_alloc, if_pos (by simp)], by omega, by simp, fun j hj => by rw [getD_rep]; exact Nat.zero_le _, (HU.out.alloc _).alloc _⟩, CutPh.start n⟩
  go_loopw [11, 12, 13] (fun tl tm tn wr => ∃ (k : Nat) (vs : List Value) (H : List (List El)) (tls : List Int) (last : Int) (s : GS), k ≤ N ∧ tn = .int .i64 k ∧ tl = .int .i64 last ∧ tm = .int .i64 (leastL s.ms) ∧ CutMid w wr C L room n w0.heap.size (w0.heap.size + 1) k vs H tls last s) (fun _ _ tn _ => N - (intOf tn).toNat)
  case atStart => exact ⟨0, _, _, _, _, _, by omega, rfl, rfl, by rw [show leastL (GS.start n).ms = 0 from least_zeros n h1], by simpa using H0.out⟩
  case round =>
    obtain ⟨k, vs, H, tls, last, s, hk, rfl, rfl, rfl, hM⟩ := hrel
    have HM := Lib.hid hM
    clear hM H0 HG HU
    by_cases hlt : k < N
    · obtain ⟨⟨kd, I, e⟩, hx⟩ : ∃ x, os[k]? = some x := ⟨_, List.getElem?_eq_getElem (by rw [HN.out]; exact hlt)⟩
      obtain ⟨⟨ob, off, hA, hc⟩, hrng⟩ := HRD.out.upd0 HM.out.me.ud
      obtain ⟨hc0, hc1, e0, e1, e2, e3, e4⟩ := hc k _ hx
      have hI := hrng _ (List.mem_of_getElem? hx)
      dsimp only at hc0 hc1 e0 e1 e2 e3 e4 hI
      obtain rfl := hA (by intro e; rw [e] at hx; simp at hx)
      have a1 : (0 : Int) ≤ k := by omega
      have a2 : (k : Int) < N := by omega
      clear hc hA hx hrng
      have HM1 : Hid (CutMem w (wr.alloc (opObj kd I e)) C L room n w0.heap.size (w0.heap.size + 1) k vs H tls s) := Lib.hid (HM.out.me.upd0 ((Upd.refl (fun _ => False) wr).alloc (opObj kd I e)))
      by_cases k0 : kd = 0
      · subst k0
        by_cases hin : 0 ≤ I ∧ I < n
        · obtain ⟨i0, i1⟩ := hin
          obtain ⟨i, rfl⟩ := Int.eq_ofNat_of_zero_le i0
          have hi : i < n := by omega
          go_wp2_with fail
          refine (c36 HM1.out.gt i e).mono ?_
          obtain ⟨pc, hpc⟩ : ∃ pc, pushC room s i e = pc := ⟨_, rfl⟩
          rw [hpc]
          rintro x w2 ⟨rfl, hG, hU⟩
          have hob : w2.heap[wr.heap.size]? = some (opObj 0 i e) := hU.at (op_box wr 0 i e) (fun h => by have := h.2; have := HM.out.me.gt.hC; omega)
          by_cases hp0 : pc = 0
          · subst hp0
            obtain ⟨hph, hms⟩ := HM.out.ph.push HM.out.me.gt.lens HM.out.me.ns.lr hi hpc
            obtain ⟨s2, hs2⟩ : ∃ s2, pushS room s i e = s2 := ⟨_, rfl⟩
            rw [hs2] at hph hms hG
            have HM2 := Lib.hid (HM1.out.gate hG hU)
            have HO2 := Lib.hid hob
            have HMS := Lib.hid hms
            obtain ⟨rr, hrr⟩ : ∃ rr, H.getD i [] ++ [e] = rr := ⟨_, rfl⟩
            rw [hrr] at hph
            have HPH := Lib.hid hph
            have HRR := Lib.hid hrr
            clear hG hU hob hpc hph hms hs2 e0 e1 e2 e3 e4 hc0 hc1 hrr
            obtain ⟨o0, o1, o2, o3, o4, o5, o6⟩ := op_cells HO2.out
            go_wp2_with fail
            refine region16 HM2.out wr.heap.size i e (H.getD i []) rr hi rfl HRR.out (by omega) HO2.out rfl rfl rfl ?_
            intro vA vcap A4 cap4 w5 hM5 hO5
            have HM5 := Lib.hid hM5
            have o9 := (op_cells hO5).1
            clear o0 o1 o2 o3 o4 o5 o6 hM5 hO5
            simp only [Act.put, List.setIfInBounds_toArray, List.set_cons_zero, List.set_cons_succ]
            go_wp2_with fail
            exact ⟨⟨k + 1, _, _, _, _, s2, by omega, by go_num, rfl, by rw [HMS.out], HM5.out, HPH.out⟩, by simp [intOf]; omega⟩
          · have hpb : (pc == 0) = false := by simp [hp0]
            have hk := pushS_keep (room := room) (s := s) (i := i) (e := e) (by rw [hpc]; exact hp0)
            rw [hk] at hG
            have HM2 := Lib.hid (HM1.out.gate hG hU)
            obtain ⟨o0, o1, o2, o3, o4, o5, o6⟩ := op_cells hob
            clear hG hU hob hpc hk e0 e1 e2 e3 e4 hc0 hc1
            go_wp2_with fail
            exact ⟨⟨k + 1, vs, H, tls, last, s, by omega, by go_num, rfl, rfl, HM2.out.more, HM.out.ph⟩, by simp [intOf]; omega⟩
        · have hin' : I < 0 ∨ 0 ≤ I ∧ ¬ I < n := by omega
          clear hin
          rcases hin' with i0 | ⟨i0, i1⟩
          · have i2 : ¬ 0 ≤ I := by omega
            go_wp2_with fail
            exact ⟨⟨k + 1, vs, H, tls, last, s, by omega, by go_num, rfl, rfl, HM1.out.more, HM.out.ph⟩, by simp [intOf]; omega⟩
          · go_wp2_with fail
            exact ⟨⟨k + 1, vs, H, tls, last, s, by omega, by go_num, rfl, rfl, HM1.out.more, HM.out.ph⟩, by simp [intOf]; omega⟩
      · have k0b : (kd == 0) = false := by simp [k0]
        by_cases k1 : kd = 1
        · subst k1
          clear k0 k0b
          go_wp2_with fail
          refine (c39 HM1.out.gt I hI.1 hI.2).mono ?_
          rcases HM.out.ph.next HM.out.me.gt.lens HM.out.me.ltl HM.out.me.gt.may I with hnx | ⟨i, x, s3, hi, hnx, hcs⟩
          · rw [hnx]
            rintro _ w2 ⟨rfl, hG, hU⟩
            have HM2 := Lib.hid (HM1.out.gate hG hU)
            have HM3 : Hid (CutMem w (w2.alloc El.zero.obj) C L room n w0.heap.size (w0.heap.size + 1) k vs H tls s) := Lib.hid (HM2.out.upd0 ((Upd.refl (fun _ => False) _).alloc El.zero.obj))
            clear hG hU hnx e0 e1 e2 e3 e4 hc0 hc1
            go_wp2_with fail
            exact ⟨⟨k + 1, vs, H, tls, last, s, by omega, by go_num, rfl, rfl, HM3.out.more, HM.out.ph⟩, by simp [intOf]; omega⟩
          · rw [hnx]
            rintro _ w2 ⟨rfl, hG, hU⟩
            have HM2 := Lib.hid (HM1.out.gate hG hU)
            have HM3 : Hid (CutMem w (w2.alloc x.obj) C L room n w0.heap.size (w0.heap.size + 1) k vs H tls s3) := Lib.hid (HM2.out.upd0 ((Upd.refl (fun _ => False) _).alloc x.obj))
            have HX := Lib.hid (El.box w2 x)
            have ii0 : (0 : Int) ≤ i := by omega
            have ii1 : (i : Int) < n := by omega
            have ii2 : ¬ (i : Int) < 0 := by omega
            have ii3 : ¬ (n : Int) ≤ i := by omega
            have ii4 : decide (n ≤ i) = false := decide_eq_false (by omega)
            have ii5 : decide ((i : Int) < 0) = false := decide_eq_false (by omega)
            clear hG hU hnx e0 e1 e2 e3 e4 hc0 hc1
            rcases hcs with ⟨hk1, hxn, hms, hph⟩ | ⟨hk2, hxa, hlt2, hph⟩ | ⟨hk3, hlt2, hah, hms, hph⟩ | ⟨hx0, hms, hph⟩
            · obtain ⟨ht0, htl⟩ := HM.out.ph.told hi
              obtain ⟨m, hm⟩ := Int.eq_ofNat_of_zero_le ht0
              have hlen1 := HM3.out.len i hi
              obtain ⟨r, hr⟩ : ∃ r, H.getD i [] = r := ⟨_, rfl⟩
              obtain ⟨A3, cap3, hv3, hels⟩ := (HM3.out.ns.own i hi).els
              have hcb := HM3.out.ns.cell hi
              have hct := HM3.out.toldCell hi
              rw [hr] at htl hlen1 hv3 hels hxn
              rw [hm] at hph htl hxn hct
              rw [Int.toNat_natCast] at hxn
              rw [hv3] at hcb
              have hm6 : m ≤ 600 := by omega
              have hr6 : r.length ≤ 600 := by omega
              have HPH := Lib.hid hph
              have HMS := Lib.hid hms
              have HELS := Lib.hid (hels.upd0 ((Upd.refl (fun _ => False) _).drew))
              have HXN := Lib.hid hxn.symm
              obtain ⟨kx, key, tx, vx, ax⟩ := x
              dsimp only at hk1
              subst hk1
              have HB3 := Lib.hid (show (w2.alloc (El.obj ⟨1, key, tx, vx, ax⟩)).drew.cell? ⟨w0.heap.size, i, none⟩ = some (.slice A3 r.length cap3) from hcb)
              have HT3 := Lib.hid (show (w2.alloc (El.obj ⟨1, key, tx, vx, ax⟩)).drew.cell? ⟨w0.heap.size + 1, i, none⟩ = some (.int .i64 m) from hct)
              have HX3 := Lib.hid (show (w2.alloc (El.obj ⟨1, key, tx, vx, ax⟩)).drew.heap[w2.heap.size]? = _ from HX.out)
              clear hph hms hels hxn hcb hct hv3 hr hm ht0 htl
              have hSA := El.box_cells HX3.out
              dsimp only at hSA
              have HSA : Hid ((w2.alloc (El.obj ⟨1, key, tx, vx, ax⟩)).drew.cell? ⟨w2.heap.size, 0, none⟩ = some (.int .i64 1) ∧ (w2.alloc (El.obj ⟨1, key, tx, vx, ax⟩)).drew.cell? ⟨w2.heap.size, 1, none⟩ = some (.string key) ∧ (w2.alloc (El.obj ⟨1, key, tx, vx, ax⟩)).drew.cell? ⟨w2.heap.size, 2, none⟩ = some (.int .i64 tx) ∧ (w2.alloc (El.obj ⟨1, key, tx, vx, ax⟩)).drew.cell? ⟨w2.heap.size, 3, none⟩ = some (.int .i64 vx) ∧ (w2.alloc (El.obj ⟨1, key, tx, vx, ax⟩)).drew.cell? ⟨w2.heap.size, 4, none⟩ = some (.int .i64 ax)
                ∧ (w2.alloc (El.obj ⟨1, key, tx, vx, ax⟩)).drew.cell? ⟨w0.heap.size, i, none⟩ = some (.slice A3 r.length cap3) ∧ (w2.alloc (El.obj ⟨1, key, tx, vx, ax⟩)).drew.cell? ⟨w0.heap.size + 1, i, none⟩ = some (.int .i64 m)) := Lib.hid ⟨hSA.1, hSA.2.1, hSA.2.2.1, hSA.2.2.2.1, hSA.2.2.2.2, HB3.out, HT3.out⟩
              clear hSA
              go_wp2_with fail
              go_region_held3 (fun w' => w'.cell? ⟨w2.heap.size, 0, none⟩ = some (.int .i64 1) ∧ w'.cell? ⟨w2.heap.size, 1, none⟩ = some (.string key) ∧ w'.cell? ⟨w2.heap.size, 2, none⟩ = some (.int .i64 tx) ∧ w'.cell? ⟨w2.heap.size, 3, none⟩ = some (.int .i64 vx) ∧ w'.cell? ⟨w2.heap.size, 4, none⟩ = some (.int .i64 ax)
                  ∧ w'.cell? ⟨w0.heap.size, i, none⟩ = some (.slice A3 r.length cap3) ∧ w'.cell? ⟨w0.heap.size + 1, i, none⟩ = some (.int .i64 m))
                (first | exact HSA.out | exact HSB.out)
                (first | (go_at_call 42; refine (c42 A3 cap3 r.length m r _ HELS.out rfl (by omega) (by omega)).mono ?_; rw [HXN.out]; rintro x w5 ⟨rfl, hU5⟩; (have HU5 := Lib.hid hU5); (have HSB := Lib.hid (CutS24 HSA.out hU5)); clear hU5))
              have HM5 := Lib.hid ((HM3.out.upd0 ((Upd.refl (fun _ => False) _).drew)).upd0 HU5.out)
              have hct5 := HSB.out.2.2.2.2.2.2
              have hft5 := free_of HM5.out.tb i
              have hlt5 := lt_of_heap HM5.out.tb
              have HM6 := Lib.hid (HM5.out.told i ((m : Int) + 1))
              go_wp2_with fail
              exact ⟨⟨k + 1, vs, H, _, last, s3, by omega, by go_num, rfl, by rw [HMS.out], HM6.out.more, HPH.out⟩, by simp [intOf]; omega⟩
            · obtain ⟨kx, key, tx, vx, ax⟩ := x
              dsimp only at hk2 hxa hlt2
              subst hk2
              have HPH := Lib.hid hph
              have HXA := Lib.hid hxa
              have q0 : ¬ ax ≤ leastL s.ms := by omega
              have q1 : decide (ax ≤ leastL s.ms) = false := decide_eq_false q0
              have HM4 : Hid (CutMem w (w2.alloc (El.obj ⟨2, key, tx, vx, ax⟩)).drew C L room n w0.heap.size (w0.heap.size + 1) k vs H tls s3) := Lib.hid (HM3.out.upd0 ((Upd.refl (fun _ => False) _).drew))
              have HX3 := Lib.hid (show (w2.alloc (El.obj ⟨2, key, tx, vx, ax⟩)).drew.heap[w2.heap.size]? = _ from HX.out)
              clear hph hxa hlt2
              go_wp2_with fail
              go_region_held3 (fun w' => w'.cell? ⟨w2.heap.size, 4, none⟩ = some (.int .i64 ax))
                (first | exact (El.box_cells HX3.out).2.2.2.2)
                (first | (go_at_call 43; refine (c43 HM4.out.gt).mono ?_; rw [← HXA.out]; rintro x w1 ⟨rfl, rfl⟩))
              have hx4 := (El.box_cells HX3.out).2.2.2.2
              dsimp only at hx4
              go_wp2_with fail
              exact ⟨⟨k + 1, vs, H, tls, last, s3, by omega, by go_num, rfl, by rw [← HXA.out], HM4.out.more, HPH.out⟩, by simp [intOf]; omega⟩
            · obtain ⟨kx, key, tx, vx, ax⟩ := x
              dsimp only at hk3 hlt2 hah
              subst hk3
              have HPH := Lib.hid hph
              have HMS := Lib.hid hms
              have HAH := Lib.hid hah
              have q0 : ¬ ax ≤ last := by omega
              clear hph hms hah
              go_wp2_with fail
              go_loopw [18] (fun tj wx => ∃ j : Nat, j ≤ n ∧ tj = .int .i64 j ∧ CutMem w wx C L room n w0.heap.size (w0.heap.size + 1) k vs H tls s3 ∧ wx.heap[w2.heap.size]? = some (El.obj ⟨3, key, tx, vx, ax⟩)) (fun tj _ => n - (intOf tj).toNat)
              case atStart => exact ⟨0, by omega, rfl, HM3.out, HX.out⟩
              case round =>
                obtain ⟨j, hj, rfl, hM, hX⟩ := hrel
                have HMX := Lib.hid hM
                have HXX := Lib.hid hX
                clear hM hX HM3 HX
                by_cases hjn : j < n
                · have hj0 : (0 : Int) ≤ j := by omega
                  have hj1 : (j : Int) < n := by omega
                  obtain ⟨A3, cap3, hv3, hels⟩ := (HMX.out.ns.own j hjn).els
                  obtain ⟨r, hr⟩ : ∃ r, H.getD j [] = r := ⟨_, rfl⟩
                  obtain ⟨tj, htj⟩ : ∃ tj, tls.getD j 0 = tj := ⟨_, rfl⟩
                  have hcb := HMX.out.ns.cell hjn
                  have hct := HMX.out.toldCell hjn
                  have haj := HAH.out j hjn
                  have hlen1 := HMX.out.len j hjn
                  rw [hr] at haj hlen1 hv3 hels
                  rw [htj] at hct haj
                  rw [hv3] at hcb
                  have HAJ := Lib.hid haj
                  have HELS := Lib.hid (hels.upd0 ((Upd.refl (fun _ => False) _).drew))
                  have HSA : Hid (wr.drew.cell? ⟨w2.heap.size, 4, none⟩ = some (.int .i64 ax) ∧ wr.drew.cell? ⟨w0.heap.size, j, none⟩ = some (.slice A3 r.length cap3) ∧ wr.drew.cell? ⟨w0.heap.size + 1, j, none⟩ = some (.int .i64 tj)) := Lib.hid ⟨(El.box_cells HXX.out).2.2.2.2, hcb, hct⟩
                  clear hcb hct haj hels hv3 hr htj
                  go_wp2_with fail
                  go_region_held3 (fun w' => w'.cell? ⟨w2.heap.size, 4, none⟩ = some (.int .i64 ax) ∧ w'.cell? ⟨w0.heap.size, j, none⟩ = some (.slice A3 r.length cap3) ∧ w'.cell? ⟨w0.heap.size + 1, j, none⟩ = some (.int .i64 tj))
                    (first | exact HSA.out)
                    (first | (go_at_call 44; refine (c44 A3 cap3 r.length ax r _ HELS.out rfl (by omega)).mono ?_; rw [HAJ.out]; rintro x w1 ⟨rfl, rfl⟩))
                  go_wp2_with fail
                  go_roundw
                  case rel => exact ⟨j + 1, by omega, by go_num, HMX.out.upd0 ((Upd.refl (fun _ => False) _).drew), HXX.out⟩
                  case measure => simp [intOf]; omega
                · obtain rfl : n = j := by omega
                  go_wp2_with fail
                  exact ⟨⟨k + 1, vs, H, tls, ax, s3, by omega, by go_num, rfl, by rw [HMS.out], HMX.out.more, HPH.out⟩, by simp [intOf]; omega⟩
            · subst hx0
              have HPH := Lib.hid hph
              have HMS := Lib.hid hms
              clear hph hms
              go_wp2_with fail
              exact ⟨⟨k + 1, vs, H, tls, last, s3, by omega, by go_num, rfl, by rw [HMS.out], HM3.out.more, HPH.out⟩, by simp [intOf]; omega⟩
        · have k1b : (kd == 1) = false := by simp [k1]
          have k1c : (kd != 1) = true := by simp [k1]
          go_wp2_with fail
          exact ⟨⟨k + 1, vs, H, tls, last, s, by omega, by go_num, rfl, rfl, HM1.out.more, HM.out.ph⟩, by simp [intOf]; omega⟩
    · obtain rfl : N = k := by omega
      go_wp2_with fail
      refine (c40 _).mono ?_
      rintro x w2 ⟨rfl, hU2⟩
      go_wp2_with fail
      go_ret
      exact ⟨rfl, HM.out.me.ud.trans hU2⟩

/-- GateCuts, as a call. -/
theorem c11 (n room : Int) (A : Option Addr) (cap : Nat) (os : List (Int × Int × El)) (w : World) (hR : Ops14Rd w A os) :
    Calls Try.prog 11 #[.int .i64 n, .int .i64 room, .slice A os.length cap] w fun x w' => x = .returned (.bool true) ∧ Upd (fun _ => False) w w' := by
  by_cases h : 600 < os.length ∨ fitsB n room = false
  · exact c11_far n room A _ cap w h
  · have hf : fitsB n room = true := by
      cases hb : fitsB n room with
      | true => rfl
      | false => exact absurd (.inr hb) h
    simp [fitsB] at hf
    obtain ⟨a, rfl⟩ := Int.eq_ofNat_of_zero_le (show 0 ≤ n by omega)
    obtain ⟨b, rfl⟩ := Int.eq_ofNat_of_zero_le (show 0 ≤ room by omega)
    exact c11_run a b A cap os w hR (by omega) (by omega) (by omega) (by omega) (by omega)
end Go.Proofs.Ytijkcahdegohiaa
