/-
  The reference's Next, as a call.
-/
import Derived.Test.YtijkcahdegohiaaRefF
import Derived.Test.YtijkcahdegohiaaRefD
namespace Go.Proofs.Ytijkcahdegohiaa
open Go.RowKit
attribute [local go_sem ↓] Go.wp_at_zero Go.wp_at_succ

/-- What Next may turn. -/
def nxS (R : RLoc) (k : Nat) : Prop := k = R.b ∨ k = R.m ∨ k = R.k
/-- What holds once the first element e is taken out: the gate, the answer's element, e in a block of its own. -/
structure NxMid (w wr : World) (D E : Nat) (R : RLoc) (room n o : Nat) (vs : List Value) (s : GS) (e : El) : Prop where
  rf : RefAt wr D E R room n vs s
  u : Upd (nxS R) w wr
  b4 : wr.heap[w.heap.size]? = some El.zero.obj
  b9 : wr.heap[o]? = some e.obj
  ne : o ≠ w.heap.size
  oE : E ≤ o
  wE : E ≤ w.heap.size
theorem RefAt.setEl {w : World} {D E : Nat} {R : RLoc} {room n : Nat} {vs : List Value} {s : GS} (h : RefAt w D E R room n vs s) (b : Nat) (hb : E ≤ b) (v0 v1 v2 v3 v4 : Value) :
    RefAt (((((w.setCell ⟨b, 0, none⟩ v0).setCell ⟨b, 1, none⟩ v1).setCell ⟨b, 2, none⟩ v2).setCell ⟨b, 3, none⟩ v3).setCell ⟨b, 4, none⟩ v4) D E R room n vs s :=
  h.upd (S := fun k => k = b) (Upd.setEl (S := fun k => k = b) (Upd.refl _ w) b (fun _ => rfl) v0 v1 v2 v3 v4) (fun k _ hk e => by omega)

section
variable {w wr : World} {D E : Nat} {R : RLoc} {room n o : Nat} {vs : List Value} {s : GS} {e : El}
theorem NxMid.drew (h : NxMid w wr D E R room n o vs s e) : NxMid w wr.drew D E R room n o vs s e :=
  ⟨h.rf.upd0 ((Upd.refl (fun _ => False) _).drew), h.u.drew, h.b4, h.b9, h.ne, h.oE, h.wE⟩
theorem NxMid.setB (h : NxMid w wr D E R room n o vs s e) (i : Nat) (x : Int) : NxMid w (wr.setCell ⟨R.k, i, none⟩ (.int .i64 x)) D E R room n o vs (s.setBs (s.bs.set i x)) e := by
  have hk := h.rf.er.2.2.2.1
  have h1 := h.wE
  have h2 := h.oE
  exact ⟨h.rf.setB i x, h.u.setCell (p := ⟨R.k, i, none⟩) (fun _ => .inr (.inr rfl)) _, heap_set_ne h.b4 (a := ⟨R.k, i, none⟩) (by show w.heap.size ≠ R.k; omega) _, heap_set_ne h.b9 (a := ⟨R.k, i, none⟩) (by show o ≠ R.k; omega) _, h.ne, h.oE, h.wE⟩
end

/-! ### The greatest -/
def grtL (l : List Int) : Int := l.foldl (fun m x => if m < x then x else m) 0
theorem grtL_snoc (l : List Int) (x : Int) : grtL (l ++ [x]) = if grtL l < x then x else grtL l := by
  unfold grtL; rw [List.foldl_append]; rfl
theorem grt_aux (a : Int) : ∀ (l : List Int) (m : Int), a < l.foldl (fun m x => if m < x then x else m) m ↔ a < m ∨ ∃ x ∈ l, a < x
  | [], m => by simp
  | y :: l, m => by
    rw [List.foldl_cons, grt_aux a l]
    constructor
    · rintro (h | ⟨x, hx, h⟩)
      · split at h
        · exact .inr ⟨y, List.mem_cons_self .., h⟩
        · exact .inl h
      · exact .inr ⟨x, List.mem_cons_of_mem _ hx, h⟩
    · rintro (h | ⟨x, hx, h⟩)
      · refine .inl ?_
        split <;> omega
      · rcases List.mem_cons.1 hx with rfl | hx
        · refine .inl ?_
          split <;> omega
        · exact .inr ⟨x, hx, h⟩
theorem grtL_any {a : Int} (ha : 0 ≤ a) (l : List Int) : a < grtL l ↔ l.any (fun b => decide (a < b)) = true := by
  unfold grtL
  rw [grt_aux, List.any_eq_true]
  constructor
  · rintro (h | ⟨x, hx, h⟩)
    · omega
    · exact ⟨x, hx, by simpa using h⟩
  · rintro ⟨x, hx, h⟩
    exact .inr ⟨x, hx, by simpa using h⟩

set_option maxRecDepth 100000 in
set_option maxHeartbeats 12800000 in
theorem c47 {w : World} {D E : Nat} {R : RLoc} {room n : Nat} {vs : List Value} {s : GS} (h : RefAt w D E R room n vs s) (pick : Int) (hp0 : -9223372036854775808 ≤ pick) (hp1 : pick ≤ 9223372036854775807)
    (hmay : ∀ j, j < n → ∀ e ∈ s.pipe j, mayB e = true) (hlen : ∀ j, j < n → (s.pipe j).length ≤ 100000) :
    Calls Try.prog 47 #[ptr R.r, .int .i64 pick] w fun x w' => x = .returned (.tuple #[(gNext s pick).1.1.val, .int .i64 (gNext s pick).1.2.1, .bool (gNext s pick).1.2.2]) ∧ (∃ vs', RefAt w' D E R room n vs' (gNext s pick).2) ∧ Upd (nxS R) w w' := by
  have HH := Lib.hid h
  have hwE := h.hE
  have hn8 := h.n8
  have HMAY := Lib.hid hmay
  have HLEN := Lib.hid hlen
  have H1 := Lib.hid (h.upd0 ((Upd.refl (fun _ => False) w).alloc El.zero.obj))
  have HB1 := Lib.hid (El.box w El.zero)
  have HU1 := Lib.hid ((Upd.refl (nxS R) w).alloc El.zero.obj)
  obtain ⟨G, hG⟩ : ∃ G, gNext s pick = G := ⟨_, rfl⟩
  have HG := Lib.hid hG
  rw [hG]
  have hll := h.ln.ls
  have HLL := Lib.hid hll
  clear h hG hmay hlen hll
  go_enter Try.func47, Try.ntmps47
  go_wp2_with fail
  refine (c57 H1.out).mono ?_
  rintro x w2 ⟨⟨v, rfl, hO⟩, hU⟩
  have HO := Lib.hid hO
  have HR2 := Lib.hid (H1.out.upd0 hU)
  have HU2 := Lib.hid (HU1.out.trans (hU.mono (T := nxS R) (fun _ _ h => h.elim)))
  have HB2 := Lib.hid (hU.at HB1.out (fun h => h))
  have hsz1 : w.heap.size < (w.alloc El.zero.obj).heap.size := by simp
  obtain ⟨vA, vcap, rfl⟩ := hO.shape
  clear hU hO
  by_cases hr0 : s.ready = []
  · have hres : G = ((El.zero, 0, false), s) := by rw [← HG.out]; unfold gNext; rw [if_pos hr0]
    have HRES := Lib.hid hres
    have hl0 : s.ready.length = 0 := by rw [hr0]; rfl
    rw [hl0]
    have hfb := free_of HB2.out
    obtain ⟨b0, b1, b2, b3, b4⟩ := El.zero_cells HB2.out
    have hlt := lt_of_heap HB2.out
    clear hres hr0 hl0
    go_wp2_with fail
    have hG := HR2.out.setEl w.heap.size hwE (.int .i64 0) (.string ⟨#[]⟩) (.int .i64 0) (.int .i64 0) (.int .i64 0)
    have hU := HU2.out.setEl w.heap.size (fun h => absurd h (Nat.lt_irrefl _)) (.int .i64 0) (.string ⟨#[]⟩) (.int .i64 0) (.int .i64 0) (.int .i64 0)
    obtain rfl := HRES.out
    exact bodyPost_ret (v := .tuple #[El.zero.val, .int .i64 0, .bool false]) (by simp [results, Try.results47, go_sem, El.zero, b0, b1, b2, b3, b4]) rfl ⟨rfl, ⟨vs, hG⟩, hU⟩
  · have hlen0 : 0 < s.ready.length := List.length_pos_iff.2 hr0
    obtain ⟨vb, voff, vcap', hv, hvB, hvc, hvf⟩ := HO.out.cells hlen0
    injection hv with hv1 hv2 hv3
    subst hv1 hv3
    obtain ⟨j, hj⟩ : ∃ j, placeN pick s.ready.length = j := ⟨_, rfl⟩
    have hjl : j < s.ready.length := by
      rw [← hj]
      unfold placeN
      have hq0 : 0 ≤ pickQ pick := by unfold pickQ; split <;> omega
      have h1 := Int.emod_lt_of_pos (pickQ pick) (show (0 : Int) < s.ready.length by omega)
      have h2 := Int.emod_nonneg (pickQ pick) (show (s.ready.length : Int) ≠ 0 by omega)
      omega
    obtain ⟨i, hi⟩ : ∃ i, s.ready[j]? = some i := ⟨_, List.getElem?_eq_getElem hjl⟩
    have hres : G = taken s i := by rw [← HG.out]; unfold gNext; rw [if_neg hr0, hj]; simp [hi]
    have HRES := Lib.hid hres
    have hmr := mem_ready HH.out.ln (List.mem_of_getElem? hi)
    have hin := hmr.1
    obtain ⟨e, l, hpl⟩ : ∃ e l, s.pipe i = e :: l := by
      cases h : s.pipe i with
      | nil => have := hmr.2; simp [GS.isReady, h] at this
      | cons e l => exact ⟨e, l, rfl⟩
    have hcell := hvc j (.int .i64 i) (by simp [natVals, hi])
    have hme := HMAY.out i hin e (by rw [hpl]; exact List.mem_cons_self ..)
    have HME := Lib.hid hme
    have HPL := Lib.hid hpl
    have HJ := Lib.hid hj
    obtain ⟨c0, c1, c2, c3, c4⟩ := HR2.out.cells
    obtain ⟨pA, pcap, hpv, d2⟩ := HR2.out.cellL hin
    have hown := HR2.out.ns.own i hin
    have hpl' : s.ls.getD i [] = e :: l := hpl
    rw [hpv, hpl'] at hown
    obtain ⟨pb, poff, pcap', hv, hvB2, hpc, hpf⟩ := hown.cells (by simp)
    injection hv with hv1 hv2 hv3
    subst hv1 hv3
    have hE : ElAt w2 pb poff e := ⟨hpc 0 _ rfl, hpc 1 _ rfl, hpc 2 _ rfl, hpc 3 _ rfl, hpc 4 _ rfl⟩
    rw [hpl] at d2
    obtain ⟨e0, e1, e2, e3, e4⟩ := hE
    have hpbl := World.block_lt_of_cell? w2 _ e0
    generalize hm : s.ready.length = m at *
    have hm0 : ¬ (m : Int) = 0 := by omega
    have hj0 : (0 : Int) ≤ j := by omega
    have hj1 : (j : Int) < m := by omega
    have hi0 : (0 : Int) ≤ i := by omega
    have hi1 : (i : Int) < n := by omega
    have l0 : (0 : Int) < (l.length : Int) + 1 := by omega
    clear hr0 hres hi hmr hvc hvf hown hpl hpl' hpc hpf hpv hj hm hme
    go_wp2_with fail
    refine (c58 pick m _ hp0 hp1 hlen0).mono ?_
    rw [HJ.out]
    rintro x w3 ⟨rfl, rfl⟩
    have HR3 := Lib.hid (HR2.out.upd0 ((Upd.refl (fun _ => False) w2).alloc e.obj))
    go_wp2_with fail
    refine region47_6 HR3.out i e l hin HPL.out rfl rfl rfl ?_
    intro vA vcap A4 cap4 w5 hR5 hU5
    simp only [Act.put, List.setIfInBounds_toArray, List.set_cons_zero, List.set_cons_succ]
    have hb2s := lt_of_heap HB2.out
    have hRb : ∀ k, E ≤ k → ¬ k = R.b := fun k hk e => by have := HH.out.er.2.1; omega
    have HN : Hid (NxMid w w5 D E R room n w2.heap.size (vs.set i (.slice A4 l.length cap4)) (s.setPipe i l) e) := Lib.hid
      ⟨hR5, (HU2.out.alloc e.obj).trans (hU5.mono (fun _ _ h => .inl h)), hU5.at (heap_alloc_at HB2.out e.obj) (hRb _ hwE), hU5.at (El.box w2 e) (hRb _ (by omega)), by omega, by omega, hwE⟩
    clear hR5 hU5 c0 c1 c2 c3 c4 d2 e0 e1 e2 e3 e4 HR3 hRb hcell hpbl
    obtain ⟨k, key, t, v, a⟩ := e
    obtain ⟨b0, b1, b2, b3, b4⟩ := El.box_cells HN.out.b9
    obtain ⟨d0, d1, d2, d3, d4⟩ := El.zero_cells HN.out.b4
    have hf4 := free_of HN.out.b4
    have hl4 := lt_of_heap HN.out.b4
    have hl9 := lt_of_heap HN.out.b9
    dsimp only at b0 b1 b2 b3 b4
    by_cases k2 : k = 2
    · subst k2
      have hres := taken_mark HPL.out rfl
      rw [← HRES.out] at hres
      dsimp only at hres
      have HRE := Lib.hid hres
      obtain ⟨c0, c1, c2, c3, c4⟩ := HN.out.rf.cells
      have HML := Lib.hid HN.out.rf.ln.ms
      obtain ⟨M0, hM0⟩ : ∃ M0, leastL s.ms = M0 := ⟨_, rfl⟩
      obtain ⟨M, hM⟩ : ∃ M, leastL (raiseL s.ms i a) = M := ⟨_, rfl⟩
      have HM0 := Lib.hid hM0
      have HMM := Lib.hid hM
      clear hres hM hM0
      go_wp2_with fail
      refine (c25n _ n n s.ms _ (IntsRd.ofRow HN.out.rf.hm) HML.out (by omega)).mono ?_
      rw [HM0.out]
      rintro x w6 ⟨rfl, rfl⟩
      go_wp2_with fail
      refine region47_12 HN.out.rf w2.heap.size i a hin b4 rfl rfl rfl rfl ?_
      intro z6 w6 hR6 hU6
      simp only [Act.put, List.setIfInBounds_toArray, List.set_cons_zero, List.set_cons_succ]
      have hRm : ∀ k, E ≤ k → ¬ k = R.m := fun k hk e => by have := HH.out.er.2.2.1; omega
      have HN6 : Hid (NxMid w w6 D E R room n w2.heap.size (vs.set i (.slice A4 l.length cap4)) ((s.setPipe i l).setMs (raiseL s.ms i a)) ⟨2, key, t, v, a⟩) := Lib.hid
        ⟨hR6, HN.out.u.trans (hU6.mono (fun _ _ h => .inr (.inl h))), hU6.at HN.out.b4 (hRm _ hwE), hU6.at HN.out.b9 (hRm _ HN.out.oE), HN.out.ne, HN.out.oE, hwE⟩
      clear hR6 hU6 hRm b0 b1 b2 b3 b4 d0 d1 d2 d3 d4 hf4 hl4 hl9 c0 c1 c2 c3 c4 HN
      obtain ⟨d0, d1, d2, d3, d4⟩ := El.zero_cells HN6.out.b4
      have hf4 := free_of HN6.out.b4
      have hl4 := lt_of_heap HN6.out.b4
      obtain ⟨c0, c1, c2, c3, c4⟩ := HN6.out.rf.cells
      go_wp2_with fail
      refine (c25n _ n n (raiseL s.ms i a) _ (IntsRd.ofRow HN6.out.rf.hm) HN6.out.rf.ln.ms (by omega)).mono ?_
      rw [HMM.out]
      rintro x w7 ⟨rfl, rfl⟩
      by_cases hro : M0 < M
      · have hre := HRE.out
        rw [HM0.out, HMM.out, if_pos hro] at hre
        have HRE := Lib.hid hre
        clear hre
        go_wp2_with fail
        have hG := HN6.out.rf.setEl w.heap.size hwE (.int .i64 2) (.string ⟨#[]⟩) (.int .i64 0) (.int .i64 0) (.int .i64 M)
        have hU := HN6.out.u.setEl w.heap.size (fun h => absurd h (Nat.lt_irrefl _)) (.int .i64 2) (.string ⟨#[]⟩) (.int .i64 0) (.int .i64 0) (.int .i64 M)
        obtain rfl := HRE.out
        exact bodyPost_ret (v := .tuple #[El.val ⟨2, ⟨#[]⟩, 0, 0, M⟩, .int .i64 i, .bool true]) (by simp [results, Try.results47, go_sem, d0, d1, d2, d3, d4]) rfl ⟨rfl, ⟨_, hG⟩, hU⟩
      · have hre := HRE.out
        rw [HM0.out, HMM.out, if_neg hro] at hre
        have HRE := Lib.hid hre
        clear hre
        go_wp2_with fail
        have hG := HN6.out.rf.setEl w.heap.size hwE (.int .i64 0) (.string ⟨#[]⟩) (.int .i64 0) (.int .i64 0) (.int .i64 0)
        have hU := HN6.out.u.setEl w.heap.size (fun h => absurd h (Nat.lt_irrefl _)) (.int .i64 0) (.string ⟨#[]⟩) (.int .i64 0) (.int .i64 0) (.int .i64 0)
        obtain rfl := HRE.out
        exact bodyPost_ret (v := .tuple #[El.val El.zero, .int .i64 i, .bool true]) (by simp [results, Try.results47, go_sem, El.zero, d0, d1, d2, d3, d4]) rfl ⟨rfl, ⟨_, hG⟩, hU⟩
    · by_cases k3 : k = 3
      · subst k3
        have hres := taken_bar HPL.out rfl
        rw [← HRES.out] at hres
        dsimp only at hres
        have ha1 : 1 ≤ a := by have := HME.out; simp [mayB] at this; omega
        obtain ⟨bs, hbs⟩ : ∃ bs, s.bs = bs := ⟨_, rfl⟩
        have hlb : bs.length = n := by rw [← hbs]; exact HH.out.ln.bs
        obtain ⟨RB, hRB⟩ : ∃ RB, barR (s.setPipe i l) i a = RB := ⟨_, rfl⟩
        rw [hRB] at hres
        have HRE := Lib.hid hres
        have HRB := Lib.hid hRB
        have HBS : Hid ((s.setPipe i l).bs = bs) := Lib.hid hbs
        have HLB := Lib.hid hlb
        obtain ⟨c0, c1, c2, c3, c4⟩ := HN.out.rf.cells
        have hlk := lt_of_heap HN.out.rf.hk
        clear hres hRB hbs hlb
        go_wp2_with fail
        go_loop [12, 13] (fun tg tk => ∃ k : Nat, k ≤ n ∧ tk = .int .i64 k ∧ tg = .int .i64 (grtL (bs.take k))) (fun _ tk => n - (intOf tk).toNat)
        case atStart => exact ⟨0, by omega, rfl, rfl⟩
        case round =>
          obtain ⟨q, hq, rfl, rfl⟩ := hrel
          have q0 : (0 : Int) ≤ q := by omega
          by_cases hlt : q < n
          · have q1 : (q : Int) < n := by omega
            obtain ⟨x, hx⟩ : ∃ x, bs[q]? = some x := ⟨_, List.getElem?_eq_getElem (by rw [HLB.out]; exact hlt)⟩
            have hcb := HN.out.rf.cellB hlt
            have hbk : (s.setPipe i l).blk q = x := by unfold GS.blk; rw [HBS.out]; simp [hx]
            rw [hbk] at hcb
            have hgs := grtL_snoc (bs.take q) x
            rw [← take_snoc_get hx] at hgs
            have HGS := Lib.hid hgs
            generalize grtL (bs.take q) = gq at *
            clear hgs hx hbk
            by_cases hgx : gq < x
            · go_wp2_with fail
              exact ⟨⟨q + 1, by omega, by go_num, by rw [HGS.out, if_pos hgx]⟩, by simp [intOf]; omega⟩
            · go_wp2_with fail
              exact ⟨⟨q + 1, by omega, by go_num, by rw [HGS.out, if_neg hgx]⟩, by simp [intOf]; omega⟩
          · obtain rfl : n = q := by omega
            have htk : bs.take n = bs := List.take_of_length_le (by rw [HLB.out]; exact Nat.le_refl _)
            simp only [htk]
            have HAN := Lib.hid (grtL_any (a := a) (by omega) bs)
            clear htk
            by_cases hgr : a < grtL bs
            · have hr : RB = (El.zero, s.setPipe i l) := by
                rw [← HRB.out]
                unfold barR
                rw [if_pos (by rw [HBS.out]; exact HAN.out.1 hgr)]
              have hre := HRE.out
              rw [hr] at hre
              have HRE := Lib.hid hre
              generalize grtL bs = gq at *
              clear hre hr
              go_wp2_with fail
              have hG := HN.out.rf.setEl w.heap.size hwE (.int .i64 0) (.string ⟨#[]⟩) (.int .i64 0) (.int .i64 0) (.int .i64 0)
              have hU := HN.out.u.setEl w.heap.size (fun h => absurd h (Nat.lt_irrefl _)) (.int .i64 0) (.string ⟨#[]⟩) (.int .i64 0) (.int .i64 0) (.int .i64 0)
              obtain rfl := HRE.out
              exact bodyPost_ret (v := .tuple #[El.val El.zero, .int .i64 i, .bool true]) (by simp [results, Try.results47, go_sem, El.zero, d0, d1, d2, d3, d4]) rfl ⟨rfl, ⟨_, hG⟩, hU⟩
            · have hno : Hid ((s.setPipe i l).bs.any (fun b => decide (a < b)) = false) := Lib.hid (by
                rw [HBS.out]
                cases h : bs.any (fun b => decide (a < b)) with
                | false => rfl
                | true => exact absurd (HAN.out.2 h) hgr)
              generalize grtL bs = gq at *
              have HNB := Lib.hid (HN.out.drew.setB i a)
              obtain ⟨b1, hb1⟩ : ∃ b1, (s.setPipe i l).bs.set i a = b1 := ⟨_, rfl⟩
              have hb1l : b1.length = n := by rw [← hb1, List.length_set, HBS.out]; exact HLB.out
              have HB1L := Lib.hid hb1l
              have HB1E := Lib.hid hb1
              have HSA : Hid (w5.drew.cell? ⟨R.r, 3, none⟩ = some (.slice (some ⟨R.k, 0, none⟩) n n) ∧ w5.drew.cell? ⟨w2.heap.size, 4, none⟩ = some (.int .i64 a)) := Lib.hid ⟨c3, b4⟩
              have HSB := Lib.hid (show _ ∧ _ from ⟨HNB.out.rf.cells.2.2.2.1, (El.box_cells HNB.out.b9).2.2.2.2⟩)
              have hck : w5.drew.cell? ⟨R.k, i, none⟩ = _ := HN.out.drew.rf.cellB hin
              have hfk : w5.drew.frozen? ⟨R.k, i, none⟩ = false := free_of HN.out.drew.rf.hk i
              clear hb1 hb1l
              go_wp2_with fail
              go_region_held3 (fun w' => w'.cell? ⟨R.r, 3, none⟩ = some (.slice (some ⟨R.k, 0, none⟩) n n) ∧ w'.cell? ⟨w2.heap.size, 4, none⟩ = some (.int .i64 a))
                (first | exact HSA.out | exact HSB.out)
                (fail)
              have hmid := HNB.out
              rw [HB1E.out, ← lowL_zero a b1] at hmid
              have HMID := Lib.hid hmid
              clear hmid HNB HSA HSB hck hfk c0 c1 c2 c3 c4 b0 b2 b3 b4 d0 d1 d2 d3 d4 hf4 hl4 hl9 hlk
              go_wp2_with fail
              go_loopw [14, 15] (fun tb tk wr => ∃ q : Nat, q ≤ n ∧ tk = .int .i64 q ∧ tb = .bool (decide (cntL a (b1.take q) = 0)) ∧ NxMid w wr D E R room n w2.heap.size (vs.set i (.slice A4 l.length cap4)) ((s.setPipe i l).setBs (lowL a q b1)) ⟨3, key, t, v, a⟩) (fun _ tk _ => n - (intOf tk).toNat)
              case atStart => exact ⟨0, by omega, rfl, rfl, HMID.out⟩
              case round =>
                obtain ⟨q, hq, rfl, rfl, hM⟩ := hrel
                have HM := Lib.hid hM
                clear hM
                obtain ⟨c0, c1, c2, c3, c4⟩ := HM.out.rf.cells
                by_cases hlt : q < n
                · obtain ⟨x, hx⟩ : ∃ x, b1[q]? = some x := ⟨_, List.getElem?_eq_getElem (by rw [HB1L.out]; exact hlt)⟩
                  have q0 : (0 : Int) ≤ q := by omega
                  have q1 : (q : Int) < n := by omega
                  have hcb := HM.out.rf.cellB hlt
                  rw [blk_setBs, lowL_get a q b1 x hx] at hcb
                  have hcs := cntL_snoc a (b1.take q) x
                  rw [← take_snoc_get hx] at hcs
                  have HX := Lib.hid hx
                  have HSA : Hid (wr.drew.cell? ⟨R.r, 3, none⟩ = some (.slice (some ⟨R.k, 0, none⟩) n n) ∧ wr.drew.cell? ⟨R.k, q, none⟩ = some (.int .i64 x) ∧ wr.drew.cell? ⟨w2.heap.size, 4, none⟩ = some (.int .i64 a)) := Lib.hid ⟨c3, hcb, (El.box_cells HM.out.b9).2.2.2.2⟩
                  have hfk := free_of HM.out.rf.hk q
                  have hlk := lt_of_heap HM.out.rf.hk
                  have hnr : R.r ≠ R.k := ne_of_type HM.out.rf.hr HM.out.rf.hk (by decide)
                  clear hx
                  by_cases hxa : x < a
                  · rw [if_pos hxa] at hcs
                    have hls := lowL_succ a q b1 x HX.out
                    have e0 : lowN a x = 0 := if_pos hxa
                    rw [e0] at hls
                    have hN := HM.out.drew.setB q 0
                    have HMN : Hid (NxMid w (wr.drew.setCell ⟨R.k, q, none⟩ (.int .i64 0)) D E R room n w2.heap.size (vs.set i (.slice A4 l.length cap4)) ((s.setPipe i l).setBs (lowL a (q + 1) b1)) ⟨3, key, t, v, a⟩) := Lib.hid (by rw [← hls]; exact hN)
                    have HCS := Lib.hid hcs
                    have hd : decide (x < a) = true := decide_eq_true hxa
                    generalize cntL a (b1.take q) = cc at *
                    clear hcs hls e0 hN
                    go_wp2_with fail
                    go_region_held3 (fun w' => w'.cell? ⟨R.r, 3, none⟩ = some (.slice (some ⟨R.k, 0, none⟩) n n) ∧ w'.cell? ⟨R.k, q, none⟩ = some (.int .i64 x) ∧ w'.cell? ⟨w2.heap.size, 4, none⟩ = some (.int .i64 a))
                      (first | exact HSA.out)
                      (fail)
                    go_wp2_with fail
                    go_roundw
                    case rel => exact ⟨q + 1, by omega, by go_num, by rw [HCS.out]; simp, HMN.out⟩
                    case measure => simp [intOf]; omega
                  · rw [if_neg hxa] at hcs
                    have hls := lowL_same a q b1 x HX.out hxa
                    have HCS := Lib.hid hcs
                    have HLS := Lib.hid hls
                    have hd : decide (x < a) = false := decide_eq_false hxa
                    generalize cntL a (b1.take q) = cc at *
                    clear hcs hls
                    go_wp2_with fail
                    go_region_held3 (fun w' => w'.cell? ⟨R.r, 3, none⟩ = some (.slice (some ⟨R.k, 0, none⟩) n n) ∧ w'.cell? ⟨R.k, q, none⟩ = some (.int .i64 x) ∧ w'.cell? ⟨w2.heap.size, 4, none⟩ = some (.int .i64 a))
                      (first | exact HSA.out)
                      (fail)
                    go_wp2_with fail
                    go_roundw
                    case rel => exact ⟨q + 1, by omega, by go_num, by rw [HCS.out]; rfl, by rw [HLS.out]; exact HM.out.drew⟩
                    case measure => simp [intOf]; omega
                · obtain rfl : n = q := by omega
                  have htk : b1.take n = b1 := List.take_of_length_le (by rw [HB1L.out]; exact Nat.le_refl _)
                  have hall := lowL_all a b1 n (by rw [HB1L.out]; exact Nat.le_refl _)
                  rw [hall] at HM
                  have HCP := Lib.hid (cntL_pos a b1)
                  have hfb := free_of HM.out.b4
                  obtain ⟨d0, d1, d2, d3, d4⟩ := El.zero_cells HM.out.b4
                  have hb4 := (El.box_cells HM.out.b9).2.2.2.2
                  dsimp only at hb4
                  have hbs := lt_of_heap HM.out.b4
                  simp only [htk]
                  clear htk hall HMID
                  by_cases hc : 0 < cntL a b1
                  · have hr : RB = (El.zero, (s.setPipe i l).setBs (b1.map (lowN a))) := by
                      rw [← HRB.out]
                      unfold barR
                      rw [if_neg (by rw [hno.out]; decide), if_pos (by rw [HB1E.out]; exact HCP.out.1 hc), HB1E.out]
                    have hre := HRE.out
                    rw [hr] at hre
                    have HRE := Lib.hid hre
                    have hd : decide (cntL a b1 = 0) = false := decide_eq_false (by omega)
                    rw [hd]
                    clear hr hre hd
                    go_wp2_with fail
                    have hG := HM.out.rf.setEl w.heap.size hwE (.int .i64 0) (.string ⟨#[]⟩) (.int .i64 0) (.int .i64 0) (.int .i64 0)
                    have hU := HM.out.u.setEl w.heap.size (fun h => absurd h (Nat.lt_irrefl _)) (.int .i64 0) (.string ⟨#[]⟩) (.int .i64 0) (.int .i64 0) (.int .i64 0)
                    obtain rfl := HRE.out
                    exact bodyPost_ret (v := .tuple #[El.val El.zero, .int .i64 i, .bool true]) (by simp [results, Try.results47, go_sem, El.zero, d0, d1, d2, d3, d4]) rfl ⟨rfl, ⟨_, hG⟩, hU⟩
                  · have hz0 : cntL a b1 = 0 := by omega
                    have hr : RB = (⟨3, ⟨#[]⟩, 0, 0, a⟩, (s.setPipe i l).setBs (List.replicate n 0)) := by
                      rw [← HRB.out]
                      unfold barR
                      rw [if_neg (by rw [hno.out]; decide), if_neg (by rw [HB1E.out]; exact fun h => hc (HCP.out.2 h)), HBS.out, HLB.out]
                    have hre := HRE.out
                    rw [hr] at hre
                    have HRE := Lib.hid hre
                    have hd : decide (cntL a b1 = 0) = true := decide_eq_true hz0
                    rw [hd]
                    obtain ⟨b2l, hb2⟩ : ∃ b2l, b1.map (lowN a) = b2l := ⟨_, rfl⟩
                    have hb2l : b2l.length = n := by rw [← hb2, List.length_map]; exact HB1L.out
                    rw [hb2] at HM
                    have HB2L := Lib.hid hb2l
                    have hM3 := HM.out
                    rw [← zeroL_zero b2l] at hM3
                    have HM3 := Lib.hid hM3
                    clear hr hre hd hz0 hc hM3 hb2 hb2l HM HCP d0 d1 d2 d3 d4 hfb hbs hb4
                    go_wp2_with fail
                    clear c0 c1 c2 c3 c4
                    go_loopw [16] (fun tk wr => ∃ q : Nat, q ≤ n ∧ tk = .int .i64 q ∧ NxMid w wr D E R room n w2.heap.size (vs.set i (.slice A4 l.length cap4)) ((s.setPipe i l).setBs (zeroL q b2l)) ⟨3, key, t, v, a⟩) (fun tk _ => n - (intOf tk).toNat)
                    case atStart => exact ⟨0, by omega, rfl, HM3.out⟩
                    case round =>
                      obtain ⟨q, hq, rfl, hM⟩ := hrel
                      have HM := Lib.hid hM
                      clear hM
                      obtain ⟨c0, c1, c2, c3, c4⟩ := HM.out.rf.cells
                      by_cases hlt : q < n
                      · have q0 : (0 : Int) ≤ q := by omega
                        have q1 : (q : Int) < n := by omega
                        have hcb := HM.out.rf.cellB hlt
                        have hfk := free_of HM.out.rf.hk q
                        have hlk := lt_of_heap HM.out.rf.hk
                        have hnr : R.r ≠ R.k := ne_of_type HM.out.rf.hr HM.out.rf.hk (by decide)
                        have hN := HM.out.setB q 0
                        have HMN : Hid (NxMid w (_root_.Go.World.setCell _ ⟨R.k, q, none⟩ (.int .i64 0)) D E R room n w2.heap.size (vs.set i (.slice A4 l.length cap4)) ((s.setPipe i l).setBs (zeroL (q + 1) b2l)) ⟨3, key, t, v, a⟩) := Lib.hid (by rw [← zeroL_succ q b2l (by rw [HB2L.out]; exact hlt)]; exact hN)
                        clear hN
                        go_wp2_with fail
                        go_roundw
                        case rel => exact ⟨q + 1, by omega, by go_num, HMN.out⟩
                        case measure => simp [intOf]; omega
                      · obtain rfl : n = q := by omega
                        have hall := zeroL_all b2l n HB2L.out
                        rw [hall] at HM
                        have hfb := free_of HM.out.b4
                        obtain ⟨d0, d1, d2, d3, d4⟩ := El.zero_cells HM.out.b4
                        have hb4 := (El.box_cells HM.out.b9).2.2.2.2
                        dsimp only at hb4
                        have hbs := lt_of_heap HM.out.b4
                        clear hall
                        go_wp2_with fail
                        have hG := HM.out.rf.setEl w.heap.size hwE (.int .i64 3) (.string ⟨#[]⟩) (.int .i64 0) (.int .i64 0) (.int .i64 a)
                        have hU := HM.out.u.setEl w.heap.size (fun h => absurd h (Nat.lt_irrefl _)) (.int .i64 3) (.string ⟨#[]⟩) (.int .i64 0) (.int .i64 0) (.int .i64 a)
                        rw [HB2L.out] at hG
                        obtain rfl := HRE.out
                        exact bodyPost_ret (v := .tuple #[El.val ⟨3, ⟨#[]⟩, 0, 0, a⟩, .int .i64 i, .bool true]) (by simp [results, Try.results47, go_sem, d0, d1, d2, d3, d4]) rfl ⟨rfl, ⟨_, hG⟩, hU⟩
      · have k1 : k = 1 := by
          refine Classical.byContradiction fun h1 => ?_
          have := HME.out
          simp [mayB, h1, k2, k3] at this
        subst k1
        have hres := taken_rec HPL.out k2 k3
        rw [← HRES.out] at hres
        have HRE := Lib.hid hres
        clear hres
        go_wp2_with fail
        have hG := HN.out.rf.setEl w.heap.size hwE (.int .i64 1) (.string key) (.int .i64 t) (.int .i64 v) (.int .i64 a)
        have hU := HN.out.u.setEl w.heap.size (fun h => absurd h (Nat.lt_irrefl _)) (.int .i64 1) (.string key) (.int .i64 t) (.int .i64 v) (.int .i64 a)
        obtain rfl := HRE.out
        exact bodyPost_ret (v := .tuple #[El.val ⟨1, key, t, v, a⟩, .int .i64 i, .bool true]) (by simp [results, Try.results47, go_sem, d0, d1, d2, d3, d4]) rfl ⟨rfl, ⟨_, hG⟩, hU⟩
end Go.Proofs.Ytijkcahdegohiaa
