/-
  The reference's gate in memory: what its blocks hold, how an operation on one of its parts leaves the others; Place and Ready.
-/
import Derived.Test.YtijkcahdegohiaaNest
import Derived.Test.YtijkcahdegohiaaPlainA
namespace Go.Proofs.Ytijkcahdegohiaa
open Go.RowKit
attribute [local go_sem ↓] Go.wp_at_zero Go.wp_at_succ

/-- Where its parts lie: the gate, the lists, the marks, by what blocked, the last barriers. -/
structure RLoc where
  r : Nat
  b : Nat
  m : Nat
  k : Nat
  t : Nat
/-- The reference's gate, its parts where R says, in the blocks from D up to E. -/
structure RefAt (w : World) (D E : Nat) (R : RLoc) (room n : Nat) (vs : List Value) (s : GS) : Prop where
  n1 : 1 ≤ n
  n8 : n ≤ 8
  hr : w.heap[R.r]? = some (.cells #[.int .i64 room, .slice (some ⟨R.b, 0, none⟩) n n, .slice (some ⟨R.m, 0, none⟩) n n, .slice (some ⟨R.k, 0, none⟩) n n, .slice (some ⟨R.t, 0, none⟩) n n] 79 (0, 0))
  ns : NestAt w D R.b n vs s.ls
  hm : w.heap[R.m]? = some (.cells (intRow s.ms) 3 (0, 0))
  hk : w.heap[R.k]? = some (.cells (intRow s.bs) 3 (0, 0))
  ht : w.heap[R.t]? = some (.cells (intRow s.ts) 3 (0, 0))
  nmk : R.m ≠ R.k
  nmt : R.m ≠ R.t
  nkt : R.k ≠ R.t
  dr : D ≤ R.r ∧ D ≤ R.m ∧ D ≤ R.k ∧ D ≤ R.t
  er : R.r < E ∧ R.b < E ∧ R.m < E ∧ R.k < E ∧ R.t < E
  eo : ∀ i j, i < n → (vs.getD i nilS).ownBlock = some j → j < E
  hE : E ≤ w.heap.size
  ln : Lens s n

section
variable {w w' : World} {D E : Nat} {R : RLoc} {room n : Nat} {vs : List Value} {s : GS}
/-- Nothing of it was turned. -/
theorem RefAt.upd {S : Nat → Prop} (h : RefAt w D E R room n vs s) (hU : Upd S w w') (hS : ∀ k, D ≤ k → k < E → ¬ S k) : RefAt w' D E R room n vs s := by
  obtain ⟨n1, n8, hr, ns, hm, hk, ht, a, b, c, ⟨d1, d2, d3, d4⟩, ⟨e1, e2, e3, e4, e5⟩, eo, hE, ln⟩ := h
  refine ⟨n1, n8, hU.at hr (hS _ d1 e1), ⟨hU.at ns.hb (hS _ ns.lb e2), ns.lb, ns.lv, ns.lr, fun i hi => (ns.own i hi).upd hU (fun j hj => hS j ((ns.own i hi).lt hj).1 (eo i j hi hj)), ns.inj⟩,
    hU.at hm (hS _ d2 e3), hU.at hk (hS _ d3 e4), hU.at ht (hS _ d4 e5), a, b, c, ⟨d1, d2, d3, d4⟩, ⟨e1, e2, e3, e4, e5⟩, eo, Nat.le_trans hE hU.size, ln⟩
theorem RefAt.upd0 (h : RefAt w D E R room n vs s) (hU : Upd (fun _ => False) w w') : RefAt w' D E R room n vs s := h.upd hU (fun _ _ _ h => h)
theorem RefAt.grow (h : RefAt w D E R room n vs s) : RefAt w D w.heap.size R room n vs s := by
  obtain ⟨n1, n8, hr, ns, hm, hk, ht, a, b, c, dr, ⟨e1, e2, e3, e4, e5⟩, eo, hE, ln⟩ := h
  exact ⟨n1, n8, hr, ns, hm, hk, ht, a, b, c, dr, ⟨by omega, by omega, by omega, by omega, by omega⟩, fun i j hi hj => by have := eo i j hi hj; omega, Nat.le_refl _, ln⟩
/-- A cell of the marks, of the blocks, of the last barriers was turned. -/
theorem RefAt.setM (h : RefAt w D E R room n vs s) (i : Nat) (x : Int) : RefAt (w.setCell ⟨R.m, i, none⟩ (.int .i64 x)) D E R room n vs (s.setMs (s.ms.set i x)) := by
  obtain ⟨n1, n8, hr, ns, hm, hk, ht, a, b, c, dr, er, eo, hE, ln⟩ := h
  have hV : Upd (fun j => j = R.m) w (w.setCell ⟨R.m, i, none⟩ (.int .i64 x)) := Upd.setCell (S := fun j => j = R.m) (p := ⟨R.m, i, none⟩) (Upd.refl _ _) (fun _ => rfl) _
  exact ⟨n1, n8, hV.at hr (fun e => ne_of_type hr hm (by decide) e), ns.other hV (fun j cs t m h3 h4 => by
      subst h3
      have e := hm.symm.trans h4
      injection e with e
      injection e with _ e2
      subst e2
      exact ⟨by decide, by decide⟩), by rw [heap_set hm, intRow_set]; rfl, hV.at hk (fun e => a e.symm), hV.at ht (fun e => b e.symm), a, b, c, dr, er, eo, Nat.le_trans hE hV.size, ⟨ln.ls, by simpa [GS.setMs] using ln.ms, ln.bs, ln.ts⟩⟩
theorem RefAt.setB (h : RefAt w D E R room n vs s) (i : Nat) (x : Int) : RefAt (w.setCell ⟨R.k, i, none⟩ (.int .i64 x)) D E R room n vs (s.setBs (s.bs.set i x)) := by
  obtain ⟨n1, n8, hr, ns, hm, hk, ht, a, b, c, dr, er, eo, hE, ln⟩ := h
  have hV : Upd (fun j => j = R.k) w (w.setCell ⟨R.k, i, none⟩ (.int .i64 x)) := Upd.setCell (S := fun j => j = R.k) (p := ⟨R.k, i, none⟩) (Upd.refl _ _) (fun _ => rfl) _
  exact ⟨n1, n8, hV.at hr (fun e => ne_of_type hr hk (by decide) e), ns.other hV (fun j cs t m h3 h4 => by
      subst h3
      have e := hk.symm.trans h4
      injection e with e
      injection e with _ e2
      subst e2
      exact ⟨by decide, by decide⟩), hV.at hm a, by rw [heap_set hk, intRow_set]; rfl, hV.at ht (fun e => c e.symm), a, b, c, dr, er, eo, Nat.le_trans hE hV.size, ⟨ln.ls, ln.ms, by simpa [GS.setBs] using ln.bs, ln.ts⟩⟩
theorem RefAt.setT (h : RefAt w D E R room n vs s) (i : Nat) (x : Int) : RefAt (w.setCell ⟨R.t, i, none⟩ (.int .i64 x)) D E R room n vs (s.setTs (s.ts.set i x)) := by
  obtain ⟨n1, n8, hr, ns, hm, hk, ht, a, b, c, dr, er, eo, hE, ln⟩ := h
  have hV : Upd (fun j => j = R.t) w (w.setCell ⟨R.t, i, none⟩ (.int .i64 x)) := Upd.setCell (S := fun j => j = R.t) (p := ⟨R.t, i, none⟩) (Upd.refl _ _) (fun _ => rfl) _
  exact ⟨n1, n8, hV.at hr (fun e => ne_of_type hr ht (by decide) e), ns.other hV (fun j cs t m h3 h4 => by
      subst h3
      have e := ht.symm.trans h4
      injection e with e
      injection e with _ e2
      subst e2
      exact ⟨by decide, by decide⟩), hV.at hm b, hV.at hk c, by rw [heap_set ht, intRow_set]; rfl, a, b, c, dr, er, eo, Nat.le_trans hE hV.size, ⟨ln.ls, ln.ms, ln.bs, by simpa [GS.setTs] using ln.ts⟩⟩
/-- Row i has become l, its slice v', in the block it had or in a new one. -/
theorem RefAt.row (h : RefAt w D E R room n vs s) {i : Nat} (hi : i < n) {l : List El} {v' : Value} {w1 : World} {E' : Nat} (hO : OwnAt w1 D 46 5 v' l.length (slotsVals l)) (hU : Upd (fun k => (vs.getD i nilS).ownBlock = some k) w w1)
    (hv : v'.ownBlock = (vs.getD i nilS).ownBlock ∨ ∃ g, v'.ownBlock = some g ∧ w.heap.size ≤ g) (hEE : E ≤ E') (hE' : E' ≤ w1.heap.size) (hvE : ∀ j, v'.ownBlock = some j → j < E') :
    RefAt (w1.setCell ⟨R.b, i, none⟩ v') D E' R room n (vs.set i v') (s.setPipe i l) ∧ Upd (fun k => k = R.b ∨ (vs.getD i nilS).ownBlock = some k) w (w1.setCell ⟨R.b, i, none⟩ v') := by
  obtain ⟨n1, n8, hr, ns, hm, hk, ht, a, b, c, dr, ⟨e1, e2, e3, e4, e5⟩, eo, hE, ln⟩ := h
  obtain ⟨hN, hV⟩ := ns.set hi hO hU hv
  have far : ∀ {k : Nat} {c : Array Value} {t : TypeId} {m : Nat × Nat}, w.heap[k]? = some (.cells c t m) → t ≠ 52 → t ≠ 46 → ¬ (k = R.b ∨ (vs.getD i nilS).ownBlock = some k) := fun hk h1 h2 h3 => by
    rcases h3 with h3 | h3
    · exact ne_of_type hk ns.hb h1 h3
    · exact ns.far hi hk h2 h3
  refine ⟨⟨n1, n8, hV.at hr (far hr (by decide) (by decide)), hN, hV.at hm (far hm (by decide) (by decide)), hV.at hk (far hk (by decide) (by decide)), hV.at ht (far ht (by decide) (by decide)), a, b, c, dr, ⟨by omega, by omega, by omega, by omega, by omega⟩,
    fun j x hj hx => ?_, ?_, ln.setPipe i l⟩, hV⟩
  · by_cases hij : i = j
    · subst hij
      rw [getD_set_eq _ _ _ _ (by rw [ns.lv]; exact hi)] at hx
      exact hvE x hx
    · rw [getD_set_ne' _ _ _ _ _ hij] at hx
      have := eo j x hj hx; omega
  · have : (w1.setCell ⟨R.b, i, none⟩ v').heap.size = w1.heap.size := by simp [World.setCell]
    omega

/-- The cells that a walk reads. -/
theorem RefAt.cells (h : RefAt w D E R room n vs s) : w.cell? ⟨R.r, 0, none⟩ = some (.int .i64 room) ∧ w.cell? ⟨R.r, 1, none⟩ = some (.slice (some ⟨R.b, 0, none⟩) n n) ∧ w.cell? ⟨R.r, 2, none⟩ = some (.slice (some ⟨R.m, 0, none⟩) n n)
    ∧ w.cell? ⟨R.r, 3, none⟩ = some (.slice (some ⟨R.k, 0, none⟩) n n) ∧ w.cell? ⟨R.r, 4, none⟩ = some (.slice (some ⟨R.t, 0, none⟩) n n) :=
  ⟨cell_of h.hr 0 _ rfl, cell_of h.hr 1 _ rfl, cell_of h.hr 2 _ rfl, cell_of h.hr 3 _ rfl, cell_of h.hr 4 _ rfl⟩
theorem RefAt.cellL (h : RefAt w D E R room n vs s) {i : Nat} (hi : i < n) : ∃ A cap, vs.getD i nilS = .slice A (s.pipe i).length cap ∧ w.cell? ⟨R.b, i, none⟩ = some (.slice A (s.pipe i).length cap) := by
  obtain ⟨A, cap, hv⟩ := h.ns.shape hi
  exact ⟨A, cap, hv, by rw [h.ns.cell hi, hv]; rfl⟩
theorem RefAt.cellM (h : RefAt w D E R room n vs s) {i : Nat} (hi : i < n) : w.cell? ⟨R.m, i, none⟩ = some (.int .i64 (s.ms.getD i 0)) :=
  cell_of h.hm i _ (intRow_get _ _ _ (by simp [List.getElem?_eq_getElem (show i < s.ms.length by rw [h.ln.ms]; exact hi)]))
theorem RefAt.cellB (h : RefAt w D E R room n vs s) {i : Nat} (hi : i < n) : w.cell? ⟨R.k, i, none⟩ = some (.int .i64 (s.blk i)) :=
  cell_of h.hk i _ (intRow_get _ _ _ (by simp [GS.blk, List.getElem?_eq_getElem (show i < s.bs.length by rw [h.ln.bs]; exact hi)]))
theorem RefAt.cellT (h : RefAt w D E R room n vs s) {i : Nat} (hi : i < n) : w.cell? ⟨R.t, i, none⟩ = some (.int .i64 (s.lst i)) :=
  cell_of h.ht i _ (intRow_get _ _ _ (by simp [GS.lst, List.getElem?_eq_getElem (show i < s.ts.length by rw [h.ln.ts]; exact hi)]))
end

set_option maxRecDepth 100000 in
set_option maxHeartbeats 1600000 in
theorem c58 (pick : Int) (m : Nat) (w : World) (hp0 : -9223372036854775808 ≤ pick) (hp1 : pick ≤ 9223372036854775807) (hm : 0 < m) :
    Calls Try.prog 58 #[.int .i64 pick, .int .i64 m] w fun x w' => x = .returned (.int .i64 (placeN pick m)) ∧ w = w' := by
  have hq0 : 0 ≤ pickQ pick := by unfold pickQ; split <;> omega
  obtain ⟨q, hq⟩ := Int.eq_ofNat_of_zero_le hq0
  have hpl : placeN pick m = q % m := by unfold placeN; rw [hq]; omega
  have HPL := Lib.hid hpl
  have HQ := Lib.hid hq
  have hm0 : ¬ (m : Int) = 0 := by omega
  have ht : Int.tmod (q : Int) m = ((q % m : Nat) : Int) := by rw [Int.tmod_eq_emod_of_nonneg (by omega)]; rfl
  rw [hpl]
  generalize q % m = z at *
  clear hpl hq hq0
  rcases Int.lt_or_le pick 0 with hpn | hpn
  · have hqn : -(pick + 1) = (q : Int) := by have := HQ.out; unfold pickQ at this; rw [if_pos hpn] at this; exact this
    go_enter Try.func58, Try.ntmps58
    go_wp2_with fail
    go_ret
    exact ⟨rfl, rfl⟩
  · have hqn : pick = (q : Int) := by have := HQ.out; unfold pickQ at this; rw [if_neg (by omega)] at this; exact this
    subst hqn
    have hpn' : ¬ (q : Int) < 0 := by omega
    go_enter Try.func58, Try.ntmps58
    go_wp2_with fail
    go_ret
    exact ⟨rfl, rfl⟩

/-- What holds at each round's head of Ready. -/
structure ReadyMid (w wr : World) (v : Value) (r : List Nat) : Prop where
  u : Upd (fun _ => False) w wr
  own : OwnAt wr w.heap.size 3 1 v r.length (natVals r)

set_option maxRecDepth 100000 in
set_option maxHeartbeats 3200000 in
theorem c57 {w : World} {D E : Nat} {R : RLoc} {room n : Nat} {vs : List Value} {s : GS} (h : RefAt w D E R room n vs s) :
    Calls Try.prog 57 #[ptr R.r] w fun x w' => (∃ v, x = .returned v ∧ OwnAt w' w.heap.size 3 1 v s.ready.length (natVals s.ready)) ∧ Upd (fun _ => False) w w' := by
  have HR := Lib.hid h
  have HLL := Lib.hid h.ln.ls
  have hn8 := h.n8
  obtain ⟨c0, c1, c2, c3, c4⟩ := h.cells
  clear h
  go_enter Try.func57, Try.ntmps57
  go_wp2_with fail
  clear c0 c1 c2 c3 c4
  go_loopw [3, 4] (fun v ix wr => ∃ k : Nat, k ≤ n ∧ ix = .int .i64 k ∧ ReadyMid w wr v (readyK s k)) (fun _ ix _ => n - (intOf ix).toNat)
  case atStart => exact ⟨0, by omega, rfl, Upd.refl _ _, OwnAt.nil _ _ _ _⟩
  case round =>
    obtain ⟨k, hk, rfl, hM⟩ := hrel
    have HM := Lib.hid hM
    obtain ⟨vA, vcap, rfl⟩ := hM.own.shape
    have hkl := readyK_length s k
    have hrr := HR.out.upd0 hM.u
    obtain ⟨c0, c1, c2, c3, c4⟩ := hrr.cells
    have HRR := Lib.hid hrr
    clear hM hrr
    by_cases hlt : k < n
    · have d1 := HRR.out.cellB hlt
      obtain ⟨pA, pcap, _, d2⟩ := HRR.out.cellL hlt
      have a1 : (0 : Int) ≤ k := by omega
      have a2 : (k : Int) < n := by omega
      have HS := Lib.hid (readyK_succ s k)
      by_cases hb0 : s.blk k = 0
      · rw [hb0] at d1
        by_cases hpe : s.pipe k = []
        · have hs : readyK s (k + 1) = readyK s k := by rw [HS.out]; simp [GS.isReady, hpe]
          have HE := Lib.hid hs
          have hlp : (s.pipe k).length = 0 := by rw [hpe]; rfl
          rw [hlp] at d2
          clear hs hpe
          go_wp2_with fail
          exact ⟨⟨k + 1, by omega, by go_num, by rw [HE.out]; exact HM.out⟩, by simp [intOf]; omega⟩
        · have hs : readyK s (k + 1) = readyK s k ++ [k] := by rw [HS.out]; simp [GS.isReady, hpe, hb0]
          have HE := Lib.hid hs
          have hlp : 0 < (s.pipe k).length := List.length_pos_iff.2 hpe
          have hn8' : (readyK s k).length ≤ 100000 := by omega
          have HOA := Lib.hid (HM.out.own.upd ((Upd.refl (fun _ => False) _).alloc (.cells #[.int .i64 k] 3 (0, 0))) (fun _ _ h => h))
          have HU3 := Lib.hid (((Upd.refl (fun k' => (Value.slice vA (readyK s k).length vcap).ownBlock = some k') wr).alloc (.cells #[.int .i64 k] 3 (0, 0))))
          have HB8 : Hid (w.heap.size ≤ (wr.alloc (.cells #[.int .i64 k] 3 (0, 0))).heap.size) := Lib.hid (by have := HM.out.u.size; simp; omega)
          have hcb : (wr.alloc (.cells #[.int .i64 k] 3 (0, 0))).cell? ⟨wr.heap.size, 0, none⟩ = some (.int .i64 k) := cell_of (by rw [heapK_alloc, if_pos rfl]) 0 _ rfl
          generalize (s.pipe k).length = q at *
          clear hs hpe
          go_wp2_with (at_builtin; refine wpList_append_int rfl (.tmp 33) (.tmp 35) rfl (.slice vA (readyK s k).length vcap) (readyK s k).length (natVals (readyK s k)) rfl HOA.out wr.heap.size k rfl hcb hn8' HB8.out ?_; intro v' w4 hO4 hU4 hv4; (have HO4 := Lib.hid hO4); (have HU4 := Lib.hid (HU3.out.step hU4 (fun _ _ h => h))); clear hO4 hU4 hv4)
          have hfar : ∀ k', (Value.slice vA (readyK s k).length vcap).ownBlock = some k' → w.heap.size ≤ k' := fun k' hk' => (HM.out.own.lt hk').1
          refine ⟨⟨k + 1, by omega, by go_num, ?_, ?_⟩, by simp [intOf]; omega⟩
          · exact HM.out.u.step HU4.out (fun j h1 e => by have := hfar j e; omega)
          · rw [HE.out, List.length_append]
            show OwnAt _ _ 3 1 v' ((readyK s k).length + 1) _
            unfold natVals
            rw [List.map_append]
            exact HO4.out
      · have hs : readyK s (k + 1) = readyK s k := by rw [HS.out]; simp [GS.isReady, hb0]
        have HE := Lib.hid hs
        clear hs
        go_wp2_with fail
        go_roundw
        case rel => exact ⟨k + 1, by omega, by go_num, by rw [HE.out]; exact HM.out⟩
        case measure => simp [intOf]; omega
    · obtain rfl : n = k := by omega
      have hrr : s.ready = readyK s n := by unfold GS.ready; rw [HLL.out]
      have HRQ := Lib.hid hrr
      clear hrr
      go_wp2_with fail
      go_ret
      exact ⟨⟨_, rfl, by rw [HRQ.out]; exact HM.out.own⟩, HM.out.u⟩
end Go.Proofs.Ytijkcahdegohiaa
