/-
  A gate's Next.
-/
import Derived.Test.YtijkcahdegohiaaGateC
import Derived.Test.YtijkcahdegohiaaOwn
namespace Go.Proofs.Ytijkcahdegohiaa
open Go.RowKit
attribute [local go_sem ↓] Go.wp_at_zero Go.wp_at_succ

/-! ### Plain -/
def GS.isReady (s : GS) (i : Nat) : Bool := decide (s.blk i = 0) && !(s.pipe i).isEmpty
def readyK (s : GS) (k : Nat) : List Nat := (List.range k).filter s.isReady
def GS.ready (s : GS) : List Nat := readyK s s.ls.length
def pickQ (pick : Int) : Int := if pick < 0 then -(pick + 1) else pick
def placeN (pick : Int) (m : Nat) : Nat := (pickQ pick % m).toNat
/-- What is told, and what the gate is, where the first of input i is taken. -/
def taken (s : GS) (i : Nat) : (El × Int × Bool) × GS :=
  if (popEl (s.pipe i)).kind = 2 then
    ((if leastL s.ms < leastL (raiseL s.ms i (popEl (s.pipe i)).at_) then ⟨2, ⟨#[]⟩, 0, 0, leastL (raiseL s.ms i (popEl (s.pipe i)).at_)⟩ else El.zero, i, true), (s.setPipe i (s.pipe i).tail).setMs (raiseL s.ms i (popEl (s.pipe i)).at_))
  else if (popEl (s.pipe i)).kind = 3 then (((barR (s.setPipe i (s.pipe i).tail) i (popEl (s.pipe i)).at_).1, i, true), (barR (s.setPipe i (s.pipe i).tail) i (popEl (s.pipe i)).at_).2)
  else ((popEl (s.pipe i), i, true), s.setPipe i (s.pipe i).tail)
def gNext (s : GS) (pick : Int) : (El × Int × Bool) × GS :=
  if s.ready = [] then ((El.zero, 0, false), s) else taken s (s.ready.getD (placeN pick s.ready.length) 0)
theorem readyK_succ (s : GS) (k : Nat) : readyK s (k + 1) = readyK s k ++ if s.isReady k = true then [k] else [] := by
  unfold readyK
  rw [List.range_succ, List.filter_append]
  congr 1
  cases h : s.isReady k <;> simp [h]
theorem readyK_length (s : GS) (k : Nat) : (readyK s k).length ≤ k := by
  refine Nat.le_trans (List.length_filter_le _ _) (by simp)
section
variable {s : GS} {i : Nat} {e : El} {l : List El} (h : s.pipe i = e :: l)
include h
theorem taken_mark (hk : e.kind = 2) : taken s i = ((if leastL s.ms < leastL (raiseL s.ms i e.at_) then ⟨2, ⟨#[]⟩, 0, 0, leastL (raiseL s.ms i e.at_)⟩ else El.zero, (i : Int), true), (s.setPipe i l).setMs (raiseL s.ms i e.at_)) := by
  unfold taken; rw [h]; exact if_pos hk
theorem taken_bar (hk : e.kind = 3) : taken s i = (((barR (s.setPipe i l) i e.at_).1, (i : Int), true), (barR (s.setPipe i l) i e.at_).2) := by
  unfold taken; rw [h]; exact (if_neg (by show ¬ e.kind = 2; omega)).trans (if_pos hk)
theorem taken_rec (hk : e.kind ≠ 2) (hk3 : e.kind ≠ 3) : taken s i = ((e, (i : Int), true), s.setPipe i l) := by
  unfold taken; rw [h]; exact (if_neg hk).trans (if_neg hk3)
end
theorem raiseL_length' (l : List Int) (i : Nat) (a : Int) : (raiseL l i a).length = l.length := by unfold raiseL; split <;> simp
def natVals (l : List Nat) : List Value := l.map fun (i : Nat) => Value.int .i64 (i : Int)
/-- append of one number onto a slice of numbers of the call's own. -/
theorem wpList_append_int {w : World} {ops : Array Oper} {rest : List Oper} {o : Oper} {a : Act} {Q : Exit → Act → World → Prop} (hgd : o.guard = none) (s x : Operand)
    (ho : o.op = .call { callee := .builtin .append, args := #[s, x], argTypes := #[30, 30] }) {B : Nat} (v : Value) (n : Nat) (xs : List Value) (hs : a.eval s = v) (h : OwnAt w B 3 1 v n xs)
    (b : Nat) (y : Int) (hx : a.eval x = .slice (some ⟨b, 0, none⟩) 1 1) (hb : w.cell? ⟨b, 0, none⟩ = some (.int .i64 y)) (hn : n ≤ 100000) (hB : B ≤ w.heap.size)
    (hK : ∀ v' w', OwnAt w' B 3 1 v' (n + 1) (xs ++ [.int .i64 y]) → Upd (fun k => v.ownBlock = some k) w w' → (v'.ownBlock = v.ownBlock ∨ ∃ g, v'.ownBlock = some g ∧ w.heap.size ≤ g) → wpList Try.prog ops Q rest (a.put o.dst v') w') : wpList Try.prog ops Q (o :: rest) a w := by
  obtain ⟨i, hi, hz, hsz, hby⟩ := info_parts Try.info3
  refine wpList_append_ownAt hgd s x 30 ho v n xs hs h i _ 8 Try.underlying30 hi hz hsz hby rfl (by decide) b [.int .i64 y] hx rfl (fun j u hu => ?_) (fun u hu => ?_) (by unfold maxLen; omega) (by omega) hB ?_
  · cases j with
    | zero => simp at hu; subst hu; exact hb
    | succ j => simp at hu
  · simp at hu; subst hu; rfl
  · intro v' w' h1 h2 h3
    exact hK v' w' h1 (OwnAt.owns_grown h2 (fun k hk _ => hk)) h3

theorem El.set_same {w : World} {b : Nat} {e : El} (h : w.heap[b]? = some e.obj) (e' : El) :
    (((((w.setCell ⟨b, 0, none⟩ (.int .i64 e'.kind)).setCell ⟨b, 1, none⟩ (.string e'.key)).setCell ⟨b, 2, none⟩ (.int .i64 e'.time)).setCell ⟨b, 3, none⟩ (.int .i64 e'.value)).setCell ⟨b, 4, none⟩ (.int .i64 e'.at_)).heap[b]? = some e'.obj := by
  rw [heap_set (heap_set (heap_set (heap_set (heap_set h _ _) _ _) _ _) _ _) _ _]; rfl
theorem El.set_other {w : World} {b k : Nat} {o : Obj} (h : w.heap[k]? = some o) (hne : k ≠ b) (v0 v1 v2 v3 v4 : Value) :
    (((((w.setCell ⟨b, 0, none⟩ v0).setCell ⟨b, 1, none⟩ v1).setCell ⟨b, 2, none⟩ v2).setCell ⟨b, 3, none⟩ v3).setCell ⟨b, 4, none⟩ v4).heap[k]? = some o :=
  heap_set_ne (heap_set_ne (heap_set_ne (heap_set_ne (heap_set_ne h (a := ⟨b, 0, none⟩) hne v0) (a := ⟨b, 1, none⟩) hne v1) (a := ⟨b, 2, none⟩) hne v2) (a := ⟨b, 3, none⟩) hne v3) (a := ⟨b, 4, none⟩) hne v4
/-- What holds between two stores into the told element. -/
structure RoseMid (w wr : World) (b B C g : Nat) (L : Loc) (room n : Nat) (s : GS) : Prop where
  gt : GateIn wr B C g L room n s
  ud : Upd (inGate B C) w wr
  bo : wr.heap[w.heap.size]? = some El.zero.obj
  bt : wr.heap[b]? = some El.zero.obj
/-- What holds at each round's head. -/
structure NextMid (w wr : World) (B C g : Nat) (L : Loc) (room n : Nat) (s : GS) (v : Value) (r : List Nat) : Prop where
  g : GateIn wr B C g L room n s
  u : Upd (fun _ => False) w wr
  b : wr.heap[w.heap.size]? = some El.zero.obj
  own : OwnAt wr (w.heap.size + 1) 3 1 v r.length (natVals r)

set_option maxRecDepth 100000 in
set_option maxHeartbeats 6400000 in
theorem c39 {w : World} {B C g room n : Nat} {L : Loc} {s : GS} (h : GateIn w B C g L room n s) (pick : Int) (hp0 : -9223372036854775808 ≤ pick) (hp1 : pick ≤ 9223372036854775807) :
    Calls Try.prog 39 #[ptr g, .int .i64 pick] w fun x w' => x = .returned (.tuple #[(gNext s pick).1.1.val, .int .i64 (gNext s pick).1.2.1, .bool (gNext s pick).1.2.2]) ∧ GateIn w' B C g L room n (gNext s pick).2 ∧ Upd (inGate B C) w w' := by
  have HC := Lib.hid h.hC
  obtain ⟨cap, c0, c1⟩ := h.cellsG
  have HMID : Hid (NextMid w (w.alloc El.zero.obj) B C g L room n s (.slice none 0 0) (readyK s 0)) := Lib.hid ⟨h.upd0 ((Upd.refl (fun _ => False) w).alloc El.zero.obj), (Upd.refl (fun _ => False) w).alloc El.zero.obj, El.box w El.zero, (show OwnAt (w.alloc El.zero.obj) (w.heap.size + 1) 3 1 (.slice none 0 0) 0 [] from OwnAt.nil _ _ _ _)⟩
  have HLL := Lib.hid h.lls
  have hn8 := h.n8
  have hgC := Nat.lt_of_lt_of_le h.rg.2 h.hC
  obtain ⟨R, hR⟩ : ∃ R, gNext s pick = R := ⟨_, rfl⟩
  have HR := Lib.hid hR
  rw [hR]
  clear h hR
  go_enter Try.func39, Try.ntmps39
  go_wp2_with fail
  go_loopw [7, 24] (fun v ix wr => ∃ k : Nat, k ≤ n ∧ ix = .int .i64 k ∧ NextMid w wr B C g L room n s v (readyK s k)) (fun _ ix _ => n - (intOf ix).toNat)
  case atStart => exact ⟨0, by omega, rfl, HMID.out⟩
  case round =>
    obtain ⟨k, hk, rfl, hM⟩ := hrel
    have HM := Lib.hid hM
    obtain ⟨vA, vcap, rfl⟩ := hM.own.shape
    have hkl := readyK_length s k
    have hws := lt_of_heap hM.b
    clear hM
    by_cases hlt : k < n
    · have ca := HM.out.g.cellsA hlt
      obtain ⟨d0, d1, d2⟩ := HM.out.g.cellsI hlt
      have a1 : (0 : Int) ≤ k := by omega
      have a2 : (k : Int) < n := by omega
      have HS := Lib.hid (readyK_succ s k)
      by_cases hb0 : s.blk k = 0
      · rw [hb0] at d1
        by_cases hpe : s.pipe k = []
        · have hs : readyK s (k + 1) = readyK s k := by rw [HS.out]; simp [GS.isReady, hpe]
          have HE := Lib.hid hs
          have hlp : (s.pipe k).length = 0 := by rw [hpe]; rfl
          clear hs hpe
          go_wp2_with (go_at_call 33; refine (c33 _ _ _ _ _ (HM.out.g.hp k hlt)).mono ?_; rintro x w1 ⟨rfl, rfl⟩)
          exact ⟨⟨k + 1, by omega, by go_num, by rw [HE.out]; exact HM.out⟩, by simp [intOf]; omega⟩
        · have hs : readyK s (k + 1) = readyK s k ++ [k] := by rw [HS.out]; simp [GS.isReady, hpe, hb0]
          have HE := Lib.hid hs
          have hlp : 0 < (s.pipe k).length := List.length_pos_iff.2 hpe
          have hn8' : (readyK s k).length ≤ 100000 := by omega
          have HOA := Lib.hid (HM.out.own.upd ((Upd.refl (fun _ => False) _).alloc (.cells #[.int .i64 k] 3 (0, 0))) (fun _ _ h => h))
          have HU3 := Lib.hid (((Upd.refl (fun k' => (Value.slice vA (readyK s k).length vcap).ownBlock = some k') wr).alloc (.cells #[.int .i64 k] 3 (0, 0))))
          have HB8 : Hid (w.heap.size + 1 ≤ (wr.alloc (.cells #[.int .i64 k] 3 (0, 0))).heap.size) := Lib.hid (by simp; omega)
          have hcb : (wr.alloc (.cells #[.int .i64 k] 3 (0, 0))).cell? ⟨wr.heap.size, 0, none⟩ = some (.int .i64 k) := cell_of (by rw [heapK_alloc, if_pos rfl]) 0 _ rfl
          clear hs hpe
          go_wp2_with (first | (go_at_call 33; refine (c33 _ _ _ _ _ (HM.out.g.hp k hlt)).mono ?_; rintro x w1 ⟨rfl, rfl⟩) | (at_builtin; refine wpList_append_int rfl (.tmp 42) (.tmp 44) rfl (.slice vA (readyK s k).length vcap) (readyK s k).length (natVals (readyK s k)) rfl HOA.out wr.heap.size k rfl hcb hn8' HB8.out ?_; intro v' w4 hO4 hU4 hv4; (have HO4 := Lib.hid hO4); (have HU4 := Lib.hid (HU3.out.step hU4 (fun _ _ h => h))); clear hO4 hU4 hv4))
          have hfar : ∀ k', (Value.slice vA (readyK s k).length vcap).ownBlock = some k' → w.heap.size + 1 ≤ k' := fun k' hk' => (HM.out.own.lt hk').1
          have hCw := HC.out
          refine ⟨⟨k + 1, by omega, by go_num, ?_, ?_, ?_, ?_⟩, by simp [intOf]; omega⟩
          · exact HM.out.g.upd HU4.out (fun j h1 h2 e => by have := hfar j e; omega)
          · exact HM.out.u.step HU4.out (fun j h1 e => by have := hfar j e; omega)
          · exact HU4.out.at HM.out.b (fun e => by have := hfar _ e; omega)
          · rw [HE.out, List.length_append]
            show OwnAt _ _ 3 1 v' ((readyK s k).length + 1) _
            unfold natVals
            rw [List.map_append]
            exact HO4.out
      · have hs : readyK s (k + 1) = readyK s k := by rw [HS.out]; simp [GS.isReady, hb0]
        have HE := Lib.hid hs
        clear hs
        go_wp2_with fail
        go_roundw
        case rel => exact ⟨k + 1, by omega, by go_num, by rw [HE.out]; exact HM.out⟩
        case measure => simp [intOf]; omega
    · obtain rfl : n = k := by omega
      have hrr : s.ready = readyK s n := by unfold GS.ready; rw [HLL.out]
      by_cases hr0 : readyK s n = []
      · have hres : R = ((El.zero, 0, false), s) := by rw [← HR.out]; unfold gNext; rw [if_pos (by rw [hrr]; exact hr0)]
        have HRES := Lib.hid hres
        have hlen : (readyK s n).length = 0 := by rw [hr0]; rfl
        have hfb := free_of HM.out.b
        obtain ⟨b0, b1, b2, b3, b4⟩ := El.zero_cells HM.out.b
        rw [hlen]
        clear hrr hr0 hres hlen hkl
        go_wp2_with fail
        have hG := HM.out.g.setEl w.heap.size HC.out (.int .i64 0) (.string ⟨#[]⟩) (.int .i64 0) (.int .i64 0) (.int .i64 0)
        have hU := (HM.out.u.mono (T := inGate B C) (fun _ _ h => h.elim)).setEl w.heap.size (fun h => absurd h (Nat.lt_irrefl _)) (.int .i64 0) (.string ⟨#[]⟩) (.int .i64 0) (.int .i64 0) (.int .i64 0)
        obtain rfl := HRES.out
        exact bodyPost_ret (v := .tuple #[El.zero.val, .int .i64 0, .bool false]) (by simp [results, Try.results39, go_sem, El.zero, b0, b1, b2, b3, b4]) rfl ⟨rfl, hG, hU⟩
      · have hlen : 0 < (readyK s n).length := List.length_pos_iff.2 hr0
        obtain ⟨vb, voff, vcap', hv, hvB, hvc, hvf⟩ := HM.out.own.cells hlen
        injection hv with hv1 hv2 hv3
        subst hv1 hv3
        have hq0 : 0 ≤ pickQ pick := by unfold pickQ; split <;> omega
        obtain ⟨q, hq⟩ := Int.eq_ofNat_of_zero_le hq0
        have hpl : placeN pick (readyK s n).length = q % (readyK s n).length := by unfold placeN; rw [hq]; omega
        have hjl : q % (readyK s n).length < (readyK s n).length := Nat.mod_lt _ hlen
        obtain ⟨j, hj⟩ : ∃ j, q % (readyK s n).length = j := ⟨_, rfl⟩
        obtain ⟨i, hi⟩ : ∃ i, (readyK s n)[j]? = some i := ⟨_, List.getElem?_eq_getElem (by omega)⟩
        have hres : R = taken s i := by rw [← HR.out]; unfold gNext; rw [if_neg (by rw [hrr]; exact hr0), hrr, hpl, hj]; simp [hi]
        have HRES := Lib.hid hres
        have hmem := List.mem_of_getElem? hi
        unfold readyK at hmem
        rw [List.mem_filter, List.mem_range] at hmem
        obtain ⟨hin, hrd⟩ := hmem
        have hpi : s.pipe i ≠ [] := fun e => by simp [GS.isReady, e] at hrd
        have hcell := hvc j (.int .i64 i) (by simp [natVals, hi])
        rw [hq] at hq0
        have HQ := Lib.hid hq
        have HJ := Lib.hid hj
        have HPI := Lib.hid hpi
        generalize hm : (readyK s n).length = m at *
        clear hrr hr0 hres hq hi hrd hvc hpl hj hpi
        have hm0 : ¬ (m : Int) = 0 := by omega
        have ht : Int.tmod (q : Int) m = j := by rw [Int.tmod_eq_emod_of_nonneg (by omega)]; rw [← HJ.out]; rfl
        have hj0 : (0 : Int) ≤ j := by omega
        have hj1 : (j : Int) < m := by rw [← HJ.out]; exact_mod_cast hjl
        obtain ⟨cap2, e0, e1⟩ := HM.out.g.cellsG
        have ea := HM.out.g.cellsA hin
        obtain ⟨f0, f1, f2⟩ := HM.out.g.cellsI hin
        have hi0 : (0 : Int) ≤ i := by omega
        have hi1 : (i : Int) < n := by omega
        obtain ⟨e, l, hpl⟩ : ∃ e l, s.pipe i = e :: l := by
          cases h : s.pipe i with
          | nil => exact absurd h HPI.out
          | cons e l => exact ⟨e, l, rfl⟩
        have hP := HM.out.g.hp i hin
        rw [hpl] at hP
        have HP := Lib.hid hP
        have hme : mayB e = true := HM.out.g.may i hin e (by rw [hpl]; exact List.mem_cons_self ..)
        have HME := Lib.hid hme
        have HML : Hid (∀ x ∈ l, mayB x = true) := Lib.hid (fun x hx => HM.out.g.may i hin x (by rw [hpl]; exact List.mem_cons_of_mem _ hx))
        have HPL := Lib.hid hpl
        clear hpl hP hme
        rcases Int.lt_or_le pick 0 with hpn | hpn
        case' inl =>
          have hqn : -(pick + 1) = (q : Int) := by have := HQ.out; unfold pickQ at this; rw [if_pos hpn] at this; exact this
          go_wp2_with fail
        case' inr =>
          have hqn : pick = (q : Int) := by have := HQ.out; unfold pickQ at this; rw [if_neg (by omega)] at this; exact this
          subst hqn
          have hpn' : ¬ (q : Int) < 0 := by omega
          go_wp2_with fail
        all_goals
          refine (c31 _ _ _ _ _ HP.out).mono ?_
          rintro x w2 ⟨rfl, hP2, hU2⟩
          have hlP := (HM.out.g.ri i hin).2
          have hCw := HC.out
          have HG2 : Hid (GateIn w2 B C g L room n (s.setPipe i l)) := Lib.hid (HM.out.g.pipe hin hP2 HML.out hU2)
          have HU2 := Lib.hid ((HM.out.u.mono (T := inGate B C) (fun _ _ h => h.elim)).step hU2 (fun j _ hj => by
            rcases hj with rfl | rfl
            · exact hlP.1
            · exact hlP.2))
          have hb2 := hU2.at HM.out.b (by omega)
          have hs2 := lt_of_heap hb2
          have HB2 := Lib.hid hb2
          have hse : (popEl (e :: l)).val = e.val := rfl
          have hsb : (!(e :: l).isEmpty) = true := rfl
          rw [hse, hsb]
          have HG3 := Lib.hid (HG2.out.upd0 ((Upd.refl (fun _ => False) _).alloc e.obj))
          have HU3 := Lib.hid (HU2.out.alloc e.obj)
          have HB3 := Lib.hid (heap_alloc_at HB2.out e.obj)
          have HE3 := Lib.hid (El.box w2 e)
          clear hP2 hU2 hb2 e0 e1 ea f0 f1 f2
          obtain ⟨k, key, t, v, a⟩ := e
          have hbw : w.heap.size < w2.heap.size := hs2
          have hCw2 : C ≤ w2.heap.size := by omega
          obtain ⟨d0, d1, d2, d3, d4⟩ := El.zero_cells HB2.out
          have hf0 := free_of HB2.out
          by_cases k2 : k = 2
          case pos =>
            subst k2
            have hres := taken_mark HPL.out rfl
            rw [← HRES.out] at hres
            obtain ⟨M, hM⟩ : ∃ M, leastL (raiseL s.ms i a) = M := ⟨_, rfl⟩
            dsimp only at hres
            rw [hM] at hres
            have HRE := Lib.hid hres
            have HMM := Lib.hid hM
            have HG3d : Hid (GateIn (w2.alloc (El.obj ⟨2, key, t, v, a⟩)).drew B C g L room n (s.setPipe i l)) := Lib.hid (HG3.out.upd0 ((Upd.refl _ _).drew))
            have HMI : Hid (isMark a = true) := Lib.hid (by have := HME.out; simp [mayB] at this; simp [isMark, this])
            obtain ⟨cap3, e0, e1⟩ := HG2.out.cellsG
            have hg2 : g < w2.heap.size := by omega
            clear hres hM
            have hS0 : (w2.alloc (El.obj ⟨2, key, t, v, a⟩)).drew.cell? ⟨g, 1, none⟩ = some (ptr L.m) ∧ (w2.alloc (El.obj ⟨2, key, t, v, a⟩)).drew.cell? ⟨w2.heap.size, 4, none⟩ = some (.int .i64 a) := by
              obtain ⟨c', x1, x2⟩ := HG3d.out.cellsG
              exact ⟨x2, (El.box_cells (show (w2.alloc (El.obj ⟨2, key, t, v, a⟩)).drew.heap[w2.heap.size]? = _ from HE3.out)).2.2.2.2⟩
            have HS0 := Lib.hid hS0
            have hmN := HG3d.out.rm
            have hgN := HG3d.out.rg
            clear hS0
            go_wp2_with fail
            go_region_held3 (fun w' => w'.cell? ⟨g, 1, none⟩ = some (ptr L.m) ∧ w'.cell? ⟨w2.heap.size, 4, none⟩ = some (.int .i64 a))
              (first | exact HS0.out | exact HS4.out)
              (first | (go_at_call 23; refine (c23 L.m s.ms i a _ HG3d.out.hm (by have := HG3d.out.lms; exact Nat.lt_of_lt_of_eq hin this.symm) HMI.out).mono ?_; rw [HMM.out]; rintro x w4 ⟨rfl, hM4, hU4⟩; (have HS4 : Hid (w4.cell? ⟨g, 1, none⟩ = some (ptr L.m) ∧ w4.cell? ⟨w2.heap.size, 4, none⟩ = some (.int .i64 a)) := Lib.hid (by
                have hG4 := HG3d.out.marks hM4 (by rw [raiseL_length']; exact HG3d.out.lms) hU4
                obtain ⟨c', x1, x2⟩ := hG4.cellsG
                exact ⟨x2, (El.box_cells (hU4.at (a := (w2.alloc (El.obj ⟨2, key, t, v, a⟩)).drew) HE3.out (by omega))).2.2.2.2⟩)); (have HM4 := Lib.hid hM4); (have HU4' := Lib.hid hU4); clear hM4 hU4))
            have hM4 := HM4.out
            have hU4 := HU4'.out
            have hmC := HG3d.out.rm
            have HG4 := Lib.hid (HG3d.out.marks hM4 (by rw [raiseL_length']; exact HG3d.out.lms) hU4)
            have HU4 := Lib.hid (HU3.out.drew.step hU4 (fun j _ hj => by subst hj; exact hmC))
            have hB4 := hU4.at (a := (w2.alloc (El.obj ⟨2, key, t, v, a⟩)).drew) HB3.out (by omega)
            have hE4 := hU4.at (a := (w2.alloc (El.obj ⟨2, key, t, v, a⟩)).drew) HE3.out (by omega)
            obtain ⟨d0, d1, d2, d3, d4⟩ := El.zero_cells hB4
            obtain ⟨b0, b1, b2, b3, b4⟩ := El.box_cells hE4
            have hf4 := free_of hB4
            have hf5 := free_of hE4
            have hl4 := lt_of_heap hB4
            have hl5 := lt_of_heap hE4
            have HB4 := Lib.hid hB4
            have HE4 := Lib.hid hE4
            clear hM4 hU4 hB4 hE4 e0 e1
            by_cases hro : leastL s.ms < M
            case pos =>
              have hrb : decide (leastL s.ms < M) = true := decide_eq_true hro
              rw [hrb]
              have hre := HRE.out
              rw [if_pos hro] at hre
              have HRE := Lib.hid hre
              have HRM : Hid (RoseMid w (((((w4.setCell ⟨w2.heap.size, 0, none⟩ (.int .i64 0)).setCell ⟨w2.heap.size, 1, none⟩ (.string ⟨#[]⟩)).setCell ⟨w2.heap.size, 2, none⟩ (.int .i64 0)).setCell ⟨w2.heap.size, 3, none⟩ (.int .i64 0)).setCell ⟨w2.heap.size, 4, none⟩ (.int .i64 0)) w2.heap.size B C g L room n ((s.setPipe i l).setMs (raiseL s.ms i a))) :=
                Lib.hid ⟨HG4.out.setEl w2.heap.size hCw2 _ _ _ _ _, HU4.out.setEl w2.heap.size (fun h => absurd h (by omega)) _ _ _ _ _, El.set_other HB4.out (by omega) _ _ _ _ _, El.set_same HE4.out El.zero⟩
              clear hre hro hrb
              rename_i hA hH
              refine hA _ _ ?_
              refine wp_seq_k (fun K19 hK19 => ?_)
              go_cut [93] (fun s93 wr => s93 = El.zero.val ∧ RoseMid w wr w2.heap.size B C g L room n ((s.setPipe i l).setMs (raiseL s.ms i a)))
              case first =>
                go_wp2_with fail
                go_meet
                exact ⟨rfl, HRM.out⟩
              case rest =>
                obtain ⟨rfl, hRM⟩ := hcut
                have HRN := Lib.hid hRM
                clear hRM HRM HG4 HU4 d0 d1 d2 d3 d4 b0 b1 b2 b3 b4 hf4 hf5 hl4 hl5
                obtain ⟨d0, d1, d2, d3, d4⟩ := El.zero_cells HRN.out.bo
                obtain ⟨b0, b1, b2, b3, b4⟩ := El.zero_cells HRN.out.bt
                have hf4 := free_of HRN.out.bo
                have hf5 := free_of HRN.out.bt
                have hl4 := lt_of_heap HRN.out.bo
                have hl5 := lt_of_heap HRN.out.bt
                go_wp2_with fail
                have hG := (HRN.out.gt.setEl w2.heap.size hCw2 (.int .i64 2) (.string ⟨#[]⟩) (.int .i64 0) (.int .i64 0) (.int .i64 M)).setEl w.heap.size HC.out (.int .i64 2) (.string ⟨#[]⟩) (.int .i64 0) (.int .i64 0) (.int .i64 M)
                have hU := (HRN.out.ud.setEl w2.heap.size (fun h => absurd h (by omega)) (.int .i64 2) (.string ⟨#[]⟩) (.int .i64 0) (.int .i64 0) (.int .i64 M)).setEl w.heap.size (fun h => absurd h (Nat.lt_irrefl _)) (.int .i64 2) (.string ⟨#[]⟩) (.int .i64 0) (.int .i64 0) (.int .i64 M)
                obtain rfl := HRE.out
                exact bodyPost_ret (v := .tuple #[El.val ⟨2, ⟨#[]⟩, 0, 0, M⟩, .int .i64 i, .bool true]) (by simp [results, Try.results39, go_sem, d0, d1, d2, d3, d4]) rfl ⟨rfl, hG, hU⟩
            case neg =>
              have hrb : decide (leastL s.ms < M) = false := decide_eq_false hro
              rw [hrb]
              have hre := HRE.out
              rw [if_neg hro] at hre
              have HRE := Lib.hid hre
              clear hre hro hrb
              go_wp2_with fail
              have hG := (HG4.out.setEl w2.heap.size hCw2 (.int .i64 0) (.string ⟨#[]⟩) (.int .i64 0) (.int .i64 0) (.int .i64 0)).setEl w.heap.size HC.out (.int .i64 0) (.string ⟨#[]⟩) (.int .i64 0) (.int .i64 0) (.int .i64 0)
              have hU := (HU4.out.setEl w2.heap.size (fun h => absurd h (by omega)) (.int .i64 0) (.string ⟨#[]⟩) (.int .i64 0) (.int .i64 0) (.int .i64 0)).setEl w.heap.size (fun h => absurd h (Nat.lt_irrefl _)) (.int .i64 0) (.string ⟨#[]⟩) (.int .i64 0) (.int .i64 0) (.int .i64 0)
              obtain rfl := HRE.out
              exact bodyPost_ret (v := .tuple #[El.val ⟨0, ⟨#[]⟩, 0, 0, 0⟩, .int .i64 i, .bool true]) (by simp [results, Try.results39, go_sem, d0, d1, d2, d3, d4]) rfl ⟨rfl, hG, hU⟩
          case neg =>
            by_cases k3 : k = 3
            case pos =>
              subst k3
              have hres := taken_bar HPL.out rfl
              rw [← HRES.out] at hres
              dsimp only at hres
              obtain ⟨RB, hRB⟩ : ∃ RB, barR (s.setPipe i l) i a = RB := ⟨_, rfl⟩
              rw [hRB] at hres
              have HRB := Lib.hid hRB
              have HRE := Lib.hid hres
              clear hres hRB
              go_wp2_with fail
              refine (c56 HG3.out i a hin).mono ?_
              rw [HRB.out]
              rintro x w4 ⟨rfl, hG4, hU4⟩
              have HG4 := Lib.hid hG4
              have HU4 := Lib.hid (HU3.out.trans hU4)
              have hB4 := hU4.at HB3.out (fun h => by have := h.2; omega)
              have hE4 := hU4.at HE3.out (fun h => by have := h.2; omega)
              obtain ⟨d0, d1, d2, d3, d4⟩ := El.zero_cells hB4
              obtain ⟨b0, b1, b2, b3, b4⟩ := El.box_cells hE4
              have hf4 := free_of hB4
              have hf5 := free_of hE4
              have hl4 := lt_of_heap hB4
              have hl5 := lt_of_heap hE4
              clear hG4 hU4 hB4 hE4
              obtain ⟨⟨k', key', t', v', a'⟩, S'⟩ := RB
              dsimp only
              go_wp2_with fail
              have hG := (HG4.out.setEl w2.heap.size hCw2 (.int .i64 k') (.string key') (.int .i64 t') (.int .i64 v') (.int .i64 a')).setEl w.heap.size HC.out (.int .i64 k') (.string key') (.int .i64 t') (.int .i64 v') (.int .i64 a')
              have hU := (HU4.out.setEl w2.heap.size (fun h => absurd h (by omega)) (.int .i64 k') (.string key') (.int .i64 t') (.int .i64 v') (.int .i64 a')).setEl w.heap.size (fun h => absurd h (Nat.lt_irrefl _)) (.int .i64 k') (.string key') (.int .i64 t') (.int .i64 v') (.int .i64 a')
              obtain rfl := HRE.out
              exact bodyPost_ret (v := .tuple #[El.val ⟨k', key', t', v', a'⟩, .int .i64 i, .bool true]) (by simp [results, Try.results39, go_sem, d0, d1, d2, d3, d4]) rfl ⟨rfl, hG, hU⟩
            case neg =>
              have hx2 : (k == 2) = false := by simp [k2]
              have hx3 : (k == 3) = false := by simp [k3]
              have hres := taken_rec HPL.out k2 k3
              rw [← HRES.out] at hres
              have HRE := Lib.hid hres
              clear hres
              go_wp2_with fail
              have hG := (HG2.out.setEl w.heap.size HC.out (.int .i64 k) (.string key) (.int .i64 t) (.int .i64 v) (.int .i64 a)).upd0 ((Upd.refl (fun _ => False) _).alloc (El.obj ⟨k, key, t, v, a⟩))
              have hU := (HU2.out.setEl w.heap.size (fun h => absurd h (Nat.lt_irrefl _)) (.int .i64 k) (.string key) (.int .i64 t) (.int .i64 v) (.int .i64 a)).alloc (El.obj ⟨k, key, t, v, a⟩)
              obtain rfl := HRE.out
              exact bodyPost_ret (v := .tuple #[El.val ⟨k, key, t, v, a⟩, .int .i64 i, .bool true]) (by simp [results, Try.results39, go_sem, d0, d1, d2, d3, d4, hs2]) rfl ⟨rfl, hG, hU⟩
end Go.Proofs.Ytijkcahdegohiaa
