/-
  A gate's New; what 'rec', 'bar', 'fits' of the statements' package make.
-/
import Derived.Test.YtijkcahdegohiaaGateD
namespace Go.Proofs.Ytijkcahdegohiaa
open Go.RowKit
attribute [local go_sem ↓] Go.wp_at_zero Go.wp_at_succ

/-- A gate that nothing was pushed into. -/
def GS.start (n : Nat) : GS := ⟨List.replicate n [], List.replicate n 0, List.replicate n 0, List.replicate n 0⟩

theorem Try.info93 : (Try.prog.info? 93).map (fun i => (i.zero, i.size, i.bytes)) = some (some (.pointer none), 1, 8) := by kernel_rfl
/-- append of one pointer onto the slice of inputs. -/
theorem wpList_append_ptr {w : World} {ops : Array Oper} {rest : List Oper} {o : Oper} {a : Act} {Q : Exit → Act → World → Prop} (hgd : o.guard = none) (s x : Operand)
    (ho : o.op = .call { callee := .builtin .append, args := #[s, x], argTypes := #[90, 90] }) {B : Nat} (v : Value) (n : Nat) (xs : List Value) (hs : a.eval s = v) (h : w.ownsRow B 93 1 v n xs)
    (b y : Nat) (hx : a.eval x = .slice (some ⟨b, 0, none⟩) 1 1) (hb : w.cell? ⟨b, 0, none⟩ = some (ptr y)) (hn : n ≤ 100000) (hB : B ≤ w.heap.size)
    (hK : ∀ v' w', w'.ownsRow B 93 1 v' (n + 1) (xs ++ [ptr y]) → Upd (fun k => v.ownBlock = some k) w w' → wpList Try.prog ops Q rest (a.put o.dst v') w') : wpList Try.prog ops Q (o :: rest) a w := by
  obtain ⟨i, hi, hz, hsz, hby⟩ := info_parts Try.info93
  refine wpList_append_own w hgd s x 90 ho B 93 i _ 1 8 Try.underlying90 hi hz hsz hby rfl (by decide) v n xs hs h ⟨b, 0, none⟩ 1 1 [ptr y] hx rfl (fun j u hu => ?_) (fun u hu => ?_) (by unfold maxLen; omega) (by omega) hB ?_
  · cases j with
    | zero => simp at hu; subst hu; simpa [Addr.add] using hb
    | succ j => simp at hu
  · simp at hu; subst hu; rfl
  · intro v' w' h1 h2 _
    exact hK v' w' h1 (OwnAt.owns_grown h2 (fun k hk _ => hk))

def ptrs (ins : Nat → Nat) (k : Nat) : List Value := (List.range k).map fun j => ptr (ins j)
def putF (f : Nat → Nat) (k x : Nat) (j : Nat) : Nat := if j = k then x else f j
theorem putF_eq (f : Nat → Nat) (k x : Nat) : putF f k x k = x := if_pos rfl
theorem putF_ne (f : Nat → Nat) {k j : Nat} (x : Nat) (h : j ≠ k) : putF f k x j = f j := if_neg h
theorem ptrs_succ (ins : Nat → Nat) (k x : Nat) : ptrs (putF ins k x) (k + 1) = ptrs ins k ++ [ptr x] := by
  unfold ptrs
  rw [List.range_succ, List.map_append]
  congr 1
  · apply List.map_congr_left
    intro j hj
    rw [putF_ne ins x (by have := List.mem_range.1 hj; omega)]
  · simp [putF_eq]

/-- What holds at each round's head: k inputs stand. -/
structure NewMid (w wr : World) (room k : Nat) (v : Value) (ins ps rs : Nat → Nat) : Prop where
  gb : wr.heap[w.heap.size]? = some (.cells #[v, .pointer none] 92 (0, 0))
  own : wr.ownsRow (w.heap.size + 1) 93 1 v k (ptrs ins k)
  upd : Upd (fun _ => False) w wr
  hin : ∀ j, j < k → wr.heap[ins j]? = some (.cells #[ptr (ps j), .int .i64 0, .int .i64 0] 95 (0, 0))
  hp : ∀ j, j < k → PipeAt wr (ps j) (rs j) room []
  inj : ∀ i j, i < k → j < k → (ins i = ins j ∨ ps i = ps j ∨ rs i = rs j) → i = j
  lo : ∀ j, j < k → w.heap.size ≤ ins j ∧ w.heap.size ≤ ps j ∧ w.heap.size ≤ rs j

theorem own_type {w : World} {B : Nat} {e : TypeId} {size : Nat} {v : Value} {n : Nat} {xs : List Value} (h : w.ownsRow B e size v n xs) {k : Nat} (hk : v.ownBlock = some k) : B ≤ k ∧ ∃ cur, w.heap[k]? = some (.cells cur e (0, 0)) := by
  obtain ⟨_, ⟨rfl, _⟩ | ⟨g, cap, cur, rfl, hB, hg, _⟩⟩ := h
  · cases hk
  · simp [Value.ownBlock] at hk
    subst hk
    exact ⟨hB, cur, hg⟩
theorem own_far {w : World} {B : Nat} {e : TypeId} {size : Nat} {v : Value} {n : Nat} {xs : List Value} (h : w.ownsRow B e size v n xs) {k : Nat} {c : Array Value} {t : TypeId} {m : Nat × Nat} (hk : w.heap[k]? = some (.cells c t m)) (ht : t ≠ e) : ¬ v.ownBlock = some k := fun hv => by
  obtain ⟨_, cur, hc⟩ := own_type h hv
  exact ne_of_type hk hc ht rfl

theorem NewMid.step {w wr w1 w4 : World} {room k : Nat} {v v' : Value} {ins ps rs : Nat → Nat} (h : NewMid w wr room k v ins ps rs)
    (hU1 : Upd (fun _ => False) wr w1) (hP1 : PipeAt w1 (wr.heap.size + 1) wr.heap.size room [])
    (hO : w4.ownsRow (w.heap.size + 1) 93 1 v' (k + 1) (ptrs ins k ++ [ptr w1.heap.size]))
    (hU4 : Upd (fun j => v.ownBlock = some j) ((w1.alloc (.cells #[ptr (wr.heap.size + 1), .int .i64 0, .int .i64 0] 95 (0, 0))).alloc (.cells #[ptr w1.heap.size] 93 (0, 0))) w4) :
    NewMid w (w4.setCell ⟨w.heap.size, 0, none⟩ v') room (k + 1) v' (putF ins k w1.heap.size) (putF ps k (wr.heap.size + 1)) (putF rs k wr.heap.size) := by
  obtain ⟨gb, own, upd, hin, hp, inj, lo⟩ := h
  have hgl := lt_of_heap gb
  have hB : Upd (fun j => v.ownBlock = some j) wr w4 := (((hU1.mono (T := fun j => v.ownBlock = some j) (fun _ _ h => h.elim)).alloc _).alloc _).trans hU4
  have hF : Upd (fun j => v.ownBlock = some j ∨ j = w.heap.size) wr (w4.setCell ⟨w.heap.size, 0, none⟩ v') := (hB.mono (fun _ _ h => .inl h)).setCell (p := ⟨w.heap.size, 0, none⟩) (fun _ => .inr rfl) v'
  have hF1 : Upd (fun j => v.ownBlock = some j ∨ j = w.heap.size) w1 (w4.setCell ⟨w.heap.size, 0, none⟩ v') := ((((Upd.refl (fun j => v.ownBlock = some j) w1).alloc _).alloc _).trans hU4 |>.mono (fun _ _ h => .inl h)).setCell (p := ⟨w.heap.size, 0, none⟩) (fun _ => .inr rfl) v'
  have hlv : ∀ j, v.ownBlock = some j → w.heap.size < j ∧ j < wr.heap.size := fun j hj => by
    obtain ⟨h1, cur, h2⟩ := own_type own hj
    exact ⟨h1, lt_of_heap h2⟩
  have hs1 := hU1.size
  have hnew := hP1.rows
  obtain ⟨⟨cp, mp, hp1⟩, ⟨cr, mr, hr1⟩⟩ := hnew
  have hpl := lt_of_heap hp1
  have hg4 := hB.at gb (own_far own gb (by decide))
  have hi4 : w4.heap[w1.heap.size]? = some (.cells #[ptr (wr.heap.size + 1), .int .i64 0, .int .i64 0] 95 (0, 0)) := by
    refine hU4.at ?_ (fun e => by have := hlv _ e; omega)
    rw [heapK_alloc, if_neg (by simp), heapK_alloc, if_pos rfl]
  refine ⟨?_, ?_, ?_, ?_, ?_, ?_, ?_⟩
  · rw [heap_set hg4]; rfl
  · rw [ptrs_succ]
    obtain ⟨h1, ⟨rfl, h0⟩ | ⟨g', cap, cur, rfl, hb, hg, hr⟩⟩ := hO
    · omega
    · exact ⟨h1, .inr ⟨g', cap, cur, rfl, hb, heap_set_ne hg (a := ⟨w.heap.size, 0, none⟩) (by show g' ≠ w.heap.size; omega) _, hr⟩⟩
  · exact (upd.step hB (fun j hj e => by have := hlv j e; omega)).setCell (p := ⟨w.heap.size, 0, none⟩) (fun h => absurd h (Nat.lt_irrefl _)) _
  · intro j hj
    by_cases e : j = k
    · subst e
      rw [putF_eq, putF_eq]
      exact heap_set_ne hi4 (a := ⟨w.heap.size, 0, none⟩) (by show w1.heap.size ≠ w.heap.size; omega) _
    · rw [putF_ne _ _ e, putF_ne _ _ e]
      refine hF.at (hin j (by omega)) (fun h => ?_)
      rcases h with h | h
      · exact own_far own (hin j (by omega)) (by decide) h
      · exact ne_of_type (hin j (by omega)) gb (by decide) h
  · intro j hj
    by_cases e : j = k
    · subst e
      rw [putF_eq, putF_eq]
      refine hP1.upd hF1 (fun h => ?_) (fun h => ?_)
      · rcases h with h | h
        · have := hlv _ h; omega
        · omega
      · rcases h with h | h
        · have := hlv _ h; omega
        · omega
    · rw [putF_ne _ _ e, putF_ne _ _ e]
      obtain ⟨⟨cp', mp', hp1'⟩, ⟨cr', mr', hr1'⟩⟩ := (hp j (by omega)).rows
      refine (hp j (by omega)).upd hF (fun h => ?_) (fun h => ?_)
      · rcases h with h | h
        · exact own_far own hp1' (by decide) h
        · exact ne_of_type hp1' gb (by decide) h
      · rcases h with h | h
        · exact own_far own hr1' (by decide) h
        · exact ne_of_type hr1' gb (by decide) h
  · intro i j hi hj h
    have old : ∀ x, x < k → ins x < wr.heap.size ∧ ps x < wr.heap.size ∧ rs x < wr.heap.size := fun x hx => by
      obtain ⟨⟨_, _, hq1⟩, ⟨_, _, hq2⟩⟩ := (hp x hx).rows
      exact ⟨lt_of_heap (hin x hx), lt_of_heap hq1, lt_of_heap hq2⟩
    by_cases ei : i = k <;> by_cases ej : j = k
    · omega
    · subst ei
      rw [putF_eq, putF_eq, putF_eq, putF_ne _ _ ej, putF_ne _ _ ej, putF_ne _ _ ej] at h
      have := old j (by omega)
      omega
    · subst ej
      rw [putF_eq, putF_eq, putF_eq, putF_ne _ _ ei, putF_ne _ _ ei, putF_ne _ _ ei] at h
      have := old i (by omega)
      omega
    · rw [putF_ne _ _ ei, putF_ne _ _ ei, putF_ne _ _ ei, putF_ne _ _ ej, putF_ne _ _ ej, putF_ne _ _ ej] at h
      exact inj i j (by omega) (by omega) h
  · intro j hj
    by_cases e : j = k
    · subst e
      rw [putF_eq, putF_eq, putF_eq]
      omega
    · rw [putF_ne _ _ e, putF_ne _ _ e, putF_ne _ _ e]
      exact lo j (by omega)

theorem PipeAt.any {w : World} {p r room : Nat} {l : List El} (h : PipeAt w p r room l) : PipeAt w p r room l := h
/-- What stands behind the loop and the marks is a gate. -/
theorem NewMid.gate {w wr w1 : World} {room n : Nat} {v : Value} {ins ps rs : Nat → Nat} (h : NewMid w wr room n v ins ps rs) (h1 : 1 ≤ n) (h8 : n ≤ 8)
    (hU : Upd (fun _ => False) wr w1) (hM : MarksAt w1 wr.heap.size (List.replicate n 0)) :
    ∃ L, GateIn (w1.setCell ⟨w.heap.size, 1, none⟩ (ptr wr.heap.size)) w.heap.size w1.heap.size w.heap.size L room n (GS.start n) := by
  obtain ⟨gb, own, upd, hin, hp, inj, lo⟩ := h
  have hgl := lt_of_heap gb
  have hs1 := hU.size
  obtain ⟨hxl, ⟨rfl, h0⟩ | ⟨arr, cap, cur, rfl, hb, hg, hr1, hr2, hr3, hr4⟩⟩ := own
  · omega
  have hal := lt_of_heap hg
  have hml := lt_of_heap hM.row
  have hF : Upd (fun j => j = w.heap.size) wr (w1.setCell ⟨w.heap.size, 1, none⟩ (ptr wr.heap.size)) := (hU.mono (T := fun j => j = w.heap.size) (fun _ _ h => h.elim)).setCell (p := ⟨w.heap.size, 1, none⟩) (fun _ => rfl) _
  have hF1 : Upd (fun j => j = w.heap.size) w1 (w1.setCell ⟨w.heap.size, 1, none⟩ (ptr wr.heap.size)) := (Upd.refl (fun j => j = w.heap.size) w1).setCell (p := ⟨w.heap.size, 1, none⟩) (fun _ => rfl) _
  have rep : ∀ {α : Type} (x : α) (i : Nat), (List.replicate n x).getD i x = x := fun x i => by
    rw [List.getD_eq_getElem?_getD, List.getElem?_replicate]
    split <;> rfl
  refine ⟨⟨arr, wr.heap.size, ins, ps, rs⟩, h1, h8, ⟨cap, ?_⟩, ⟨cur, hF.at hg (fun e => by have e : arr = w.heap.size := e; omega), fun i hi => ?_⟩, ?_, fun i hi => ?_, fun i hi => ?_, fun i hi e he => ?_, inj, by simp [GS.start], by simp [GS.start], by simp [GS.start], by simp [GS.start], ?_, ?_, ?_, fun i hi => ?_, ?_⟩
  · rw [heap_set (hU.at gb (fun h => h))]; rfl
  · have : (cur.toList.take (n * 1))[i]? = some (ptr (ins i)) := by
      rw [hr4]; unfold ptrs; rw [List.getElem?_map, List.getElem?_range hi]; rfl
    rw [List.getElem?_take] at this
    split at this
    · simpa using this
    · cases this
  · exact hM.upd hF1 (by omega)
  · have e1 : (GS.start n).blk i = 0 := rep 0 i
    have e2 : (GS.start n).lst i = 0 := rep 0 i
    rw [e1, e2]
    exact hF.at (hin i hi) (ne_of_type (hin i hi) gb (by decide))
  · have e1 : (GS.start n).pipe i = [] := rep [] i
    rw [e1]
    obtain ⟨⟨cp', mp', hp1'⟩, ⟨cr', mr', hr1'⟩⟩ := (hp i hi).rows
    exact (hp i hi).upd hF (ne_of_type hp1' gb (by decide)) (ne_of_type hr1' gb (by decide))
  · have e1 : (GS.start n).pipe i = [] := rep [] i
    rw [e1] at he
    cases he
  · exact ⟨Nat.le_refl _, by omega⟩
  · exact ⟨by show w.heap.size ≤ arr; omega, by show arr < _; omega⟩
  · exact ⟨by show w.heap.size ≤ wr.heap.size; omega, hml⟩
  · obtain ⟨⟨cp', mp', hp1'⟩, ⟨cr', mr', hr1'⟩⟩ := (hp i hi).rows
    have := lo i hi
    have q1 := lt_of_heap (hin i hi)
    have q2 := lt_of_heap hp1'
    have q3 := lt_of_heap hr1'
    refine ⟨⟨this.1, ?_⟩, ⟨this.2.1, ?_⟩, this.2.2, ?_⟩
    · show ins i < _; omega
    · show ps i < _; omega
    · show rs i < _; omega
  · simp [World.setCell]

set_option maxRecDepth 100000 in
set_option maxHeartbeats 6400000 in
theorem c35 (n room : Nat) (w : World) (h1 : 1 ≤ n) (h8 : n ≤ 8) (r1 : 1 ≤ room) (r2 : room ≤ 64) :
    Calls Try.prog 35 #[.int .i64 n, .int .i64 room] w fun x w' => x = .returned (.tuple #[ptr w.heap.size, .int .i64 0]) ∧ (∃ C L, GateIn w' w.heap.size C w.heap.size L room n (GS.start n)) ∧ Upd (fun _ => False) w w' := by
  have a0 : ¬ (n : Int) < 1 := by omega
  have a1 : ¬ (8 : Int) < n := by omega
  have HMID : Hid (NewMid w (w.alloc (.cells #[.slice none 0 0, .pointer none] 92 (0, 0))) room 0 (.slice none 0 0) (fun _ => 0) (fun _ => 0) (fun _ => 0)) := Lib.hid
    ⟨by rw [heapK_alloc, if_pos rfl], World.ownsRow_nil _ _ _ _, (Upd.refl (fun _ => False) w).alloc _, fun j hj => by omega, fun j hj => by omega, fun i j hi => by omega, fun j hj => by omega⟩
  go_enter Try.func35, Try.ntmps35
  go_wp2_with fail
  go_loopw [18] (fun ix wr => ∃ (k : Nat) (v : Value) (ins ps rs : Nat → Nat), k ≤ n ∧ ix = .int .i64 k ∧ NewMid w wr room k v ins ps rs) (fun ix _ => n - (intOf ix).toNat)
  case atStart => exact ⟨0, _, _, _, _, by omega, rfl, HMID.out⟩
  case round =>
    obtain ⟨k, v, ins, ps, rs, hk, rfl, hM⟩ := hrel
    have HM := Lib.hid hM
    obtain ⟨vA, vcap, rfl⟩ := (OwnAt.of hM.own).shape
    clear hM HMID
    by_cases hlt : k < n
    · have b1 : (0 : Int) ≤ k := by omega
      have b2 : (k : Int) < n := by omega
      go_wp2_with fail
      refine (c29 room _ r1 r2).mono ?_
      rintro x w1 ⟨rfl, hP1, hU1⟩
      have HP1 := Lib.hid hP1
      have HU1 := Lib.hid hU1
      have hg1 := hU1.at HM.out.gb (fun h => h)
      have hgl := lt_of_heap hg1
      have HG1 := Lib.hid hg1
      have gc0 : w1.cell? ⟨w.heap.size, 0, none⟩ = some (.slice vA k vcap) := cell_of hg1 0 _ rfl
      have hlv : Hid (∀ j, (Value.slice vA k vcap).ownBlock = some j → w.heap.size < j ∧ j < wr.heap.size) := Lib.hid (fun j hj => by
        obtain ⟨h1, cur, h2⟩ := own_type HM.out.own hj
        exact ⟨h1, lt_of_heap h2⟩)
      have HO3 : Hid (((w1.alloc (.cells #[ptr (wr.heap.size + 1), .int .i64 0, .int .i64 0] 95 (0, 0))).alloc (.cells #[ptr w1.heap.size] 93 (0, 0))).ownsRow (w.heap.size + 1) 93 1 (.slice vA k vcap) k (ptrs ins k)) := Lib.hid (by
        obtain ⟨hxl, h0 | ⟨arr, cap, cur, hv, hb, hg, hr⟩⟩ := HM.out.own
        · exact ⟨hxl, .inl h0⟩
        · exact ⟨hxl, .inr ⟨arr, cap, cur, hv, hb, heap_alloc_at (heap_alloc_at (HU1.out.at hg (fun h => h)) _) _, hr⟩⟩)
      have hcb : ((w1.alloc (.cells #[ptr (wr.heap.size + 1), .int .i64 0, .int .i64 0] 95 (0, 0))).alloc (.cells #[ptr w1.heap.size] 93 (0, 0))).cell? ⟨w1.heap.size + 1, 0, none⟩ = some (ptr w1.heap.size) := cell_of (by rw [heapK_alloc, if_pos (by simp)]) 0 _ rfl
      have hn8 : k ≤ 100000 := by omega
      have HB8 : Hid (w.heap.size + 1 ≤ ((w1.alloc (.cells #[ptr (wr.heap.size + 1), .int .i64 0, .int .i64 0] 95 (0, 0))).alloc (.cells #[ptr w1.heap.size] 93 (0, 0))).heap.size) := Lib.hid (by simp; omega)
      clear hP1 hU1 hg1
      go_wp2_with (at_builtin; refine wpList_append_ptr rfl (.tmp 32) (.tmp 36) rfl (.slice vA k vcap) k (ptrs ins k) rfl HO3.out (w1.heap.size + 1) w1.heap.size rfl hcb hn8 HB8.out ?_; intro v' w4 hO4 hU4; (obtain ⟨vA', vcap', rfl⟩ := (OwnAt.of hO4).shape); (have HO4 := Lib.hid hO4); (have HU4 := Lib.hid hU4); (have hg4 := (((Upd.refl (fun j => (Value.slice vA k vcap).ownBlock = some j) w1).alloc (.cells #[ptr (wr.heap.size + 1), .int .i64 0, .int .i64 0] 95 (0, 0))).alloc (.cells #[ptr w1.heap.size] 93 (0, 0)) |>.trans hU4).at HG1.out (fun e => by have := (hlv.out _ e).1; omega)); (have gc4 := cell_of hg4 0 _ rfl); (have hf4 := free_of hg4); (have hgl4 := lt_of_heap hg4); clear hO4 hU4 hg4 hcb)
      have hS := NewMid.step HM.out HU1.out HP1.out HO4.out HU4.out
      first
        | (go_roundw
           case rel => exact ⟨k + 1, _, _, _, _, by omega, by go_num, hS⟩
           case measure => simp [intOf]; omega)
        | exact ⟨⟨k + 1, _, _, _, _, by omega, by go_num, hS⟩, by simp [intOf]; omega⟩
    · obtain rfl : n = k := by omega
      go_wp2_with fail
      refine (c21 n _ h1 (by omega)).mono ?_
      rintro x w1 ⟨rfl, hM1, hU1⟩
      obtain ⟨L, hG⟩ := NewMid.gate HM.out h1 h8 hU1 hM1
      have hU := (HM.out.upd.trans hU1).setCell (p := ⟨w.heap.size, 1, none⟩) (fun h => absurd h (Nat.lt_irrefl _)) (ptr wr.heap.size)
      have hg1 := hU1.at HM.out.gb (fun h => h)
      have hgl := lt_of_heap hg1
      have gc1 := cell_of hg1 1 _ rfl
      have hfz := free_of hg1
      have HG := Lib.hid hG
      have HU := Lib.hid hU
      clear hM1 hU1 hG hU hg1
      go_wp2_with fail
      go_ret2
      exact ⟨rfl, ⟨_, L, HG.out⟩, HU.out⟩

theorem c35_bad (n room : Int) (w : World) (h : ¬ (1 ≤ n ∧ n ≤ 8 ∧ 1 ≤ room ∧ room ≤ 64)) :
    Calls Try.prog 35 #[.int .i64 n, .int .i64 room] w fun x w' => x = .returned (.tuple #[.pointer none, .int .i64 1]) ∧ Upd (fun _ => False) w w' := by
  by_cases h1 : n < 1
  · clear h
    go_enter Try.func35, Try.ntmps35
    go_wp2_with fail
    go_ret2
    exact ⟨rfl, Upd.refl _ _⟩
  · by_cases h8 : 8 < n
    · clear h
      go_enter Try.func35, Try.ntmps35
      go_wp2_with fail
      go_ret2
      exact ⟨rfl, Upd.refl _ _⟩
    · have hr : room < 1 ∨ 64 < room := by omega
      have hn : (0 : Int) < n := by omega
      clear h
      go_enter Try.func35, Try.ntmps35
      go_wp2_with fail
      go_loopw [18] (fun ix wr => ix = .int .i64 0 ∧ Upd (fun _ => False) w wr) (fun ix _ => 0)
      case atStart => exact ⟨rfl, (Upd.refl _ _).alloc _⟩
      case round =>
        obtain ⟨rfl, hU⟩ := hrel
        have HR := Lib.hid hr
        clear hr
        go_wp2_with fail
        refine (c29_bad room _ HR.out).mono ?_
        rintro x w1 ⟨rfl, rfl⟩
        go_wp2_with fail
        go_ret2
        exact ⟨rfl, hU⟩
end Go.Proofs.Ytijkcahdegohiaa
