/-
  A gate in memory: what its blocks hold, how an operation on one of its parts leaves the others; the contracts of find, Blocked, Len, Mark.
-/
import Derived.Test.YtijkcahdegohiaaMarkC
import Derived.Test.YtijkcahdegohiaaPipeD
namespace Go.Proofs.Ytijkcahdegohiaa
open Go.RowKit

/-- A gate as data: of each input what is in its pipe, its mark, by what it is blocked, the last barrier pushed. -/
structure GS where
  ls : List (List El)
  ms : List Int
  bs : List Int
  ts : List Int

def GS.pipe (s : GS) (i : Nat) : List El := s.ls.getD i []
def GS.blk (s : GS) (i : Nat) : Int := s.bs.getD i 0
def GS.lst (s : GS) (i : Nat) : Int := s.ts.getD i 0
def GS.setPipe (s : GS) (i : Nat) (l : List El) : GS := { s with ls := s.ls.set i l }
def GS.setMs (s : GS) (m : List Int) : GS := { s with ms := m }
def GS.setBs (s : GS) (b : List Int) : GS := { s with bs := b }
def GS.setTs (s : GS) (t : List Int) : GS := { s with ts := t }

theorem getD_set_eq {α : Type} (l : List α) (i : Nat) (x d : α) (h : i < l.length) : (l.set i x).getD i d = x := by simp [h]
theorem getD_set_ne' {α : Type} (l : List α) (i j : Nat) (x d : α) (h : i ≠ j) : (l.set i x).getD j d = l.getD j d := by
  simp [List.getElem?_set_ne h]
theorem GS.pipe_set (s : GS) (i : Nat) (l : List El) (h : i < s.ls.length) : (s.setPipe i l).pipe i = l := getD_set_eq _ _ _ _ h
theorem GS.pipe_set_ne (s : GS) (i j : Nat) (l : List El) (h : i ≠ j) : (s.setPipe i l).pipe j = s.pipe j := getD_set_ne' _ _ _ _ _ h

/-- Where a gate's parts lie. -/
structure Loc where
  arr : Nat
  m : Nat
  ins : Nat → Nat
  ps : Nat → Nat
  rs : Nat → Nat

/-- The gate at block g, its parts where L says, in the blocks from B up to C. -/
structure GateIn (w : World) (B C g : Nat) (L : Loc) (room n : Nat) (s : GS) : Prop where
  n1 : 1 ≤ n
  n8 : n ≤ 8
  hg : ∃ cap, w.heap[g]? = some (.cells #[.slice (some ⟨L.arr, 0, none⟩) n cap, ptr L.m] 92 (0, 0))
  harr : ∃ cur, w.heap[L.arr]? = some (.cells cur 93 (0, 0)) ∧ ∀ i, i < n → cur[i]? = some (ptr (L.ins i))
  hm : MarksAt w L.m s.ms
  hin : ∀ i, i < n → w.heap[L.ins i]? = some (.cells #[ptr (L.ps i), .int .i64 (s.blk i), .int .i64 (s.lst i)] 95 (0, 0))
  hp : ∀ i, i < n → PipeAt w (L.ps i) (L.rs i) room (s.pipe i)
  may : ∀ i, i < n → ∀ e ∈ s.pipe i, mayB e = true
  inj : ∀ i j, i < n → j < n → (L.ins i = L.ins j ∨ L.ps i = L.ps j ∨ L.rs i = L.rs j) → i = j
  lls : s.ls.length = n
  lms : s.ms.length = n
  lbs : s.bs.length = n
  lts : s.ts.length = n
  rg : B ≤ g ∧ g < C
  ra : B ≤ L.arr ∧ L.arr < C
  rm : B ≤ L.m ∧ L.m < C
  ri : ∀ i, i < n → (B ≤ L.ins i ∧ L.ins i < C) ∧ (B ≤ L.ps i ∧ L.ps i < C) ∧ (B ≤ L.rs i ∧ L.rs i < C)
  hC : C ≤ w.heap.size

theorem PipeAt.rows {w : World} {p r room : Nat} {l : List El} (h : PipeAt w p r room l) : (∃ c m, w.heap[p]? = some (.cells c 88 m)) ∧ ∃ c m, w.heap[r]? = some (.cells c 46 m) := by
  obtain ⟨_, _, _, k, s, _, _, _, h1, h2⟩ := h
  exact ⟨⟨_, _, h1⟩, _, _, h2⟩
theorem ne_of_type {w : World} {a b : Nat} {c d : Array Value} {t u : TypeId} {m m' : Nat × Nat} (ha : w.heap[a]? = some (.cells c t m)) (hb : w.heap[b]? = some (.cells d u m')) (h : t ≠ u) : a ≠ b := by
  intro e; subst e; rw [ha] at hb; injection hb with hb; injection hb with _ h2; exact h h2

section
variable {w w' : World} {B C g room n : Nat} {L : Loc} {s : GS}
/-- Nothing of the gate was turned. -/
theorem GateIn.upd {S : Nat → Prop} (h : GateIn w B C g L room n s) (hU : Upd S w w') (hS : ∀ k, B ≤ k → k < C → ¬ S k) : GateIn w' B C g L room n s := by
  obtain ⟨n1, n8, ⟨cap, hg⟩, ⟨cur, ha, hc⟩, hm, hin, hp, may, inj, l1, l2, l3, l4, rg, ra, rm, ri, hC⟩ := h
  exact ⟨n1, n8, ⟨cap, hU.at hg (hS _ rg.1 rg.2)⟩, ⟨cur, hU.at ha (hS _ ra.1 ra.2), hc⟩, hm.upd hU (hS _ rm.1 rm.2), fun i hi => hU.at (hin i hi) (hS _ (ri i hi).1.1 (ri i hi).1.2),
    fun i hi => (hp i hi).upd hU (hS _ (ri i hi).2.1.1 (ri i hi).2.1.2) (hS _ (ri i hi).2.2.1 (ri i hi).2.2.2), may, inj, l1, l2, l3, l4, rg, ra, rm, ri, Nat.le_trans hC hU.size⟩
theorem GateIn.upd0 (h : GateIn w B C g L room n s) (hU : Upd (fun _ => False) w w') : GateIn w' B C g L room n s := h.upd hU (fun _ _ _ h => h)
/-- The pipe of input i alone was turned. -/
theorem GateIn.pipe (h : GateIn w B C g L room n s) {i : Nat} (hi : i < n) {l : List El} (hP : PipeAt w' (L.ps i) (L.rs i) room l) (hl : ∀ e ∈ l, mayB e = true) (hU : Upd (fun k => k = L.ps i ∨ k = L.rs i) w w') : GateIn w' B C g L room n (s.setPipe i l) := by
  obtain ⟨n1, n8, ⟨cap, hg⟩, ⟨cur, ha, hc⟩, hm, hin, hp, may, inj, l1, l2, l3, l4, rg, ra, rm, ri, hC⟩ := h
  obtain ⟨⟨cp, mp, hrp⟩, ⟨cr, mr, hrr⟩⟩ := (hp i hi).rows
  have far : ∀ {k : Nat} {c : Array Value} {t : TypeId} {m : Nat × Nat}, w.heap[k]? = some (.cells c t m) → t ≠ 88 → t ≠ 46 → ¬ (k = L.ps i ∨ k = L.rs i) := fun hk h1 h2 h3 => by
    rcases h3 with h3 | h3
    · exact ne_of_type hk hrp h1 h3
    · exact ne_of_type hk hrr h2 h3
  refine ⟨n1, n8, ⟨cap, hU.at hg (far hg (by decide) (by decide))⟩, ⟨cur, hU.at ha (far ha (by decide) (by decide)), hc⟩, hm.upd hU (far hm.row (by decide) (by decide)),
    fun j hj => hU.at (hin j hj) (far (hin j hj) (by decide) (by decide)), fun j hj => ?_, fun j hj => ?_, inj, by simpa [GS.setPipe] using l1, l2, l3, l4, rg, ra, rm, ri, Nat.le_trans hC hU.size⟩
  · by_cases hij : i = j
    · subst hij; rw [GS.pipe_set _ _ _ (by omega)]; exact hP
    · rw [GS.pipe_set_ne _ _ _ _ hij]
      obtain ⟨⟨cp', mp', hrp'⟩, ⟨cr', mr', hrr'⟩⟩ := (hp j hj).rows
      refine (hp j hj).upd hU (fun h3 => ?_) (fun h3 => ?_)
      · rcases h3 with h3 | h3
        · exact hij (inj j i hj hi (.inr (.inl h3))).symm
        · exact ne_of_type hrp' hrr (by decide) h3
      · rcases h3 with h3 | h3
        · exact ne_of_type hrr' hrp (by decide) h3
        · exact hij (inj j i hj hi (.inr (.inr h3))).symm
  · by_cases hij : i = j
    · subst hij; rw [GS.pipe_set _ _ _ (by omega)]; exact hl
    · rw [GS.pipe_set_ne _ _ _ _ hij]; exact may j hj
/-- The marks alone were turned. -/
theorem GateIn.marks (h : GateIn w B C g L room n s) {ms : List Int} (hM : MarksAt w' L.m ms) (hl : ms.length = n) (hU : Upd (fun k => k = L.m) w w') : GateIn w' B C g L room n (s.setMs ms) := by
  obtain ⟨n1, n8, ⟨cap, hg⟩, ⟨cur, ha, hc⟩, hm, hin, hp, may, inj, l1, l2, l3, l4, rg, ra, rm, ri, hC⟩ := h
  have far : ∀ {k : Nat} {c : Array Value} {t : TypeId} {m : Nat × Nat}, w.heap[k]? = some (.cells c t m) → t ≠ 84 → ¬ (k = L.m) := fun hk h1 h3 => ne_of_type hk hm.row h1 h3
  refine ⟨n1, n8, ⟨cap, hU.at hg (far hg (by decide))⟩, ⟨cur, hU.at ha (far ha (by decide)), hc⟩, hM,
    fun j hj => hU.at (hin j hj) (far (hin j hj) (by decide)), fun j hj => ?_, may, inj, l1, hl, l3, l4, rg, ra, rm, ri, Nat.le_trans hC hU.size⟩
  obtain ⟨⟨cp, mp, hrp⟩, ⟨cr, mr, hrr⟩⟩ := (hp j hj).rows
  exact (hp j hj).upd hU (far hrp (by decide)) (far hrr (by decide))
/-- By what input i is blocked. -/
theorem GateIn.block (h : GateIn w B C g L room n s) {i : Nat} (hi : i < n) (x : Int) : GateIn (w.setCell ⟨L.ins i, 1, none⟩ (.int .i64 x)) B C g L room n (s.setBs (s.bs.set i x)) := by
  obtain ⟨n1, n8, ⟨cap, hg⟩, ⟨cur, ha, hc⟩, hm, hin, hp, may, inj, l1, l2, l3, l4, rg, ra, rm, ri, hC⟩ := h
  have hU : Upd (fun k => k = L.ins i) w (w.setCell ⟨L.ins i, 1, none⟩ (.int .i64 x)) := Upd.setCell (S := fun k => k = L.ins i) (p := ⟨L.ins i, 1, none⟩) (Upd.refl _ _) (fun _ => rfl) _
  have far : ∀ {k : Nat} {c : Array Value} {t : TypeId} {m : Nat × Nat}, w.heap[k]? = some (.cells c t m) → t ≠ 95 → ¬ (k = L.ins i) := fun hk h1 h3 => ne_of_type hk (hin i hi) h1 h3
  refine ⟨n1, n8, ⟨cap, hU.at hg (far hg (by decide))⟩, ⟨cur, hU.at ha (far ha (by decide)), hc⟩, hm.upd hU (far hm.row (by decide)),
    fun j hj => ?_, fun j hj => ?_, may, inj, l1, l2, by simpa [GS.setBs] using l3, l4, rg, ra, rm, ri, Nat.le_trans hC hU.size⟩
  · by_cases hij : i = j
    · subst hij
      rw [heap_set (hin i hi)]
      have : (s.setBs (s.bs.set i x)).blk i = x := getD_set_eq _ _ _ _ (by omega)
      rw [this]; rfl
    · have : (s.setBs (s.bs.set i x)).blk j = s.blk j := getD_set_ne' _ _ _ _ _ hij
      rw [this]
      exact hU.at (hin j hj) (fun h3 => hij (inj j i hj hi (.inl h3)).symm)
  · obtain ⟨⟨cp, mp, hrp⟩, ⟨cr, mr, hrr⟩⟩ := (hp j hj).rows
    exact (hp j hj).upd hU (far hrp (by decide)) (far hrr (by decide))
/-- The last barrier pushed into input i. -/
theorem GateIn.last (h : GateIn w B C g L room n s) {i : Nat} (hi : i < n) (x : Int) : GateIn (w.setCell ⟨L.ins i, 2, none⟩ (.int .i64 x)) B C g L room n (s.setTs (s.ts.set i x)) := by
  obtain ⟨n1, n8, ⟨cap, hg⟩, ⟨cur, ha, hc⟩, hm, hin, hp, may, inj, l1, l2, l3, l4, rg, ra, rm, ri, hC⟩ := h
  have hU : Upd (fun k => k = L.ins i) w (w.setCell ⟨L.ins i, 2, none⟩ (.int .i64 x)) := Upd.setCell (S := fun k => k = L.ins i) (p := ⟨L.ins i, 2, none⟩) (Upd.refl _ _) (fun _ => rfl) _
  have far : ∀ {k : Nat} {c : Array Value} {t : TypeId} {m : Nat × Nat}, w.heap[k]? = some (.cells c t m) → t ≠ 95 → ¬ (k = L.ins i) := fun hk h1 h3 => ne_of_type hk (hin i hi) h1 h3
  refine ⟨n1, n8, ⟨cap, hU.at hg (far hg (by decide))⟩, ⟨cur, hU.at ha (far ha (by decide)), hc⟩, hm.upd hU (far hm.row (by decide)),
    fun j hj => ?_, fun j hj => ?_, may, inj, l1, l2, l3, by simpa [GS.setTs] using l4, rg, ra, rm, ri, Nat.le_trans hC hU.size⟩
  · by_cases hij : i = j
    · subst hij
      rw [heap_set (hin i hi)]
      have : (s.setTs (s.ts.set i x)).lst i = x := getD_set_eq _ _ _ _ (by omega)
      rw [this]; rfl
    · have : (s.setTs (s.ts.set i x)).lst j = s.lst j := getD_set_ne' _ _ _ _ _ hij
      rw [this]
      exact hU.at (hin j hj) (fun h3 => hij (inj j i hj hi (.inl h3)).symm)
  · obtain ⟨⟨cp, mp, hrp⟩, ⟨cr, mr, hrr⟩⟩ := (hp j hj).rows
    exact (hp j hj).upd hU (far hrp (by decide)) (far hrr (by decide))

/-- The cells that a walk reads. -/
theorem GateIn.cellsG (h : GateIn w B C g L room n s) : ∃ cap, w.cell? ⟨g, 0, none⟩ = some (.slice (some ⟨L.arr, 0, none⟩) n cap) ∧ w.cell? ⟨g, 1, none⟩ = some (ptr L.m) := by
  obtain ⟨cap, hg⟩ := h.hg
  exact ⟨cap, cell_of hg 0 _ rfl, cell_of hg 1 _ rfl⟩
theorem GateIn.cellsA (h : GateIn w B C g L room n s) {i : Nat} (hi : i < n) : w.cell? ⟨L.arr, i, none⟩ = some (ptr (L.ins i)) := by
  obtain ⟨cur, ha, hc⟩ := h.harr
  exact cell_of ha i _ (hc i hi)
theorem GateIn.cellsI (h : GateIn w B C g L room n s) {i : Nat} (hi : i < n) : w.cell? ⟨L.ins i, 0, none⟩ = some (ptr (L.ps i)) ∧ w.cell? ⟨L.ins i, 1, none⟩ = some (.int .i64 (s.blk i)) ∧ w.cell? ⟨L.ins i, 2, none⟩ = some (.int .i64 (s.lst i)) :=
  ⟨cell_of (h.hin i hi) 0 _ rfl, cell_of (h.hin i hi) 1 _ rfl, cell_of (h.hin i hi) 2 _ rfl⟩
end

set_option maxRecDepth 100000 in
set_option maxHeartbeats 1600000 in
theorem c55 {w : World} {B C g room n : Nat} {L : Loc} {s : GS} (h : GateIn w B C g L room n s) (i : Nat) (hi : i < n) :
    Calls Try.prog 55 #[ptr g, .int .i64 i] w fun x w' => x = .returned (ptr (L.ins i)) ∧ w = w' := by
  obtain ⟨cap, c0, c1⟩ := h.cellsG
  have ca := h.cellsA hi
  have a0 : (0 : Int) ≤ i := by omega
  have a1 : (i : Int) < n := by omega
  have a2 : ((i : Int) < 0) = False := by simp
  have a3 : ((n : Int) ≤ i) = False := by simp; omega
  clear h
  go_enter Try.func55, Try.ntmps55
  go_wp2
  go_ret
  exact ⟨rfl, rfl⟩

set_option maxRecDepth 100000 in
set_option maxHeartbeats 1600000 in
theorem c55_out {w : World} {B C g room n : Nat} {L : Loc} {s : GS} (h : GateIn w B C g L room n s) (i : Int) (hi : i < 0 ∨ (n : Int) ≤ i) :
    Calls Try.prog 55 #[ptr g, .int .i64 i] w fun x w' => x = .returned (.pointer none) ∧ w = w' := by
  obtain ⟨cap, c0, c1⟩ := h.cellsG
  clear h
  by_cases h0 : i < 0
  · clear hi
    go_enter Try.func55, Try.ntmps55
    go_wp2
    go_ret
    exact ⟨rfl, rfl⟩
  · have h1 : (n : Int) ≤ i := by omega
    clear hi
    go_enter Try.func55, Try.ntmps55
    go_wp2
    go_ret
    exact ⟨rfl, rfl⟩
theorem c55_nil (i : Int) (w : World) : Calls Try.prog 55 #[.pointer none, .int .i64 i] w fun x w' => x = .returned (.pointer none) ∧ w = w' := by
  go_enter Try.func55, Try.ntmps55
  go_wp2
  go_ret
  exact ⟨rfl, rfl⟩

/-- What Blocked and Len answer at whatever number. -/
def GS.blocked (s : GS) (i : Int) : Int := if i < 0 ∨ (s.bs.length : Int) ≤ i then 0 else s.blk i.toNat
def GS.len (s : GS) (i : Int) : Int := if i < 0 ∨ (s.ls.length : Int) ≤ i then 0 else (s.pipe i.toNat).length

set_option maxRecDepth 100000 in
set_option maxHeartbeats 1600000 in
theorem c48 {w : World} {B C g room n : Nat} {L : Loc} {s : GS} (h : GateIn w B C g L room n s) (i : Int) :
    Calls Try.prog 48 #[ptr g, .int .i64 i] w fun x w' => x = .returned (.int .i64 (s.blocked i)) ∧ w = w' := by
  by_cases hi : i < 0 ∨ (n : Int) ≤ i
  · have hr : s.blocked i = 0 := by unfold GS.blocked; rw [if_pos (by rw [h.lbs]; exact hi)]
    rw [hr]
    have HI := Lib.hid hi
    have H := Lib.hid h
    clear hi hr h
    go_enter Try.func48, Try.ntmps48
    go_wp2_with (go_at_call 55; refine (c55_out H.out i HI.out).mono ?_; rintro x w1 ⟨rfl, rfl⟩)
    go_ret
    exact ⟨rfl, rfl⟩
  · obtain ⟨j, rfl⟩ := Int.eq_ofNat_of_zero_le (show 0 ≤ i by omega)
    have hj : j < n := by omega
    have hr : s.blocked j = s.blk j := by unfold GS.blocked; rw [if_neg (by rw [h.lbs]; exact hi), Int.toNat_natCast]
    rw [hr]
    obtain ⟨c0, c1, c2⟩ := h.cellsI hj
    generalize s.blk j = v at *
    have H := Lib.hid h
    clear hi hr h
    go_enter Try.func48, Try.ntmps48
    go_wp2_with (go_at_call 55; refine (c55 H.out j hj).mono ?_; rintro x w1 ⟨rfl, rfl⟩)
    go_ret
    exact ⟨rfl, rfl⟩

set_option maxRecDepth 100000 in
set_option maxHeartbeats 1600000 in
theorem c49 {w : World} {B C g room n : Nat} {L : Loc} {s : GS} (h : GateIn w B C g L room n s) (i : Int) :
    Calls Try.prog 49 #[ptr g, .int .i64 i] w fun x w' => x = .returned (.int .i64 (s.len i)) ∧ w = w' := by
  by_cases hi : i < 0 ∨ (n : Int) ≤ i
  · have hr : s.len i = 0 := by unfold GS.len; rw [if_pos (by rw [h.lls]; exact hi)]
    rw [hr]
    have HI := Lib.hid hi
    have H := Lib.hid h
    clear hi hr h
    go_enter Try.func49, Try.ntmps49
    go_wp2_with (go_at_call 55; refine (c55_out H.out i HI.out).mono ?_; rintro x w1 ⟨rfl, rfl⟩)
    go_ret
    exact ⟨rfl, rfl⟩
  · obtain ⟨j, rfl⟩ := Int.eq_ofNat_of_zero_le (show 0 ≤ i by omega)
    have hj : j < n := by omega
    have hr : s.len j = (s.pipe j).length := by unfold GS.len; rw [if_neg (by rw [h.lls]; exact hi), Int.toNat_natCast]
    rw [hr]
    obtain ⟨c0, c1, c2⟩ := h.cellsI hj
    have H := Lib.hid h
    clear hi hr h
    go_enter Try.func49, Try.ntmps49
    go_wp2_with (first | (go_at_call 55; refine (c55 H.out j hj).mono ?_; rintro x w1 ⟨rfl, rfl⟩) | (go_at_call 33; refine (c33 _ _ _ _ _ (H.out.hp j hj)).mono ?_; rintro x w1 ⟨rfl, rfl⟩))
    go_ret
    exact ⟨rfl, rfl⟩

set_option maxRecDepth 100000 in
set_option maxHeartbeats 1600000 in
theorem c43 {w : World} {B C g room n : Nat} {L : Loc} {s : GS} (h : GateIn w B C g L room n s) :
    Calls Try.prog 43 #[ptr g] w fun x w' => x = .returned (.int .i64 (leastL s.ms)) ∧ w = w' := by
  obtain ⟨cap, c0, c1⟩ := h.cellsG
  have H := Lib.hid h
  clear h
  go_enter Try.func43, Try.ntmps43
  go_wp2_with (go_at_call 22; refine (c22 _ _ _ H.out.hm).mono ?_; rintro x w1 ⟨rfl, rfl⟩)
  go_ret
  exact ⟨rfl, rfl⟩

theorem c43_nil (w : World) : Calls Try.prog 43 #[.pointer none] w fun x w' => x = .returned (.int .i64 0) ∧ w = w' := by
  go_enter Try.func43, Try.ntmps43
  go_wp2
  go_ret
  exact ⟨rfl, rfl⟩
theorem c48_nil (i : Int) (w : World) : Calls Try.prog 48 #[.pointer none, .int .i64 i] w fun x w' => x = .returned (.int .i64 0) ∧ w = w' := by
  go_enter Try.func48, Try.ntmps48
  go_wp2_with (go_at_call 55; refine (c55_nil i _).mono ?_; rintro x w1 ⟨rfl, rfl⟩)
  go_ret
  exact ⟨rfl, rfl⟩
theorem c49_nil (i : Int) (w : World) : Calls Try.prog 49 #[.pointer none, .int .i64 i] w fun x w' => x = .returned (.int .i64 0) ∧ w = w' := by
  go_enter Try.func49, Try.ntmps49
  go_wp2_with (go_at_call 55; refine (c55_nil i _).mono ?_; rintro x w1 ⟨rfl, rfl⟩)
  go_ret
  exact ⟨rfl, rfl⟩
end Go.Proofs.Ytijkcahdegohiaa
