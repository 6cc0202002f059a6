/-
  The law PipeDoes, as a call.
-/
import Derived.Test.YtijkcahdegohiaaLawPb
import Derived.Test.YtijkcahdegohiaaOwn
namespace Go.Proofs.Ytijkcahdegohiaa
open Go.RowKit

/-- Five cells from an address on hold an element. -/
def ElAt (w : World) (b o : Nat) (e : El) : Prop :=
  w.cell? ⟨b, o, none⟩ = some (.int .i64 e.kind) ∧ w.cell? ⟨b, o + 1, none⟩ = some (.string e.key) ∧ w.cell? ⟨b, o + 2, none⟩ = some (.int .i64 e.time)
      ∧ w.cell? ⟨b, o + 3, none⟩ = some (.int .i64 e.value) ∧ w.cell? ⟨b, o + 4, none⟩ = some (.int .i64 e.at_)
theorem ElAt.upd {S : Nat → Prop} {w w' : World} {b o : Nat} {e : El} (h : ElAt w b o e) (hU : Upd S w w') (hS : ¬ S b) : ElAt w' b o e := by
  obtain ⟨h0, h1, h2, h3, h4⟩ := h
  have hk := hU.block b (World.block_lt_of_cell? w _ h0) hS
  exact ⟨(World.cell?_of_block (w := w) hk).trans h0, (World.cell?_of_block (w := w) hk).trans h1, (World.cell?_of_block (w := w) hk).trans h2, (World.cell?_of_block (w := w) hk).trans h3, (World.cell?_of_block (w := w) hk).trans h4⟩

/-- The script, as it is read: a number and an element each. -/
def Ops13Rd (w : World) (A : Option Addr) (os : List (Int × El)) : Prop :=
  ∃ b off, (os ≠ [] → A = some ⟨b, off, none⟩) ∧ ∀ i x, os[i]? = some x → w.cell? ⟨b, off + i * 6, none⟩ = some (.int .i64 x.1) ∧ ElAt w b (off + i * 6 + 1) x.2
theorem Ops13Rd.upd0 {w w' : World} {A : Option Addr} {os : List (Int × El)} (h : Ops13Rd w A os) (hU : Upd (fun _ => False) w w') : Ops13Rd w' A os := by
  obtain ⟨b, off, hA, hc⟩ := h
  refine ⟨b, off, hA, fun i x hx => ?_⟩
  obtain ⟨h1, h2⟩ := hc i x hx
  exact ⟨(World.cell?_of_block (w := w) (hU.block b (World.block_lt_of_cell? w _ h1) (fun h => h))).trans h1, h2.upd hU (fun h => h)⟩

/-- What holds ahead of each round: the list l, the pipe of l. -/
structure St8 (w wr : World) (v : Value) (room : Nat) (l : List El) : Prop where
  own : OwnAt wr w.heap.size 46 5 v l.length (slotsVals l)
  pipe : PipeAt wr (w.heap.size + 1) w.heap.size room l
  upd : Upd (fun _ => False) w wr
  ne : ∀ k, v.ownBlock = some k → k ≠ w.heap.size ∧ k ≠ w.heap.size + 1
  two : w.heap.size + 1 < wr.heap.size

theorem El.cells_one (e : El) : ∀ u ∈ e.cells, u.oneCell' = true := fun u hu => by
  simp only [El.cells, List.mem_cons, List.not_mem_nil, or_false] at hu
  rcases hu with rfl | rfl | rfl | rfl | rfl <;> rfl
theorem El.obj_cells {w : World} {b : Nat} {e : El} (h : w.heap[b]? = some e.obj) : ∀ j u, e.cells[j]? = some u → w.cell? ⟨b, j, none⟩ = some u := fun j u hu => by
  refine cell_of h j u ?_
  show (#[Value.int .i64 e.kind, .string e.key, .int .i64 e.time, .int .i64 e.value, .int .i64 e.at_] : Array Value)[j]? = some u
  have : (#[Value.int .i64 e.kind, .string e.key, .int .i64 e.time, .int .i64 e.value, .int .i64 e.at_] : Array Value) = e.cells.toArray := rfl
  rw [this, List.getElem?_toArray]; exact hu
theorem slotsVals_snoc (l : List El) (e : El) : slotsVals (l ++ [e]) = slotsVals l ++ e.cells := by simp [slotsVals]
/-- append of one element onto a slice of elements of the call's own. -/
theorem wpList_append_els {w : World} {ops : Array Oper} {rest : List Oper} {o : Oper} {a : Act} {Q : Exit → Act → World → Prop} (hgd : o.guard = none) (s x : Operand)
    (ho : o.op = .call { callee := .builtin .append, args := #[s, x], argTypes := #[52, 52] }) {B : Nat} (v : Value) (l : List El) (hs : a.eval s = v) (h : OwnAt w B 46 5 v l.length (slotsVals l))
    (b : Nat) (e : El) (hx : a.eval x = .slice (some ⟨b, 0, none⟩) 1 1) (hb : w.heap[b]? = some e.obj) (hn : l.length ≤ 100000) (hB : B ≤ w.heap.size)
    (hK : ∀ v' w', OwnAt w' B 46 5 v' (l.length + 1) (slotsVals (l ++ [e])) → Upd (fun k => v.ownBlock = some k) w w' → (v'.ownBlock = v.ownBlock ∨ ∃ g, v'.ownBlock = some g ∧ w.heap.size ≤ g) → wpList Try.prog ops Q rest (a.put o.dst v') w') : wpList Try.prog ops Q (o :: rest) a w := by
  obtain ⟨i, hi, hz, hsz, hby⟩ := info_parts Try.info46
  refine wpList_append_ownAt hgd s x 52 ho v l.length (slotsVals l) hs h i _ 48 Try.underlying52 hi hz hsz hby rfl (by decide) b e.cells hx rfl (El.obj_cells hb) e.cells_one (by unfold maxLen; omega) (by omega) hB ?_
  intro v' w' h1 h2 h3
  refine hK v' w' ?_ (OwnAt.owns_grown h2 (fun k hk _ => hk)) h3
  rw [slotsVals_snoc]
  exact h1
set_option maxRecDepth 100000 in
set_option maxHeartbeats 1600000 in
theorem c8_far (A : Option Addr) (cap n : Nat) (m : Int) (w : World) (h : 1000 < n) :
    Calls Try.prog 8 #[.int .i64 m, .slice A n cap] w fun x w' => x = .returned (.bool true) ∧ Upd (fun _ => False) w w' := by
  have h' : (1000 : Int) < n := by omega
  go_enter Try.func8, Try.ntmps8
  go_wp2_with fail
  go_ret
  exact ⟨rfl, Upd.refl _ _⟩

set_option maxRecDepth 100000 in
set_option maxHeartbeats 1600000 in
theorem c8_bad (A : Option Addr) (cap n : Nat) (m : Int) (w : World) (h : n ≤ 1000) (hm : m < 1 ∨ 64 < m) :
    Calls Try.prog 8 #[.int .i64 m, .slice A n cap] w fun x w' => x = .returned (.bool true) ∧ Upd (fun _ => False) w w' := by
  have h' : ¬ (1000 : Int) < n := by omega
  have HM := Lib.hid hm
  by_cases h1 : m < 1
  · clear hm
    go_enter Try.func8, Try.ntmps8
    go_wp2_with (first | (go_at_call 29; refine (c29_bad m _ HM.out).mono ?_; rintro x w1 ⟨rfl, rfl⟩) | (go_at_call 26; refine (c26 _).mono ?_; rintro x w2 ⟨rfl, hU2⟩))
    go_ret
    exact ⟨rfl, hU2⟩
  · have h2 : 64 < m := by omega
    clear hm
    go_enter Try.func8, Try.ntmps8
    go_wp2_with (first | (go_at_call 29; refine (c29_bad m _ HM.out).mono ?_; rintro x w1 ⟨rfl, rfl⟩) | (go_at_call 26; refine (c26 _).mono ?_; rintro x w2 ⟨rfl, hU2⟩))
    go_ret
    exact ⟨rfl, hU2⟩

set_option maxRecDepth 100000 in
set_option maxHeartbeats 6400000 in
theorem c8_run (A : Option Addr) (cap room : Nat) (os : List (Int × El)) (w : World) (h : Ops13Rd w A os) (hl : os.length ≤ 1000) (h1 : 1 ≤ room) (h2 : room ≤ 64) :
    Calls Try.prog 8 #[.int .i64 room, .slice A os.length cap] w fun x w' => x = .returned (.bool true) ∧ Upd (fun _ => False) w w' := by
  have HRD := Lib.hid h
  generalize hN : os.length = N at *
  have HN := Lib.hid hN
  have g0 : ¬ (1000 : Int) < N := by omega
  have g1 : ¬ (room : Int) < 1 := by omega
  have g2 : ¬ (64 : Int) < room := by omega
  clear h hN
  go_enter Try.func8, Try.ntmps8
  go_wp2_with fail
  refine (c29 room _ h1 h2).mono ?_
  rintro x w1 ⟨rfl, hP1, hU1⟩
  have HP1 := Lib.hid hP1
  have HU1 := Lib.hid hU1
  have hs1 : w.heap.size + 1 < w1.heap.size := by obtain ⟨k, s, _, _, _, h1, _⟩ := hP1.open_; exact lt_of_heap h1
  clear hP1 hU1
  go_wp2_with fail
  go_loopw [7, 8] (fun v i wr => ∃ (k : Nat) (l : List El), k ≤ N ∧ i = .int .i64 k ∧ St8 w wr v room l) (fun _ i _ => N - (intOf i).toNat)
  case atStart => exact ⟨0, [], by omega, rfl, OwnAt.nil _ _ _ _, HP1.out, HU1.out, fun k hk => by simp [Value.ownBlock] at hk, hs1⟩
  case round =>
    obtain ⟨k, l, hk, rfl, hS⟩ := hrel
    have HS := Lib.hid hS
    obtain ⟨lA, lcap, rfl⟩ := hS.own.shape
    have hfit := hS.pipe.fits
    clear hS HP1 HU1
    by_cases hlt : k < N
    · obtain ⟨⟨kd, e⟩, hx⟩ : ∃ x, os[k]? = some x := ⟨_, List.getElem?_eq_getElem (by rw [HN.out]; exact hlt)⟩
      obtain ⟨ab, off, hA, hc⟩ := HRD.out
      obtain ⟨hc0, hE⟩ := hc k _ hx
      dsimp only at hc0 hE
      have hab := World.block_lt_of_cell? w _ hc0
      replace hc0 := (World.cell?_of_block (w := w) (HS.out.upd.block ab hab (fun h => h))).trans hc0
      replace hE := hE.upd HS.out.upd (fun h => h)
      have HE := Lib.hid hE
      obtain ⟨e0, e1, e2, e3, e4⟩ := hE
      obtain rfl := hA (by intro e; rw [e] at hx; simp at hx)
      have a1 : (0 : Int) ≤ k := by omega
      have a2 : (k : Int) < N := by omega
      clear hc hA hx
      by_cases k0 : kd = 0
      · subst k0
        by_cases hm : mayB e = true
        · have HM := Lib.hid hm
          clear hm
          go_wp2_with fail
          refine (c28 e _).mono ?_
          rw [HM.out]
          rintro x w3 ⟨rfl, hU3⟩
          have HE3 := Lib.hid (HE.out.upd hU3 (fun h => h))
          have HP3 := Lib.hid (HS.out.pipe.upd hU3 (fun h => h) (fun h => h))
          have HO3 := Lib.hid (HS.out.own.upd hU3 (fun _ _ h => h))
          have hsz3 : w.heap.size + 1 < w3.heap.size := Nat.lt_of_lt_of_le HS.out.two hU3.size
          have HU3 := Lib.hid (HS.out.upd.trans hU3)
          obtain ⟨e0, e1, e2, e3, e4⟩ := HE3.out
          clear hU3 hc0
          by_cases hlr : l.length = room
          · have hlb : ((l.length : Int) == (room : Int)) = true := by simp; omega
            have hpc : pushCode room l e = 8 := by unfold pushCode; rw [HM.out, if_pos rfl, if_pos hlr]
            have hpl : pushList room l e = l := by unfold pushList; rw [HM.out, if_pos rfl, if_pos hlr]
            have HPC := Lib.hid hpc
            have HPL := Lib.hid hpl
            clear hpc hpl hlr
            go_wp2_with fail
            refine (c30 _ _ room _ e l HP3.out).mono ?_
            rw [HPC.out, HPL.out]
            rintro x w5 ⟨rfl, hP5, hU5⟩
            have HP5 := Lib.hid hP5
            have HO5 := Lib.hid (HO3.out.upd hU5 (fun k hk => by have := HS.out.ne k hk; omega))
            have hsz5 : w.heap.size + 1 < w5.heap.size := Nat.lt_of_lt_of_le hsz3 hU5.size
            have HU5 := Lib.hid (HU3.out.step hU5 (by omega))
            clear hP5 hU5
            go_wp2_with fail
            refine (c33 _ _ room _ l HP5.out).mono ?_
            rintro x w6 ⟨rfl, rfl⟩
            go_wp2_with fail
            refine (c34 _ _ room _ l HP5.out).mono ?_
            rintro x w7 ⟨rfl, n7, rfl⟩
            go_wp2_with fail
            go_roundw
            case rel => exact ⟨k + 1, l, by omega, by go_num, HO5.out.upd ((Upd.refl (fun _ => False) _).drewN _) (fun _ _ h => h), HP5.out.upd ((Upd.refl (fun _ => False) _).drewN _) (fun h => h) (fun h => h), HU5.out.drewN _, HS.out.ne, hsz5⟩
            case measure => simp [intOf]; omega
          · have hlb : ((l.length : Int) == (room : Int)) = false := by simp; omega
            have hpc : pushCode room l e = 0 := by unfold pushCode; rw [HM.out, if_pos rfl, if_neg hlr]
            obtain ⟨l2, hl2⟩ : ∃ l2, l ++ [e] = l2 := ⟨_, rfl⟩
            have hpl : pushList room l e = l2 := by unfold pushList; rw [HM.out, if_pos rfl, if_neg hlr, hl2]
            have HL2 : Hid (l2.length = l.length + 1) := Lib.hid (by rw [← hl2]; simp)
            have HLE := Lib.hid hl2
            have HPC := Lib.hid hpc
            have HPL := Lib.hid hpl
            clear hpc hpl hl2
            have hOa := HO3.out.upd ((Upd.refl (fun _ => False) _).alloc e.obj) (fun _ _ h => h)
            have hn8 : l.length ≤ 100000 := by omega
            have hB8 : w.heap.size ≤ (w3.alloc e.obj).heap.size := by simp; omega
            have HOA := Lib.hid hOa
            have HB8 := Lib.hid hB8
            clear hOa hB8
            go_wp2_with (at_builtin; refine wpList_append_els rfl (.tmp 67) (.tmp 73) rfl (.slice lA l.length lcap) l rfl HOA.out w3.heap.size e rfl (El.box w3 e) hn8 HB8.out ?_; intro v' w4 hO4 hU4 hv4; rw [HLE.out] at hO4; (have hU34 := ((Upd.refl (fun k => (Value.slice lA l.length lcap).ownBlock = some k) w3).alloc e.obj).step hU4 (fun _ _ h => h)); (have hE4 := HE3.out.upd hU34 (fun h => by have := (HS.out.own.lt h).1; omega)); (obtain ⟨f0, f1, f2, f3, f4⟩ := hE4); (have HO4 := Lib.hid hO4); (have HU34 := Lib.hid hU34); (have HV4 := Lib.hid hv4); clear hO4 hU4 hU34 hv4 e0 e1 e2 e3 e4)
            have HP4 := Lib.hid (HP3.out.upd HU34.out (fun h => (HS.out.ne _ h).2 rfl) (fun h => (HS.out.ne _ h).1 rfl))
            have hsz4 : w.heap.size + 1 < w4.heap.size := Nat.lt_of_lt_of_le hsz3 HU34.out.size
            have HN4 : Hid (∀ k, v'.ownBlock = some k → k ≠ w.heap.size ∧ k ≠ w.heap.size + 1) := Lib.hid (fun k hk => by
              rcases HV4.out with h | ⟨g, h, hg⟩
              · exact HS.out.ne k (by rw [← h]; exact hk)
              · rw [hk] at h; injection h with h; subst h; simp at hg; omega)
            have HU4 := Lib.hid (HU3.out.step HU34.out (fun i hi h => by have := (HS.out.own.lt h).1; omega))
            obtain ⟨lA', lcap', rfl⟩ := HO4.out.shape
            refine (c30 _ _ room _ e l HP4.out).mono ?_
            rw [HPC.out, HPL.out]
            rintro x w5 ⟨rfl, hP5, hU5⟩
            have HP5 := Lib.hid hP5
            have HO5 := Lib.hid (HO4.out.upd hU5 (fun k hk => by have := HN4.out k hk; omega))
            have hsz5 : w.heap.size + 1 < w5.heap.size := Nat.lt_of_lt_of_le hsz4 hU5.size
            have HU5 := Lib.hid (HU4.out.step hU5 (by omega))
            clear hP5 hU5
            go_wp2_with fail
            refine (c33 _ _ room _ l2 HP5.out).mono ?_
            rw [HL2.out]
            rintro x w6 ⟨rfl, rfl⟩
            go_wp2_with fail
            refine (c34 _ _ room _ l2 HP5.out).mono ?_
            rw [HL2.out]
            rintro x w7 ⟨rfl, n7, rfl⟩
            go_wp2_with fail
            go_roundw
            case rel => exact ⟨k + 1, l2, by omega, by go_num, by rw [HL2.out]; exact HO5.out.upd ((Upd.refl (fun _ => False) _).drewN _) (fun _ _ h => h), HP5.out.upd ((Upd.refl (fun _ => False) _).drewN _) (fun h => h) (fun h => h), HU5.out.drewN _, HN4.out, hsz5⟩
            case measure => simp [intOf]; omega
        · have HM : Hid (mayB e = false) := Lib.hid (by simpa using hm)
          clear hm
          have hpc : pushCode room l e = 1 := by unfold pushCode; rw [HM.out]; rfl
          have hpl : pushList room l e = l := by unfold pushList; rw [HM.out]; rfl
          have HPC := Lib.hid hpc
          have HPL := Lib.hid hpl
          clear hpc hpl
          go_wp2_with fail
          refine (c28 e _).mono ?_
          rw [HM.out]
          rintro x w3 ⟨rfl, hU3⟩
          have HE3 := Lib.hid (HE.out.upd hU3 (fun h => h))
          have HP3 := Lib.hid (HS.out.pipe.upd hU3 (fun h => h) (fun h => h))
          have HO3 := Lib.hid (HS.out.own.upd hU3 (fun _ _ h => h))
          have hsz3 : w.heap.size + 1 < w3.heap.size := Nat.lt_of_lt_of_le HS.out.two hU3.size
          have HU3 := Lib.hid (HS.out.upd.trans hU3)
          obtain ⟨e0, e1, e2, e3, e4⟩ := HE3.out
          clear hU3 hc0
          go_wp2_with fail
          refine (c30 _ _ room _ e l HP3.out).mono ?_
          rw [HPC.out, HPL.out]
          rintro x w4 ⟨rfl, hP4, hU4⟩
          have HP4 := Lib.hid hP4
          have HO4 := Lib.hid (HO3.out.upd hU4 (fun k hk => by have := HS.out.ne k hk; omega))
          have hsz4 : w.heap.size + 1 < w4.heap.size := Nat.lt_of_lt_of_le hsz3 hU4.size
          have HU4 := Lib.hid (HU3.out.step hU4 (by omega))
          clear hP4 hU4
          go_wp2_with fail
          refine (c33 _ _ room _ l HP4.out).mono ?_
          rintro x w5 ⟨rfl, rfl⟩
          go_wp2_with fail
          refine (c34 _ _ room _ l HP4.out).mono ?_
          rintro x w6 ⟨rfl, n6, rfl⟩
          go_wp2_with fail
          go_roundw
          case rel => exact ⟨k + 1, l, by omega, by go_num, HO4.out.upd ((Upd.refl (fun _ => False) _).drewN _) (fun _ _ h => h), HP4.out.upd ((Upd.refl (fun _ => False) _).drewN _) (fun h => h) (fun h => h), HU4.out.drewN _, HS.out.ne, hsz4⟩
          case measure => simp [intOf]; omega
      · clear e0 e1 e2 e3 e4 HE
        by_cases k1 : kd = 1
        · subst k1
          clear k0
          cases l with
          | nil =>
            rw [show (Value.slice lA ([] : List El).length lcap) = .slice lA 0 lcap from rfl]
            go_wp2_with fail
            refine (c31 _ _ room _ [] HS.out.pipe).mono ?_
            rw [show (popEl []).val = Value.agg #[.int .i64 0, .string ⟨#[]⟩, .int .i64 0, .int .i64 0, .int .i64 0] from rfl]
            rintro x w3 ⟨rfl, hP3, hU3⟩
            have HP3 := Lib.hid hP3
            have HO3 := Lib.hid (HS.out.own.upd hU3 (fun k hk => by have := HS.out.ne k hk; omega))
            have hsz3 : w.heap.size + 1 < w3.heap.size := Nat.lt_of_lt_of_le HS.out.two hU3.size
            have HU3 := Lib.hid (HS.out.upd.step hU3 (by omega))
            clear hP3 hU3 hc0
            have HF := Lib.hid (fun n => ((Upd.refl (fun _ => False) w3).alloc (.cells #[.int .i64 0, .string ⟨#[]⟩, .int .i64 0, .int .i64 0, .int .i64 0] 46)).drewN n)
            go_wp2_with fail
            go_quiet (fail)
            go_wp2_with fail
            refine (c33 _ _ room _ [] (HP3.out.upd (HF.out nq) (fun h => h) (fun h => h))).mono ?_
            rintro x w6 ⟨rfl, rfl⟩
            go_wp2_with fail
            refine (c34 _ _ room _ [] (HP3.out.upd (HF.out nq) (fun h => h) (fun h => h))).mono ?_
            rintro x w7 ⟨rfl, n7, rfl⟩
            go_wp2_with fail
            go_roundw
            case rel => exact ⟨k + 1, [], by omega, by go_num, HO3.out.upd (HF.out (nq + n7)) (fun _ _ h => h), HP3.out.upd (HF.out (nq + n7)) (fun h => h) (fun h => h), HU3.out.trans (HF.out (nq + n7)), HS.out.ne, Nat.lt_of_lt_of_le hsz3 (HF.out (nq + n7)).size⟩
            case measure => simp [intOf]; omega
          | cons e' l' =>
            rw [show (Value.slice lA ((e' :: l') : List El).length lcap) = .slice lA (l'.length + 1) lcap from rfl]
            go_wp2_with fail
            refine (c31 _ _ room _ (e' :: l') HS.out.pipe).mono ?_
            rw [show (popEl (e' :: l')) = e' from rfl]
            rintro x w3 ⟨rfl, hP3, hU3⟩
            have HP3 := Lib.hid hP3
            have HO3 := Lib.hid (HS.out.own.upd hU3 (fun k hk => by have := HS.out.ne k hk; omega))
            have hsz3 : w.heap.size + 1 < w3.heap.size := Nat.lt_of_lt_of_le HS.out.two hU3.size
            have HU3 := Lib.hid (HS.out.upd.step hU3 (by omega))
            clear hP3 hU3 hc0
            have HF := Lib.hid (fun n => ((Upd.refl (fun _ => False) w3).alloc e'.obj).drewN n)
            obtain ⟨g, goff, gcap, hgv, hgB, hgc, hgf⟩ := HO3.out.cells (by simp)
            injection hgv with q1 q2 q3
            subst q1 q3
            have hgl := (HO3.out.lt (k := g) rfl).2
            have hfl : l'.length + 1 ≤ room := hfit
            obtain ⟨t0, t1, t2, t3, t4⟩ : ElAt w3 g goff e' := ⟨hgc 0 _ rfl, hgc 1 _ rfl, hgc 2 _ rfl, hgc 3 _ rfl, hgc 4 _ rfl⟩
            have l0 : (0 : Int) < (l'.length : Int) + 1 := by omega
            have l1 : ((0 : Nat) : Int) < ((l'.length + 1 : Nat) : Int) := by omega
            clear hgc hgf q2
            by_cases hc1 : lcap = 1
            · subst hc1
              go_wp2_with fail
              go_quiet (fail)
              go_wp2_with fail
              refine (c33 _ _ room _ l' (HP3.out.upd (HF.out nq) (fun h => h) (fun h => h))).mono ?_
              rintro x w6 ⟨rfl, rfl⟩
              go_wp2_with fail
              refine (c34 _ _ room _ l' (HP3.out.upd (HF.out nq) (fun h => h) (fun h => h))).mono ?_
              rintro x w7 ⟨rfl, n7, rfl⟩
              go_wp2_with fail
              exact ⟨⟨k + 1, l', by omega, by go_num, HO3.out.tail1.upd (HF.out (nq + n7)) (fun _ _ h => h), HP3.out.upd (HF.out (nq + n7)) (fun h => h) (fun h => h), HU3.out.trans (HF.out (nq + n7)), (fun k hk => HS.out.ne k hk), Nat.lt_of_lt_of_le hsz3 (HF.out (nq + n7)).size⟩, by simp [intOf]; omega⟩
            · go_wp2_with fail
              go_quiet (fail)
              go_wp2_with fail
              refine (c33 _ _ room _ l' (HP3.out.upd (HF.out nq) (fun h => h) (fun h => h))).mono ?_
              rintro x w6 ⟨rfl, rfl⟩
              go_wp2_with fail
              refine (c34 _ _ room _ l' (HP3.out.upd (HF.out nq) (fun h => h) (fun h => h))).mono ?_
              rintro x w7 ⟨rfl, n7, rfl⟩
              go_wp2_with fail
              exact ⟨⟨k + 1, l', by omega, by go_num, HO3.out.tail2.upd (HF.out (nq + n7)) (fun _ _ h => h), HP3.out.upd (HF.out (nq + n7)) (fun h => h) (fun h => h), HU3.out.trans (HF.out (nq + n7)), (fun k hk => HS.out.ne k hk), Nat.lt_of_lt_of_le hsz3 (HF.out (nq + n7)).size⟩, by simp [intOf]; omega⟩
        · by_cases k2 : kd = 2
          · subst k2
            clear k0 k1
            cases l with
            | nil =>
              rw [show (Value.slice lA ([] : List El).length lcap) = .slice lA 0 lcap from rfl]
              go_wp2_with fail
              refine (c32 _ _ room _ [] HS.out.pipe).mono ?_
              rw [show (popEl []).val = Value.agg #[.int .i64 0, .string ⟨#[]⟩, .int .i64 0, .int .i64 0, .int .i64 0] from rfl]
              rintro x w3 ⟨rfl, hU3⟩
              have HP3 := Lib.hid (HS.out.pipe.upd hU3 (fun h => h) (fun h => h))
              have HO3 := Lib.hid (HS.out.own.upd hU3 (fun _ _ h => h))
              have hsz3 : w.heap.size + 1 < w3.heap.size := Nat.lt_of_lt_of_le HS.out.two hU3.size
              have HU3 := Lib.hid (HS.out.upd.trans hU3)
              clear hU3 hc0
              have HF := Lib.hid (fun n => ((Upd.refl (fun _ => False) w3).alloc (.cells #[.int .i64 0, .string ⟨#[]⟩, .int .i64 0, .int .i64 0, .int .i64 0] 46)).drewN n)
              go_wp2_with fail
              go_quiet (fail)
              go_wp2_with fail
              refine (c33 _ _ room _ [] (HP3.out.upd (HF.out nq) (fun h => h) (fun h => h))).mono ?_
              rintro x w6 ⟨rfl, rfl⟩
              go_wp2_with fail
              refine (c34 _ _ room _ [] (HP3.out.upd (HF.out nq) (fun h => h) (fun h => h))).mono ?_
              rintro x w7 ⟨rfl, n7, rfl⟩
              go_wp2_with fail
              go_roundw
              case rel => exact ⟨k + 1, [], by omega, by go_num, HO3.out.upd (HF.out (nq + n7)) (fun _ _ h => h), HP3.out.upd (HF.out (nq + n7)) (fun h => h) (fun h => h), HU3.out.trans (HF.out (nq + n7)), HS.out.ne, Nat.lt_of_lt_of_le hsz3 (HF.out (nq + n7)).size⟩
              case measure => simp [intOf]; omega
            | cons e' l' =>
              rw [show (Value.slice lA ((e' :: l') : List El).length lcap) = .slice lA (l'.length + 1) lcap from rfl]
              go_wp2_with fail
              refine (c32 _ _ room _ (e' :: l') HS.out.pipe).mono ?_
              rw [show (popEl (e' :: l')) = e' from rfl]
              rintro x w3 ⟨rfl, hU3⟩
              have HP3 := Lib.hid (HS.out.pipe.upd hU3 (fun h => h) (fun h => h))
              have HO3 := Lib.hid (HS.out.own.upd hU3 (fun _ _ h => h))
              have hsz3 : w.heap.size + 1 < w3.heap.size := Nat.lt_of_lt_of_le HS.out.two hU3.size
              have HU3 := Lib.hid (HS.out.upd.trans hU3)
              clear hU3 hc0
              have HF := Lib.hid (fun n => ((Upd.refl (fun _ => False) w3).alloc e'.obj).drewN n)
              obtain ⟨g, goff, gcap, hgv, hgB, hgc, hgf⟩ := HO3.out.cells (by simp)
              injection hgv with q1 q2 q3
              subst q1 q3
              have hgl := (HO3.out.lt (k := g) rfl).2
              have hfl : l'.length + 1 ≤ room := hfit
              obtain ⟨t0, t1, t2, t3, t4⟩ : ElAt w3 g goff e' := ⟨hgc 0 _ rfl, hgc 1 _ rfl, hgc 2 _ rfl, hgc 3 _ rfl, hgc 4 _ rfl⟩
              have l0 : (0 : Int) < (l'.length : Int) + 1 := by omega
              have l1 : ((0 : Nat) : Int) < ((l'.length + 1 : Nat) : Int) := by omega
              clear hgc hgf q2
              go_wp2_with fail
              go_quiet (fail)
              go_wp2_with fail
              refine (c33 _ _ room _ (e' :: l') (HP3.out.upd (HF.out nq) (fun h => h) (fun h => h))).mono ?_
              rw [show (e' :: l').length = l'.length + 1 from rfl]
              rintro x w6 ⟨rfl, rfl⟩
              go_wp2_with fail
              refine (c34 _ _ room _ (e' :: l') (HP3.out.upd (HF.out nq) (fun h => h) (fun h => h))).mono ?_
              rw [show (e' :: l').length = l'.length + 1 from rfl]
              rintro x w7 ⟨rfl, n7, rfl⟩
              go_wp2_with fail
              exact ⟨⟨k + 1, (e' :: l'), by omega, by go_num, HO3.out.upd (HF.out (nq + n7)) (fun _ _ h => h), HP3.out.upd (HF.out (nq + n7)) (fun h => h) (fun h => h), HU3.out.trans (HF.out (nq + n7)), HS.out.ne, Nat.lt_of_lt_of_le hsz3 (HF.out (nq + n7)).size⟩, by simp [intOf]; omega⟩
          · have HP5 := Lib.hid HS.out.pipe
            have HO5 := Lib.hid HS.out.own
            have HU5 := Lib.hid HS.out.upd
            have hsz5 := HS.out.two
            go_wp2_with fail
            refine (c33 _ _ room _ l HP5.out).mono ?_
            rintro x w6 ⟨rfl, rfl⟩
            go_wp2_with fail
            refine (c34 _ _ room _ l HP5.out).mono ?_
            rintro x w7 ⟨rfl, n7, rfl⟩
            go_wp2_with fail
            go_roundw
            case rel => exact ⟨k + 1, l, by omega, by go_num, HO5.out.upd ((Upd.refl (fun _ => False) _).drewN _) (fun _ _ h => h), HP5.out.upd ((Upd.refl (fun _ => False) _).drewN _) (fun h => h) (fun h => h), HU5.out.drewN _, HS.out.ne, hsz5⟩
            case measure => simp [intOf]; omega
    · obtain rfl : k = N := by omega
      go_wp2_with (go_at_call 26; refine (c26 _).mono ?_; rintro x w2 ⟨rfl, hU2⟩)
      go_ret
      exact ⟨rfl, HS.out.upd.trans hU2⟩

/-- PipeDoes, as a call. -/
theorem c8 (m : Int) (A : Option Addr) (cap : Nat) (os : List (Int × El)) (w : World) (h : Ops13Rd w A os) :
    Calls Try.prog 8 #[.int .i64 m, .slice A os.length cap] w fun x w' => x = .returned (.bool true) ∧ Upd (fun _ => False) w w' := by
  by_cases hl : 1000 < os.length
  · exact c8_far A cap os.length m w hl
  · by_cases hm : m < 1 ∨ 64 < m
    · exact c8_bad A cap os.length m w (by omega) hm
    · obtain ⟨n, rfl⟩ := Int.eq_ofNat_of_zero_le (show 0 ≤ m by omega)
      exact c8_run A cap n os w h (by omega) (by omega) (by omega)
end Go.Proofs.Ytijkcahdegohiaa
