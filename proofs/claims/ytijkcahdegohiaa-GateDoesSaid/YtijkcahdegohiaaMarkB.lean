/-
  The contracts of Raise and At of marks, of Next, Late, and of watershedref08's Next and Least.
-/
import Derived.Test.YtijkcahdegohiaaMarkA
import Derived.BigRegion
import Derived.ChangeKeysEq
import Derived.Deep.DeepCutAuto
import Derived.Deep.DrawnRows
namespace Go.Proofs.Ytijkcahdegohiaa
open Go.RowKit
attribute [local go_sem ↓] Go.wp_at_zero Go.wp_at_succ

def isMark (n : Int) : Bool := decide (0 ≤ n) && decide (n ≤ 1000000001)

theorem c23_nil (i a : Int) (w : World) : Calls Try.prog 23 #[.pointer none, .int .i64 i, .int .i64 a] w fun x w' => x = .returned (.tuple #[.int .i64 0, .bool false, .int .i64 3]) ∧ w = w' := by
  go_enter Try.func23, Try.ntmps23
  go_wp2
  go_ret3
  exact ⟨rfl, rfl⟩
theorem c24_nil (i : Int) (w : World) : Calls Try.prog 24 #[.pointer none, .int .i64 i] w fun x w' => x = .returned (.tuple #[.int .i64 0, .int .i64 3]) ∧ w = w' := by
  go_enter Try.func24, Try.ntmps24
  go_wp2
  go_ret2
  exact ⟨rfl, rfl⟩

set_option maxRecDepth 100000 in
set_option maxHeartbeats 800000 in
theorem c24_bad (b : Nat) (l : List Int) (i : Int) (w : World) (h : MarksAt w b l) (hi : i < 0 ∨ (l.length : Int) ≤ i) :
    Calls Try.prog 24 #[ptr b, .int .i64 i] w fun x w' => x = .returned (.tuple #[.int .i64 0, .int .i64 1]) ∧ w = w' := by
  have hn := h.n
  clear h
  rcases hi with hi | hi
  · go_enter Try.func24, Try.ntmps24
    go_wp2
    go_ret2
    exact ⟨rfl, rfl⟩
  · have hi' : ¬ i < 0 := by omega
    go_enter Try.func24, Try.ntmps24
    go_wp2
    go_ret2
    exact ⟨rfl, rfl⟩

set_option maxRecDepth 100000 in
set_option maxHeartbeats 800000 in
theorem c24 (b : Nat) (l : List Int) (i : Nat) (w : World) (h : MarksAt w b l) (hi : i < l.length) :
    Calls Try.prog 24 #[ptr b, .int .i64 i] w fun x w' => x = .returned (.tuple #[.int .i64 (l.getD i 0), .int .i64 0]) ∧ w = w' := by
  have hn := h.n
  have hh := h.hi
  have hc := h.cell i (by omega)
  have he : (padL l).getD i 0 = l.getD i 0 := by simp [padL, List.getElem?_append_left hi]
  rw [he] at hc
  generalize l.getD i 0 = v at *
  generalize l.length = m at *
  clear h he
  have a1 : (0 : Int) ≤ i := by omega
  have a2 : (i : Int) < 16 := by omega
  have a3 : ((m : Int) ≤ i) = False := by simp; omega
  have a4 : ((i : Int) < 0) = False := by simp
  go_enter Try.func24, Try.ntmps24
  go_wp2
  go_ret2
  exact ⟨rfl, rfl⟩

set_option maxRecDepth 100000 in
set_option maxHeartbeats 800000 in
theorem c50 (n : Int) (w : World) :
    Calls Try.prog 50 #[.int .i64 n] w fun x w' => x = .returned (.bool (isMark n)) ∧ w = w' := by
  go_enter Try.func50, Try.ntmps50
  go_wp2
  all_goals go_ret
  all_goals refine ⟨ret_bool ?_, rfl⟩
  all_goals (rw [Bool.eq_iff_iff]; simp [isMark] <;> omega)

set_option maxRecDepth 100000 in
set_option maxHeartbeats 800000 in
theorem c23_bad (b : Nat) (l : List Int) (i a : Int) (w : World) (h : MarksAt w b l) (hi : i < 0 ∨ (l.length : Int) ≤ i ∨ isMark a = false) :
    Calls Try.prog 23 #[ptr b, .int .i64 i, .int .i64 a] w fun x w' => x = .returned (.tuple #[.int .i64 0, .bool false, .int .i64 1]) ∧ w = w' := by
  have hn := h.n
  clear h
  by_cases h1 : i < 0
  · clear hi
    go_enter Try.func23, Try.ntmps23
    go_wp2_with fail
    go_ret3
    exact ⟨rfl, rfl⟩
  · by_cases h2 : (l.length : Int) ≤ i
    · clear hi
      go_enter Try.func23, Try.ntmps23
      go_wp2_with fail
      go_ret3
      exact ⟨rfl, rfl⟩
    · have HA : Hid (isMark a = false) := by rcases hi with hi | hi | hi <;> first | exact absurd hi (by omega) | exact hi
      clear hi
      go_enter Try.func23, Try.ntmps23
      go_wp2_with (go_at_call 50; refine (c50 a _).mono ?_; rw [HA.out]; rintro x w1 ⟨rfl, rfl⟩)
      go_ret3
      exact ⟨rfl, rfl⟩

abbrev zero16 : Array Value := #[.int .i64 0, .int .i64 0, .int .i64 0, .int .i64 0, .int .i64 0, .int .i64 0, .int .i64 0, .int .i64 0, .int .i64 0, .int .i64 0, .int .i64 0, .int .i64 0, .int .i64 0, .int .i64 0, .int .i64 0, .int .i64 0]
theorem zero16_there (w : World) (n : Nat) (hn : n = 16) : (w.alloc (.cells zero16 82)).drew.there w.heap.size 0 n := fun j hj => by
  have h : (w.alloc (.cells zero16 82)).drew.heap[w.heap.size]? = some (.cells zero16 82 (0, 0)) := by rw [heap_drew', heapK_alloc, if_pos rfl]
  have hj' : 0 + j < zero16.size := by simp; omega
  exact ⟨by rw [cell_of h (0 + j) _ (Array.getElem?_eq_getElem hj')]; rfl, free_of h _⟩
theorem ints_oneCell (p : List Int) : ∀ v ∈ p.map (Value.int .i64), v.oneCell' = true := fun v hv => by
  obtain ⟨x, _, rfl⟩ := List.mem_map.1 hv; rfl
theorem Upd.setCells {S : Nat → Prop} {a : World} (b : Nat) (hb : b < a.heap.size → S b) : ∀ (vs : List Value) (o : Nat) (w : World), Upd S a w → Upd S a (w.setCells b o vs)
  | [], _, _, h => h
  | v :: r, o, w, h => by rw [World.setCells]; exact Upd.setCells b hb r (o + 1) _ (h.setCell (p := ⟨b, o, none⟩) hb v)
theorem World.size_setCells (b : Nat) : ∀ (vs : List Value) (o : Nat) (w : World), (w.setCells b o vs).heap.size = w.heap.size
  | [], _, _ => rfl
  | v :: r, o, w => by rw [World.setCells, World.size_setCells b r]; simp [World.setCell]
theorem part3 (xs : List Int) (i : Nat) (x : Int) (h : xs[i]? = some x) (w : World) : (part 3 ((xs.map (Value.int .i64)).toArray) (i * 1)).run Try.prog w = .ok (.int .i64 x) w := by
  simp [part, isAgg, run_underlying Try.underlying3, h]
theorem eqItems3 (d : Nat) (xs ys : List Int) (w : World) : ∀ is : List Nat, (∀ i ∈ is, i < xs.length ∧ i < ys.length) →
    (Op.eqItems (d + 1) 3 1 ((xs.map (Value.int .i64)).toArray) ((ys.map (Value.int .i64)).toArray) is).run Try.prog w = .ok (is.all fun i => xs.getD i 0 == ys.getD i 0) w
  | [], _ => by simp [Op.eqItems]
  | i :: is, h => by
    obtain ⟨h1, h2⟩ := h i (by simp)
    have ih := eqItems3 d xs ys w is (fun j hj => h j (by simp [hj]))
    have e1 := part3 xs i (xs.getD i 0) (by simp [List.getElem?_eq_getElem h1]) w
    have e2 := part3 ys i (ys.getD i 0) (by simp [List.getElem?_eq_getElem h2]) w
    have e3 := run_equalIn_int (P := Try.prog) w d 3 .i64 .i64 (xs.getD i 0) (ys.getD i 0) Try.underlying3
    simp only [Op.eqItems, Sem.run_bind, e1, e2, e3, Result.andThen_ok, List.all_cons]
    cases hb : (xs.getD i 0 == ys.getD i 0)
    · simp
    · simp only [Bool.not_true, Bool.false_eq_true, if_false, ih, Bool.true_and]
theorem eq82 (xs ys : List Int) (hx : xs.length = 16) (hy : ys.length = 16) (w : World) :
    (Op.equalIn 10000 82 (.agg ((xs.map (Value.int .i64)).toArray)) (.agg ((ys.map (Value.int .i64)).toArray))).run Try.prog w = .ok (decide (xs = ys)) w := by
  obtain ⟨i3, hi, _, hs, _⟩ := info_parts Try.info3
  rw [run_equalIn_array (P := Try.prog) w 9999 _ _ Try.underlying82 hi]
  have hc : Try.prog.cellsOf 3 = 1 := by simp [Program.cellsOf, hi, hs]
  rw [hc, eqItems3 9998 xs ys w (List.range 16) (fun i hi => by simp at hi; omega)]
  congr 1
  rw [Bool.eq_iff_iff]
  simp only [List.all_eq_true, List.mem_range, beq_iff_eq, decide_eq_true_eq]
  constructor
  · intro h
    apply List.ext_getElem (by rw [hx, hy])
    intro i h1 h2
    have := h i (by omega)
    simpa [h1, h2] using this
  · intro h i _; rw [h]
theorem Try.guard82 : Try.prog.eqGuardType Try.prog.depth 82 = false := by kernel_rfl
theorem wpQuiet_load_mid {P : Program} {ops : Array Oper} {C : World → Prop} {Q : Act → Prop} {rest : List Oper} {op : Oper} {a : Act} (hgd : op.guard = none) (ty : TypeId) (x : Operand) (ho : op.op = .load ty x)
    (b o : Nat) (hx : a.eval x = .pointer (some ⟨b, o, none⟩)) (cs : List Value) (d : TypeDesc) (hC : ∀ w, C w → w.rangeAt b o cs)
    (hu : P.underlying ty = some d) (hd : d.isRow = true) (hi : (P.info? ty).map (·.size) = some cs.length)
    (h : wpQuiet P ops C Q rest (a.put op.dst (.agg cs.toArray))) : wpQuiet P ops C Q (op :: rest) a := by
  unfold wpQuiet
  have hw : Region.wanted op (yielded ops a.tmps) = true := by simp [Region.wanted, hgd]
  rw [if_pos hw]
  refine ⟨.agg cs.toArray, fun w hw => ?_, h⟩
  unfold Oper.quietAt execOp
  simp only [ho, hx, Instr.loadAt, Instr.sureAddr, Sem.run_bind, Sem.run_pure, Result.andThen_ok, run_loadVar_mid w b o ty cs d (hC w hw) hu hd hi]
  exact ⟨rfl, rfl⟩
theorem padL_set (l : List Int) (i : Nat) (x : Int) (hi : i < l.length) : padL (l.set i x) = (padL l).set i x := by
  simp [padL, List.set_append_left _ _ hi]
theorem markRow_set (l : List Int) (i : Nat) (x : Int) (hi : i < l.length) : (markRow l).setIfInBounds i (.int .i64 x) = markRow (l.set i x) := by
  simp only [markRow, List.setIfInBounds_toArray, padL_set l i x hi, List.length_set]
  rw [List.set_append_left _ _ (by simp [padL]; omega), List.map_set]
theorem MarksAt.set {w : World} {b : Nat} {l : List Int} (h : MarksAt w b l) {i : Nat} (hi : i < l.length) (x : Int) : MarksAt (w.setCell ⟨b, i, none⟩ (.int .i64 x)) b (l.set i x) :=
  ⟨by simpa using h.lo, by simpa using h.hi, by rw [heap_set h.row, markRow_set l i x hi]⟩
/-- What Raise makes of the marks. -/
def raiseL (l : List Int) (i : Nat) (a : Int) : List Int := if l.getD i 0 < a then l.set i a else l
/-- What holds behind the first statement of Raise. -/
structure RaiseMid (w wr : World) (b : Nat) (l p : List Int) : Prop where
  m : MarksAt wr b l
  r : wr.rangeAt w.heap.size 0 (p.map (Value.int .i64))
  u : Upd (fun _ => False) w wr
  s : w.heap.size < wr.heap.size
theorem raiseMid {w : World} {b : Nat} {l p : List Int} (h : MarksAt w b l) (hp : p.length = 16) :
    RaiseMid w ((w.alloc (.cells zero16 82)).drew.setCells w.heap.size 0 (p.map (Value.int .i64))) b l p := by
  have hu := Upd.setCells (a := w) (S := fun _ => False) w.heap.size (by simp) (p.map (Value.int .i64)) 0 _ (((Upd.refl (fun _ => False) w).alloc (.cells zero16 82)).drew)
  refine ⟨h.upd hu (fun h => h), World.rangeAt_setCells_same _ _ _ _ (zero16_there w _ (by simpa using hp)), hu, ?_⟩
  rw [World.size_setCells]
  show w.heap.size < (w.alloc _).heap.size
  simp
set_option maxRecDepth 100000 in
set_option maxHeartbeats 800000 in
theorem c23 (b : Nat) (l : List Int) (i : Nat) (a : Int) (w : World) (h : MarksAt w b l) (hi : i < l.length) (ha : isMark a = true) :
    Calls Try.prog 23 #[ptr b, .int .i64 i, .int .i64 a] w fun x w' => x = .returned (.tuple #[.int .i64 (leastL (raiseL l i a)), .bool (decide (leastL l < leastL (raiseL l i a))), .int .i64 0]) ∧ MarksAt w' b (raiseL l i a) ∧ Upd (fun k => k = b) w w' := by
  have hn := h.n
  have HM := Lib.hid h
  have hh := h.hi
  have HA := Lib.hid ha
  have hlt := lt_of_heap h.row
  have hr := h.range
  have hl := padL_length l h.hi
  generalize hp : padL l = p at *
  have HR := Lib.hid hr
  have HP := Lib.hid hp
  have hu := Try.underlying82
  have hsz : (Try.prog.info? 82).map (·.size) = some (p.map (Value.int .i64)).length := by rw [List.length_map, hl]; exact Try.size82
  have hone := ints_oneCell p
  have hth := zero16_there w (p.map (Value.int .i64)).length (by rw [List.length_map, hl])
  have hln : (p.map (Value.int .i64)).length = 16 := by rw [List.length_map, hl]
  have HL := Lib.hid hl
  have HK : Hid (∀ W : World, W.rangeAt b 0 (p.map (Value.int .i64)) → (W.setCells w.heap.size 0 (p.map (Value.int .i64))).rangeAt b 0 (p.map (Value.int .i64))) :=
    fun W hW => World.rangeAt_setCells_apart hW _ _ _ (.inl (by omega))
  clear h ha hr hp hl
  have a1 : (0 : Int) ≤ i := by omega
  have a2 : (i : Int) < 16 := by omega
  generalize hm : l.length = m at *
  have a3 : ((m : Int) ≤ i) = False := by simp; omega
  have a4 : ((i : Int) < 0) = False := by simp
  have HI : Hid (i < l.length) := by rw [hm]; exact hi
  clear hm
  go_enter Try.func23, Try.ntmps23
  go_wp2_with (go_at_call 50; refine (c50 a _).mono ?_; rw [HA.out]; rintro x w1 ⟨rfl, rfl⟩)
  go_cut [9, 10] (fun s9 s10 wr => s9 = .pointer (some ⟨w.heap.size, 0, none⟩) ∧ s10 = .int .i64 (leastL l) ∧ RaiseMid w wr b l p)
  case first =>
    go_region_held3 (fun w' => w'.rangeAt b 0 (p.map (Value.int .i64)))
      (first | (with_reducible exact HR.out) | (simp only [World.rangeAt_drew]; with_reducible exact HR.out) | (simp only [World.rangeAt_drew]; with_reducible exact World.rangeAt_alloc HR.out _) | (refine HK.out _ ?_; assumption) )
      (first | (go_at_call 22; refine (c22 b l _ ?_).mono ?_; (first | exact HM.out.upd ((Upd.refl (fun _ => False) _).drew) (fun h => h) | exact HM.out.upd (((Upd.refl (fun _ => False) _).alloc _).drew) (fun h => h)); rintro x w1 ⟨rfl, rfl⟩))
    all_goals (go_wp2_with fail; go_meet; exact ⟨rfl, rfl, raiseMid HM.out HL.out⟩)
  case rest =>
    obtain ⟨rfl, rfl, hM⟩ := hcut
    clear hu hsz hone hth hln hn
    obtain ⟨v, hv⟩ : ∃ v, p[i]? = some v := ⟨_, List.getElem?_eq_getElem (by rw [HL.out]; omega)⟩
    have hc := hM.m.cell i (by omega)
    have hpv : (padL l).getD i 0 = v := by rw [HP.out]; simp [hv]
    rw [hpv] at hc
    have hf := free_of hM.m.row i
    have hbH : b ≠ w.heap.size := by omega
    have HMM := Lib.hid hM
    have HV := Lib.hid hv
    have HPV := Lib.hid hpv
    clear hM hv hpv
    by_cases hva : v < a
    · have HM2 := Lib.hid (HMM.out.m.set (i := i) HI.out a)
      obtain ⟨q, hq⟩ : ∃ q, p.set i a = q := ⟨_, rfl⟩
      have hql : q.length = 16 := by rw [← hq, List.length_set]; exact HL.out
      have hr2 : (wc.setCell ⟨b, i, none⟩ (.int .i64 a)).rangeAt b 0 (q.map (Value.int .i64)) := by
        have := HM2.out.range
        rw [padL_set l i a HI.out, HP.out, hq] at this
        exact this
      have hr3 : (wc.setCell ⟨b, i, none⟩ (.int .i64 a)).rangeAt w.heap.size 0 (p.map (Value.int .i64)) := fun j x hx => by
        rw [World.cell?_setCell_other _ _ _ _ (by intro e; injection e with e1; exact hbH e1)]
        exact HMM.out.r j x hx
      have heq := fun wz => eq82 q p hql HL.out wz
      have hne : decide (q = p) = false := by
        refine decide_eq_false fun e => ?_
        have h1 : (p.set i a)[i]? = some a := by rw [List.getElem?_set_self (by rw [HL.out]; omega)]
        rw [hq, e, HV.out] at h1
        injection h1 with h1
        omega
      rw [hne] at heq
      have hgd := Try.guard82
      have hu := Try.underlying82
      have hsz : (Try.prog.info? 82).map (·.size) = some (p.map (Value.int .i64)).length := by rw [List.length_map, HL.out]; exact Try.size82
      have hsz2 : (Try.prog.info? 82).map (·.size) = some (q.map (Value.int .i64)).length := by rw [List.length_map, hql]; exact Try.size82
      have HR2 := Lib.hid hr2
      have HR3 := Lib.hid hr3
      have hres : raiseL l i a = l.set i a := by
        unfold raiseL
        have h0 : l.getD i 0 = v := by
          rw [← HPV.out]
          simp [padL, List.getElem?_append_left HI.out]
        rw [h0, if_pos hva]
      have HRES := Lib.hid hres
      clear hne hr2 hr3 hq hql hres
      go_wp2_with fail
      go_region
      go_wp2_with fail
      refine wp_region_quiet_lit (by kernel_rfl) (by kernel_rfl) ?_
      iterate 3 go_big_quiet_step (fail)
      refine wpQuiet_load_mid rfl 82 _ rfl b 0 rfl (q.map (Value.int .i64)) _ (by rintro wz ⟨n, rfl⟩; exact HR2.out) hu rfl hsz2 ?_
      simp only [Act.put, List.setIfInBounds_toArray, List.set_cons_zero, List.set_cons_succ]
      refine wpQuiet_load_mid rfl 82 _ rfl w.heap.size 0 rfl (p.map (Value.int .i64)) _ (by rintro wz ⟨n, rfl⟩; exact HR3.out) hu rfl hsz ?_
      simp only [Act.put, List.setIfInBounds_toArray, List.set_cons_zero, List.set_cons_succ]
      clear hu hsz hsz2
      go_big_quiet_step (fail)
      refine wpQuiet_nil ?_
      intro _ hw'
      obtain ⟨nq, hw''⟩ := hw'
      subst hw''
      go_wp2_with fail
      refine (c22 b (l.set i a) _ (HM2.out.upd ((Upd.refl (fun _ => False) _).drewN _) (fun h => h))).mono ?_
      rintro x w1 ⟨rfl, rfl⟩
      go_wp2_with fail
      go_ret3
      rw [HRES.out]
      exact ⟨rfl, HM2.out.upd ((Upd.refl (fun _ => False) _).drewN _) (fun h => h), (Upd.setCell (S := fun k => k = b) (p := ⟨b, i, none⟩) (HMM.out.u.mono (fun _ _ h => h.elim)) (fun _ => rfl) _).drewN _⟩
    · have hset : l.set i v = l := by
        have h0 : l[i]? = some v := by
          have := HPV.out
          have hg := List.getElem?_eq_getElem HI.out
          rw [hg]
          simp [padL, List.getElem?_append_left HI.out, hg] at this
          rw [this]
        apply List.ext_getElem?
        intro j
        rw [List.getElem?_set]
        split
        · rename_i e; subst e; rw [if_pos HI.out, h0]
        · rfl
      have hm2 := HMM.out.m.set (i := i) HI.out v
      rw [hset] at hm2
      have HM2 := Lib.hid hm2
      have hr2 : (wc.setCell ⟨b, i, none⟩ (.int .i64 v)).rangeAt b 0 (p.map (Value.int .i64)) := by
        have := HM2.out.range
        rw [HP.out] at this
        exact this
      have hr3 : (wc.setCell ⟨b, i, none⟩ (.int .i64 v)).rangeAt w.heap.size 0 (p.map (Value.int .i64)) := fun j x hx => by
        rw [World.cell?_setCell_other _ _ _ _ (by intro e; injection e with e1; exact hbH e1)]
        exact HMM.out.r j x hx
      have heq := fun wz => eq82 p p HL.out HL.out wz
      rw [decide_eq_true rfl] at heq
      have hgd := Try.guard82
      have hu := Try.underlying82
      have hsz : (Try.prog.info? 82).map (·.size) = some (p.map (Value.int .i64)).length := by rw [List.length_map, HL.out]; exact Try.size82
      have HR2 := Lib.hid hr2
      have HR3 := Lib.hid hr3
      have hres : raiseL l i a = l := by
        unfold raiseL
        have h0 : l.getD i 0 = v := by
          rw [← HPV.out]
          simp [padL, List.getElem?_append_left HI.out]
        rw [h0, if_neg hva]
      have HRES := Lib.hid hres
      clear hr2 hr3 hres hset hm2
      go_wp2_with fail
      go_region
      go_wp2_with fail
      refine wp_region_quiet_lit (by kernel_rfl) (by kernel_rfl) ?_
      iterate 3 go_big_quiet_step (fail)
      refine wpQuiet_load_mid rfl 82 _ rfl b 0 rfl (p.map (Value.int .i64)) _ (by rintro wz ⟨n, rfl⟩; exact HR2.out) hu rfl hsz ?_
      simp only [Act.put, List.setIfInBounds_toArray, List.set_cons_zero, List.set_cons_succ]
      refine wpQuiet_load_mid rfl 82 _ rfl w.heap.size 0 rfl (p.map (Value.int .i64)) _ (by rintro wz ⟨n, rfl⟩; exact HR3.out) hu rfl hsz ?_
      simp only [Act.put, List.setIfInBounds_toArray, List.set_cons_zero, List.set_cons_succ]
      clear hu hsz
      go_big_quiet_step (fail)
      refine wpQuiet_nil ?_
      intro _ hw'
      obtain ⟨nq, hw''⟩ := hw'
      subst hw''
      go_wp2_with fail
      go_ret3
      rw [HRES.out]
      exact ⟨by simp, HM2.out.upd (((Upd.refl (fun _ => False) _).drew).drewN _) (fun h => h), (Upd.setCell (S := fun k => k = b) (p := ⟨b, i, none⟩) (HMM.out.u.mono (fun _ _ h => h.elim)) (fun _ => rfl) _).drew.drewN _⟩
end Go.Proofs.Ytijkcahdegohiaa
