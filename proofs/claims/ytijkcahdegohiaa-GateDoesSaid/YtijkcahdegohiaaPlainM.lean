/-
  The plain law of GateMarks: what marks alone do to a gate. No program in sight.
-/
import Derived.Test.YtijkcahdegohiaaPlainA
import Derived.Test.YtijkcahdegohiaaLawMr
namespace Go.Proofs.Ytijkcahdegohiaa

/-- The greatest of a number and of the marks of a list. -/
def topL (m : Int) : List El → Int
  | [] => m
  | e :: l => topL (if m < e.at_ then e.at_ else m) l
theorem topL_snoc : ∀ (l : List El) (m : Int) (e : El), topL m (l ++ [e]) = if topL m l < e.at_ then e.at_ else topL m l
  | [], m, e => rfl
  | x :: l, m, e => by rw [List.cons_append, topL, topL, topL_snoc l]
theorem le_topL : ∀ (l : List El) (m : Int), m ≤ topL m l
  | [], m => Int.le_refl _
  | x :: l, m => by
    have := le_topL l (if m < x.at_ then x.at_ else m)
    rw [topL]
    split at this <;> split <;> omega
/-- The least of the tops of the inputs below i. -/
def tops (T : Nat → Int) (i : Nat) : List Int := (List.range i).map T
theorem tops_succ (T : Nat → Int) (i : Nat) : tops T (i + 1) = tops T i ++ [T i] := by unfold tops; rw [List.range_succ, List.map_append]; rfl
theorem tops_congr {T T' : Nat → Int} {i : Nat} (h : ∀ j, j < i → T j = T' j) : tops T i = tops T' i := by
  unfold tops
  apply List.map_congr_left
  intro j hj
  exact h j (List.mem_range.1 hj)
abbrev mE (a : Int) : El := ⟨2, ⟨#[]⟩, 0, 0, a⟩
def restQ (s : GS) (j : Nat) : Nat := (s.pipe j).length

/-- Marks alone were pushed. -/
structure PhM (n : Nat) (s : GS) : Prop where
  kind : ∀ j, j < n → ∀ e ∈ s.pipe j, e.kind = 2
  blk : ∀ j, j < n → s.blk j = 0
def topAt (s : GS) (j : Nat) : Int := topL (s.ms.getD j 0) (s.pipe j)

theorem start_pipe (n j : Nat) : (GS.start n).pipe j = [] := by
  unfold GS.start GS.pipe
  rw [List.getD_eq_getElem?_getD, List.getElem?_replicate]
  split <;> rfl
theorem PhM.start (n : Nat) : PhM n (GS.start n) := ⟨fun j hj e he => (by rw [start_pipe] at he; cases he), fun j hj => getD_rep0 _ _⟩
theorem start_rest (n : Nat) : sumQ (restQ (GS.start n)) n = 0 := sumQ_zero fun j hj => by unfold restQ; rw [start_pipe]; rfl
theorem start_top (n j : Nat) : topAt (GS.start n) j = 0 := by
  unfold topAt
  rw [start_pipe]
  exact getD_rep0 _ _

/-- A mark that may be is taken in. -/
theorem PhM.push {n i : Nat} {s : GS} {a : Int} (h : PhM n s) (hl : Lens s n) (hi : i < n) (hp : (s.pipe i).length < 64) (ha : 0 ≤ a ∧ a ≤ 1000000001) :
    pushC 64 s i (mE a) = 0 ∧ PhM n (pushS 64 s i (mE a)) ∧ sumQ (restQ (pushS 64 s i (mE a))) n = sumQ (restQ s) n + 1 ∧ (pushS 64 s i (mE a)).ms = s.ms
      ∧ (restQ (pushS 64 s i (mE a)) i = restQ s i + 1) ∧ (∀ j, j ≠ i → restQ (pushS 64 s i (mE a)) j = restQ s j)
      ∧ topAt (pushS 64 s i (mE a)) i = (if topAt s i < a then a else topAt s i) ∧ ∀ j, j ≠ i → topAt (pushS 64 s i (mE a)) j = topAt s j := by
  have hr : ¬ s.refuses i (mE a) := by
    unfold GS.refuses
    rw [hl.ls]
    rintro (h | ⟨h, _⟩)
    · omega
    · revert h; show ¬ (2 : Int) = 3; decide
  have hm : mayB (mE a) = true := by simp [mayB]; omega
  have hc : pushCode 64 (s.pipe i) (mE a) = 0 := by
    unfold pushCode
    rw [if_pos hm, if_neg (by omega)]
  have hS := pushS_no hr (by show ¬ (2 : Int) = 3; decide) hc
  refine ⟨(pushC_not hr).trans hc, ?_⟩
  rw [hS]
  have hpp : ∀ j, (s.setPipe i (s.pipe i ++ [mE a])).pipe j = if j = i then s.pipe i ++ [mE a] else s.pipe j := fun j => hl.pipe_put hi _ j
  have hri : restQ (s.setPipe i (s.pipe i ++ [mE a])) i = restQ s i + 1 := by unfold restQ; rw [hpp, if_pos rfl]; simp
  have hrj : ∀ j, j ≠ i → restQ (s.setPipe i (s.pipe i ++ [mE a])) j = restQ s j := fun j hj => by unfold restQ; rw [hpp, if_neg hj]
  refine ⟨⟨fun j hj e he => ?_, h.blk⟩, ?_, rfl, hri, hrj, ?_, fun j hj => ?_⟩
  · rw [hpp] at he
    split at he
    · rcases List.mem_append.1 he with he | he
      · exact h.kind i hi e he
      · have : e = mE a := by simpa using he
        rw [this]
    · exact h.kind j hj e he
  · have e : sumQ (restQ (s.setPipe i (s.pipe i ++ [mE a]))) n = sumQ (putF (restQ s) i (restQ s i + 1)) n := sumQ_congr fun j hj => by
      by_cases e : j = i
      · subst e; rw [putF_eq]; exact hri
      · rw [putF_ne _ _ e]; exact hrj j e
    have := sumQ_put (restQ s) i (restQ s i + 1) n hi
    omega
  · unfold topAt
    rw [hpp, if_pos rfl, topL_snoc]
    rfl
  · unfold topAt
    rw [hpp, if_neg hj]
    rfl
theorem PhM.refuse {i : Nat} {s : GS} {a : Int} (ha : ¬ (0 ≤ a ∧ a ≤ 1000000001)) : pushC 64 s i (mE a) = 1 ∧ pushS 64 s i (mE a) = s := by
  by_cases hr : s.refuses i (mE a)
  · exact ⟨pushC_ref hr, pushS_ref hr⟩
  · have hm : ¬ mayB (mE a) = true := by simp [mayB]; omega
    have hc : pushCode 64 (s.pipe i) (mE a) = 1 := by unfold pushCode; rw [if_neg hm]
    exact ⟨(pushC_not hr).trans hc, pushS_not hr (by omega)⟩

/-- What one Next tells where something is left. -/
theorem PhM.next {n : Nat} {s : GS} (h : PhM n s) (hl : Lens s n) (pick : Int) (hpos : 0 < sumQ (restQ s) n) :
    (gNext s pick).1.2.2 = true ∧ PhM n (gNext s pick).2 ∧ sumQ (restQ s) n = sumQ (restQ (gNext s pick).2) n + 1
      ∧ leastL s.ms ≤ leastL (gNext s pick).2.ms ∧ (∀ j, j < n → topAt (gNext s pick).2 j = topAt s j)
      ∧ (gNext s pick).1.1 = (if leastL s.ms < leastL (gNext s pick).2.ms then mE (leastL (gNext s pick).2.ms) else El.zero) := by
  have hex : ∃ j, j < n ∧ s.pipe j ≠ [] := by
    refine Classical.byContradiction fun hno => ?_
    have := sumQ_zero (f := restQ s) (n := n) fun j hj => by
      unfold restQ
      have : s.pipe j = [] := Classical.byContradiction fun e => hno ⟨j, hj, e⟩
      rw [this]; rfl
    omega
  obtain ⟨j0, hj0, hp0⟩ := hex
  have hr0 : s.isReady j0 = true := by unfold GS.isReady; rw [h.blk j0 hj0]; simp [hp0]
  obtain ⟨i, hi, hri, hg⟩ := gNext_some hl pick hj0 hr0
  rw [hg]
  obtain ⟨e, l, hpi⟩ : ∃ e l, s.pipe i = e :: l := by
    cases hp : s.pipe i with
    | nil => unfold GS.isReady at hri; rw [hp] at hri; simp at hri
    | cons e l => exact ⟨e, l, rfl⟩
  rw [taken_mark hpi (h.kind i hi e (by rw [hpi]; exact List.mem_cons_self ..))]
  have hpp : ∀ j, ((s.setPipe i l).setMs (raiseL s.ms i e.at_)).pipe j = if j = i then l else s.pipe j := fun j => hl.pipe_put hi l j
  refine ⟨rfl, ⟨fun j hj x hx => ?_, h.blk⟩, ?_, leastL_raise _ _ _, fun j hj => ?_, rfl⟩
  · have hx' : x ∈ ((s.setPipe i l).setMs (raiseL s.ms i e.at_)).pipe j := hx
    rw [hpp] at hx'
    split at hx'
    · exact h.kind i hi x (by rw [hpi]; exact List.mem_cons_of_mem _ hx')
    · exact h.kind j hj x hx'
  · have e1 : sumQ (restQ ((s.setPipe i l).setMs (raiseL s.ms i e.at_))) n = sumQ (putF (restQ s) i l.length) n := sumQ_congr fun j hj => by
      unfold restQ
      rw [hpp]
      by_cases e : j = i
      · subst e; rw [putF_eq, if_pos rfl]
      · rw [putF_ne _ _ e, if_neg e]
    have e2 := sumQ_put (restQ s) i l.length n hi
    have e3 : restQ s i = l.length + 1 := by unfold restQ; rw [hpi]; rfl
    show sumQ (restQ s) n = sumQ (restQ ((s.setPipe i l).setMs (raiseL s.ms i e.at_))) n + 1
    omega
  · unfold topAt
    show topL ((raiseL s.ms i e.at_).getD j 0) (((s.setPipe i l).setMs (raiseL s.ms i e.at_)).pipe j) = _
    rw [hpp]
    by_cases ej : j = i
    · subst ej
      rw [if_pos rfl, raiseL_getD _ _ _ (by rw [hl.ms]; exact hj), hpi, topL]
    · rw [if_neg ej]
      congr 1
      unfold raiseL
      split
      · exact getD_set_ne' _ _ _ _ _ (fun x => ej x.symm)
      · rfl
/-- The mark is never above the least of the tops. -/
theorem least_le_tops {n : Nat} {s : GS} (hl : Lens s n) : leastL s.ms ≤ leastL (tops (topAt s) n) := by
  refine le_leastL (leastL_le_forever _) fun x hx => ?_
  unfold tops at hx
  obtain ⟨j, hj, rfl⟩ := List.mem_map.1 hx
  have hj' : j < s.ms.length := by rw [hl.ms]; exact List.mem_range.1 hj
  have h1 : s.ms.getD j 0 ∈ s.ms := by simp [List.getElem?_eq_getElem hj']
  exact Int.le_trans (leastL_le h1) (le_topL _ _)
/-- Where nothing is left, it is that very number, and Next tells nothing. -/
theorem least_tops {n : Nat} {s : GS} (hl : Lens s n) (h : sumQ (restQ s) n = 0) : leastL s.ms = leastL (tops (topAt s) n) ∧ ∀ pick, gNext s pick = ((El.zero, 0, false), s) := by
  have hp : ∀ j, j < n → s.pipe j = [] := fun j hj => by
    have := sumQ_ge (f := restQ s) hj
    have h0 : (s.pipe j).length = 0 := by
      have h1 : restQ s j = (s.pipe j).length := rfl
      omega
    exact List.eq_nil_of_length_eq_zero h0
  refine ⟨?_, fun pick => gNext_none hl pick fun j hj => by unfold GS.isReady; rw [hp j hj]; simp⟩
  congr 1
  apply List.ext_getElem?
  intro j
  unfold tops
  rw [List.getElem?_map]
  by_cases hj : j < n
  · rw [List.getElem?_range hj, List.getElem?_eq_getElem (by rw [hl.ms]; exact hj)]
    unfold topAt
    simp [hp j hj, topL, List.getElem?_eq_getElem (show j < s.ms.length by rw [hl.ms]; exact hj)]
  · rw [List.getElem?_eq_none (by rw [hl.ms]; omega), List.getElem?_eq_none (by simp; omega)]
    rfl
theorem least_zeros (n : Nat) (h : 1 ≤ n) : leastL (List.replicate n 0) = 0 := by
  have h1 : leastL (List.replicate n 0) ≤ 0 := leastL_le (by rw [List.mem_replicate]; exact ⟨by omega, rfl⟩)
  have h2 : (0 : Int) ≤ leastL (List.replicate n 0) := le_leastL (by decide) fun x hx => by rw [List.mem_replicate] at hx; omega
  omega
end Go.Proofs.Ytijkcahdegohiaa
