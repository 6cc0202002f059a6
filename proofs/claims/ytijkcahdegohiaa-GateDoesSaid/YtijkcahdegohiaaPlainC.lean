/-
  The plain law of GateCuts: each input's history is what was taken, then what is in its pipe. No program in sight.
-/
import Derived.Test.YtijkcahdegohiaaPlainM
import Derived.Test.YtijkcahdegohiaaLawGh
namespace Go.Proofs.Ytijkcahdegohiaa

def barsOf (l : List El) : List Int := (l.filter fun e => decide (e.kind = 3)).map El.at_
theorem recsOf_nil : recsOf [] = [] := rfl
theorem recsOf_append (a b : List El) : recsOf (a ++ b) = recsOf a ++ recsOf b := List.filter_append ..
theorem recsOf_cons_rec {e : El} (h : e.kind = 1) (l : List El) : recsOf (e :: l) = e :: recsOf l := by simp [recsOf, h]
theorem recsOf_cons_not {e : El} (h : e.kind ≠ 1) (l : List El) : recsOf (e :: l) = recsOf l := by simp [recsOf, h]
theorem barsOf_append (a b : List El) : barsOf (a ++ b) = barsOf a ++ barsOf b := by simp [barsOf]
theorem barsOf_cons_bar {e : El} (h : e.kind = 3) (l : List El) : barsOf (e :: l) = e.at_ :: barsOf l := by simp [barsOf, h]
theorem barsOf_cons_not {e : El} (h : e.kind ≠ 3) (l : List El) : barsOf (e :: l) = barsOf l := by simp [barsOf, h]
theorem nthR_at {T l : List El} {e : El} (h : e.kind = 1) : nthR (T ++ e :: l) (recsOf T).length = e := by
  unfold nthR
  rw [recsOf_append, recsOf_cons_rec h, List.getD_eq_getElem?_getD, List.getElem?_append_right (Nat.le_refl _), Nat.sub_self]
  rfl
theorem aheadF_at : ∀ (T : List El) (e : El) (p : List El) (a m : Int), (∀ x ∈ barsOf T, x ≠ a) → e.kind = 3 → e.at_ = a → aheadF (T ++ e :: p) a m = m + (recsOf T).length
  | [], e, p, a, m, _, h3, ha => by
    show aheadF (e :: p) a m = _
    rw [aheadF, if_pos ⟨h3, ha⟩]
    show m = m + ((0 : Nat) : Int)
    omega
  | x :: T, e, p, a, m, hT, h3, ha => by
    rw [List.cons_append, aheadF]
    by_cases hx : x.kind = 3
    · rw [barsOf_cons_bar hx] at hT
      rw [if_neg (fun h => hT x.at_ (List.mem_cons_self ..) h.2), if_neg (by omega), aheadF_at T e p a m (fun y hy => hT y (List.mem_cons_of_mem _ hy)) h3 ha, recsOf_cons_not (by omega)]
    · rw [barsOf_cons_not hx] at hT
      rw [if_neg (fun h => hx h.1)]
      by_cases h1 : x.kind = 1
      · rw [if_pos h1, aheadF_at T e p a (m + 1) hT h3 ha, recsOf_cons_rec h1]
        simp only [List.length_cons]; omega
      · rw [if_neg h1, aheadF_at T e p a m hT h3 ha, recsOf_cons_not h1]

/-- One input: its history h, its pipe p; how many records were told; by what it is blocked; the last barrier pushed; the last barrier told. -/
structure CutIn (h p : List El) (told blk lst last : Int) : Prop where
  split : ∃ T, h = T ++ p ∧ told = ((recsOf T).length : Int) ∧ (blk = 0 ∨ ∃ T' e, T = T' ++ [e] ∧ e.kind = 3 ∧ e.at_ = blk)
  inc : (barsOf h).Pairwise (· < ·)
  top : ∀ x ∈ barsOf h, 1 ≤ x ∧ x ≤ lst
  low : ∀ x ∈ barsOf p, last < x
  l0 : last ≤ lst
structure CutPh (n : Nat) (s : GS) (H : List (List El)) (tl : List Int) (last : Int) : Prop where
  z : 0 ≤ last
  all : ∀ j, j < n → CutIn (H.getD j []) (s.pipe j) (tl.getD j 0) (s.blk j) (s.lst j) last

theorem CutPh.start (n : Nat) : CutPh n (GS.start n) (List.replicate n []) (List.replicate n 0) 0 := by
  refine ⟨Int.le_refl _, fun j hj => ?_⟩
  have e1 : (GS.start n).blk j = 0 := getD_rep0 n j
  have e2 : (GS.start n).lst j = 0 := getD_rep0 n j
  rw [start_pipe, getD_rep, getD_rep, e1, e2]
  exact CutIn.mk ⟨[], rfl, rfl, .inl rfl⟩ List.Pairwise.nil (fun x hx => absurd hx List.not_mem_nil) (fun x hx => absurd hx List.not_mem_nil) (Int.le_refl _)

theorem pushS_keep {room : Nat} {s : GS} {i : Int} {e : El} (h : pushC room s i e ≠ 0) : pushS room s i e = s := by
  by_cases hr : s.refuses i e
  · exact pushS_ref hr
  · unfold pushC at h
    rw [if_neg hr] at h
    unfold pushS
    rw [if_neg hr, if_neg h]

theorem CutIn.push {h p : List El} {told blk lst last : Int} (c : CutIn h p told blk lst last) (e : El) (hm : mayB e = true) (hb : e.kind = 3 → lst < e.at_) :
    CutIn (h ++ [e]) (p ++ [e]) told blk (if e.kind = 3 then e.at_ else lst) last := by
  obtain ⟨⟨T, hT, ht, hbl⟩, inc, top, low, l0⟩ := c
  refine ⟨⟨T, by rw [hT, List.append_assoc], ht, hbl⟩, ?_, ?_, ?_, ?_⟩
  · rw [barsOf_append]
    by_cases h3 : e.kind = 3
    · rw [barsOf_cons_bar h3, List.pairwise_append]
      refine ⟨inc, List.pairwise_singleton .., fun x hx y hy => ?_⟩
      have : y = e.at_ := by simpa [barsOf] using hy
      have := top x hx
      have := hb h3
      omega
    · rw [barsOf_cons_not h3]; simpa [barsOf] using inc
  · intro x hx
    rw [barsOf_append] at hx
    rcases List.mem_append.1 hx with hx | hx
    · have := top x hx
      split
      · have := hb (by assumption); omega
      · exact this
    · by_cases h3 : e.kind = 3
      · rw [barsOf_cons_bar h3] at hx
        have : x = e.at_ := by simpa [barsOf] using hx
        rw [if_pos h3, this]
        have : 1 ≤ e.at_ := by simp [mayB, h3] at hm; omega
        omega
      · rw [barsOf_cons_not h3] at hx; cases hx
  · intro x hx
    rw [barsOf_append] at hx
    rcases List.mem_append.1 hx with hx | hx
    · exact low x hx
    · by_cases h3 : e.kind = 3
      · rw [barsOf_cons_bar h3] at hx
        have : x = e.at_ := by simpa [barsOf] using hx
        have := hb h3
        omega
      · rw [barsOf_cons_not h3] at hx; cases hx
  · split
    · have := hb (by assumption); omega
    · exact l0

/-- An element that is taken in. -/
theorem CutPh.push {n room i : Nat} {s : GS} {H : List (List El)} {tl : List Int} {last : Int} {e : El} (h : CutPh n s H tl last) (hl : Lens s n) (hH : H.length = n) (hi : i < n) (hc : pushC room s i e = 0) :
    CutPh n (pushS room s i e) (H.set i (H.getD i [] ++ [e])) tl last ∧ (pushS room s i e).ms = s.ms := by
  have hr : ¬ s.refuses i e := fun hr => by rw [pushC_ref hr] at hc; omega
  rw [pushC_not hr] at hc
  have hm := (pushCode_zero hc).1
  have hb : e.kind = 3 → s.lst i < e.at_ := fun h3 => by
    refine Classical.byContradiction fun hn => hr (.inr ⟨h3, ?_⟩)
    rw [Int.toNat_natCast]; omega
  have key := (h.all i hi).push e hm hb
  by_cases h3 : e.kind = 3
  · rw [pushS_bar hr h3 hc]
    rw [if_pos h3] at key
    refine ⟨⟨h.z, fun j hj => ?_⟩, rfl⟩
    have e1 : ((s.setPipe i (s.pipe i ++ [e])).setTs (s.ts.set i e.at_)).pipe j = (s.setPipe i (s.pipe i ++ [e])).pipe j := rfl
    have e2 : ((s.setPipe i (s.pipe i ++ [e])).setTs (s.ts.set i e.at_)).lst j = (s.setTs (s.ts.set i e.at_)).lst j := rfl
    have e3 : ((s.setPipe i (s.pipe i ++ [e])).setTs (s.ts.set i e.at_)).blk j = s.blk j := rfl
    rw [e1, e2, e3, hl.pipe_put hi, hl.lst_put hi]
    by_cases hj' : j = i
    · subst hj'
      rw [if_pos rfl, if_pos rfl, getD_set_eq _ _ _ _ (by rw [hH]; exact hj)]
      exact key
    · rw [if_neg hj', if_neg hj', getD_set_ne' _ _ _ _ _ (fun x => hj' x.symm)]
      exact h.all j hj
  · rw [pushS_no hr h3 hc]
    rw [if_neg h3] at key
    refine ⟨⟨h.z, fun j hj => ?_⟩, rfl⟩
    have e2 : (s.setPipe i (s.pipe i ++ [e])).lst j = s.lst j := rfl
    have e3 : (s.setPipe i (s.pipe i ++ [e])).blk j = s.blk j := rfl
    rw [e2, e3, hl.pipe_put hi]
    by_cases hj' : j = i
    · subst hj'
      rw [if_pos rfl, getD_set_eq _ _ _ _ (by rw [hH]; exact hj)]
      exact key
    · rw [if_neg hj', getD_set_ne' _ _ _ _ _ (fun x => hj' x.symm)]
      exact h.all j hj

/-- The first of an input is taken; it is no barrier, or nothing is made of it. -/
theorem CutIn.take {h l : List El} {e : El} {told blk lst last : Int} (c : CutIn h (e :: l) told blk lst last) (_hb : blk = 0) :
    CutIn h l (if e.kind = 1 then told + 1 else told) 0 lst last := by
  obtain ⟨⟨T, hT, ht, _⟩, inc, top, low, l0⟩ := c
  refine ⟨⟨T ++ [e], by rw [hT, List.append_assoc]; rfl, ?_, .inl rfl⟩, inc, top, fun x hx => low x ?_, l0⟩
  · rw [recsOf_append]
    split
    · rename_i h1; rw [recsOf_cons_rec h1, recsOf_nil, List.length_append, List.length_singleton]; omega
    · rename_i h1; rw [recsOf_cons_not h1, recsOf_nil, List.append_nil]; omega
  · by_cases h3 : e.kind = 3
    · rw [barsOf_cons_bar h3]; exact List.mem_cons_of_mem _ hx
    · rw [barsOf_cons_not h3]; exact hx
/-- A barrier is taken, the input is blocked by it. -/
theorem CutIn.block {h l : List El} {e : El} {told blk lst last : Int} (c : CutIn h (e :: l) told blk lst last) (h3 : e.kind = 3) :
    CutIn h l told e.at_ lst last := by
  obtain ⟨⟨T, hT, ht, _⟩, inc, top, low, l0⟩ := c
  refine ⟨⟨T ++ [e], by rw [hT, List.append_assoc]; rfl, ?_, .inr ⟨T, e, rfl, h3, rfl⟩⟩, inc, top, fun x hx => low x ?_, l0⟩
  · rw [recsOf_append, recsOf_cons_not (by omega), recsOf_nil, List.append_nil]; exact ht
  · rw [barsOf_cons_bar h3]; exact List.mem_cons_of_mem _ hx
theorem CutIn.free {h l : List El} {told blk lst last : Int} (c : CutIn h l told blk lst last) : CutIn h l told 0 lst last := by
  obtain ⟨⟨T, hT, ht, _⟩, inc, top, low, l0⟩ := c
  exact ⟨⟨T, hT, ht, .inl rfl⟩, inc, top, low, l0⟩
/-- Blocked by a: the barrier cuts just there. -/
theorem CutIn.tell {h l : List El} {told blk lst last : Int} (c : CutIn h l told blk lst last) (hb : blk ≠ 0) :
    aheadF h blk 0 = told ∧ CutIn h l told 0 lst blk := by
  obtain ⟨⟨T, hT, ht, hbl⟩, inc, top, low, l0⟩ := c
  obtain ⟨T', e, rfl, h3, ha⟩ := hbl.resolve_left hb
  have e1 : h = T' ++ e :: l := by rw [hT, List.append_assoc]; rfl
  have e2 : barsOf h = barsOf T' ++ e.at_ :: barsOf l := by rw [e1, barsOf_append, barsOf_cons_bar h3]
  have e3 := inc
  rw [e2, List.pairwise_append] at e3
  obtain ⟨_, q2, q3⟩ := e3
  rw [List.pairwise_cons] at q2
  refine ⟨?_, ⟨⟨T' ++ [e], hT, ht, .inl rfl⟩, inc, top, fun x hx => ?_, ?_⟩⟩
  · rw [e1, aheadF_at T' e l blk 0 (fun x hx hxa => ?_) h3 ha, ht, recsOf_append, recsOf_cons_not (by omega)]
    · simp [recsOf]
    · have := q3 x hx e.at_ (List.mem_cons_self ..)
      omega
  · have := q2.1 x hx
    omega
  · have := top e.at_ (by rw [e2]; exact List.mem_append_right _ (List.mem_cons_self ..))
    omega

/-- What one Next tells. -/
theorem CutPh.next {n : Nat} {s : GS} {H : List (List El)} {tl : List Int} {last : Int} (h : CutPh n s H tl last) (hl : Lens s n) (htl : tl.length = n) (hmay : ∀ j, j < n → ∀ e ∈ s.pipe j, mayB e = true) (pick : Int) :
    gNext s pick = ((El.zero, 0, false), s) ∨
    ∃ k x s', k < n ∧ gNext s pick = ((x, (k : Int), true), s') ∧
      ((x.kind = 1 ∧ x = nthR (H.getD k []) (tl.getD k 0).toNat ∧ leastL s'.ms = leastL s.ms ∧ CutPh n s' H (tl.set k (tl.getD k 0 + 1)) last)
       ∨ (x.kind = 2 ∧ x.at_ = leastL s'.ms ∧ leastL s.ms < x.at_ ∧ CutPh n s' H tl last)
       ∨ (x.kind = 3 ∧ last < x.at_ ∧ (∀ j, j < n → aheadF (H.getD j []) x.at_ 0 = tl.getD j 0) ∧ leastL s'.ms = leastL s.ms ∧ CutPh n s' H tl x.at_)
       ∨ (x = El.zero ∧ leastL s'.ms = leastL s.ms ∧ CutPh n s' H tl last)) := by
  by_cases hex : ∃ j, j < n ∧ s.isReady j = true
  · refine .inr ?_
    obtain ⟨j, hj, hr⟩ := hex
    obtain ⟨i, hi, hri, hg⟩ := gNext_some hl pick hj hr
    rw [hg]
    obtain ⟨e, l, hpi⟩ : ∃ e l, s.pipe i = e :: l := by
      cases hp : s.pipe i with
      | nil => unfold GS.isReady at hri; rw [hp] at hri; simp at hri
      | cons e l => exact ⟨e, l, rfl⟩
    have hbi : s.blk i = 0 := by unfold GS.isReady at hri; simp at hri; exact hri.1
    have hme := hmay i hi e (by rw [hpi]; exact List.mem_cons_self ..)
    have ci := h.all i hi
    rw [hpi] at ci
    have hpp : ∀ j, (s.setPipe i l).pipe j = if j = i then l else s.pipe j := fun j => hl.pipe_put hi l j
    have ct := ci.take hbi
    by_cases k2 : e.kind = 2
    · rw [taken_mark hpi k2]
      refine ⟨i, _, _, hi, rfl, ?_⟩
      have hph : CutPh n ((s.setPipe i l).setMs (raiseL s.ms i e.at_)) H tl last := ⟨h.z, fun j hj => by
        show CutIn _ ((s.setPipe i l).pipe j) _ (s.blk j) (s.lst j) _
        rw [hpp]
        by_cases e1 : j = i
        · subst e1; rw [if_pos rfl, hbi]; rw [if_neg (by omega)] at ct; exact ct
        · rw [if_neg e1]; exact h.all j hj⟩
      by_cases hro : leastL s.ms < leastL (raiseL s.ms i e.at_)
      · rw [if_pos hro]
        exact .inr (.inl ⟨rfl, rfl, hro, hph⟩)
      · rw [if_neg hro]
        refine .inr (.inr (.inr ⟨rfl, ?_, hph⟩))
        have := leastL_raise s.ms i e.at_
        show leastL (raiseL s.ms i e.at_) = _
        omega
    · by_cases k3 : e.kind = 3
      · rw [taken_bar hpi k3]
        rw [if_neg (by omega)] at ct
        have cb := ci.block k3
        unfold barR
        have hbs : (s.setPipe i l).bs = s.bs := rfl
        rw [hbs]
        split
        · refine ⟨i, _, _, hi, rfl, .inr (.inr (.inr ⟨rfl, rfl, h.z, fun j hj => ?_⟩))⟩
          show CutIn _ ((s.setPipe i l).pipe j) _ (s.blk j) (s.lst j) _
          rw [hpp]
          by_cases e1 : j = i
          · subst e1; rw [if_pos rfl, hbi]; exact ct
          · rw [if_neg e1]; exact h.all j hj
        · rename_i hno
          split
          · refine ⟨i, _, _, hi, rfl, .inr (.inr (.inr ⟨rfl, rfl, h.z, fun j hj => ?_⟩))⟩
            show CutIn _ ((s.setPipe i l).pipe j) _ (((s.bs.set i e.at_).map (lowN e.at_)).getD j 0) (s.lst j) _
            rw [getD_map0 _ (lowN_zero _), hl.blk_put hi, hpp]
            by_cases e1 : j = i
            · subst e1
              rw [if_pos rfl, if_pos rfl]
              unfold lowN
              rw [if_neg (by omega)]
              exact cb
            · rw [if_neg e1, if_neg e1]
              unfold lowN
              split
              · exact (h.all j hj).free
              · exact h.all j hj
          · rename_i hno2
            have hall : ∀ j, j < n → j ≠ i → s.blk j = e.at_ := fun j hj hji => by
              have h1 : ¬ (e.at_ < s.blk j) := fun hlt => hno ((any_getD hl.bs _).2 ⟨j, hj, by simpa [GS.blk] using hlt⟩)
              have h2 : ¬ (s.blk j < e.at_) := fun hlt => hno2 ((any_getD (n := n) (by simpa using hl.bs) _).2 ⟨j, hj, by rw [hl.blk_put hi, if_neg hji]; simpa using hlt⟩)
              omega
            have ha1 : 1 ≤ e.at_ := by
              obtain ⟨T, hT, _⟩ := ci.split
              exact (ci.top e.at_ (by rw [hT, barsOf_append, barsOf_cons_bar k3]; exact List.mem_append_right _ (List.mem_cons_self ..))).1
            have hti := cb.tell (by omega)
            have htell : ∀ j, j < n → aheadF (H.getD j []) e.at_ 0 = tl.getD j 0 ∧ CutIn (H.getD j []) ((s.setPipe i l).pipe j) (tl.getD j 0) 0 (s.lst j) e.at_ := fun j hj => by
              rw [hpp]
              by_cases e1 : j = i
              · subst e1; rw [if_pos rfl]; exact hti
              · rw [if_neg e1]
                have := h.all j hj
                rw [hall j hj e1] at this
                exact this.tell (by omega)
            refine ⟨i, _, _, hi, rfl, .inr (.inr (.inl ⟨rfl, ci.low e.at_ (by rw [barsOf_cons_bar k3]; exact List.mem_cons_self ..), fun j hj => (htell j hj).1, rfl, by show (0 : Int) ≤ e.at_; omega, fun j hj => ?_⟩))⟩
            show CutIn _ ((s.setPipe i l).pipe j) _ ((List.replicate s.bs.length 0).getD j 0) (s.lst j) _
            rw [getD_rep0]
            exact (htell j hj).2
      · have k1 : e.kind = 1 := by
          refine Classical.byContradiction fun h1 => ?_
          simp [mayB, h1, k2, k3] at hme
        rw [taken_rec hpi k2 k3]
        refine ⟨i, _, _, hi, rfl, .inl ⟨k1, ?_, rfl, h.z, fun j hj => ?_⟩⟩
        · obtain ⟨T, hT, ht, _⟩ := ci.split
          rw [hT, ht, Int.toNat_natCast, nthR_at k1]
        · show CutIn _ ((s.setPipe i l).pipe j) _ (s.blk j) (s.lst j) _
          rw [hpp]
          by_cases e1 : j = i
          · subst e1; rw [if_pos rfl, hbi, getD_set_eq _ _ _ _ (by rw [htl]; exact hj)]; rw [if_pos k1] at ct; exact ct
          · rw [if_neg e1, getD_set_ne' _ _ _ _ _ (fun x => e1 x.symm)]; exact h.all j hj
  · refine .inl (gNext_none hl pick fun j hj => ?_)
    cases hr : s.isReady j with
    | false => rfl
    | true => exact absurd ⟨j, hj, hr⟩ hex
end Go.Proofs.Ytijkcahdegohiaa
