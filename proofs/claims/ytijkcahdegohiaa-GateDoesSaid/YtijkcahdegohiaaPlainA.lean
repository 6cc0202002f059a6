/-
  The plain law of GateAll: what rounds of records and a barrier each do to a gate. No program in sight.
-/
import Derived.Test.YtijkcahdegohiaaLawGa
namespace Go.Proofs.Ytijkcahdegohiaa

structure Lens (s : GS) (n : Nat) : Prop where
  ls : s.ls.length = n
  ms : s.ms.length = n
  bs : s.bs.length = n
  ts : s.ts.length = n
theorem GateIn.lens {w : World} {B C g room n : Nat} {L : Loc} {s : GS} (h : GateIn w B C g L room n s) : Lens s n := ⟨h.lls, h.lms, h.lbs, h.lts⟩

def sumQ (f : Nat → Nat) : Nat → Nat
  | 0 => 0
  | k + 1 => sumQ f k + f k
theorem sumQ_congr {f g : Nat → Nat} : ∀ {n : Nat}, (∀ j, j < n → f j = g j) → sumQ f n = sumQ g n
  | 0, _ => rfl
  | n + 1, h => by rw [sumQ, sumQ, sumQ_congr (fun j hj => h j (by omega)), h n (by omega)]
theorem sumQ_put (f : Nat → Nat) (i x : Nat) : ∀ n, i < n → sumQ (putF f i x) n + f i = sumQ f n + x
  | 0, h => by omega
  | n + 1, h => by
    rw [sumQ, sumQ]
    by_cases e : i = n
    · subst e
      rw [putF_eq, sumQ_congr (g := f) (fun j hj => putF_ne f x (by omega))]
      omega
    · rw [putF_ne f x (fun h => e h.symm)]
      have := sumQ_put f i x n (by omega)
      omega
theorem sumQ_zero {f : Nat → Nat} : ∀ {n : Nat}, (∀ j, j < n → f j = 0) → sumQ f n = 0
  | 0, _ => rfl
  | n + 1, h => by rw [sumQ, sumQ_zero (fun j hj => h j (by omega)), h n (by omega)]
theorem sumQ_le {f : Nat → Nat} {c : Nat} : ∀ {n : Nat}, (∀ j, j < n → f j ≤ c) → sumQ f n ≤ n * c
  | 0, _ => by simp [sumQ]
  | n + 1, h => by
    have := sumQ_le (n := n) (fun j hj => h j (by omega))
    have := h n (by omega)
    rw [sumQ, Nat.add_mul]; omega
theorem sumQ_ge {f : Nat → Nat} : ∀ {n i : Nat}, i < n → f i ≤ sumQ f n
  | 0, i, h => by omega
  | n + 1, i, h => by
    rw [sumQ]
    by_cases e : i = n
    · subst e; omega
    · have := sumQ_ge (f := f) (n := n) (i := i) (by omega)
      omega

/-! ### What an operation does to each input -/
section
variable {s : GS} {n : Nat} (h : Lens s n)
include h
theorem Lens.setPipe (i : Nat) (l : List El) : Lens (s.setPipe i l) n := ⟨by simpa [GS.setPipe] using h.ls, h.ms, h.bs, h.ts⟩
theorem Lens.pipe_put {i : Nat} (hi : i < n) (l : List El) (j : Nat) : (s.setPipe i l).pipe j = if j = i then l else s.pipe j := by
  split
  · rename_i e; subst e; exact GS.pipe_set _ _ _ (by rw [h.ls]; exact hi)
  · rename_i e; exact GS.pipe_set_ne _ _ _ _ (fun x => e x.symm)
theorem Lens.lst_put {i : Nat} (hi : i < n) (x : Int) (j : Nat) : (s.setTs (s.ts.set i x)).lst j = if j = i then x else s.lst j := by
  split
  · rename_i e; subst e; exact getD_set_eq _ _ _ _ (by rw [h.ts]; exact hi)
  · rename_i e; exact getD_set_ne' _ _ _ _ _ (fun x => e x.symm)
theorem Lens.blk_put {i : Nat} (hi : i < n) (x : Int) (j : Nat) : (s.bs.set i x).getD j 0 = if j = i then x else s.blk j := by
  split
  · rename_i e; subst e; exact getD_set_eq _ _ _ _ (by rw [h.bs]; exact hi)
  · rename_i e; exact getD_set_ne' _ _ _ _ _ (fun x => e x.symm)
end
theorem getD_map0 (f : Int → Int) (hf : f 0 = 0) (l : List Int) (j : Nat) : (l.map f).getD j 0 = f (l.getD j 0) := by
  simp only [List.getD_eq_getElem?_getD, List.getElem?_map]
  cases l[j]? <;> simp [hf]
theorem getD_rep0 (n j : Nat) : (List.replicate n (0 : Int)).getD j 0 = 0 := by
  simp only [List.getD_eq_getElem?_getD, List.getElem?_replicate]
  split <;> rfl
theorem any_getD {l : List Int} {n : Nat} (h : l.length = n) (p : Int → Bool) : l.any p = true ↔ ∃ j, j < n ∧ p (l.getD j 0) = true := by
  subst h
  rw [List.any_eq_true]
  constructor
  · rintro ⟨x, hx, hp⟩
    obtain ⟨j, hj, rfl⟩ := List.mem_iff_getElem.1 hx
    exact ⟨j, hj, by simpa [List.getElem?_eq_getElem hj] using hp⟩
  · rintro ⟨j, hj, hp⟩
    refine ⟨l[j], List.getElem_mem hj, by simpa [List.getElem?_eq_getElem hj] using hp⟩
theorem lowN_zero (a : Int) : lowN a 0 = 0 := by unfold lowN; split <;> rfl
theorem mem_ready {s : GS} {n i : Nat} (h : Lens s n) (hi : i ∈ s.ready) : i < n ∧ s.isReady i = true := by
  unfold GS.ready readyK at hi
  rw [List.mem_filter, List.mem_range, h.ls] at hi
  exact hi
/-- The input that Next takes. -/
theorem gNext_some {s : GS} {n : Nat} (h : Lens s n) (pick : Int) {j : Nat} (hj : j < n) (hr : s.isReady j = true) :
    ∃ i, i < n ∧ s.isReady i = true ∧ gNext s pick = taken s i := by
  have hmem : j ∈ s.ready := by
    unfold GS.ready readyK
    rw [List.mem_filter, List.mem_range, h.ls]
    exact ⟨hj, hr⟩
  have hne : s.ready ≠ [] := fun e => by rw [e] at hmem; cases hmem
  have hq0 : 0 ≤ pickQ pick := by unfold pickQ; split <;> omega
  have hlen := List.length_pos_iff.2 hne
  have hlt : placeN pick s.ready.length < s.ready.length := by
    unfold placeN
    have h1 := Int.emod_lt_of_pos (pickQ pick) (show (0 : Int) < s.ready.length by omega)
    have h2 := Int.emod_nonneg (pickQ pick) (show (s.ready.length : Int) ≠ 0 by omega)
    omega
  have hm := mem_ready h (List.getElem_mem hlt)
  refine ⟨s.ready[placeN pick s.ready.length], hm.1, hm.2, ?_⟩
  unfold gNext
  rw [if_neg hne, List.getD_eq_getElem?_getD, List.getElem?_eq_getElem hlt]
  rfl
theorem gNext_none {s : GS} {n : Nat} (h : Lens s n) (pick : Int) (hr : ∀ j, j < n → s.isReady j = false) : gNext s pick = ((El.zero, 0, false), s) := by
  have : s.ready = [] := by
    unfold GS.ready readyK
    rw [List.filter_eq_nil_iff]
    intro j hj
    rw [List.mem_range, h.ls] at hj
    simp [hr j hj]
  unfold gNext
  rw [if_pos this]

/-! ### GateAll -/
abbrev rR : El := rcd ⟨#[114]⟩
def recs (k : Nat) : List El := List.replicate k rR
abbrev bE (a : Int) : El := ⟨3, ⟨#[]⟩, 0, 0, a⟩
theorem recs_succ (k : Nat) : recs k ++ [rR] = recs (k + 1) := by simp [recs, List.replicate_succ']
theorem recs_cons (k : Nat) : recs (k + 1) = rR :: recs k := rfl
theorem recs_length (k : Nat) : (recs k).length = k := by simp [recs]

/-- In round b the inputs below i have got their rows, input i has got m records. -/
structure PhA (n b i m : Nat) (q : Nat → Nat) (s : GS) : Prop where
  pipe : ∀ j, j < n → s.pipe j = if j < i then recs (q j) ++ [bE (b + 1)] else if j = i then recs m else []
  blk : ∀ j, j < n → s.blk j = 0
  lst : ∀ j, j < n → s.lst j = if j < i then (b : Int) + 1 else b
theorem PhA.start (n : Nat) (q : Nat → Nat) : PhA n 0 0 0 q (GS.start n) := by
  have rep : ∀ {α : Type} (x : α) (i : Nat), (List.replicate n x).getD i x = x := fun x i => by
    rw [List.getD_eq_getElem?_getD, List.getElem?_replicate]
    split <;> rfl
  refine ⟨fun j hj => ?_, fun j hj => rep 0 j, fun j hj => ?_⟩
  · have e1 : (GS.start n).pipe j = [] := rep [] j
    rw [e1]; simp [recs]
  · have e1 : (GS.start n).lst j = 0 := rep 0 j
    rw [e1]; simp

theorem PhA.push_rec {n b i m : Nat} {q : Nat → Nat} {s : GS} (h : PhA n b i m q s) (hl : Lens s n) (hi : i < n) (hm : m < 64) :
    pushC 64 s i rR = 0 ∧ PhA n b i (m + 1) q (pushS 64 s i rR) := by
  have hp : s.pipe i = recs m := by rw [h.pipe i hi, if_neg (by omega), if_pos rfl]
  have hr : ¬ s.refuses i rR := by
    unfold GS.refuses
    rw [hl.ls]
    rintro (h | ⟨h, _⟩)
    · omega
    · revert h; decide
  have hc : pushCode 64 (s.pipe i) rR = 0 := by
    unfold pushCode
    rw [if_pos (by kernel_rfl), if_neg (by rw [hp, recs_length]; omega)]
  refine ⟨(pushC_not hr).trans hc, ?_⟩
  rw [pushS_no hr (by decide) hc]
  refine ⟨fun j hj => ?_, h.blk, h.lst⟩
  rw [hl.pipe_put hi, hp, recs_succ]
  by_cases e : j = i
  · subst e; rw [if_pos rfl, if_neg (by omega), if_pos rfl]
  · rw [if_neg e, h.pipe j hj]
    rw [if_neg (show ¬ j = i from e), if_neg (show ¬ j = i from e)]
theorem PhA.push_bar {n b i m : Nat} {q : Nat → Nat} {s : GS} (h : PhA n b i m q s) (hl : Lens s n) (hi : i < n) (hm : m < 64) (hb : b < 1000) :
    pushC 64 s i (bE (b + 1)) = 0 ∧ PhA n b (i + 1) 0 (putF q i m) (pushS 64 s i (bE (b + 1))) := by
  have hp : s.pipe i = recs m := by rw [h.pipe i hi, if_neg (by omega), if_pos rfl]
  have hr : ¬ s.refuses i (bE (b + 1)) := by
    unfold GS.refuses
    rw [hl.ls, Int.toNat_natCast, h.lst i hi, if_neg (by omega)]
    rintro (h | ⟨_, h⟩)
    · omega
    · have h' : (b : Int) + 1 ≤ b := h
      omega
  have hmay : mayB (bE (b + 1)) = true := by
    simp [mayB]; omega
  have hc : pushCode 64 (s.pipe i) (bE (b + 1)) = 0 := by
    unfold pushCode
    rw [if_pos hmay, if_neg (by rw [hp, recs_length]; omega)]
  refine ⟨(pushC_not hr).trans hc, ?_⟩
  rw [pushS_bar hr rfl hc]
  refine ⟨fun j hj => ?_, h.blk, fun j hj => ?_⟩
  · show (s.setPipe i (s.pipe i ++ [bE (b + 1)])).pipe j = _
    rw [hl.pipe_put hi, hp]
    by_cases e : j = i
    · subst e; rw [if_pos rfl, if_pos (by omega), putF_eq]
    · rw [if_neg e, h.pipe j hj, putF_ne q m e]
      by_cases h1 : j < i
      · rw [if_pos h1, if_pos (by omega)]
      · rw [if_neg h1, if_neg e, if_neg (show ¬ j < i + 1 by omega)]
        split <;> simp [recs]
  · have := (hl.setPipe i (s.pipe i ++ [bE (b + 1)])).lst_put hi ((b : Int) + 1) j
    show ((s.setPipe i (s.pipe i ++ [bE (b + 1)])).setTs ((s.setPipe i (s.pipe i ++ [bE (b + 1)])).ts.set i ((b : Int) + 1))).lst j = _
    rw [this]
    by_cases e : j = i
    · subst e; rw [if_pos rfl, if_pos (by omega)]
    · rw [if_neg e]
      have := h.lst j hj
      show s.lst j = _
      rw [this]
      by_cases h1 : j < i
      · rw [if_pos h1, if_pos (by omega)]
      · rw [if_neg h1, if_neg (by omega)]

/-- In round b: which inputs have come to the barrier, how many records are left in each. -/
structure PhB (n b : Nat) (d : Nat → Bool) (q : Nat → Nat) (s : GS) : Prop where
  pipe : ∀ j, j < n → s.pipe j = if d j = true then [] else recs (q j) ++ [bE (b + 1)]
  blk : ∀ j, j < n → s.blk j = if d j = true then (b : Int) + 1 else 0
  lst : ∀ j, j < n → s.lst j = (b : Int) + 1
  qd : ∀ j, j < n → d j = true → q j = 0
  ex : ∃ j, j < n ∧ d j = false
def leftM (d : Nat → Bool) (q : Nat → Nat) (j : Nat) : Nat := if d j = true then 0 else q j + 1
theorem PhA.toB {n b m : Nat} {q : Nat → Nat} {s : GS} (h : PhA n b n m q s) (hn : 0 < n) : PhB n b (fun _ => false) q s := by
  refine ⟨fun j hj => ?_, fun j hj => ?_, fun j hj => ?_, fun j hj e => (by cases e), 0, hn, rfl⟩
  · rw [h.pipe j hj, if_pos hj]; rfl
  · rw [h.blk j hj]; rfl
  · rw [h.lst j hj, if_pos hj]
/-- What one Next tells. -/
theorem PhB.next {n b : Nat} {d : Nat → Bool} {q : Nat → Nat} {s : GS} (h : PhB n b d q s) (hl : Lens s n) (pick : Int) :
    (gNext s pick).1.2.2 = true ∧
    (((gNext s pick).1.1 = rR ∧ ∃ q', sumQ q n = sumQ q' n + 1 ∧ sumQ (leftM d q) n = sumQ (leftM d q') n + 1 ∧ PhB n b d q' (gNext s pick).2) ∨
     ((gNext s pick).1.1 = El.zero ∧ ∃ d', sumQ (leftM d q) n = sumQ (leftM d' q) n + 1 ∧ PhB n b d' q (gNext s pick).2) ∨
     ((gNext s pick).1.1 = bE (b + 1) ∧ sumQ q n = 0 ∧ 1 ≤ sumQ (leftM d q) n ∧ PhA n (b + 1) 0 0 q (gNext s pick).2)) := by
  obtain ⟨j0, hj0, hd0⟩ := h.ex
  have hr0 : s.isReady j0 = true := by
    unfold GS.isReady
    rw [h.blk j0 hj0, h.pipe j0 hj0, hd0]
    simp
  obtain ⟨i, hi, hri, hg⟩ := gNext_some hl pick hj0 hr0
  rw [hg]
  have hdi : d i = false := by
    cases hd : d i with
    | false => rfl
    | true =>
      unfold GS.isReady at hri
      rw [h.pipe i hi, hd] at hri
      simp at hri
  have hpi : s.pipe i = recs (q i) ++ [bE (b + 1)] := by rw [h.pipe i hi, hdi]; rfl
  cases hqi : q i with
  | succ k =>
    have hpi' : s.pipe i = rR :: (recs k ++ [bE (b + 1)]) := by rw [hpi, hqi, recs_cons]; rfl
    rw [taken_rec hpi' (by decide) (by decide)]
    refine ⟨rfl, .inl ⟨rfl, putF q i k, ?_, ?_, ?_⟩⟩
    · have := sumQ_put q i k n hi; omega
    · have e : sumQ (leftM d (putF q i k)) n = sumQ (putF (leftM d q) i (k + 1)) n := sumQ_congr fun j hj => by
        unfold leftM
        by_cases e : j = i
        · subst e; rw [putF_eq, putF_eq, hdi]; rfl
        · rw [putF_ne _ _ e, putF_ne _ _ e]
      have := sumQ_put (leftM d q) i (k + 1) n hi
      have h2 : leftM d q i = k + 1 + 1 := by unfold leftM; rw [hdi, hqi]; rfl
      omega
    · refine ⟨fun j hj => ?_, h.blk, h.lst, fun j hj hd => ?_, h.ex⟩
      · show (s.setPipe i (recs k ++ [bE (b + 1)])).pipe j = _
        rw [hl.pipe_put hi]
        by_cases e : j = i
        · subst e; rw [if_pos rfl, hdi, putF_eq]; rfl
        · rw [if_neg e, putF_ne q k e]; exact h.pipe j hj
      · rw [putF_ne q k (fun e => by rw [e, hdi] at hd; cases hd)]; exact h.qd j hj hd
  | zero =>
    have hpi' : s.pipe i = bE (b + 1) :: [] := by rw [hpi, hqi]; rfl
    have hl1 := hl.setPipe i []
    rw [taken_bar hpi' rfl]
    have hbl : ∀ j, j < n → ((s.setPipe i []).bs.set i ((b : Int) + 1)).getD j 0 = if j = i ∨ d j = true then (b : Int) + 1 else 0 := fun j hj => by
      rw [hl1.blk_put hi]
      by_cases e : j = i
      · rw [if_pos e, if_pos (.inl e)]
      · rw [if_neg e]
        have : (s.setPipe i []).blk j = s.blk j := rfl
        rw [this, h.blk j hj]
        by_cases hd : d j = true
        · rw [if_pos hd, if_pos (.inr hd)]
        · rw [if_neg hd, if_neg (by rintro (h | h); exact e h; exact hd h)]
    have hno : ¬ ((s.setPipe i []).bs.any fun x => decide ((b : Int) + 1 < x)) = true := fun h1 => by
      obtain ⟨j, hj, hp⟩ := (any_getD hl1.bs _).1 h1
      have e : (s.setPipe i []).bs.getD j 0 = s.blk j := rfl
      rw [e, h.blk j hj] at hp
      have := of_decide_eq_true hp
      split at this <;> omega
    have hpp : ∀ j, (s.setPipe i []).pipe j = if j = i then [] else s.pipe j := fun j => hl.pipe_put hi [] j
    have hlt := any_getD (l := (s.setPipe i []).bs.set i ((b : Int) + 1)) (n := n) (by rw [List.length_set]; exact hl1.bs) (fun x => decide (x < (b : Int) + 1))
    by_cases hex : ∃ j, j < n ∧ j ≠ i ∧ d j = false
    · obtain ⟨j1, hj1, hji, hdj⟩ := hex
      have hb : barR (s.setPipe i []) i ((b : Int) + 1) = (El.zero, (s.setPipe i []).setBs (((s.setPipe i []).bs.set i ((b : Int) + 1)).map (lowN ((b : Int) + 1)))) := by
        unfold barR
        rw [if_neg hno, if_pos (hlt.2 ⟨j1, hj1, by rw [hbl j1 hj1, if_neg (by rintro (h | h); exact hji h; rw [hdj] at h; cases h)]; simp <;> omega⟩)]
      have hb' : barR (s.setPipe i []) i (bE (b + 1)).at_ = barR (s.setPipe i []) i ((b : Int) + 1) := rfl
      rw [hb', hb]
      refine ⟨rfl, .inr (.inl ⟨rfl, fun j => if j = i then true else d j, ?_, ?_⟩)⟩
      · have e : sumQ (leftM (fun j => if j = i then true else d j) q) n = sumQ (putF (leftM d q) i 0) n := sumQ_congr fun j hj => by
          unfold leftM
          by_cases e : j = i
          · subst e; rw [putF_eq]; simp
          · rw [putF_ne _ _ e]; simp [e]
        have := sumQ_put (leftM d q) i 0 n hi
        have h2 : leftM d q i = 1 := by unfold leftM; rw [hdi, hqi]; rfl
        omega
      · refine ⟨fun j hj => ?_, fun j hj => ?_, h.lst, fun j hj hd => ?_, j1, hj1, by simp [hji, hdj]⟩
        · show (s.setPipe i []).pipe j = _
          rw [hpp]
          by_cases e : j = i
          · subst e; simp
          · rw [if_neg e, h.pipe j hj]; simp [e]
        · show (((s.setPipe i []).bs.set i ((b : Int) + 1)).map (lowN ((b : Int) + 1))).getD j 0 = _
          rw [getD_map0 _ (lowN_zero _), hbl j hj]
          by_cases e : j = i
          · subst e; simp [lowN]
          · by_cases hd : d j = true
            · simp [e, hd, lowN]
            · simp [e, hd, lowN_zero]
        · by_cases e : j = i
          · subst e; exact hqi
          · simp [e] at hd; exact h.qd j hj hd
    · have hall : ∀ j, j < n → j ≠ i → d j = true := fun j hj hne => by
        cases hd : d j with
        | true => rfl
        | false => exact absurd ⟨j, hj, hne, hd⟩ hex
      have hb : barR (s.setPipe i []) i ((b : Int) + 1) = (⟨3, ⟨#[]⟩, 0, 0, (b : Int) + 1⟩, (s.setPipe i []).setBs (List.replicate (s.setPipe i []).bs.length 0)) := by
        unfold barR
        rw [if_neg hno, if_neg]
        intro h1
        obtain ⟨j, hj, hp⟩ := hlt.1 h1
        rw [hbl j hj] at hp
        by_cases e : j = i
        · rw [if_pos (.inl e)] at hp; simp at hp
        · rw [if_pos (.inr (hall j hj e))] at hp; simp at hp
      have hb' : barR (s.setPipe i []) i (bE (b + 1)).at_ = barR (s.setPipe i []) i ((b : Int) + 1) := rfl
      rw [hb', hb]
      refine ⟨rfl, .inr (.inr ⟨rfl, ?_, ?_, ?_⟩)⟩
      · exact sumQ_zero fun j hj => by
          by_cases e : j = i
          · subst e; exact hqi
          · exact h.qd j hj (hall j hj e)
      · have := sumQ_ge (f := leftM d q) hi
        have h2 : leftM d q i = 1 := by unfold leftM; rw [hdi, hqi]; rfl
        omega
      · refine ⟨fun j hj => ?_, fun j hj => getD_rep0 _ _, fun j hj => ?_⟩
        · show (s.setPipe i []).pipe j = _
          rw [hpp]
          by_cases e : j = i
          · subst e; simp [recs]
          · rw [if_neg e, h.pipe j hj, hall j hj e]; simp [recs]
        · show s.lst j = _
          rw [h.lst j hj]; simp
end Go.Proofs.Ytijkcahdegohiaa
