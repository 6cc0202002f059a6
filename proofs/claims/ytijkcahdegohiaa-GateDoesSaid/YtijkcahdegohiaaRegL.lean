/-
  A region whose last operation waits for all others: the others are walked first, in whatever order, with a condition that the last one may break.
-/
import Derived.Test.YtijkcahdegohiaaBase
import Derived.Deep.RegionHeld3
import Derived.KernelRfl
namespace Go.Proofs.Ytijkcahdegohiaa
open Go.RowKit

section
variable {P : Program} {ops : Array Oper} {Q : Exit → Act → World → Prop} {md : Region.Mode} {S : World → Prop}

/-- What is to be shown ahead of the last operation. -/
def atLast (P : Program) (ops : Array Oper) (Q : Exit → Act → World → Prop) (l : Nat) : Exit → Act → World → Prop
  | .normal, a, w => wpOp P ops Q l (fun a' w' => Q .normal a' w') a w
  | _, _, _ => False
theorem atLast_normal {l : Nat} {a : Act} {w : World} (h : wpOp P ops Q l (fun a' w' => Q .normal a' w') a w) : atLast P ops Q l .normal a w := h
/-- Operation l is the last one and waits for all others; each waits for earlier ones alone. -/
def lastB (md : Region.Mode) (ops : Array Oper) (l : Nat) : Bool :=
  decide (l + 1 = ops.size) && ((List.range l).all fun j => ((ops[l]?).map fun o => o.after.any fun e => Region.binds md e && e.on == j).getD false)
    && (List.range ops.size).all fun j => ((ops[j]?).map fun o => o.after.all fun e => decide (e.on < j)).getD false
theorem lastB_spec {l : Nat} (h : lastB md ops l = true) :
    l + 1 = ops.size ∧ (∃ o, ops[l]? = some o ∧ ∀ j, j < l → ∃ e ∈ o.after, Region.binds md e = true ∧ e.on = j) ∧ ∀ (j : Nat) (o : Oper), ops[j]? = some o → ∀ e ∈ o.after, e.on < j := by
  unfold lastB at h
  simp only [Bool.and_eq_true, decide_eq_true_eq, List.all_eq_true, List.mem_range] at h
  obtain ⟨⟨h1, h2⟩, h3⟩ := h
  have hl : l < ops.size := by omega
  refine ⟨h1, ⟨ops[l], Array.getElem?_eq_getElem hl, fun j hj => ?_⟩, fun j o ho e he => ?_⟩
  · have := h2 j hj
    rw [Array.getElem?_eq_getElem hl] at this
    simp only [Option.map_some, Option.getD_some] at this
    obtain ⟨i, hi, hb⟩ := Array.any_eq_true.1 this
    simp only [Bool.and_eq_true, beq_iff_eq] at hb
    exact ⟨_, Array.getElem_mem hi, hb.1, hb.2⟩
  · have hj := (Array.getElem?_eq_some_iff.1 ho).1
    have := h3 j hj
    rw [ho] at this
    simp only [Option.map_some, Option.getD_some] at this
    obtain ⟨i, hi, rfl⟩ := Array.mem_iff_getElem.1 he
    simpa using Array.all_eq_true.1 this i hi

theorem Oper.wp_exits {Q' : Exit → Act → World → Prop} (h : ∀ e a w, e ≠ .normal → Q' e a w → Q e a w) {o : Oper} {a : Act} {w : World} {K : Act → World → Prop} (hh : o.wp P a w K Q') : o.wp P a w K Q := by
  unfold Oper.wp at *
  generalize (execOp a.eval o).run P w = r at *
  cases r with
  | ok n w' =>
    cases n <;> simp only [Oper.upon] at hh ⊢
    case enter f args => exact Calls.mono hh (fun e w'' he => by
      cases e with
      | returned v => exact he
      | panicked c => exact h _ _ _ (by simp) he
      | outgrown => obtain ⟨a', w3, h3⟩ := he; exact ⟨a', w3, h _ _ _ (by simp) h3⟩)
    all_goals exact hh
  | halt x w' =>
    cases x <;> simp only [Oper.upon] at hh ⊢
    case panic v => exact h _ _ _ (by simp) hh
    all_goals exact hh
theorem wpOp_exits {Q' : Exit → Act → World → Prop} (h : ∀ e a w, e ≠ .normal → Q' e a w → Q e a w) {i : Nat} {a : Act} {w : World} {K : Act → World → Prop} (hh : wpOp P ops Q' i K a w) : wpOp P ops Q i K a w := by
  unfold wpOp at *
  split
  · simpa [*] using hh
  · rename_i o ho
    simp only [ho] at hh
    split
    · rename_i hw
      simp only [hw, if_true] at hh
      exact hh.imp (Oper.wp_exits h) (fun ⟨x, a', w', hl⟩ => ⟨x, a', w', h _ _ _ (by simp) hl⟩)
    · rename_i hw; simp only [hw] at hh; exact hh

theorem wpAny_of_last {l : Nat} (hB : lastB md ops l = true) : ∀ (fuel : Nat) (listed : Array Bool) (a : Act) (w : World), listed.size = ops.size → listed.getD l true = false →
    wpAnyH P md ops (atLast P ops Q l) S fuel (listed.setIfInBounds l true) a w → wpAny P md ops Q (fuel + 1) listed a w := by
  obtain ⟨hl, ⟨ol, hol, hwait⟩, hback⟩ := lastB_spec hB
  have hex : ∀ e a w, e ≠ Exit.normal → atLast P ops Q l e a w → Q e a w := fun e a w hne h => by
    cases e <;> first | exact absurd rfl hne | exact (h : False).elim
  -- where nothing but the last may come up, all others have
  have hall : ∀ listed : Array Bool, listed.size = ops.size → Region.ready md ops (listed.setIfInBounds l true) = [] → ∀ j, j < l → listed.getD j true = true := fun listed hsz hr => by
    intro j
    induction j using Nat.strongRecOn with
    | _ j ih =>
      intro hj
      refine Classical.byContradiction fun hno => ?_
      have hno' : listed.getD j true = false := by simpa using hno
      have hjo : j < ops.size := by omega
      have hmem : j ∈ Region.ready md ops (listed.setIfInBounds l true) := by
        rw [mem_ready]
        refine ⟨by rw [getD_set_ne true (by omega)]; exact hno', ops[j], Array.getElem?_eq_getElem hjo, fun e he _ => ?_⟩
        have hlt := hback j _ (Array.getElem?_eq_getElem hjo) e he
        rw [getD_set_ne false (by omega)]
        have h1 := ih e.on hlt (by omega)
        have h2 : e.on < listed.size := by omega
        simp [h2] at h1 ⊢
        exact h1
      rw [hr] at hmem
      cases hmem
  have hready : ∀ listed : Array Bool, listed.size = ops.size → listed.getD l true = false → (∀ j, j < l → listed.getD j true = true) → l ∈ Region.ready md ops listed := fun listed hsz h0 h => by
    rw [mem_ready]
    refine ⟨h0, ol, hol, fun e he _ => ?_⟩
    have hlt := hback l ol hol e he
    have h1 := h e.on hlt
    have h2 : e.on < listed.size := by omega
    simp [h2] at h1 ⊢
    exact h1
  have hrest : ∀ listed : Array Bool, l ∈ Region.ready md ops listed → Region.ready md ops (listed.setIfInBounds l true) = [] := fun listed hr => by
    obtain ⟨_, o, ho, hd⟩ := mem_ready.1 hr
    rw [hol] at ho
    injection ho with ho
    subst ho
    rw [List.eq_nil_iff_forall_not_mem]
    intro j hj
    obtain ⟨h0, o', ho', _⟩ := mem_ready.1 hj
    have hjs := (Array.getElem?_eq_some_iff.1 ho').1
    by_cases hjl : j = l
    · subst hjl
      rcases Nat.lt_or_ge j listed.size with h' | h'
      · simp [h'] at h0
      · have := (mem_ready.1 hr).1
        simp [Array.getElem?_eq_none h'] at this
    · obtain ⟨e, he, hb, hej⟩ := hwait j (by omega)
      have h1 := hd e he hb
      rw [hej] at h1
      rw [getD_set_ne true (fun h => hjl h.symm)] at h0
      rcases Nat.lt_or_ge j listed.size with h' | h'
      · simp [h'] at h0 h1; rw [h0] at h1; cases h1
      · simp [Array.getElem?_eq_none h'] at h1
  have hend : ∀ (fuel : Nat) (listed : Array Bool) (a : Act) (w : World), listed.size = ops.size → listed.getD l true = false → Region.ready md ops (listed.setIfInBounds l true) = [] → atLast P ops Q l .normal a w → wpAny P md ops Q (fuel + 1) listed a w := fun fuel listed a w hsz h0 hr hA => by
    have hl0 := hready listed hsz h0 (hall listed hsz hr)
    refine ⟨fun h => (by rw [h] at hl0; cases hl0), fun j hj => ?_⟩
    have hjl : j = l := Classical.byContradiction fun hjl => by
      have := ready_mono hj hjl
      rw [hr] at this
      cases this
    subst hjl
    refine wpOp_mono (fun a' w' h => ?_) (show wpOp P ops Q j (fun a' w' => Q .normal a' w') a w from hA)
    cases fuel with
    | zero => exact ⟨hr, h⟩
    | succ fuel => exact ⟨fun _ => h, fun k hk => by rw [hr] at hk; cases hk⟩
  intro fuel
  induction fuel with
  | zero => intro listed a w hsz h0 h; exact hend 0 listed a w hsz h0 h.1 h.2
  | succ fuel ih =>
    intro listed a w hsz h0 h
    by_cases hr : Region.ready md ops (listed.setIfInBounds l true) = []
    · exact hend (fuel + 1) listed a w hsz h0 hr (h.1 hr)
    · refine ⟨fun hn => ?_, fun j hj => ?_⟩
      · -- something may come up: the least that has not
        refine absurd (List.eq_nil_iff_forall_not_mem.2 fun j hj => ?_) hr
        obtain ⟨q0, o, ho, hd⟩ := mem_ready.1 hj
        have hjs := (Array.getElem?_eq_some_iff.1 ho).1
        have hjl : j ≠ l := fun e => by subst e; simp [show j < listed.size by omega] at q0
        have : j ∈ Region.ready md ops listed := by
          rw [mem_ready]
          refine ⟨by rw [getD_set_ne true (fun h => hjl h.symm)] at q0; exact q0, o, ho, fun e he hb => ?_⟩
          have hlt := hback j o ho e he
          have := hd e he hb
          rw [getD_set_ne false (by omega)] at this
          exact this
        rw [hn] at this
        cases this
      · by_cases hjl : j = l
        · subst hjl
          exact absurd (hrest listed hj) hr
        · refine wpOp_mono (fun a' w' h' => ih (listed.setIfInBounds j true) a' w' (by simpa using hsz) (by rw [getD_set_ne true hjl]; exact h0) ?_) (wpOp_exits hex (h.2 j (ready_mono hj hjl)))
          rw [Array.setIfInBounds_comm _ _ hjl]
          exact h'.2

/-- The beginning: S is shown of the world behind the draw. -/
theorem wp_region_last {id : Nat} {a : Act} {w : World} (l : Nat) (hm : P.follows .mixedOrders = true) (hB : lastB .any ops l = true) (hS : S w.drew)
    (h : S w.drew → wpAnyH P .any ops (atLast P ops Q l) S (ops.size - 1) ((Array.replicate ops.size false).setIfInBounds l true) a w.drew) : (Code.region id ops true).wp P Q a w := by
  obtain ⟨hl, _, _⟩ := lastB_spec hB
  refine wp_region_any hm ?_
  have hsz : ops.size = (ops.size - 1) + 1 := by omega
  have := wpAny_of_last (P := P) (Q := Q) (S := S) hB (ops.size - 1) (Array.replicate ops.size false) a w.drew (by simp) (by have h9 : l < ops.size := (by omega); simp [h9]) (h hS)
  rw [← hsz] at this
  exact this
end
end Go.Proofs.Ytijkcahdegohiaa
