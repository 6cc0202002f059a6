/-
  A slice of the call's own that need not start at its block's head: what an append and a 'l[1:]' make of it. No program in sight.
-/
import Derived.Test.YtijkcahdegohiaaBase
import Derived.ArgAppend
import Derived.KernelRfl
namespace Go.Proofs.Ytijkcahdegohiaa
open Go.RowKit

def putL (cur : Array Value) (o : Nat) : List Value → Array Value
  | [] => cur
  | v :: vs => putL (cur.setIfInBounds o v) (o + 1) vs
theorem size_putL : ∀ (vs : List Value) (cur : Array Value) (o : Nat), (putL cur o vs).size = cur.size
  | [], _, _ => rfl
  | v :: vs, cur, o => by rw [putL, size_putL vs]; simp
theorem putL_out : ∀ (vs : List Value) (cur : Array Value) (o i : Nat), i < o ∨ o + vs.length ≤ i → (putL cur o vs)[i]? = cur[i]?
  | [], _, _, _, _ => rfl
  | v :: vs, cur, o, i, h => by
    simp only [List.length_cons] at h
    rw [putL, putL_out vs _ _ _ (by omega), Array.getElem?_setIfInBounds, if_neg (by omega)]
theorem putL_in : ∀ (vs : List Value) (cur : Array Value) (o j : Nat), j < vs.length → o + vs.length ≤ cur.size → (putL cur o vs)[o + j]? = vs[j]?
  | v :: vs, cur, o, 0, _, h => by
    rw [putL, putL_out vs _ _ _ (by omega), Nat.add_zero, Array.getElem?_setIfInBounds, if_pos rfl, if_pos (by simp at h; omega)]
    rfl
  | v :: vs, cur, o, j + 1, hj, h => by
    simp only [List.length_cons] at hj h
    have := putL_in vs (cur.setIfInBounds o v) (o + 1) j (by omega) (by simp; omega)
    rw [putL, show o + (j + 1) = o + 1 + j from by omega, this]
    rfl
theorem heap_setCells {g : Nat} {t : TypeId} : ∀ (vs : List Value) (cur : Array Value) (o : Nat) (w : World), w.heap[g]? = some (.cells cur t (0, 0)) → (w.setCells g o vs).heap[g]? = some (.cells (putL cur o vs) t (0, 0))
  | [], _, _, _, h => h
  | v :: vs, cur, o, w, h => by rw [World.setCells, putL]; exact heap_setCells vs _ _ _ (heap_set h o v)
theorem heap_setCells_ne {g k : Nat} (hne : k ≠ g) : ∀ (vs : List Value) (o : Nat) (w : World), (w.setCells g o vs).heap[k]? = w.heap[k]?
  | [], _, _ => rfl
  | v :: vs, o, w => by rw [World.setCells, heap_setCells_ne hne vs, heap_setCell_other _ _ _ _ hne]
theorem grownBy_setCells (w : World) (g : Nat) : ∀ (vs : List Value) (o : Nat), w.grownBy (w.setCells g o vs) (some g) := fun vs o => by
  refine ⟨?_, ?_, ?_, ?_, fun k _ hk => heap_setCells_ne (fun e => hk (by rw [e])) vs o w⟩
  · induction vs generalizing w o with
    | nil => rfl
    | cons v vs ih => rw [World.setCells, ih]; rfl
  · induction vs generalizing w o with
    | nil => rfl
    | cons v vs ih => rw [World.setCells, ih]; rfl
  · induction vs generalizing w o with
    | nil => rfl
    | cons v vs ih => rw [World.setCells, ih]; rfl
  · induction vs generalizing w o with
    | nil => exact Nat.le_refl _
    | cons v vs ih => rw [World.setCells]; refine Nat.le_trans ?_ (ih _ _); simp [World.setCell]

/-- The slice v of n elements (size cells each) is the call's own, in a block from B on; its cells are xs. -/
def OwnAt (w : World) (B : Nat) (e : TypeId) (size : Nat) (v : Value) (n : Nat) (xs : List Value) : Prop :=
  xs.length = n * size ∧
  ((v = .slice none 0 0 ∧ n = 0) ∨
   ∃ g off cap cur, v = .slice (some ⟨g, off, none⟩) n cap ∧ B ≤ g ∧ w.heap[g]? = some (.cells cur e (0, 0)) ∧ n ≤ cap ∧ cap ≤ maxLen ∧ off + cap * size ≤ cur.size ∧ ∀ j u, xs[j]? = some u → cur[off + j]? = some u)

theorem OwnAt.nil (w : World) (B : Nat) (e : TypeId) (size : Nat) : OwnAt w B e size (.slice none 0 0) 0 [] := ⟨by simp, .inl ⟨rfl, rfl⟩⟩
theorem OwnAt.of {w : World} {B : Nat} {e : TypeId} {size : Nat} {v : Value} {n : Nat} {xs : List Value} (h : w.ownsRow B e size v n xs) : OwnAt w B e size v n xs := by
  obtain ⟨h1, h2 | ⟨g, cap, cur, rfl, hB, hg, hn, hm, hs, ht⟩⟩ := h
  · exact ⟨h1, .inl h2⟩
  · refine ⟨h1, .inr ⟨g, 0, cap, cur, rfl, hB, hg, hn, hm, by omega, fun j u hu => ?_⟩⟩
    rw [← ht, List.getElem?_take] at hu
    split at hu
    · simpa using hu
    · cases hu
theorem OwnAt.kept {w w' : World} {B : Nat} {e : TypeId} {size : Nat} {v : Value} {n : Nat} {xs : List Value} (h : OwnAt w B e size v n xs) (hk : ∀ k o, v.ownBlock = some k → w.heap[k]? = some o → w'.heap[k]? = some o) : OwnAt w' B e size v n xs := by
  obtain ⟨h1, h2 | ⟨g, off, cap, cur, rfl, hB, hg, hr⟩⟩ := h
  · exact ⟨h1, .inl h2⟩
  · exact ⟨h1, .inr ⟨g, off, cap, cur, rfl, hB, hk g _ rfl hg, hr⟩⟩
theorem OwnAt.upd {S : Nat → Prop} {w w' : World} {B : Nat} {e : TypeId} {size : Nat} {v : Value} {n : Nat} {xs : List Value} (h : OwnAt w B e size v n xs) (hU : Upd S w w') (hS : ∀ k, v.ownBlock = some k → ¬ S k) : OwnAt w' B e size v n xs :=
  h.kept fun k _ hv hk => hU.at hk (hS k hv)
theorem OwnAt.lt {w : World} {B : Nat} {e : TypeId} {size : Nat} {v : Value} {n : Nat} {xs : List Value} (h : OwnAt w B e size v n xs) {k : Nat} (hk : v.ownBlock = some k) : B ≤ k ∧ k < w.heap.size := by
  obtain ⟨h1, ⟨rfl, _⟩ | ⟨g, off, cap, cur, rfl, hB, hg, hr⟩⟩ := h
  · simp [Value.ownBlock] at hk
  · simp [Value.ownBlock] at hk
    subst hk
    exact ⟨hB, lt_of_heap hg⟩
theorem OwnAt.shape {w : World} {B : Nat} {e : TypeId} {size : Nat} {v : Value} {n : Nat} {xs : List Value} (h : OwnAt w B e size v n xs) : ∃ A cap, v = .slice A n cap := by
  obtain ⟨h1, ⟨rfl, rfl⟩ | ⟨g, off, cap, cur, rfl, hB, hg, hr⟩⟩ := h
  · exact ⟨_, _, rfl⟩
  · exact ⟨_, _, rfl⟩
/-- Its cells, where there is one. -/
theorem OwnAt.cells {w : World} {B : Nat} {e : TypeId} {size : Nat} {v : Value} {n : Nat} {xs : List Value} (h : OwnAt w B e size v n xs) (hn : 0 < n) :
    ∃ g off cap, v = .slice (some ⟨g, off, none⟩) n cap ∧ B ≤ g ∧ (∀ j u, xs[j]? = some u → w.cell? ⟨g, off + j, none⟩ = some u) ∧ ∀ j, w.frozen? ⟨g, j, none⟩ = false := by
  obtain ⟨h1, ⟨rfl, rfl⟩ | ⟨g, off, cap, cur, rfl, hB, hg, hle, hm, hs, hc⟩⟩ := h
  · omega
  · exact ⟨g, off, cap, rfl, hB, fun j u hu => cell_of hg _ _ (hc j u hu), free_of hg⟩
theorem OwnAt.owns_grown {w w' : World} {v : Value} {S : Nat → Prop} (hg : w.grownBy w' v.ownBlock) (hS : ∀ k, v.ownBlock = some k → k < w.heap.size → S k) : Upd S w w' :=
  ⟨hg.os, hg.tape, hg.output, hg.size, fun k hk hs => hg.block k hk (fun e => hs (hS k e.symm hk))⟩

/-- append(v, x): one element more, whether there was room or not. -/
theorem OwnAt.append {P : Program} {w : World} {B : Nat} {e : TypeId} {size : Nat} {v : Value} {n : Nat} {xs : List Value} (h : OwnAt w B e size v n xs) (t ty : TypeId) (i : TypeInfo) (z : Value) (bytes : Nat)
    (ht : P.underlying t = some (.slice e)) (hi : P.info? e = some i) (hz : i.zero = some z) (hsize : i.size = size) (hby : i.bytes = bytes) (hzs : z.cells.size = size) (hsz : 0 < size)
    (b : Nat) (news : List Value) (hl : news.length = size) (hnews : ∀ j u, news[j]? = some u → w.cell? ⟨b, j, none⟩ = some u) (h1 : ∀ u ∈ news, u.oneCell' = true) (h63 : n + 1 ≤ maxLen) (hbytes : (n + 1) * bytes ≤ 140737488355328) (hB : B ≤ w.heap.size) :
    ∃ v' w', (Builtin.append_ #[t, t] ty #[v, .slice (some ⟨b, 0, none⟩) 1 1]).run P w = .ok v' w' ∧ OwnAt w' B e size v' (n + 1) (xs ++ news) ∧ w.grownBy w' v.ownBlock ∧
      (v'.ownBlock = v.ownBlock ∨ ∃ g, v'.ownBlock = some g ∧ w.heap.size ≤ g) := by
  have hlx := h.1
  have hnews' : ∀ j u, news[j]? = some u → w.cell? ((⟨b, 0, none⟩ : Addr).add j) = some u := fun j u hu => by rw [Addr.add_lit, Nat.zero_add]; exact hnews j u hu
  obtain ⟨_, ⟨rfl, rfl⟩ | ⟨g, off, cap, cur, rfl, hBg, hg, hle, hm, hs, hc⟩⟩ := h
  · obtain rfl : xs = [] := List.eq_nil_of_length_eq_zero (by simpa using hlx)
    obtain ⟨v', w', hrun, r1, r2, _⟩ := run_append_own (P := P) w w.heap.size t ty e i z size bytes ht hi hz hsize hby hzs hsz (.slice none 0 0) 0 [] (World.ownsRow_nil w _ e size) ⟨b, 0, none⟩ 1 1 news (by rw [hl, Nat.one_mul]) hnews' h1 h63 hbytes (Nat.le_refl _)
    have hcell := OwnAt.of r1
    refine ⟨v', w', hrun, ⟨by simpa using hcell.1, ?_⟩, r2, ?_⟩
    · rcases hcell.2 with ⟨rfl, h0⟩ | ⟨g, off, cap, cur, rfl, hB', hr⟩
      · omega
      · exact .inr ⟨g, off, cap, cur, by simp, by omega, by simpa using hr⟩
    · rcases hcell.2 with ⟨rfl, h0⟩ | ⟨g, off, cap, cur, rfl, hB', hr⟩
      · omega
      · exact .inr ⟨g, rfl, hB'⟩
  · by_cases hroom : n + 1 ≤ cap
    · subst hsize
      have hfit : off + n * i.size + news.length ≤ cur.size := by
        have : (n + 1) * i.size ≤ cap * i.size := Nat.mul_le_mul_right _ hroom
        rw [Nat.add_mul, Nat.one_mul] at this
        omega
      have hrun := run_append_room_cells (P := P) w t ty e i ht hi g off n cap ⟨b, 0, none⟩ 1 1 news (by rw [hl, Nat.one_mul]) hnews' h1 hroom
        (fun j hj => by
          have hj' : off + n * i.size + j < cur.size := by omega
          rw [cell_of hg _ _ (Array.getElem?_eq_getElem hj')]; rfl)
        (fun j _ => free_of hg _)
      refine ⟨_, _, hrun, ⟨by rw [List.length_append, hlx, hl, Nat.add_mul, Nat.one_mul], .inr ⟨g, off, cap, putL cur (off + n * i.size) news, rfl, hBg, heap_setCells news cur _ w hg, hroom, hm, by rw [size_putL]; exact hs, fun j u hu => ?_⟩⟩, grownBy_setCells w g news _, .inl rfl⟩
      by_cases hj : j < xs.length
      · rw [List.getElem?_append_left hj] at hu
        rw [putL_out _ _ _ _ (.inl (by omega))]
        exact hc j u hu
      · rw [List.getElem?_append_right (by omega)] at hu
        have hjn : j - xs.length < news.length := (List.getElem?_eq_some_iff.1 hu).1
        have := putL_in news cur (off + n * i.size) (j - xs.length) hjn (by omega)
        rw [show off + n * i.size + (j - xs.length) = off + j from by omega] at this
        rw [this, hu]
    · obtain ⟨v', w', hrun, r1, r2⟩ := run_append_arg_grows (P := P) w t ty e i z size bytes ht hi hz hsize hby hzs hsz ⟨g, off, none⟩ n cap xs hlx (fun j u hu => by rw [Addr.add_lit]; exact cell_of hg _ _ (hc j u hu)) ⟨b, 0, none⟩ 1 1 news (by rw [hl, Nat.one_mul]) hnews' (by omega) h63 hbytes
      have hcell := OwnAt.of r1
      refine ⟨v', w', hrun, ⟨hcell.1, ?_⟩, ⟨r2.os, r2.tape, r2.output, r2.size, fun k hk _ => r2.block k hk (by simp)⟩, ?_⟩
      · rcases hcell.2 with ⟨rfl, h0⟩ | ⟨g', off', cap', cur', rfl, hB', hr⟩
        · omega
        · exact .inr ⟨g', off', cap', cur', rfl, by omega, hr⟩
      · rcases hcell.2 with ⟨rfl, h0⟩ | ⟨g', off', cap', cur', rfl, hB', hr⟩
        · omega
        · exact .inr ⟨g', rfl, hB'⟩

/-- .. as the walk meets it. -/
theorem wpList_append_ownAt {P : Program} {w : World} {ops : Array Oper} {rest : List Oper} {o : Oper} {a : Act} {Q : Exit → Act → World → Prop} (hgd : o.guard = none) (s x : Operand) (t : TypeId)
    (ho : o.op = .call { callee := .builtin .append, args := #[s, x], argTypes := #[t, t] }) {B : Nat} {e : TypeId} {size : Nat} (v : Value) (n : Nat) (xs : List Value) (hs : a.eval s = v) (h : OwnAt w B e size v n xs) (i : TypeInfo) (z : Value) (bytes : Nat)
    (ht : P.underlying t = some (.slice e)) (hi : P.info? e = some i) (hz : i.zero = some z) (hsize : i.size = size) (hby : i.bytes = bytes) (hzs : z.cells.size = size) (hsz : 0 < size)
    (b : Nat) (news : List Value) (hx : a.eval x = .slice (some ⟨b, 0, none⟩) 1 1) (hl : news.length = size) (hnews : ∀ j u, news[j]? = some u → w.cell? ⟨b, j, none⟩ = some u) (h1 : ∀ u ∈ news, u.oneCell' = true) (h63 : n + 1 ≤ maxLen) (hbytes : (n + 1) * bytes ≤ 140737488355328) (hB : B ≤ w.heap.size)
    (hK : ∀ v' w', OwnAt w' B e size v' (n + 1) (xs ++ news) → w.grownBy w' v.ownBlock → (v'.ownBlock = v.ownBlock ∨ ∃ g, v'.ownBlock = some g ∧ w.heap.size ≤ g) → wpList P ops Q rest (a.put o.dst v') w') : wpList P ops Q (o :: rest) a w :=
  wpList_plain hgd fun K hK' => by
    obtain ⟨v', w', hr, h2, h3, h4⟩ := h.append (P := P) t o.type i z bytes ht hi hz hsize hby hzs hsz b news hl hnews h1 h63 hbytes hB
    unfold Oper.wp execOp
    simp only [ho, resolve, invoke, builtin, Sem.run_bind, Sem.run_pure, Result.andThen_ok, List.map_toArray, List.map_cons, List.map_nil, hs, hx, hr]
    exact hK' _ _ (hK v' w' h2 h3 h4)

/-- v[1:]. -/
theorem OwnAt.tail {P : Program} {w : World} {B : Nat} {e : TypeId} {size : Nat} {v : Value} {n : Nat} {xs : List Value} (h : OwnAt w B e size v (n + 1) xs) (t : TypeId) (i : TypeInfo) (ht : P.underlying t = some (.slice e)) (hi : P.info? e = some i) (hsize : i.size = size) :
    ∃ v', (∀ w', (Instr.slice t v (some (.int .i64 1)) none none).run P w' = .ok v' w') ∧ OwnAt w B e size v' n (xs.drop size) ∧ v'.ownBlock = v.ownBlock := by
  obtain ⟨hl, ⟨rfl, h0⟩ | ⟨g, off, cap, cur, rfl, hBg, hg, hle, hm, hs, hc⟩⟩ := h
  · omega
  · subst hsize
    have hlen : (xs.drop i.size).length = n * i.size := by rw [List.length_drop, hl, Nat.add_mul, Nat.one_mul, Nat.add_sub_cancel]
    by_cases h1 : cap = 1
    · subst h1
      obtain rfl : n = 0 := by omega
      refine ⟨.slice (some ⟨g, off, none⟩) 0 0, fun w' => ?_, ⟨hlen, .inr ⟨g, off, 0, cur, rfl, hBg, hg, by omega, by omega, by omega, fun j u hu => ?_⟩⟩, rfl⟩
      · simp [Instr.slice, run_underlying ht, Instr.sliceBounds, Instr.sliceBound, asIntOf, sizeOf, typeInfo, hi]
      · have := (List.getElem?_eq_some_iff.1 hu).1
        omega
    · refine ⟨.slice (some ⟨g, off + i.size, none⟩) n (cap - 1), fun w' => ?_, ⟨hlen, .inr ⟨g, off + i.size, cap - 1, cur, rfl, hBg, hg, by omega, by omega, ?_, fun j u hu => ?_⟩⟩, rfl⟩
      · have e1 : ¬ ((n : Int) + 1 < 1) := by omega
        simp [e1, Instr.slice, run_underlying ht, Instr.sliceBounds, Instr.sliceBound, asIntOf, sizeOf, typeInfo, hi, h1, Addr.add_lit]
      · have : (cap - 1) * i.size + i.size = cap * i.size := by rw [← Nat.succ_mul]; congr 1; omega
        omega
      · rw [List.getElem?_drop] at hu
        have := hc (i.size + j) u hu
        rw [← this]
        congr 1
        omega
theorem OwnAt.tail1 {w : World} {B : Nat} {e : TypeId} {size g off n : Nat} {xs : List Value} (h : OwnAt w B e size (.slice (some ⟨g, off, none⟩) (n + 1) 1) (n + 1) xs) : OwnAt w B e size (.slice (some ⟨g, off, none⟩) n 0) n (xs.drop size) := by
  obtain ⟨hl, ⟨h0, _⟩ | ⟨g', off', cap, cur, hv, hBg, hg, hle, hm, hs, hc⟩⟩ := h
  · cases h0
  · injection hv with q1 q2 q3
    injection q1 with q1
    injection q1 with q4 q5
    subst q4 q5 q3
    obtain rfl : n = 0 := by omega
    have hlen : (xs.drop size).length = 0 * size := by rw [List.length_drop, hl, Nat.zero_add, Nat.one_mul, Nat.zero_mul, Nat.sub_self]
    refine ⟨hlen, .inr ⟨g, off, 0, cur, rfl, hBg, hg, by omega, by omega, by omega, fun j u hu => ?_⟩⟩
    have := (List.getElem?_eq_some_iff.1 hu).1
    omega
theorem OwnAt.tail2 {w : World} {B : Nat} {e : TypeId} {size g off n cap : Nat} {xs : List Value} (h : OwnAt w B e size (.slice (some ⟨g, off, none⟩) (n + 1) cap) (n + 1) xs) : OwnAt w B e size (.slice (some ⟨g, off + size, none⟩) n (cap - 1)) n (xs.drop size) := by
  obtain ⟨hl, ⟨h0, _⟩ | ⟨g', off', cap', cur, hv, hBg, hg, hle, hm, hs, hc⟩⟩ := h
  · cases h0
  · injection hv with q1 q2 q3
    injection q1 with q1
    injection q1 with q4 q5
    subst q4 q5 q3
    have hlen : (xs.drop size).length = n * size := by rw [List.length_drop, hl, Nat.add_mul, Nat.one_mul, Nat.add_sub_cancel]
    refine ⟨hlen, .inr ⟨g, off + size, cap - 1, cur, rfl, hBg, hg, by omega, by omega, ?_, fun j u hu => ?_⟩⟩
    · have : (cap - 1) * size + size = cap * size := by rw [← Nat.succ_mul]; congr 1; omega
      omega
    · rw [List.getElem?_drop] at hu
      rw [← hc (size + j) u hu]
      congr 1
      omega
end Go.Proofs.Ytijkcahdegohiaa
