/-
  A gate's barrier: what is told when one comes by an input.
-/
import Derived.Test.YtijkcahdegohiaaGateB
namespace Go.Proofs.Ytijkcahdegohiaa
open Go.RowKit

/-! ### Plain -/
def lowN (a b : Int) : Int := if b < a then 0 else b
def lowL (a : Int) (k : Nat) (l : List Int) : List Int := (l.take k).map (lowN a) ++ l.drop k
def cntL (a : Int) (l : List Int) : Nat := (l.filter fun b => decide (b < a)).length
def zeroL (k : Nat) (l : List Int) : List Int := List.replicate k 0 ++ l.drop k
theorem lowL_zero (a : Int) (l : List Int) : lowL a 0 l = l := by simp [lowL]
theorem lowL_all (a : Int) (l : List Int) (k : Nat) (h : l.length ≤ k) : lowL a k l = l.map (lowN a) := by simp [lowL, List.take_of_length_le h, List.drop_eq_nil_of_le h]
theorem lowL_length (a : Int) (k : Nat) (l : List Int) (h : k ≤ l.length) : (lowL a k l).length = l.length := by simp [lowL]; omega
theorem lowL_get (a : Int) (k : Nat) (l : List Int) (x : Int) (hx : l[k]? = some x) : (lowL a k l).getD k 0 = x := by
  have hk := (List.getElem?_eq_some_iff.1 hx).1
  have hl : ((l.take k).map (lowN a)).length = k := by simp; omega
  simp only [lowL, List.getD_eq_getElem?_getD]
  rw [List.getElem?_append_right (by omega), hl, Nat.sub_self, List.getElem?_drop, Nat.add_zero, hx]
  rfl
theorem lowL_succ (a : Int) (k : Nat) (l : List Int) (x : Int) (hx : l[k]? = some x) : (lowL a k l).set k (lowN a x) = lowL a (k + 1) l := by
  have hk := (List.getElem?_eq_some_iff.1 hx).1
  have hl : ((l.take k).map (lowN a)).length = k := by simp; omega
  unfold lowL
  rw [List.set_append_right _ _ (by omega), hl, Nat.sub_self, take_snoc_get hx, List.map_append, List.append_assoc]
  congr 1
  have hd : l.drop k = x :: l.drop (k + 1) := by
    rw [List.drop_eq_getElem_cons hk]
    rw [List.getElem?_eq_getElem hk] at hx
    injection hx with hx
    rw [hx]
  rw [hd]
  rfl
theorem lowL_same (a : Int) (k : Nat) (l : List Int) (x : Int) (hx : l[k]? = some x) (h : ¬ x < a) : lowL a (k + 1) l = lowL a k l := by
  rw [← lowL_succ a k l x hx]
  have e : lowN a x = x := if_neg h
  rw [e]
  have hk := (List.getElem?_eq_some_iff.1 hx).1
  have hg := lowL_get a k l x hx
  have hl := lowL_length a k l (by omega)
  apply List.ext_getElem?
  intro j
  rw [List.getElem?_set]
  split
  · rename_i e; subst e
    rw [if_pos (by omega)]
    have : (lowL a k l)[k]? = some ((lowL a k l).getD k 0) := by simp [List.getElem?_eq_getElem (show k < (lowL a k l).length by omega)]
    rw [this, hg]
  · rfl
theorem cntL_snoc (a : Int) (l : List Int) (x : Int) : cntL a (l ++ [x]) = cntL a l + if x < a then 1 else 0 := by
  unfold cntL
  rw [List.filter_append, List.length_append]
  by_cases h : x < a <;> simp [h]
theorem cntL_le (a : Int) (l : List Int) : cntL a l ≤ l.length := List.length_filter_le _ _
theorem cntL_pos (a : Int) (l : List Int) : 0 < cntL a l ↔ l.any (fun b => decide (b < a)) = true := by
  unfold cntL
  rw [List.length_pos_iff_exists_mem]
  simp
theorem zeroL_zero (l : List Int) : zeroL 0 l = l := by simp [zeroL]
theorem zeroL_all (l : List Int) (k : Nat) (h : l.length = k) : zeroL k l = List.replicate l.length 0 := by simp [zeroL, h]
theorem zeroL_succ (k : Nat) (l : List Int) (h : k < l.length) : (zeroL k l).set k 0 = zeroL (k + 1) l := by
  unfold zeroL
  rw [List.set_append_right _ _ (by simp), List.length_replicate, Nat.sub_self, List.replicate_succ', List.append_assoc]
  congr 1
  rw [List.drop_eq_getElem_cons h]
  rfl

/-- What a barrier of number a that comes by input i tells, and what the gate is behind it. -/
def barR (s : GS) (i : Nat) (a : Int) : El × GS :=
  if s.bs.any (fun b => decide (a < b)) = true then (El.zero, s)
  else if (s.bs.set i a).any (fun b => decide (b < a)) = true then (El.zero, s.setBs ((s.bs.set i a).map (lowN a)))
  else (⟨3, ⟨#[]⟩, 0, 0, a⟩, s.setBs (List.replicate s.bs.length 0))

theorem Upd.setEl {S : Nat → Prop} {a w : World} (h : Upd S a w) (b : Nat) (hb : b < a.heap.size → S b) (v0 v1 v2 v3 v4 : Value) :
    Upd S a (((((w.setCell ⟨b, 0, none⟩ v0).setCell ⟨b, 1, none⟩ v1).setCell ⟨b, 2, none⟩ v2).setCell ⟨b, 3, none⟩ v3).setCell ⟨b, 4, none⟩ v4) :=
  ((((h.setCell (p := ⟨b, 0, none⟩) hb _).setCell (p := ⟨b, 1, none⟩) hb _).setCell (p := ⟨b, 2, none⟩) hb _).setCell (p := ⟨b, 3, none⟩) hb _).setCell (p := ⟨b, 4, none⟩) hb _
theorem GateIn.setEl {w : World} {B C g room n : Nat} {L : Loc} {s : GS} (h : GateIn w B C g L room n s) (b : Nat) (hb : C ≤ b) (v0 v1 v2 v3 v4 : Value) :
    GateIn (((((w.setCell ⟨b, 0, none⟩ v0).setCell ⟨b, 1, none⟩ v1).setCell ⟨b, 2, none⟩ v2).setCell ⟨b, 3, none⟩ v3).setCell ⟨b, 4, none⟩ v4) B C g L room n s :=
  h.upd (S := fun k => k = b) (Upd.setEl (S := fun k => k = b) (Upd.refl _ w) b (fun _ => rfl) v0 v1 v2 v3 v4) (fun k _ hk e => by omega)

/-- What holds at each round's head: the inputs' blocks, the call's own element. -/
structure BarMid (w wr : World) (B C g : Nat) (L : Loc) (room n : Nat) (s : GS) (l : List Int) : Prop where
  g : GateIn wr B C g L room n (s.setBs l)
  u : Upd (inGate B C) w wr
  b : wr.heap[w.heap.size]? = some El.zero.obj
theorem GateIn.bs {w : World} {B C g room n : Nat} {L : Loc} {s : GS} {l l' : List Int} (h : GateIn w B C g L room n ((s.setBs l).setBs l')) : GateIn w B C g L room n (s.setBs l') := h
theorem blk_setBs (s : GS) (l : List Int) (k : Nat) : (s.setBs l).blk k = l.getD k 0 := rfl

set_option maxRecDepth 100000 in
set_option maxHeartbeats 6400000 in
theorem c56 {w : World} {B C g room n : Nat} {L : Loc} {s : GS} (h : GateIn w B C g L room n s) (i : Nat) (a : Int) (hi : i < n) :
    Calls Try.prog 56 #[ptr g, .int .i64 i, .int .i64 a] w fun x w' => x = .returned (barR s i a).1.val ∧ GateIn w' B C g L room n (barR s i a).2 ∧ Upd (inGate B C) w w' := by
  have HC := Lib.hid h.hC
  have hlb := h.lbs
  obtain ⟨cap, c0, c1⟩ := h.cellsG
  have H := Lib.hid (h.upd0 ((Upd.refl (fun _ => False) w).alloc El.zero.obj))
  have H00 := Lib.hid h
  obtain ⟨bs, hbs⟩ : ∃ bs, s.bs = bs := ⟨_, rfl⟩
  rw [hbs] at hlb
  have HBS := Lib.hid hbs
  have HLB := Lib.hid hlb
  have hn8 := h.n8
  have hgC := Nat.lt_of_lt_of_le h.rg.2 h.hC
  obtain ⟨R, hR⟩ : ∃ R, barR s i a = R := ⟨_, rfl⟩
  have HR := Lib.hid hR
  rw [hR]
  clear h hlb hbs hR
  have i0 : (0 : Int) ≤ i := by omega
  have i1 : (i : Int) < n := by omega
  go_enter Try.func56, Try.ntmps56
  go_wp2_with fail
  go_loop [19] (fun ix => ∃ k : Nat, k ≤ n ∧ ix = .int .i64 k ∧ Hid (∀ b ∈ bs.take k, ¬ a < b)) (fun ix => n - (intOf ix).toNat)
  case atStart => exact ⟨0, by omega, rfl, Lib.hid (by simp)⟩
  case round =>
    obtain ⟨k, hk, rfl, HN⟩ := hrel
    by_cases hlt : k < n
    · obtain ⟨x, hx⟩ : ∃ x, bs[k]? = some x := ⟨_, List.getElem?_eq_getElem (by rw [HLB.out]; exact hlt)⟩
      have HX := Lib.hid hx
      have ca := H00.out.cellsA hlt
      obtain ⟨d0, d1, d2⟩ := H00.out.cellsI hlt
      have hbk : s.blk k = x := by unfold GS.blk; rw [HBS.out]; simp [hx]
      rw [hbk] at d1
      have hla := Nat.lt_of_lt_of_le H00.out.ra.2 HC.out
      have hli := Nat.lt_of_lt_of_le (H00.out.ri k hlt).1.2 HC.out
      have a1 : (0 : Int) ≤ k := by omega
      have a2 : (k : Int) < n := by omega
      clear hx hbk
      by_cases hax : a < x
      · have hr : R = (El.zero, s) := by
          rw [← HR.out]
          unfold barR
          rw [if_pos (by rw [HBS.out, List.any_eq_true]; exact ⟨x, List.mem_of_getElem? HX.out, by simpa using hax⟩)]
        have HRR := Lib.hid hr
        clear hr
        go_wp2_with fail
        obtain rfl := HRR.out
        exact bodyPost_ret (v := El.zero.val) (by simp [results, Try.results56, go_sem, El.zero]) rfl ⟨rfl, H.out, (Upd.refl _ _).alloc _⟩
      · go_wp2_with fail
        exact ⟨⟨k + 1, by omega, by go_num, Lib.hid (by
          rw [take_snoc_get HX.out]
          intro b hb
          rcases List.mem_append.1 hb with hb | hb
          · exact HN.out b hb
          · have : b = x := by simpa using hb
            rw [this]; exact hax)⟩, by simp [intOf]; omega⟩
    · obtain rfl : n = k := by omega
      have ca := H00.out.cellsA hi
      obtain ⟨d0, d1, d2⟩ := H00.out.cellsI hi
      have hfz := free_of (H00.out.hin i hi)
      have hla := Nat.lt_of_lt_of_le H00.out.ra.2 HC.out
      have hli := Nat.lt_of_lt_of_le (H00.out.ri i hi).1.2 HC.out
      have hna : L.ins i ≠ L.arr := by obtain ⟨cur, ha, _⟩ := H00.out.harr; exact ne_of_type (H00.out.hin i hi) ha (by decide)
      have hng : L.ins i ≠ g := by obtain ⟨cap, hg⟩ := H00.out.hg; exact ne_of_type (H00.out.hin i hi) hg (by decide)
      have hno : Hid (s.bs.any (fun b => decide (a < b)) = false) := Lib.hid (by
        rw [HBS.out, List.any_eq_false]
        intro b hb
        have := HN.out b (by rw [List.take_of_length_le (by rw [HLB.out]; exact Nat.le_refl _)]; exact hb)
        simpa using this)
      have HG1 := Lib.hid ((H00.out.block hi a).upd0 ((Upd.refl (fun _ => False) _).alloc El.zero.obj))
      have HU1 : Hid (Upd (inGate B C) w ((w.setCell ⟨L.ins i, 1, none⟩ (.int .i64 a)).alloc El.zero.obj)) := Lib.hid ((Upd.setCell (p := ⟨L.ins i, 1, none⟩) (Upd.refl _ w) (fun _ => (H00.out.ri i hi).1) _).alloc _)
      have HB1 : Hid (((w.setCell ⟨L.ins i, 1, none⟩ (.int .i64 a)).alloc El.zero.obj).heap[w.heap.size]? = some El.zero.obj) := Lib.hid (by
        have := El.box (w.setCell ⟨L.ins i, 1, none⟩ (.int .i64 a)) El.zero
        have e : (w.setCell ⟨L.ins i, 1, none⟩ (.int .i64 a)).heap.size = w.heap.size := by simp [World.setCell]
        rw [e] at this
        exact this)
      obtain ⟨b1, hb1⟩ : ∃ b1, s.bs.set i a = b1 := ⟨_, rfl⟩
      have hb1l : b1.length = n := by rw [← hb1, List.length_set, HBS.out]; exact HLB.out
      have hmid := (⟨HG1.out, HU1.out, HB1.out⟩ : BarMid w ((w.setCell ⟨L.ins i, 1, none⟩ (.int .i64 a)).alloc El.zero.obj) B C g L room n s (s.bs.set i a))
      rw [hb1, ← lowL_zero a b1] at hmid
      have HMID := Lib.hid hmid
      have HB1L := Lib.hid hb1l
      have HB1E := Lib.hid hb1
      clear hb1 hb1l hmid
      go_wp2_with fail
      go_loopw [9, 46] (fun op ix wr => ∃ k : Nat, k ≤ n ∧ ix = .int .i64 k ∧ op = .int .i64 (cntL a (b1.take k)) ∧ BarMid w wr B C g L room n s (lowL a k b1)) (fun _ ix _ => n - (intOf ix).toNat)
      case atStart => exact ⟨0, by omega, rfl, rfl, HMID.out⟩
      case round =>
        obtain ⟨k, hk, rfl, rfl, hM⟩ := hrel
        have HM := Lib.hid hM
        clear hM
        have hcl := cntL_le a (b1.take k)
        have hcl2 : (b1.take k).length ≤ 8 := by rw [List.length_take, HB1L.out]; omega
        by_cases hlt : k < n
        · obtain ⟨x, hx⟩ : ∃ x, b1[k]? = some x := ⟨_, List.getElem?_eq_getElem (by rw [HB1L.out]; exact hlt)⟩
          have HX := Lib.hid hx
          have ca := HM.out.g.cellsA hlt
          obtain ⟨d0, d1, d2⟩ := HM.out.g.cellsI hlt
          have hfz := free_of (HM.out.g.hin k hlt)
          rw [blk_setBs, lowL_get a k b1 x hx] at d1
          have a1 : (0 : Int) ≤ k := by omega
          have a2 : (k : Int) < n := by omega
          have hcs := cntL_snoc a (b1.take k) x
          rw [← take_snoc_get hx] at hcs
          clear hx
          by_cases hxa : x < a
          · rw [if_pos hxa] at hcs
            have hls := lowL_succ a k b1 x HX.out
            have e0 : lowN a x = 0 := if_pos hxa
            rw [e0] at hls
            have hblk := HM.out.g.block hlt 0
            have HMN := Lib.hid (⟨by rw [← hls]; exact hblk.bs, HM.out.u.setCell (p := ⟨L.ins k, 1, none⟩) (fun _ => (HM.out.g.ri k hlt).1) _, by
              have h1 := (HM.out.g.ri k hlt).1.2
              have h2 := HC.out
              exact heap_set_ne HM.out.b (a := ⟨L.ins k, 1, none⟩) (by show w.heap.size ≠ L.ins k; omega) _⟩ : BarMid w (wr.setCell ⟨L.ins k, 1, none⟩ (.int .i64 0)) B C g L room n s (lowL a (k + 1) b1))
            have HCS := Lib.hid hcs
            generalize cntL a (b1.take k) = c at *
            clear hcs hls e0 hblk
            go_wp2_with fail
            go_roundw
            case rel => exact ⟨k + 1, by omega, by go_num, by rw [HCS.out]; go_num, HMN.out⟩
            case measure => simp [intOf]; omega
          · rw [if_neg hxa] at hcs
            have hls := lowL_same a k b1 x HX.out hxa
            have HCS := Lib.hid hcs
            have HLS := Lib.hid hls
            generalize cntL a (b1.take k) = c at *
            clear hcs hls
            go_wp2_with fail
            go_roundw
            case rel => exact ⟨k + 1, by omega, by go_num, by rw [HCS.out]; rfl, by rw [HLS.out]; exact HM.out⟩
            case measure => simp [intOf]; omega
        · obtain rfl : n = k := by omega
          have htk : b1.take n = b1 := List.take_of_length_le (by rw [HB1L.out]; exact Nat.le_refl _)
          rw [htk] at hcl hcl2
          have hall := lowL_all a b1 n (by rw [HB1L.out]; exact Nat.le_refl _)
          rw [hall] at HM
          have HCP := Lib.hid (cntL_pos a b1)
          have hfb := free_of HM.out.b
          obtain ⟨b0, b1', b2, b3, b4⟩ := El.zero_cells HM.out.b
          have hbs := lt_of_heap HM.out.b
          simp only [htk]
          clear htk hall
          by_cases hc : 0 < cntL a b1
          · have hr : R = (El.zero, s.setBs (b1.map (lowN a))) := by
              rw [← HR.out]
              unfold barR
              rw [if_neg (by rw [hno.out]; decide), if_pos (by rw [HB1E.out]; exact HCP.out.1 hc), HB1E.out]
            have HRR := Lib.hid hr
            clear hr
            generalize cntL a b1 = c at *
            go_wp2_with fail
            have hG := HM.out.g.setEl w.heap.size HC.out (.int .i64 0) (.string ⟨#[]⟩) (.int .i64 0) (.int .i64 0) (.int .i64 0)
            have hU := HM.out.u.setEl w.heap.size (fun h => absurd h (Nat.lt_irrefl _)) (.int .i64 0) (.string ⟨#[]⟩) (.int .i64 0) (.int .i64 0) (.int .i64 0)
            obtain rfl := HRR.out
            exact bodyPost_ret (v := El.zero.val) (by simp [results, Try.results56, go_sem, El.zero, b0, b1', b2, b3, b4]) rfl ⟨rfl, hG, hU⟩
          · have hz0 : cntL a b1 = 0 := by omega
            have hr : R = (⟨3, ⟨#[]⟩, 0, 0, a⟩, s.setBs (List.replicate n 0)) := by
              rw [← HR.out]
              unfold barR
              rw [if_neg (by rw [hno.out]; decide), if_neg (by rw [HB1E.out]; exact fun h => hc (HCP.out.2 h)), HBS.out, HLB.out]
            have HRR := Lib.hid hr
            obtain ⟨cap', e0, e1⟩ := HM.out.g.cellsG
            rw [hz0]
            obtain ⟨b2l, hb2⟩ : ∃ b2l, b1.map (lowN a) = b2l := ⟨_, rfl⟩
            have hb2l : b2l.length = n := by rw [← hb2, List.length_map]; exact HB1L.out
            rw [hb2] at HM
            have HB2L := Lib.hid hb2l
            have hM3 := HM.out
            rw [← zeroL_zero b2l] at hM3
            have HM3 := Lib.hid hM3
            clear hr hz0 hc hcl hcl2 hM3 hb2 hb2l HM HCP
            go_wp2_with fail
            go_loopw [70] (fun ix wr => ∃ k : Nat, k ≤ n ∧ ix = .int .i64 k ∧ BarMid w wr B C g L room n s (zeroL k b2l)) (fun ix _ => n - (intOf ix).toNat)
            case atStart => exact ⟨0, by omega, rfl, HM3.out⟩
            case round =>
              obtain ⟨k, hk, rfl, hM⟩ := hrel
              have HM := Lib.hid hM
              clear hM
              by_cases hlt : k < n
              · have ca := HM.out.g.cellsA hlt
                obtain ⟨d0, d1, d2⟩ := HM.out.g.cellsI hlt
                have hfz := free_of (HM.out.g.hin k hlt)
                have a1 : (0 : Int) ≤ k := by omega
                have a2 : (k : Int) < n := by omega
                have hblk := HM.out.g.block hlt 0
                have HMN := Lib.hid (⟨by rw [← zeroL_succ k b2l (by rw [HB2L.out]; exact hlt)]; exact hblk.bs, HM.out.u.setCell (p := ⟨L.ins k, 1, none⟩) (fun _ => (HM.out.g.ri k hlt).1) _, by
                  have h1 := (HM.out.g.ri k hlt).1.2
                  have h2 := HC.out
                  exact heap_set_ne HM.out.b (a := ⟨L.ins k, 1, none⟩) (by show w.heap.size ≠ L.ins k; omega) _⟩ : BarMid w (_root_.Go.World.setCell _ ⟨L.ins k, 1, none⟩ (.int .i64 0)) B C g L room n s (zeroL (k + 1) b2l))
                clear hblk
                go_wp2_with fail
                go_roundw
                case rel => exact ⟨k + 1, by omega, by go_num, HMN.out⟩
                case measure => simp [intOf]; omega
              · obtain rfl : n = k := by omega
                have hall := zeroL_all b2l n HB2L.out
                rw [hall] at HM
                have hfb := free_of HM.out.b
                obtain ⟨b0, b1', b2, b3, b4⟩ := El.zero_cells HM.out.b
                have hbs := lt_of_heap HM.out.b
                clear hall
                go_wp2_with fail
                have hG := HM.out.g.setEl w.heap.size HC.out (.int .i64 3) (.string ⟨#[]⟩) (.int .i64 0) (.int .i64 0) (.int .i64 a)
                have hU := HM.out.u.setEl w.heap.size (fun h => absurd h (Nat.lt_irrefl _)) (.int .i64 3) (.string ⟨#[]⟩) (.int .i64 0) (.int .i64 0) (.int .i64 a)
                rw [HB2L.out] at hG
                obtain rfl := HRR.out
                exact bodyPost_ret (v := El.val ⟨3, ⟨#[]⟩, 0, 0, a⟩) (by simp [results, Try.results56, go_sem, b0, b1', b2, b3, b4]) rfl ⟨rfl, hG, hU⟩
end Go.Proofs.Ytijkcahdegohiaa
