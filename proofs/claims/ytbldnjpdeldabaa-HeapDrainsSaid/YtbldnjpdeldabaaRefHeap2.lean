/- Layer 14: the reference's heap: Push, Drop. -/
import Derived.Test.YtbldnjpdeldabaaRefHeap
import Derived.IntWalk
namespace Go.Proofs.Ytbldnjpdeldabaa.RefHeap
open Go.RowKit Go.Proofs.YtbldnjpdeldabaaW.PrintWords Go.Proofs.YtbldnjpdeldabaaW.PrintLast Go.Proofs.YtbldnjpdeldabaaW.PrintMore Base Foot Src HeapPure Heap
set_option linter.unusedVariables false
set_option linter.unusedSimpArgs false
attribute [local go_sem ↓] Go.wp_at_zero Go.wp_at_succ
attribute [local go_sem] max2_int min2_int max_two min_two

set_option maxHeartbeats 6400000 in
set_option maxRecDepth 100000 in
theorem rpush_any {B : Nat} {w : World} {b : Nat} {lv : Value} {l : List Heap.Item} {pu pk : Int} (h : RH B w b lv l pu pk) (x : Heap.Item) (hn : l.length < 1000000) (hp : pu < 1000000) :
    Calls Try.prog 45 #[.pointer (some ⟨b, 0, none⟩), val x] w fun e w' => e = .returned (.tuple #[]) ∧ ∃ lv', RH B w' b lv' (l ++ [x]) (pu + 1) (max pk ((l.length : Int) + 1)) ∧ Upd (HFoot b lv) (HFoot b lv') w w' := by
  obtain ⟨i0, hi, hz0, hz1, hz2⟩ := info_parts infoI
  have hnum := h.num
  have hs := h.small
  obtain ⟨xa, xb⟩ := x
  unfold val
  have h1 := h.below ((Below.refl w.heap.size w).alloc (Nat.le_refl _) (.cells #[.int .i64 xa, .int .i64 xb] 66))
  obtain ⟨A, cap, rfl, hcap, hA⟩ := h1.slice
  have c0 := cell_at h1.blk 0
  simp only [List.getElem?_toArray, List.getElem?_cons_zero, List.getElem?_cons_succ] at c0
  have x0 := cell_at (heap_alloc_new w (.cells #[.int .i64 xa, .int .i64 xb] 66)) 0
  have x1 := cell_at (heap_alloc_new w (.cells #[.int .i64 xa, .int .i64 xb] 66)) 1
  simp only [List.getElem?_toArray, List.getElem?_cons_zero, List.getElem?_cons_succ] at x0 x1
  have hU1 : Upd (HFoot b (.slice A l.length cap)) (HFoot b (.slice A l.length cap)) w (w.alloc (.cells #[.int .i64 xa, .int .i64 xb] 66)) := Upd.alloc
  go_enter Try.func45, Try.ntmps45
  go_wp2_with fail
  generalize w.alloc (.cells #[.int .i64 xa, .int .i64 xb] 66) = w1 at *
  generalize w.heap.size = xb0 at *
  have hst := h1.row
  have hlb := block_lt h1.blk
  have hbB := h1.base
  have hne : some b ≠ (Value.slice A l.length cap).ownBlock := fun e => row_not_cells hst h1.blk (by decide) e.symm
  have HBK := Lib.hid h1.blk
  have HH1 := Lib.hid h1
  go_region_law (first | (refine step_append_lies _ (by rfl) _ _ _ (by rfl) B 66 i0 _ 2 16 Try.underlying56 hi hz0 hz1 hz2 rfl (by omega) (.slice A l.length cap) l.length _ (by rfl) (by exact (hst.alloc _).drew) ⟨w1.heap.size, 0, none⟩ 1 1 [.int .i64 xa, .int .i64 xb] (by rfl) (by rfl) (by exact news_alloc rfl) (by simp [Value.oneCell']) (by omega) (by unfold maxLen; omega) (by omega) (by simp; omega) (w1.heap.size + 1) (by simp) ?_; intro g1 cap1 w2 hown2 hgrow2 hat2 hlt2; have e2 := grown_blk hgrow2 (alloc_blk HBK.out) hne; have d0 := cell_at e2 0; have d1 := frozen_at e2 0; simp only [List.getElem?_toArray, List.getElem?_cons_zero] at d0))
  all_goals
    have hz2' := hgrow2.size
    simp at hz2'
    have hput := HH1.out.put (w2 := w2) (lv' := .slice (some ⟨g1, 0, none⟩) (l.length + 1) cap1) (l' := l ++ [(xa, xb)]) ((Upd.alloc (o := .cells #[.int .i64 xa, .int .i64 xb] 66)).drew.trans (Upd.grown hgrow2 (fun k e => Or.inr e))) (e2.trans HBK.out.symm)
      (by simpa [enc] using hown2) (fun k hk => by
        cases hk
        rcases hat2 with h2 | h2
        · exact .inl h2
        · right; show w1.heap.size ≤ g1; omega) (by simp; omega)
    obtain ⟨hp1, up1⟩ := hput
    clear e2 d0 d1 hown2 hgrow2
    generalize w2.setCell ⟨b, 0, none⟩ (.slice (some ⟨g1, 0, none⟩) (l.length + 1) cap1) = w3 at *
    have y2 := cell_at hp1.blk 1
    have y2f := frozen_at hp1.blk 1
    simp only [List.getElem?_toArray, List.getElem?_cons_zero, List.getElem?_cons_succ] at y2
    go_wp2_with fail
    obtain ⟨hp2, up2⟩ := hp1.num1 (pu + 1) (by omega)
    replace up2 := (hU1.trans up1).trans up2
    clear y2 y2f hp1 up1
    generalize w3.setCell ⟨b, 1, none⟩ (.int .i64 (pu + 1)) = w4 at *
    have z0 := cell_at hp2.blk 0
    have z3 := cell_at hp2.blk 2
    have z3f := frozen_at hp2.blk 2
    simp only [List.getElem?_toArray, List.getElem?_cons_zero, List.getElem?_cons_succ] at z0 z3
    go_region
    go_wp2_with fail
    all_goals
      go_end0
      first
        | (obtain ⟨hp3, up3⟩ := hp2.num2 ((l.length : Int) + 1) (by omega)
           rw [show max pk ((l.length : Int) + 1) = (l.length : Int) + 1 by omega]
           exact ⟨rfl, _, RH.keep (w' := (w4.setCell ⟨b, 2, none⟩ (.int .i64 ((l.length : Int) + 1))).drew) hp3 (fun _ _ => rfl), (up2.trans up3).drew⟩)
        | (obtain ⟨hp3, up3⟩ := hp2.num2 pk (by omega)
           rw [show max pk ((l.length : Int) + 1) = pk by omega]
           exact ⟨rfl, _, RH.keep (w' := (w4.setCell ⟨b, 2, none⟩ (.int .i64 pk)).drew) hp3 (fun _ _ => rfl), (up2.trans up3).drew⟩)

theorem drop_split {l : List Heap.Item} {i : Nat} {x : Heap.Item} (h : l[i]? = some x) : (x :: (l.take i ++ l.drop (i + 1))).Perm l := by
  obtain ⟨hi, e⟩ := List.getElem?_eq_some_iff.1 h
  have : l = l.take i ++ x :: l.drop (i + 1) := by rw [← e]; simp
  conv => rhs; rw [this]
  exact List.perm_middle.symm
theorem eqI (d : Nat) (w : World) (x0 y0 x1 y1 : Int) :
    (Op.equalIn (d + 2) 66 (.agg #[.int .i64 x0, .int .i64 x1]) (.agg #[.int .i64 y0, .int .i64 y1])).run Try.prog w = .ok (x0 == y0 && (x1 == y1)) w := by
  refine eqA_of Try.underlying66 (by kernel_rfl) ?_
  refine eqf_cons (by rfl) (by go_simp; rfl) (by go_simp; rfl) (by go_simp) ?_
  exact eqf_last (by rfl) (by go_simp; rfl) (by go_simp; rfl) (by go_simp)
attribute [local go_sem high] eqI
theorem src_take {w : World} {B g cap : Nat} {l : List Heap.Item} (h : w.ownsRow B 66 2 (.slice (some ⟨g, 0, none⟩) l.length cap) l.length (l.flatMap enc)) {i : Nat} (hi : i ≤ l.length) : Src w 2 (some ⟨g, 0, none⟩) i ((l.take i).flatMap enc) := by
  refine ⟨by rw [flat_len enc 2 enc_len]; simp; omega, fun _ => ⟨_, rfl, fun j u hu => ?_⟩⟩
  have hj : j < ((l.take i).flatMap enc).length := (List.getElem?_eq_some_iff.1 hu).1
  have : (l.flatMap enc)[j]? = some u := by
    conv => lhs; rw [← List.take_append_drop i l, List.flatMap_append]
    rw [List.getElem?_append_left hj]; exact hu
  exact h.cells rfl j u this
theorem src_drop {w : World} {B g cap : Nat} {l : List Heap.Item} (h : w.ownsRow B 66 2 (.slice (some ⟨g, 0, none⟩) l.length cap) l.length (l.flatMap enc)) {i : Nat} (hi : i ≤ l.length) : Src w 2 (some ⟨g, i * 2, none⟩) (l.length - i) ((l.drop i).flatMap enc) := by
  refine ⟨by rw [flat_len enc 2 enc_len]; simp, fun _ => ⟨_, rfl, fun j u hu => ?_⟩⟩
  have : (l.flatMap enc)[i * 2 + j]? = some u := by
    conv => lhs; rw [← List.take_append_drop i l, List.flatMap_append]
    have hl : ((l.take i).flatMap enc).length = i * 2 := by rw [flat_len enc 2 enc_len]; simp; omega
    rw [List.getElem?_append_right (by omega), hl, show i * 2 + j - i * 2 = j by omega]; exact hu
  have h2 := h.cells rfl _ u this
  rw [addr_add] at h2 ⊢
  simpa using h2

set_option maxHeartbeats 6400000 in
set_option maxRecDepth 100000 in
theorem drop_any {B : Nat} {w : World} {b : Nat} {lv : Value} {l : List Heap.Item} {pu pk : Int} (h : RH B w b lv l pu pk) (x : Heap.Item) (hx : x ∈ l) :
    Calls Try.prog 33 #[.pointer (some ⟨b, 0, none⟩), val x] w fun e w' => e = .returned (.bool true) ∧ ∃ l' lv', (x :: l').Perm l ∧ RH B w' b lv' l' pu pk ∧ Upd (HFoot b lv) (HFoot b lv') w w' := by
  obtain ⟨i0, hi, hz0, hz1, hz2⟩ := info_parts infoI
  have hs := h.small
  obtain ⟨xa, xb⟩ := x
  unfold val
  have hlpos : 0 < l.length := List.length_pos_of_mem hx
  have h1 := h.below ((Below.refl w.heap.size w).alloc (Nat.le_refl _) (.cells #[.int .i64 xa, .int .i64 xb] 66))
  obtain ⟨A, cap, rfl, hcap, hA⟩ := h1.slice
  obtain ⟨g, rfl⟩ := hA hlpos
  have hcb := (heap_alloc_new w (.cells #[.int .i64 xa, .int .i64 xb] 66))
  have hU1 : Upd (HFoot b (.slice (some ⟨g, 0, none⟩) l.length cap)) (HFoot b (.slice (some ⟨g, 0, none⟩) l.length cap)) w (w.alloc (.cells #[.int .i64 xa, .int .i64 xb] 66)) := Upd.alloc
  have HX := Lib.hid hx
  clear hx h hA
  go_enter Try.func33, Try.ntmps33
  go_wp2_with fail
  generalize w.alloc (.cells #[.int .i64 xa, .int .i64 xb] 66) = w1 at *
  generalize w.heap.size = xb0 at *
  go_loopw [5] (fun v5 wr => ∃ (k : Nat), k ≤ l.length ∧ v5 = .int .i64 (k : Int) ∧ RH B wr b (.slice (some ⟨g, 0, none⟩) l.length cap) l pu pk ∧ Upd (HFoot b (.slice (some ⟨g, 0, none⟩) l.length cap)) (HFoot b (.slice (some ⟨g, 0, none⟩) l.length cap)) w wr ∧ wr.heap[xb0]? = some (.cells #[.int .i64 xa, .int .i64 xb] 66 (0, 0)) ∧ Hid (∀ j, j < k → l[j]? ≠ some (xa, xb))) (fun i _ => l.length - (intOf i).toNat)
  case atStart => exact ⟨0, by omega, rfl, h1, hU1, hcb, fun j hj => by omega⟩
  case round =>
    clear h1 hU1 hcb
    obtain ⟨k, hk, rfl, h1, hU1, hcb, hno⟩ := hrel
    have hklt : k < l.length := by
      refine Nat.lt_of_not_le (fun hle => ?_)
      obtain ⟨j, hj, e⟩ := List.getElem_of_mem HX.out
      exact hno j (by omega) (by rw [List.getElem?_eq_getElem hj, e])
    have hy := List.getElem?_eq_getElem hklt
    generalize l[k] = y at hy
    obtain ⟨g1, cap1, e, _, hyj⟩ := own_get enc_len h1.row (by decide) hy
    cases e
    have y0 := hyj 0 _ rfl
    have y1 := hyj 1 _ rfl
    rw [Nat.add_zero] at y0
    have c0 := cell_at h1.blk 0
    have x0 := cell_at hcb 0
    have x1 := cell_at hcb 1
    simp only [List.getElem?_toArray, List.getElem?_cons_zero, List.getElem?_cons_succ] at c0 x0 x1
    have k0 : (0 : Int) ≤ (k : Int) := by omega
    have k1 : (k : Int) < (l.length : Int) := by omega
    obtain ⟨ya, yb⟩ := y
    simp only at y0 y1
    by_cases he : ya = xa ∧ yb = xb
    · obtain ⟨rfl, rfl⟩ := he
      have hb1 : (ya == ya) = true := by simp
      have hb2 : (yb == yb) = true := by simp
      have HY := Lib.hid (drop_split hy)
      clear hy hyj hno
      go_wp2_with fail
      go_quiet (fail)
      have hR2 : RH B (wr.drewN nq) b (.slice (some ⟨g, 0, none⟩) l.length cap) l pu pk := h1.keep (fun _ _ => rfl)
      have hU3 := hU1.drewN nq
      clear hcb c0 x0 x1 y0 y1 h1 hU1
      go_wp2_with fail
      generalize wr.drewN nq = w2 at *
      have c0 := cell_at hR2.blk 0
      simp only [List.getElem?_toArray, List.getElem?_cons_zero] at c0
      have hbl := block_lt hR2.blk
      have hgl := (hR2.row.lt g rfl).2
      have hbB := hR2.base
      have hgB := (hR2.row.lt g rfl).1
      have hR3 : ∀ w3, (w2.alloc (.cells #[] 66)).drew.grownBy w3 (some w2.heap.size) → RH B w3 b (.slice (some ⟨g, 0, none⟩) l.length cap) l pu pk ∧ Upd (HFoot b (.slice (some ⟨g, 0, none⟩) l.length cap)) (HFoot b (.slice (some ⟨g, 0, none⟩) l.length cap)) w2 w3 := fun w3 hg => by
        have hq : ∀ q, q < w2.heap.size → w3.heap[q]? = w2.heap[q]? := fun q hq => by
          rw [hg.block q (by simp; omega) (by intro e; cases e; omega)]
          exact Below.heap_alloc _ _ _ hq
        have hz := hg.size
        simp at hz
        exact ⟨hR2.keep (fun q hf => hq q (hR2.foot_lt q hf).2), hg.os, hg.tape, hg.output, by omega, fun q hlt _ => hq q hlt, fun q hf => .inl hf⟩
      have HR3 := Lib.hid hR3
      have hoe := own_empty w2 w2.heap.size 66 2 (Nat.le_refl _)
      have hsrc1 := (src_take hR2.row (i := k) (by omega)).alloc (.cells #[] 66)
      have hl1 : (l.drop (k + 1)).length = l.length - (k + 1) := by simp
      have hlt1 : (l.take k).length = k := by simp; omega
      have HL1 := Lib.hid hl1
      have HLT1 := Lib.hid hlt1
      clear hR3 hl1 hlt1
      have hfin : ∀ (v2 : Value) (w3 w4 : World) (row : Option Nat), (w2.alloc (.cells #[] 66)).drew.grownBy w3 (some w2.heap.size) → w3.grownBy w4 row → (∀ q, row = some q → w2.heap.size ≤ q) → w4.ownsRow w2.heap.size 66 2 v2 (0 + k + (l.length - (k + 1))) ([] ++ (l.take k).flatMap enc ++ (l.drop (k + 1)).flatMap enc) →
          RH B (w4.setCell ⟨b, 0, none⟩ v2) b v2 (l.take k ++ l.drop (k + 1)) pu pk ∧ Upd (HFoot b (.slice (some ⟨g, 0, none⟩) l.length cap)) (HFoot b v2) w2 (w4.setCell ⟨b, 0, none⟩ v2) ∧ w4.heap[b]? = some (.cells #[.slice (some ⟨g, 0, none⟩) l.length cap, .int .i64 pu, .int .i64 pk] 61 (0, 0)) := by
        intro v2 w3 w4 row hg3 hg4 hrow ho
        obtain ⟨r3, u3⟩ := HR3.out w3 hg3
        have e4 := grown_blk hg4 r3.blk (fun e => by have := hrow b e.symm; omega)
        have hz3 := u3.size
        have hu4 : Upd (HFoot b (.slice (some ⟨g, 0, none⟩) l.length cap)) (HFoot b (.slice (some ⟨g, 0, none⟩) l.length cap)) w2 w4 :=
          ⟨hg4.os.trans u3.os, hg4.tape.trans u3.tape, hg4.output.trans u3.output, Nat.le_trans hz3 hg4.size, fun q hq hf => (hg4.block q (by omega) (fun e => by have := hrow q e.symm; omega)).trans (u3.block q hq hf), fun q hf => .inl hf⟩
        have ho' : w4.ownsRow B 66 2 v2 (l.take k ++ l.drop (k + 1)).length ((l.take k ++ l.drop (k + 1)).flatMap enc) := by
          obtain ⟨q1, q2⟩ := ho
          have hlen : (l.take k ++ l.drop (k + 1)).length = 0 + k + (l.length - (k + 1)) := by rw [List.length_append, HLT1.out, HL1.out]; omega
          rw [hlen, List.flatMap_append]
          refine ⟨by simpa using q1, ?_⟩
          rcases q2 with q2 | ⟨g', cap', cur, e, hb, q⟩
          · exact .inl q2
          · exact .inr ⟨g', cap', cur, e, by omega, by simpa using q⟩
        have := hR2.put (w2 := w4) (lv' := v2) (l' := l.take k ++ l.drop (k + 1)) hu4 (e4.trans hR2.blk.symm) ho' (fun q hq => .inr (ho.lt q hq).1) (by rw [List.length_append, HLT1.out, HL1.out]; omega)
        exact ⟨this.1, this.2, e4⟩
      have HFIN := Lib.hid hfin
      clear hfin
      have hsl : ∀ w3, (w2.alloc (.cells #[] 66)).drew.grownBy w3 (some w2.heap.size) → Src w3 2 (some ⟨g, (k + 1) * 2, none⟩) (l.length - (k + 1)) ((l.drop (k + 1)).flatMap enc) := fun w3 hg => src_drop (HR3.out w3 hg).1.row (by omega)
      have HSL := Lib.hid hsl
      clear hsl
      have hj2 : (0 : Int) ≤ (k : Int) + 1 := by omega
      have hj3 : (k : Int) + 1 ≤ (l.length : Int) := by omega
      have hj4 : (k : Int) ≤ (cap : Int) := by omega
      have hj5 : (l.length : Int) ≤ (cap : Int) := by omega
      have hwk : IntKind.i64.wrap ((k : Int) + 1) = (k : Int) + 1 := IntWalk.i64_in _ (by omega)
      have hnk : ((k : Int) + 1).toNat = k + 1 := by omega
      by_cases hcap1 : cap = k + 1
      · subst hcap1
        have hj6 : (k : Int) ≤ (k : Int) + 1 := by omega
        have hj7 : (l.length : Int) ≤ (k : Int) + 1 := by omega
        have hj8 := eq_true hj6
        have hl0 : l.length - (k + 1) = 0 := by omega
        have hs0 : ∀ w3 : World, Src w3 2 (some ⟨g, 0, none⟩) 0 ((l.drop (k + 1)).flatMap enc) := fun w3 => by
          have h0 : l.drop (k + 1) = [] := List.drop_eq_nil_of_le hcap
          rw [h0]
          exact ⟨rfl, fun h => by omega⟩
        have HS0 := Lib.hid hs0
        have hfin0 := HFIN.out
        rw [hl0] at hfin0
        have HFIN0 := Lib.hid hfin0
        clear hs0 hfin0 hl0
        go_region_law (first
          | (refine step_append_src _ (by rfl) (.tmp 25) (.tmp 31) 56 (by rfl) w2.heap.size 66 i0 _ 2 16 Try.underlying56 hi hz0 hz1 hz2 rfl (by omega) (.slice (some ⟨w2.heap.size, 0, none⟩) 0 0) 0 [] (by rfl) (by exact hoe.drew) (some ⟨g, 0, none⟩) k (k + 1) ((l.take k).flatMap enc) (by rfl) (by exact hsrc1) (enc_one _) (by unfold maxLen; omega) (by omega) (by simp) ?_; intro v1 w3 hown3 hgrow3 hat3
             have q3 := (HR3.out w3 hgrow3).1.blk
             have d3 := cell_at q3 0
             simp only [List.getElem?_toArray, List.getElem?_cons_zero] at d3
             clear q3)
          | (refine step_append_src _ (by rfl) (.tmp 32) (.tmp 39) 56 (by rfl) w2.heap.size 66 i0 _ 2 16 Try.underlying56 hi hz0 hz1 hz2 rfl (by omega) v1 (0 + k) _ (by rfl) (by exact hown3) (some ⟨g, 0, none⟩) 0 0 ((l.drop (k + 1)).flatMap enc) (by rfl) (by exact HS0.out _) (enc_one _) (by unfold maxLen; omega) (by omega) (by have := hgrow3.size; simp at this; omega) ?_; intro v2 w4 hown4 hgrow4 hat4
             have hrow4 : ∀ q, v1.ownBlock = some q → w2.heap.size ≤ q := fun q hq => by
               rcases hat3 with e | e
               · rw [e] at hq; cases hq; exact Nat.le_refl _
               · rw [e] at hq; simp at hq; omega
             have hf4 := HFIN0.out v2 w3 w4 _ hgrow3 hgrow4 hrow4 hown4
             obtain ⟨A2, cap2, rfl⟩ : ∃ A2 cap2, v2 = .slice A2 (0 + k + 0) cap2 := by
               rcases hown4.2 with ⟨rfl, h0⟩ | ⟨g2, cap2, cur2, rfl, _⟩
               · exact ⟨none, 0, by rw [h0]⟩
               · exact ⟨_, _, rfl⟩
             have d4 := cell_at hf4.2.2 0
             have d5 := frozen_at hf4.2.2 0
             simp only [List.getElem?_toArray, List.getElem?_cons_zero] at d4
             have HF4 := Lib.hid hf4
             clear hf4))
        all_goals
          go_wp2_with fail
          go_ret
          have hh := HF4.out
          simp only [Nat.zero_add] at hh
          exact ⟨rfl, _, _, HY.out, hh.1, hU3.trans hh.2.1⟩
      · have hcapi : ¬ cap = k + 1 := hcap1
        go_region_law (first
          | (refine step_append_src _ (by rfl) (.tmp 25) (.tmp 31) 56 (by rfl) w2.heap.size 66 i0 _ 2 16 Try.underlying56 hi hz0 hz1 hz2 rfl (by omega) (.slice (some ⟨w2.heap.size, 0, none⟩) 0 0) 0 [] (by rfl) (by exact hoe.drew) (some ⟨g, 0, none⟩) k cap ((l.take k).flatMap enc) (by rfl) (by exact hsrc1) (enc_one _) (by unfold maxLen; omega) (by omega) (by simp) ?_; intro v1 w3 hown3 hgrow3 hat3
             have q3 := (HR3.out w3 hgrow3).1.blk
             have d3 := cell_at q3 0
             simp only [List.getElem?_toArray, List.getElem?_cons_zero] at d3
             clear q3)
          | (refine step_append_src _ (by rfl) (.tmp 32) (.tmp 39) 56 (by rfl) w2.heap.size 66 i0 _ 2 16 Try.underlying56 hi hz0 hz1 hz2 rfl (by omega) v1 (0 + k) _ (by rfl) (by exact hown3) (some ⟨g, (k + 1) * 2, none⟩) (l.length - (k + 1)) (cap - (k + 1)) ((l.drop (k + 1)).flatMap enc) (by rfl) (by exact HSL.out _ hgrow3) (enc_one _) (by unfold maxLen; omega) (by omega) (by have := hgrow3.size; simp at this; omega) ?_; intro v2 w4 hown4 hgrow4 hat4
             have hrow4 : ∀ q, v1.ownBlock = some q → w2.heap.size ≤ q := fun q hq => by
               rcases hat3 with e | e
               · rw [e] at hq; cases hq; exact Nat.le_refl _
               · rw [e] at hq; simp at hq; omega
             have hf4 := HFIN.out v2 w3 w4 _ hgrow3 hgrow4 hrow4 hown4
             obtain ⟨A2, cap2, rfl⟩ : ∃ A2 cap2, v2 = .slice A2 (0 + k + (l.length - (k + 1))) cap2 := by
               rcases hown4.2 with ⟨rfl, h0⟩ | ⟨g2, cap2, cur2, rfl, _⟩
               · exact ⟨none, 0, by rw [h0]⟩
               · exact ⟨_, _, rfl⟩
             have d4 := cell_at hf4.2.2 0
             have d5 := frozen_at hf4.2.2 0
             simp only [List.getElem?_toArray, List.getElem?_cons_zero] at d4
             have HF4 := Lib.hid hf4
             clear hf4))
        all_goals
          go_wp2_with fail
          go_ret
          have hh := HF4.out
          simp only [Nat.zero_add] at hh
          exact ⟨rfl, _, _, HY.out, hh.1, hU3.trans hh.2.1⟩
    · have hne : (ya == xa && yb == xb) = false := by
        cases h1 : (ya == xa && yb == xb)
        · rfl
        · exfalso; apply he; simpa using h1
      have HNO : Hid (∀ j, j < k + 1 → l[j]? ≠ some (xa, xb)) := by
        intro j hj
        by_cases hjk : j < k
        · exact hno j hjk
        · have : j = k := by omega
          subst this
          rw [hy]
          intro e
          cases e
          exact he ⟨rfl, rfl⟩
      clear hy hyj hno he
      go_wp2_with fail
      go_quiet (fail)
      go_wp2_with fail
      go_roundw
      case rel => exact ⟨k + 1, by omega, by go_num, h1.keep (fun _ _ => rfl), hU1.drewN _, hcb, HNO⟩
      case measure => simp [intOf]; omega
end Go.Proofs.Ytbldnjpdeldabaa.RefHeap
