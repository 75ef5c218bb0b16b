/- Layer 14: Pop, walked. -/
import Derived.Test.YthpdamkpefgmaaaHeapP3
namespace Go.Proofs.Ythpdamkpefgmaaa.Heap3
open Go.RowKit Base Foot HeapPure
set_option linter.unusedVariables false
attribute [local go_sem ↓] Go.wp_at_zero Go.wp_at_succ
set_option linter.unusedSectionVars false
section
variable {fp : Value} {F : Nat} {lt : Item → Item → Bool} {I : World → Prop} {G : Nat → Prop} (hC : Cmp fp F lt I G)
include hC
theorem own_cut {B : Nat} {w : World} {g cap : Nat} {l : List Item} {m : Nat} (h : w.ownsRow B 48 3 (.slice (some ⟨g, 0, none⟩) l.length cap) l.length (l.flatMap enc)) (hm : m ≤ l.length) :
    w.ownsRow B 48 3 (.slice (some ⟨g, 0, none⟩) (l.take m).length cap) (l.take m).length ((l.take m).flatMap enc) := by
  have htk : ∀ (l : List Item) (m : Nat), (l.flatMap enc).take (m * 3) = (l.take m).flatMap enc := by
    intro l
    induction l with
    | nil => intro m; simp
    | cons a t ih =>
      intro m
      cases m with
      | zero => simp
      | succ m =>
        rw [List.flatMap_cons, List.take_append, enc_len, List.take_of_length_le (by rw [enc_len]; omega), List.take_succ_cons, List.flatMap_cons, ← ih m]
        congr 2
        omega
  have hl : (l.take m).length = m := by simp; omega
  rcases h.2 with ⟨e, _⟩ | ⟨g', cap', cur, e, hb, hg, hc, hm', hs, ht⟩
  · cases e
  · cases e
    rw [hl]
    refine ⟨by rw [flat_len enc 3 enc_len, hl], .inr ⟨g, cap, cur, rfl, hb, hg, by omega, hm', hs, ?_⟩⟩
    rw [← htk, ← ht, List.take_take]
    congr 1
    have := Nat.mul_le_mul_right 3 hm
    omega

set_option maxHeartbeats 800000 in
set_option maxRecDepth 100000 in
theorem pop_none {B : Nat} {w : World} {b : Nat} {lv : Value} {pu pk : Int} (h : HeapT fp F I G B w b lv [] pu pk) :
    Calls Try.prog 82 #[.pointer (some ⟨b, 0, none⟩)] w fun e w' => e = .returned (.tuple #[val ((0, 0), 0), .bool false]) ∧ Below w.heap.size w w' := by
  have hal := h.below hC ((Below.refl _ _).alloc (Nat.le_refl _) (.cells #[.int .i64 0, .int .i64 0, .int .i64 0] 48))
  go_enter Try.func82, Try.ntmps82
  go_wp2_with fail
  refine (top_any hC hal).mono ?_
  rintro e w1 ⟨rfl, b1⟩
  have l0 := local_at b1
  have L0 := Lib.hid l0
  clear l0
  have z0 := L0.out 0 _ rfl
  have z1 := L0.out 1 _ rfl
  have z2 := L0.out 2 _ rfl
  simp only [List.getElem_toArray, List.getElem_cons_zero, List.getElem_cons_succ] at z0 z1 z2
  have hbb : Below w.heap.size w w1 := ((Below.refl w.heap.size w).alloc (Nat.le_refl _) (.cells #[.int .i64 0, .int .i64 0, .int .i64 0] 48)).trans (b1.mono (by simp))
  have hlw : w.heap.size < w1.heap.size := by have := b1.size; simp at this; omega
  have hfz : ∀ o, w1.frozen? ⟨w.heap.size, o, none⟩ = false := fun o => by
    rw [b1.frozen (p := ⟨w.heap.size, o, none⟩) (by simp)]
    exact frozen_at (heap_alloc_new w _) o
  unfold val
  simp only [List.headD_nil, List.isEmpty_nil]
  go_wp2_with fail
  refine bodyPost_ret (v := .tuple #[.agg #[.int .i64 0, .int .i64 0, .int .i64 0], .bool false]) ?_ rfl ⟨rfl, ?_⟩
  · have e2 := alloc_blk (x := .cells #[.int .i64 0, .int .i64 0, .int .i64 0] 48) (set_three (x := .int .i64 0) (y := .int .i64 0) (z := .int .i64 0) (local_blk b1))
    have r0 := cell_at e2 0
    have r1 := cell_at e2 1
    have r2 := cell_at e2 2
    simp only [List.getElem?_toArray, List.getElem?_cons_zero, List.getElem?_cons_succ] at r0 r1 r2
    simp [results, Try.results82, go_sem, r0, r1 , r2]
  · exact (((hbb.setCell (by simp) _).setCell (by simp) _).setCell (by simp) _).alloc (by simp [World.setCell]; omega) _

theorem hct_nil : HeapFrom lt ([] : List Item) 0 := fun j x y _ _ hx => by simp at hx
set_option maxHeartbeats 3200000 in
set_option maxRecDepth 100000 in
theorem pop_some {B : Nat} {w : World} {b : Nat} {lv : Value} {r : Item} {t : List Item} {pu pk : Int} (h : HeapT fp F I G B w b lv (r :: t) pu pk) (hh : HeapFrom lt (r :: t) 0) :
    Calls Try.prog 82 #[.pointer (some ⟨b, 0, none⟩)] w fun e w' => e = .returned (.tuple #[val r, .bool true]) ∧ ∃ l' lv', (r :: l').Perm (r :: t) ∧ HeapFrom lt l' 0 ∧ HeapT fp F I G B w' b lv' l' pu pk ∧ Upd (HFoot b lv) (HFoot b lv') w w' ∧ lv'.ownBlock = lv.ownBlock := by
  have hal := h.below hC ((Below.refl _ _).alloc (Nat.le_refl _) (.cells #[.int .i64 0, .int .i64 0, .int .i64 0] 48))
  have hs := h.small
  simp only [List.length_cons] at hs
  obtain ⟨⟨xa, xb⟩, xc⟩ := r
  go_enter Try.func82, Try.ntmps82
  go_wp2_with fail
  refine (top_any hC hal).mono ?_
  rintro e w1 ⟨rfl, b1⟩
  have h1 := hal.below hC b1
  have e1 := local_blk b1
  have hU1 : Upd (HFoot b lv) (HFoot b lv) w w1 := Upd.of_below (((Below.refl w.heap.size w).alloc (Nat.le_refl _) (.cells #[.int .i64 0, .int .i64 0, .int .i64 0] 48)).trans (b1.mono (by simp)))
  have hrb : ∀ k, HFoot b lv k → k < w.heap.size := fun k hk => (h.foot_lt hC k hk).2
  have hgrb : ∀ k, G k → k < w.heap.size := fun k hk => hC.lt _ k h.inv hk
  clear b1 hal h
  generalize hrbq : w.heap.size = rb at *
  have HRBQ := Lib.hid hrbq
  have HGRB := Lib.hid hgrb
  clear hrbq hgrb
  unfold val
  simp only [List.headD_cons, List.isEmpty_cons, Bool.not_false]
  have h2 := h1.below hC ((Below.refl w1.heap.size w1).alloc (Nat.le_refl _) (.cells #[.int .i64 xa, .int .i64 xb, .int .i64 xc] 48))
  have hU2 := hU1.trans (Upd.alloc (o := .cells #[.int .i64 xa, .int .i64 xb, .int .i64 xc] 48))
  have e2 := alloc_blk (x := .cells #[.int .i64 xa, .int .i64 xb, .int .i64 xc] 48) e1
  have e3 := heap_alloc_new w1 (.cells #[.int .i64 xa, .int .i64 xb, .int .i64 xc] 48)
  have hrb2 : rb < w1.heap.size := block_lt e1
  have hrb3 : ∀ k, HFoot b lv k → k < w1.heap.size := fun k hk => Nat.lt_trans (hrb k hk) hrb2
  obtain ⟨A, cap, rfl, hcap, hA⟩ := h2.slice
  obtain ⟨g, rfl⟩ := hA (by simp)
  have c0 := cell_at h2.blk 0
  simp only [List.getElem?_toArray, List.getElem?_cons_zero, List.length_cons] at c0
  clear e1 hU1 h1
  go_wp2_with fail
  generalize w1.alloc (.cells #[.int .i64 xa, .int .i64 xb, .int .i64 xc] 48) = w2 at *
  generalize w1.heap.size = xb0 at *
  have hzl : t.length < (((xa, xb), xc) :: t).length := by simp
  have hz := List.getElem?_eq_getElem hzl
  generalize (((xa, xb), xc) :: t)[t.length] = z at hz
  obtain ⟨g1, cap1, e, _, hxj⟩ := own_get enc_len h2.row (by omega) (i := 0) (x := ((xa, xb), xc)) rfl
  cases e
  obtain ⟨g1, cap1, e, _, hyj⟩ := own_get enc_len h2.row (by omega) hz
  cases e
  obtain ⟨⟨za, zb⟩, zc⟩ := z
  have x0 := hxj 0 _ rfl
  have x1 := hxj 1 _ rfl
  have x2 := hxj 2 _ rfl
  have y0 := hyj 0 _ rfl
  have y1 := hyj 1 _ rfl
  have y2 := hyj 2 _ rfl
  simp only [Nat.zero_mul, Nat.zero_add, Nat.add_zero] at x0 x1 x2 y0
  have HZ := Lib.hid hz
  clear hz hxj hyj
  have fr : ∀ o, w2.frozen? ⟨g, o, none⟩ = false := fun o => h2.row.frozenAt o
  have f0 := fr 0
  have f1 := fr 1
  have f2 := fr 2
  clear fr
  have H2 := Lib.hid h2
  have hbf := frozen_at h2.blk 0
  clear h2
  have HHH := Lib.hid hh
  have HRB := Lib.hid hrb
  have HRB3 := Lib.hid hrb3
  clear hh hrb hrb3
  go_region
  have hgb : b ≠ g := fun e => by subst e; exact row_not_cells H2.out.row H2.out.blk (by decide) rfl
  have hgr : g < rb := HRB.out g (.inr rfl)
  have hbr : b < rb := HRB.out b (.inl rfl)
  have hfar : ∀ k, k ≠ g → (((w2.setCell ⟨g, 0, none⟩ (.int .i64 za)).setCell ⟨g, 1, none⟩ (.int .i64 zb)).setCell ⟨g, 2, none⟩ (.int .i64 zc)).drew.heap[k]? = w2.heap[k]? := fun k hk => by
    show (((w2.setCell ⟨g, 0, none⟩ (.int .i64 za)).setCell ⟨g, 1, none⟩ (.int .i64 zb)).setCell ⟨g, 2, none⟩ (.int .i64 zc)).heap[k]? = w2.heap[k]?
    rw [set_blk_eq hk, set_blk_eq hk, set_blk_eq hk]
  have h3 : HeapT fp F I G B (((w2.setCell ⟨g, 0, none⟩ (.int .i64 za)).setCell ⟨g, 1, none⟩ (.int .i64 zb)).setCell ⟨g, 2, none⟩ (.int .i64 zc)).drew b (.slice (some ⟨g, 0, none⟩) ((((xa, xb), xc) :: t).set 0 ((za, zb), zc)).length cap) ((((xa, xb), xc) :: t).set 0 ((za, zb), zc)) pu pk := by
    have h := H2.out
    refine ⟨h.base, ?_, own_set hC (i := 0) (y := ((za, zb), zc)) h.row, by simp; omega, h.num, hC.keep _ _ h.inv (fun k hk => hfar k (fun e => h.far k hk (.inr (by rw [e]; rfl)))), fun k hk hf => h.far k hk ?_⟩
    · rw [hfar b hgb, h.blk]
      simp
    · rcases hf with h1 | h1
      · exact .inl h1
      · exact .inr h1
  have hU3 : Upd (HFoot b (.slice (some ⟨g, 0, none⟩) (((xa, xb), xc) :: t).length cap)) (HFoot b (.slice (some ⟨g, 0, none⟩) (((xa, xb), xc) :: t).length cap)) w2 (((w2.setCell ⟨g, 0, none⟩ (.int .i64 za)).setCell ⟨g, 1, none⟩ (.int .i64 zb)).setCell ⟨g, 2, none⟩ (.int .i64 zc)).drew :=
    ⟨rfl, rfl, rfl, by simp [World.setCell], fun k hk hf => hfar k (fun e => hf (.inr (by rw [e]; rfl))), fun k hk => .inl hk⟩
  replace hU3 := hU2.trans hU3
  replace e2 := (hfar rb (by omega)).trans e2
  replace e3 := (hfar xb0 (by omega)).trans e3
  have hcut := cutTop_perm (l := ((xa, xb), xc) :: t) (r := ((xa, xb), xc)) (x := ((za, zb), zc)) rfl (by have := HZ.out; simpa using this)
  have hcth := cutTop_heap (x := ((za, zb), zc)) HHH.out
  have hcl : (cutTop (((xa, xb), xc) :: t) ((za, zb), zc)).length = t.length := by simp [cutTop]
  have hput := h3.put hC (w2 := (((w2.setCell ⟨g, 0, none⟩ (.int .i64 za)).setCell ⟨g, 1, none⟩ (.int .i64 zb)).setCell ⟨g, 2, none⟩ (.int .i64 zc)).drew) (lv' := .slice (some ⟨g, 0, none⟩) (cutTop (((xa, xb), xc) :: t) ((za, zb), zc)).length cap) (l' := cutTop (((xa, xb), xc) :: t) ((za, zb), zc)) Upd.refl rfl (by
      have := own_cut hC (m := t.length) h3.row (by simp)
      simpa [cutTop] using this) (fun k hk => .inl hk) (by rw [hcl]; omega)
  rw [hcl] at hput
  have HPUT := Lib.hid hput
  have HCUT := Lib.hid hcut
  have HCTH := Lib.hid hcth
  have HCL := Lib.hid hcl
  have H3 := Lib.hid h3
  have y0 := cell_at h3.blk 0
  have y0f := frozen_at h3.blk 0
  simp only [List.getElem?_toArray, List.getElem?_cons_zero, List.length_set, List.length_cons] at y0
  clear hput hcut hcth hcl h3 hfar c0 f0 f1 hbf x0 x1 y1 hU2
  generalize (((w2.setCell ⟨g, 0, none⟩ (.int .i64 za)).setCell ⟨g, 1, none⟩ (.int .i64 zb)).setCell ⟨g, 2, none⟩ (.int .i64 zc)).drew = w3 at *
  replace e2 := set_blk (p := ⟨b, 0, none⟩) (v := .slice (some ⟨g, 0, none⟩) t.length cap) e2 (by show rb ≠ b; omega)
  replace e3 := set_blk (p := ⟨b, 0, none⟩) (v := .slice (some ⟨g, 0, none⟩) t.length cap) e3 (by show xb0 ≠ b; omega)
  go_wp2_with fail
  obtain ⟨h4, hU4⟩ := HPUT.out
  have hU5 : Upd (HFoot b (.slice (some ⟨g, 0, none⟩) (((xa, xb), xc) :: t).length cap)) (HFoot b (.slice (some ⟨g, 0, none⟩) t.length cap)) w (w3.setCell ⟨b, 0, none⟩ (.slice (some ⟨g, 0, none⟩) t.length cap)) := hU3.trans (by simpa using hU4)
  clear HPUT hU4 hU3 H3 y0 y0f H2
  generalize w3.setCell ⟨b, 0, none⟩ (.slice (some ⟨g, 0, none⟩) t.length cap) = w4 at *
  have hdown : Calls Try.prog 98 #[.pointer (some ⟨b, 0, none⟩), .int .i64 0] w4 fun e w' => e = .returned (.tuple #[]) ∧ ∃ l', l'.Perm (cutTop (((xa, xb), xc) :: t) ((za, zb), zc)) ∧ HeapFrom lt l' 0 ∧ HeapT fp F I G B w' b (.slice (some ⟨g, 0, none⟩) l'.length cap) l' pu pk ∧ w4.grownBy w' (some g) := by
    have hcl := HCL.out
    have hct := HCTH.out
    generalize cutTop (((xa, xb), xc) :: t) ((za, zb), zc) = lc at *
    rw [← hcl] at h4
    by_cases h0 : 0 < lc.length
    · refine (down_any hC h4 0 h0 hct).mono ?_
      rintro e w' ⟨rfl, l', p1, p2, p3, p4⟩
      exact ⟨rfl, l', p1, p2, p3, p4⟩
    · have : lc = [] := List.eq_nil_of_length_eq_zero (by omega)
      subst this
      refine (down_empty hC h4).mono ?_
      rintro e w' ⟨rfl, rfl⟩
      exact ⟨rfl, [], List.Perm.refl _, hct_nil hC, h4, World.grownBy.refl _ _⟩
  have HDOWN := Lib.hid hdown
  clear hdown h4
  refine HDOWN.out.mono ?_
  rintro e w5 ⟨rfl, l5, p1, p2, p3, p4⟩
  replace e2 := grown_blk p4 e2 (by intro e; cases e; omega)
  replace e3 := grown_blk p4 e3 (by intro e; cases e; omega)
  have hz5 := p4.size
  have hU6 := hU5.trans (Upd.grown (F := HFoot b (.slice (some ⟨g, 0, none⟩) t.length cap)) p4 (fun k e => by cases e; exact .inr rfl))
  have E2 := Lib.hid e2
  have E3 := Lib.hid e3
  have P1 := Lib.hid p1
  have P2 := Lib.hid p2
  have P3 := Lib.hid p3
  have HU6 := Lib.hid hU6
  have t0 := cell_at e3 0
  have t1 := cell_at e3 1
  have t2 := cell_at e3 2
  have q0 := cell_at e2 0
  have q1 := cell_at e2 1
  have q2 := cell_at e2 2
  have g0 := frozen_at e2 0
  have g1 := frozen_at e2 1
  have g2 := frozen_at e2 2
  simp only [List.getElem?_toArray, List.getElem?_cons_zero, List.getElem?_cons_succ] at t0 t1 t2 q0 q1 q2
  clear e2 e3 p1 p2 p3 p4 hU5 hU6 HDOWN
  go_wp2_with fail
  refine bodyPost_ret (v := .tuple #[.agg #[.int .i64 xa, .int .i64 xb, .int .i64 xc], .bool true]) ?_ rfl ⟨rfl, l5, .slice (some ⟨g, 0, none⟩) l5.length cap, (List.Perm.cons _ P1.out).trans HCUT.out, P2.out, ?_, ?_, rfl⟩
  · have e2 := set_three (x := .int .i64 xa) (y := .int .i64 xb) (z := .int .i64 xc) E2.out
    have r0 := cell_at e2 0
    have r1 := cell_at e2 1
    have r2 := cell_at e2 2
    simp only [List.getElem?_toArray, List.getElem?_cons_zero, List.getElem?_cons_succ] at r0 r1 r2
    simp [results, Try.results82, go_sem, r0, r1 , r2]
  · refine P3.out.keep hC (fun k hk => ?_)
    have hkr : k ≠ rb := by
      rcases hk with (h1 | h1) | h1
      · omega
      · cases h1; exact fun e => by have e' : g = rb := e; omega
      · have := HGRB.out k h1; omega
    rw [set_blk_eq hkr, set_blk_eq hkr, set_blk_eq hkr]
  · exact (((HU6.out.set_new (p := ⟨rb, 0, none⟩) (by rw [HRBQ.out]; exact Nat.le_refl _)).set_new (p := ⟨rb, 1, none⟩) (by rw [HRBQ.out]; exact Nat.le_refl _)).set_new (p := ⟨rb, 2, none⟩) (by rw [HRBQ.out]; exact Nat.le_refl _)).foot (fun k hk => .inl hk)
end
end Go.Proofs.Ythpdamkpefgmaaa.Heap3
