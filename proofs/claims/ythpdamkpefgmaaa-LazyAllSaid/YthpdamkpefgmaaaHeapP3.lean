/- Layer 14: Push, Pop, walked. -/
import Derived.Test.YthpdamkpefgmaaaHeapM3
namespace Go.Proofs.Ythpdamkpefgmaaa.Heap3
open Go.RowKit Go.Proofs.YthpdamkpefgmaaaW.PrintWords Go.Proofs.YthpdamkpefgmaaaW.PrintLast Go.Proofs.YthpdamkpefgmaaaW.PrintMore Base Foot HeapPure
attribute [local go_sem] max2_int min2_int max_two min_two
set_option linter.unusedVariables false
attribute [local go_sem ↓] Go.wp_at_zero Go.wp_at_succ
set_option linter.unusedSectionVars false
theorem infoI : (Try.prog.info? 48).map (fun i => (i.zero, i.size, i.bytes)) = some (some (.agg #[.int .i64 0, .int .i64 0, .int .i64 0]), 3, 24) := by kernel_rfl
section
variable {fp : Value} {F : Nat} {lt : Item → Item → Bool} {I : World → Prop} {G : Nat → Prop} (hC : Cmp fp F lt I G)
include hC
theorem HeapT.of_grown {B : Nat} {w w' : World} {b g : Nat} {lv : Value} {l : List Item} {pu pk : Int} (h : HeapT fp F I G B w b lv l pu pk) (hg : w.grownBy w' (some g)) (hgl : lv.ownBlock = some g) : Upd (HFoot b lv) (HFoot b lv) w w' :=
  Upd.grown hg (fun k e => by cases e; exact .inr hgl)

set_option maxHeartbeats 800000 in
set_option maxRecDepth 100000 in
theorem down_empty {B : Nat} {w : World} {b : Nat} {lv : Value} {pu pk : Int} (h : HeapT fp F I G B w b lv [] pu pk) :
    Calls Try.prog 98 #[.pointer (some ⟨b, 0, none⟩), .int .i64 0] w fun e w' => e = .returned (.tuple #[]) ∧ w = w' := by
  obtain ⟨A, cap, rfl, hcap, hA⟩ := h.slice
  have c0 := cell_at h.blk 0
  simp only [List.getElem?_toArray, List.getElem?_cons_zero, List.length_nil] at c0
  go_enter Try.func98, Try.ntmps98
  go_wp2_with fail
  refine wp_loop_rounds 1 ?_
  rw [rounds_succ]
  go_wp2_with fail
  refine wp_loop_rounds 1 ?_
  rw [rounds_succ]
  go_wp2_with fail
  refine bodyPost_ret (results_none rfl _ _ _) rfl ?_
  exact ⟨rfl, rfl⟩

theorem HeapT.num2 {B : Nat} {w : World} {b : Nat} {lv : Value} {l : List Item} {pu pk : Int} (h : HeapT fp F I G B w b lv l pu pk) (n : Int) (hn : 0 ≤ n ∧ n ≤ 1000000) :
    HeapT fp F I G B (w.setCell ⟨b, 2, none⟩ (.int .i64 n)) b lv l n pk ∧ Upd (HFoot b lv) (HFoot b lv) w (w.setCell ⟨b, 2, none⟩ (.int .i64 n)) := by
  have hne : ∀ k, lv.ownBlock = some k → k ≠ b := fun k hk e => by subst e; exact row_not_cells h.row h.blk (by decide) hk
  have hnum := h.num
  exact ⟨⟨h.base, by rw [set_at h.blk]; rfl, own_keep h.row (fun k hk => set_blk_eq (hne k hk)), h.small, ⟨hn.1, hn.2, hnum.2.2.1, hnum.2.2.2⟩, hC.keep _ _ h.inv (fun k hk => set_blk_eq (fun e => h.far k hk (.inl e))), h.far⟩, Upd.set (.inl rfl)⟩
theorem HeapT.num3 {B : Nat} {w : World} {b : Nat} {lv : Value} {l : List Item} {pu pk : Int} (h : HeapT fp F I G B w b lv l pu pk) (n : Int) (hn : 0 ≤ n ∧ n ≤ 1000000) :
    HeapT fp F I G B (w.setCell ⟨b, 3, none⟩ (.int .i64 n)) b lv l pu n ∧ Upd (HFoot b lv) (HFoot b lv) w (w.setCell ⟨b, 3, none⟩ (.int .i64 n)) := by
  have hne : ∀ k, lv.ownBlock = some k → k ≠ b := fun k hk e => by subst e; exact row_not_cells h.row h.blk (by decide) hk
  have hnum := h.num
  exact ⟨⟨h.base, by rw [set_at h.blk]; rfl, own_keep h.row (fun k hk => set_blk_eq (hne k hk)), h.small, ⟨hnum.1, hnum.2.1, hn.1, hn.2⟩, hC.keep _ _ h.inv (fun k hk => set_blk_eq (fun e => h.far k hk (.inl e))), h.far⟩, Upd.set (.inl rfl)⟩
/-- the row of a heap, another one in its place -/
theorem HeapT.put {B : Nat} {w w2 : World} {b : Nat} {lv lv' : Value} {l l' : List Item} {pu pk : Int} (h : HeapT fp F I G B w b lv l pu pk) (hu : Upd (HFoot b lv) (HFoot b lv) w w2) (hb : w2.heap[b]? = w.heap[b]?)
    (hrow : w2.ownsRow B 48 3 lv' l'.length (l'.flatMap enc)) (hat : ∀ k, lv'.ownBlock = some k → lv.ownBlock = some k ∨ w.heap.size ≤ k) (hs : l'.length ≤ 1000000) :
    HeapT fp F I G B (w2.setCell ⟨b, 0, none⟩ lv') b lv' l' pu pk ∧ Upd (HFoot b lv) (HFoot b lv') w (w2.setCell ⟨b, 0, none⟩ lv') := by
  have hb2 := hb.trans h.blk
  have hne : ∀ k, lv'.ownBlock = some k → k ≠ b := fun k hk e => by subst e; exact row_not_cells hrow hb2 (by decide) hk
  refine ⟨⟨h.base, by rw [set_at hb2]; rfl, own_keep hrow (fun k hk => set_blk_eq (hne k hk)), hs, h.num, hC.keep _ _ h.inv (fun k hk => ?_), fun k hk hf => ?_⟩, (hu.trans (Upd.set (p := ⟨b, 0, none⟩) (.inl rfl))).foot ?_⟩
  · rw [set_blk_eq (fun e => h.far k hk (.inl e))]
    exact hu.block k (hC.lt _ k h.inv hk) (h.far k hk)
  · have hlt := hC.lt _ k h.inv hk
    rcases hf with h1 | h1
    · exact h.far k hk (.inl h1)
    · rcases hat k h1 with h2 | h2
      · exact h.far k hk (.inr h2)
      · omega
  · rintro k (h1 | h1)
    · exact .inl (.inl h1)
    · rcases hat k h1 with h2 | h2
      · exact .inl (.inr h2)
      · exact .inr h2

set_option maxHeartbeats 6400000 in
set_option maxRecDepth 100000 in
theorem push_any {B : Nat} {w : World} {b : Nat} {lv : Value} {l : List Item} {pu pk : Int} (h : HeapT fp F I G B w b lv l pu pk) (hh : HeapFrom lt l 0) (x : Item) (hn : l.length < 1000000) (hp : pu < 1000000) :
    Calls Try.prog 54 #[.pointer (some ⟨b, 0, none⟩), val x] w fun e w' => e = .returned (.tuple #[]) ∧ ∃ l' lv', l'.Perm (x :: l) ∧ HeapFrom lt l' 0 ∧ HeapT fp F I G B w' b lv' l' (pu + 1) (max pk ((l.length : Int) + 1)) ∧ Upd (HFoot b lv) (HFoot b lv') w w' := by
  obtain ⟨i0, hi, hz0, hz1, hz2⟩ := info_parts infoI
  have hnum := h.num
  have hs := h.small
  obtain ⟨⟨xa, xb⟩, xc⟩ := x
  unfold val
  go_enter Try.func54, Try.ntmps54
  go_wp2_with fail
  have hbx : Below w.heap.size w (w.alloc (.cells #[.int .i64 xa, .int .i64 xb, .int .i64 xc] 48)) := (Below.refl _ _).alloc (Nat.le_refl _) _
  have h1 := h.below hC hbx
  refine (dead_any h1).mono ?_
  rintro e w1 ⟨rfl, rfl⟩
  obtain ⟨A, cap, rfl, hcap, hA⟩ := h1.slice
  have c0 := cell_at h1.blk 0
  have c2 := cell_at h1.blk 2
  have c3 := cell_at h1.blk 3
  simp only [List.getElem?_toArray, List.getElem?_cons_zero, List.getElem?_cons_succ] at c0 c2 c3
  have x0 := local_at (w := w) (cs := #[.int .i64 xa, .int .i64 xb, .int .i64 xc]) (t := 48) (Below.refl _ _) 0 _ rfl
  have x1 := local_at (w := w) (cs := #[.int .i64 xa, .int .i64 xb, .int .i64 xc]) (t := 48) (Below.refl _ _) 1 _ rfl
  have x2 := local_at (w := w) (cs := #[.int .i64 xa, .int .i64 xb, .int .i64 xc]) (t := 48) (Below.refl _ _) 2 _ rfl
  have hU1 : Upd (HFoot b (.slice A l.length cap)) (HFoot b (.slice A l.length cap)) w (w.alloc (.cells #[.int .i64 xa, .int .i64 xb, .int .i64 xc] 48)) := Upd.alloc
  generalize w.alloc (.cells #[.int .i64 xa, .int .i64 xb, .int .i64 xc] 48) = w1 at *
  generalize w.heap.size = xb0 at *
  have hst := h1.row
  have hlb := block_lt h1.blk
  have hbB := h1.base
  have hne : some b ≠ (Value.slice A l.length cap).ownBlock := fun e => row_not_cells hst h1.blk (by decide) e.symm
  have HBK := Lib.hid h1.blk
  have HH1 := Lib.hid h1
  go_wp2_with fail
  go_region_law (first | (refine step_append_lies _ (by rfl) _ _ _ (by rfl) B 48 i0 _ 3 24 Try.underlying58 hi hz0 hz1 hz2 rfl (by omega) (.slice A l.length cap) l.length _ (by rfl) (by exact (hst.alloc _).drew) ⟨w1.heap.size, 0, none⟩ 1 1 [.int .i64 xa, .int .i64 xb, .int .i64 xc] (by rfl) (by rfl) (by exact news_alloc rfl) (by simp [Value.oneCell']) (by omega) (by unfold maxLen; omega) (by omega) (by simp; omega) (w1.heap.size + 1) (by simp) ?_; intro g1 cap1 w2 hown2 hgrow2 hat2 hlt2; have e2 := grown_blk hgrow2 (alloc_blk HBK.out) hne; have d0 := cell_at e2 0; have d1 := frozen_at e2 0; simp only [List.getElem?_toArray, List.getElem?_cons_zero] at d0))
  all_goals
    have e3 : (w2.setCell ⟨b, 0, none⟩ (.slice (some ⟨g1, 0, none⟩) (l.length + 1) cap1)).heap[b]? = some (.cells #[.slice (some ⟨g1, 0, none⟩) (l.length + 1) cap1, .func (.func F) #[fp] #[], .int .i64 pu, .int .i64 pk] 135 (0, 0)) := by rw [set_at e2]; rfl
    have hz2' := hgrow2.size
    simp at hz2'
    have hput := HH1.out.put hC (w2 := w2) (lv' := .slice (some ⟨g1, 0, none⟩) (l.length + 1) cap1) (l' := l ++ [((xa, xb), xc)]) ((Upd.alloc (o := .cells #[.int .i64 xa, .int .i64 xb, .int .i64 xc] 48)).drew.trans (Upd.grown hgrow2 (fun k e => Or.inr e))) (e2.trans HBK.out.symm)
      (by simpa [enc] using hown2) (fun k hk => by
        cases hk
        rcases hat2 with h2 | h2
        · exact .inl h2
        · right; show w1.heap.size ≤ g1; omega) (by simp; omega)
    obtain ⟨hp1, up1⟩ := hput
    clear e2 d0 d1 e3 hown2 hgrow2
    generalize w2.setCell ⟨b, 0, none⟩ (.slice (some ⟨g1, 0, none⟩) (l.length + 1) cap1) = w3 at *
    have y2 := cell_at hp1.blk 2
    have y2f := frozen_at hp1.blk 2
    simp only [List.getElem?_toArray, List.getElem?_cons_zero, List.getElem?_cons_succ] at y2
    go_wp2_with fail
    obtain ⟨hp2, up2⟩ := hp1.num2 hC (pu + 1) (by omega)
    replace up2 := (hU1.trans up1).trans up2
    clear y2 y2f hp1 up1
    generalize w3.setCell ⟨b, 2, none⟩ (.int .i64 (pu + 1)) = w4 at *
    have z0 := cell_at hp2.blk 0
    have z3 := cell_at hp2.blk 3
    have z3f := frozen_at hp2.blk 3
    simp only [List.getElem?_toArray, List.getElem?_cons_zero, List.getElem?_cons_succ] at z0 z3
    go_region
    go_wp2_with fail
    all_goals
      first
        | obtain ⟨hp3, up3⟩ := hp2.num3 hC ((l.length : Int) + 1) (by omega)
          have HM := Lib.hid (show max pk ((l.length : Int) + 1) = (l.length : Int) + 1 by omega)
          have hp3 := HeapT.keep hC (w' := (w4.setCell ⟨b, 3, none⟩ (.int .i64 ((l.length : Int) + 1))).drew) hp3 (fun _ _ => rfl)
          have up4 := (up2.trans up3).drew
        | obtain ⟨hp3, up3⟩ := hp2.num3 hC pk (by omega)
          have HM := Lib.hid (show max pk ((l.length : Int) + 1) = pk by omega)
          have hp3 := HeapT.keep hC (w' := (w4.setCell ⟨b, 3, none⟩ (.int .i64 pk)).drew) hp3 (fun _ _ => rfl)
          have up4 := (up2.trans up3).drew
      have hl : (l ++ [((xa, xb), xc)]).length = l.length + 1 := by simp
      refine (up_any hC (l := l ++ [((xa, xb), xc)]) (cap := cap1) (g := g1) (by rw [hl]; exact hp3) l.length (by omega) (up_start hh)).mono ?_
      rintro e w6 ⟨rfl, l6, hP6, hH6, hT6, hg6⟩
      go_wp2_with fail
      go_end0
      rw [HM.out]
      exact ⟨rfl, l6, _, hP6.trans (List.perm_append_singleton _ _), hH6, hT6, (up4.trans (HeapT.of_grown hC hp3 hg6 rfl)).foot (fun k hk => .inl hk)⟩
end
end Go.Proofs.Ythpdamkpefgmaaa.Heap3
