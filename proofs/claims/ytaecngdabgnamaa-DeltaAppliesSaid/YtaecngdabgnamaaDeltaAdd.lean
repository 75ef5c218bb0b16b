/- Layer 12: Add, walked. -/
import Derived.Test.YtaecngdabgnamaaDelta
import Derived.WalkSpells
namespace Go.Proofs.Ytaecngdabgnamaa.Delta
open Go.RowKit Go.Maps Go.Proofs.YtaecngdabgnamaaW.PrintWords Go.Proofs.YtaecngdabgnamaaW.PrintLast Go.Proofs.YtaecngdabgnamaaW.PrintMore Base Foot ExtTail PMap DMath
set_option linter.unusedVariables false
set_option linter.unusedSimpArgs false
attribute [local go_sem ↓] Go.wp_at_zero Go.wp_at_succ

theorem add_neg (w : World) (b : Nat) (p : PK) (by_ t : Int) (ht : t < 0) : Calls Try.prog 23 #[.pointer (some ⟨b, 0, none⟩), vP p, .int .i64 by_, .int .i64 t] w fun e w' => e = .returned (.int .i64 1) ∧ Below w.heap.size w w' := by
  obtain ⟨p1, p2⟩ := p
  unfold vP
  go_enter Try.func23, Try.ntmps23
  go_wp2_with fail
  go_ret
  exact ⟨rfl, (Below.refl _ _).alloc (Nat.le_refl _) _⟩
set_option maxHeartbeats 1600000 in
set_option maxRecDepth 100000 in
theorem add_over {w : World} {b : Nat} {mv : Value} {m : List (PK × Int)} (h : DT w b mv m) (p : PK) (hp : P64 p) (by_ t : Int) (hb : In64 by_) (ht : 0 ≤ t ∧ t ≤ 9223372036854775807) (hs : sumD (res m p) by_ t = none) :
    Calls Try.prog 23 #[.pointer (some ⟨b, 0, none⟩), vP p, .int .i64 by_, .int .i64 t] w fun e w' => e = .returned (.int .i64 5) ∧ Below w.heap.size w w' := by
  obtain ⟨v, hv⟩ := sum_no (res m p) by_ t (h.res64 p) hb ht hs
  obtain ⟨p1, p2⟩ := p
  have hbl : Below w.heap.size w (w.alloc (.cells #[.int .i64 p1, .int .i64 p2] 23)) := (Below.refl _ _).alloc (Nat.le_refl _) _
  have h1 := h.below hbl
  have c0 := cell_at h1.blk 0
  have x0 := cell_at (heap_alloc_new w (.cells #[.int .i64 p1, .int .i64 p2] 23)) 0
  have x1 := cell_at (heap_alloc_new w (.cells #[.int .i64 p1, .int .i64 p2] 23)) 1
  simp only [List.getElem?_toArray, List.getElem?_cons_zero, List.getElem?_cons_succ] at c0 x0 x1
  have lk := fun g => DT.look (h1.below (Ext.below (w := w.alloc (.cells #[.int .i64 p1, .int .i64 p2] 23)) g)) hp
  unfold vP at lk ⊢
  obtain ⟨r, hr⟩ : ∃ r, res m (p1, p2) = r := ⟨_, rfl⟩
  simp only [hr] at lk hv ⊢
  have ht0 : ¬ t < 0 := by omega
  clear h1 h hr hs ht hb
  go_enter Try.func23, Try.ntmps23
  go_wp2_with fail
  generalize w.alloc (.cells #[.int .i64 p1, .int .i64 p2] 23) = w1 at *
  have g0 := fun g => Ext.cell (u := mv) c0 g
  have g1 := fun g => Ext.cell (u := .int .i64 p1) x0 g
  have g2 := fun g => Ext.cell (u := .int .i64 p2) x1 g
  refine wp_region_ext (by kernel_rfl) (by kernel_rfl) ?_
  repeat (quiet_step (first | (go_at_call 44; exact ext_same (hv _))))
  refine wpQuiet_nil ?_
  rintro w3 ⟨⟨_, b3⟩, rfl⟩
  go_wp2_with fail
  go_ret
  exact ⟨rfl, hbl.trans (b3.mono hbl.size)⟩
set_option maxHeartbeats 1600000 in
set_option maxRecDepth 100000 in
theorem add_ok {w : World} {b : Nat} {mv : Value} {m : List (PK × Int)} (h : DT w b mv m) (hl : m.length < 1000000) (p : PK) (hp : P64 p) (by_ t r : Int) (hb : In64 by_) (ht : 0 ≤ t ∧ t ≤ 9223372036854775807) (hs : sumD (res m p) by_ t = some r) :
    Calls Try.prog 23 #[.pointer (some ⟨b, 0, none⟩), vP p, .int .i64 by_, .int .i64 t] w fun e w' => e = .returned (.int .i64 0) ∧ ∃ mv', DT w' b mv' (setL m p r) ∧ Upd (DFoot b mv) (DFoot b mv') w w' := by
  have hv := fun W => sum_yes (res m p) by_ t r W (h.res64 p) hb ht hs
  have hr64 : 0 ≤ r ∧ r ≤ 9223372036854775807 := by
    unfold sumD at hs
    split at hs
    · rename_i hc; cases hs; exact hc.2
    · cases hs
  obtain ⟨p1, p2⟩ := p
  have hbl : Below w.heap.size w (w.alloc (.cells #[.int .i64 p1, .int .i64 p2] 23)) := (Below.refl _ _).alloc (Nat.le_refl _) _
  have h1 := h.below hbl
  have c0 := cell_at h1.blk 0
  have x2 := heap_alloc_new w (.cells #[.int .i64 p1, .int .i64 p2] 23)
  have x0 := cell_at x2 0
  have x1 := cell_at x2 1
  simp only [List.getElem?_toArray, List.getElem?_cons_zero, List.getElem?_cons_succ] at c0 x0 x1
  have lk := fun g => DT.look (h1.below (Ext.below (w := w.alloc (.cells #[.int .i64 p1, .int .i64 p2] 23)) g)) hp
  unfold vP at lk ⊢
  obtain ⟨n, hn⟩ : ∃ n, res m (p1, p2) = n := ⟨_, rfl⟩
  simp only [hn] at lk hv ⊢
  have ht0 : ¬ t < 0 := by omega
  have HL := Lib.hid hl
  have H1 := Lib.hid h1
  have X2 := Lib.hid x2
  clear h1 hn hs ht hb hl x2
  go_enter Try.func23, Try.ntmps23
  go_wp2_with fail
  generalize w.alloc (.cells #[.int .i64 p1, .int .i64 p2] 23) = w1 at *
  have g0 := fun g => Ext.cell (u := mv) c0 g
  have g1 := fun g => Ext.cell (u := .int .i64 p1) x0 g
  have g2 := fun g => Ext.cell (u := .int .i64 p2) x1 g
  refine wp_region_ext (by kernel_rfl) (by kernel_rfl) ?_
  repeat (quiet_step (first | (go_at_call 44; exact ext_same (hv _))))
  refine wpQuiet_nil ?_
  rintro w3 ⟨⟨w4, b3⟩, he⟩
  have he2 : w3 = w4 := he
  subst he2
  clear he
  have h3 := H1.out.below b3
  have x3 := (b3.block _ (block_lt X2.out)).trans X2.out
  have hb3 := hbl.trans (b3.mono hbl.size)
  have HLT := Lib.hid h.lt
  have HPOS := Lib.hid h.pos
  clear g0 g1 g2 lk hv c0 x0 x1 H1 X2 b3 hbl h
  obtain ⟨mr, rfl⟩ : ∃ mr, mv = .map mr := by
    rcases h3.map with ⟨rfl, _⟩ | ⟨mb, rfl, _⟩
    · exact ⟨_, rfl⟩
    · exact ⟨_, rfl⟩
  have c3 := cell_at h3.blk 0
  simp only [List.getElem?_toArray, List.getElem?_cons_zero] at c3
  have hmm := @run_makeMap Try.prog
  have heq := fun W => run_eql_map_nil (P := Try.prog) W 67 _ _ mr Try.underlying67
  go_upto_if 35 with fail
  go_cut [] from 31 to 53 (fun wx => ∃ mb, wx.heap[b]? = some (.cells #[.map (some mb)] 69 (0, 0)) ∧ PM wx mb m ∧ wx.heap[w.heap.size]? = some (.cells #[.int .i64 p1, .int .i64 p2] 23 (0, 0)) ∧ b ≠ mb ∧ Hid (Upd (DFoot b (.map mr)) (DFoot b (.map (some mb))) w wx))
  case first =>
    have hbw := HLT.out b (.inl rfl)
    rcases h3.map with ⟨e, rfl⟩ | ⟨mb, e, hm⟩
    · cases e
      have k1 := alloc_blk (x := .map #[] 0) h3.blk
      have d1 := cell_at k1 0
      simp only [List.getElem?_toArray, List.getElem?_cons_zero] at d1
      have f1 := frozen_at k1 0
      have hmade := PM.made w3
      have k2 := set_at k1 0 (.map (some w3.heap.size))
      have ek : (#[Value.map none].setIfInBounds 0 (.map (some w3.heap.size))) = #[.map (some w3.heap.size)] := rfl
      rw [ek] at k2
      have x4 := set_blk (v := .map (some w3.heap.size)) (p := ⟨b, 0, none⟩) (alloc_blk (x := .map #[] 0) x3) (show w.heap.size ≠ b by omega)
      have hm4 := hmade.keep (w' := (w3.alloc (.map #[] 0)).setCell ⟨b, 0, none⟩ (.map (some w3.heap.size))) (set_blk_eq (show w3.heap.size ≠ b by have := block_lt h3.blk; omega))
      have U4 := Lib.hid (((Upd.of_below (F := DFoot b (.map none)) hb3).trans (Upd.alloc (o := .map #[] 0))).trans (Upd.set (p := ⟨b, 0, none⟩) (u := .map (some w3.heap.size)) (F := DFoot b (.map none)) (.inl rfl)))
      clear hmade
      go_wp2_with fail
      go_meet
      exact ⟨_, k2, hm4, x4, Nat.ne_of_lt (block_lt h3.blk), Lib.hid (U4.out.foot (by
        rintro k (rfl | hk)
        · exact .inl (.inl rfl)
        · cases hk
          exact .inr hb3.size))⟩
    · cases e
      have hne : b ≠ mb := fun e => by
        obtain ⟨es, cl, e2⟩ := hm.map
        have e3 := h3.blk
        rw [e, e2] at e3
        cases e3
      go_wp2_with fail
      go_meet
      exact ⟨mb, h3.blk, hm, x3, hne, Lib.hid (Upd.of_below hb3)⟩
  case rest =>
    obtain ⟨mb, hblk, hm, hx, hne, HU⟩ := hcut
    clear h3 x3 hb3
    have c3 := cell_at hblk 0
    have x0 := cell_at hx 0
    have x1 := cell_at hx 1
    simp only [List.getElem?_toArray, List.getElem?_cons_zero, List.getElem?_cons_succ] at c3 x0 x1
    go_wp2_with fail
    go_still_tail 6, (by kernel_rfl)
    change wpList _ _ _ _ _ wc.drew
    have hblk1 : wc.drew.heap[b]? = _ := hblk
    have hx1 : wc.drew.heap[w.heap.size]? = _ := hx
    have hm1 : PM wc.drew mb m := hm.keep rfl
    have HU1 := Lib.hid (HU.out.trans (Upd.of_below (F := DFoot b (.map (some mb))) ((Below.refl _ _).drew)))
    clear hblk hx hm HU c3 x0 x1
    generalize wc.drew = w5 at *
    have hw0 := HLT.out b (.inl rfl)
    have hmw : w.heap.size ≠ mb := fun e => by
      obtain ⟨es, cl, e2⟩ := hm1.map
      have e3 := hx1
      rw [e, e2] at e3
      cases e3
    refine wp_put rfl _ _ _ rfl rfl hm1 (by have := HL.out; omega) (p := (p1, p2)) (n := r) rfl rfl hp (by unfold In64; omega) ?_
    intro w6 hm6 hg6
    have hblk6 := grown_blk hg6 hblk1 (by simpa using hne)
    have hx6 := grown_blk hg6 hx1 (by simpa using hmw)
    have HU6 := Lib.hid (HU1.out.trans (Upd.grown (F := DFoot b (.map (some mb))) hg6 (fun k e => by cases e; exact .inr rfl)))
    clear hblk1 hx1 hm1 HU1 hg6
    have c3 := cell_at hblk6 0
    have x0 := cell_at hx6 0
    have x1 := cell_at hx6 1
    simp only [List.getElem?_toArray, List.getElem?_cons_zero, List.getElem?_cons_succ] at c3 x0 x1
    by_cases hr0 : r = 0
    · subst hr0
      go_wp2_with fail
      go_still_tail 5, (by kernel_rfl)
      change wpList _ _ _ _ _ w6.drew
      have hblk7 : w6.drew.heap[b]? = _ := hblk6
      have hm7 : PM w6.drew mb (putL m (p1, p2) 0) := hm6.keep rfl
      have HU7 := Lib.hid (HU6.out.trans (Upd.of_below (F := DFoot b (.map (some mb))) ((Below.refl _ _).drew)))
      clear hblk6 hx6 hm6 HU6 c3 x0 x1
      generalize w6.drew = w7 at *
      refine wp_drop rfl _ _ rfl rfl hm7 (p := (p1, p2)) rfl hp ?_
      intro w8 hm8 hg8
      have hblk8 := grown_blk hg8 hblk7 (by simpa using hne)
      have HU8 := Lib.hid (HU7.out.trans (Upd.grown (F := DFoot b (.map (some mb))) hg8 (fun k e => by cases e; exact .inr rfl)))
      clear hblk7 hm7 HU7 hg8
      go_wp2_with fail
      go_ret
      refine ⟨rfl, .map (some mb), ⟨hblk8, .inr ⟨mb, rfl, ?_⟩, set_pos HPOS.out hr64.1⟩, HU8.out⟩
      rw [drop_put] at hm8
      unfold setL
      rw [if_pos rfl]
      exact hm8
    · have hrb : (r == 0) = false := by simpa using hr0
      go_wp2_with fail
      go_ret
      refine ⟨rfl, .map (some mb), ⟨hblk6, .inr ⟨mb, rfl, ?_⟩, set_pos HPOS.out hr64.1⟩, HU6.out⟩
      unfold setL
      rw [if_neg hr0]
      exact hm6
end Go.Proofs.Ytaecngdabgnamaa.Delta
namespace Go.Proofs.Ytaecngdabgnamaa.Delta
open Go.RowKit Go.Maps Base Foot ExtTail PMap DMath
def addE (m : List (PK × Int)) (p : PK) (by_ t : Int) : Int × List (PK × Int) :=
  if t < 0 then (1, m) else match sumD (res m p) by_ t with
    | none => (5, m)
    | some r => (0, setL m p r)
theorem add_any {w : World} {b : Nat} {mv : Value} {m : List (PK × Int)} (h : DT w b mv m) (hl : m.length < 1000000) (p : PK) (hp : P64 p) (by_ t : Int) (hb : In64 by_) (ht : In64 t) :
    Calls Try.prog 23 #[.pointer (some ⟨b, 0, none⟩), vP p, .int .i64 by_, .int .i64 t] w fun e w' => e = .returned (.int .i64 (addE m p by_ t).1) ∧ ∃ mv', DT w' b mv' (addE m p by_ t).2 ∧ Upd (DFoot b mv) (DFoot b mv') w w' := by
  by_cases h0 : t < 0
  · have e : addE m p by_ t = (1, m) := by unfold addE; rw [if_pos h0]
    rw [e]
    exact (add_neg w b p by_ t h0).mono fun e w' ⟨he, hb⟩ => ⟨he, mv, h.below hb, Upd.of_below hb⟩
  · have ht2 : 0 ≤ t ∧ t ≤ 9223372036854775807 := by unfold In64 at ht; omega
    cases hs : sumD (res m p) by_ t with
    | none =>
      have e : addE m p by_ t = (5, m) := by unfold addE; rw [if_neg h0, hs]
      rw [e]
      exact (add_over h p hp by_ t hb ht2 hs).mono fun e w' ⟨he, hb⟩ => ⟨he, mv, h.below hb, Upd.of_below hb⟩
    | some r =>
      have e : addE m p by_ t = (0, setL m p r) := by unfold addE; rw [if_neg h0, hs]
      rw [e]
      exact add_ok h hl p hp by_ t r hb ht2 hs
end Go.Proofs.Ytaecngdabgnamaa.Delta
