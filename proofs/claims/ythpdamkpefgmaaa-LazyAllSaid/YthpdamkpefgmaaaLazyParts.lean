/- Layer 15: the parts of a queue in memory, each turned by itself; build, walked. -/
import Derived.Test.YthpdamkpefgmaaaLazyQ
import Derived.Test.YthpdamkpefgmaaaPRange
import Derived.StillTailTactics
namespace Go.Proofs.Ythpdamkpefgmaaa.LazyPut
open Go.RowKit Go.Maps Go.Proofs.YthpdamkpefgmaaaW.PrintWords Go.Proofs.YthpdamkpefgmaaaW.PrintLast Go.Proofs.YthpdamkpefgmaaaW.PrintMore Base Foot Src ExtTail SymPure Sym PairW BetOrd HeapPure Heap3 PMap LazyQ
set_option linter.unusedVariables false
set_option linter.unusedSimpArgs false
attribute [local go_sem ↓] Go.wp_at_zero Go.wp_at_succ
theorem buildI (a b n : Int) (w : World) : (Instr.build 48 #[(0, .agg #[.int .i64 a, .int .i64 b]), (1, .int .i64 n)]).run Try.prog w = .ok (.agg #[.int .i64 a, .int .i64 b, .int .i64 n]) w := run_build w _ _ _ (by kernel_rfl)
attribute [-go_sem] Instr.build
attribute [local go_sem high] buildI

/-- the parts of a queue in memory -/
structure QP (B : Nat) (w : World) (q tb : Nat) (lv mv : Value) (T : List J) (bh : Nat) (hl : Value) (mb : Nat) (l : List It) (pu pk : Int) (K : List (PK × Int)) (s : Sts) : Prop where
  base : B ≤ q
  blk : w.heap[q]? = some (.cells (qcells tb bh mb s) 100 (0, 0))
  heap : HeapT (qp q) FB (IQ q tb lv mv T) (GQ q tb lv mv) B w bh hl l pu pk
  map : PM w mb K
  mbase : B ≤ mb
  mfar : ¬ Sym.Foot tb lv mv mb
  qfar : ¬ Sym.Foot tb lv mv q
section
variable {B : Nat} {w : World} {q tb : Nat} {lv mv : Value} {T : List J} {bh : Nat} {hl : Value} {mb : Nat} {l : List It} {pu pk : Int} {K : List (PK × Int)} {s : Sts} (h : QP B w q tb lv mv T bh hl mb l pu pk K s)
include h
theorem QP.qh : ¬ HFoot bh hl q := h.heap.far q (.inl rfl)
theorem QP.mh : ¬ HFoot bh hl mb := hmapfar h.heap h.map
theorem QP.qm : q ≠ mb := by
  obtain ⟨es, cl, e⟩ := h.map.map
  intro e2
  have := h.blk
  rw [e2, e] at this; cases this
theorem QP.symlt : ∀ k, Sym.Foot tb lv mv k → k < w.heap.size := by
  obtain ⟨_, B', h1⟩ := h.heap.inv
  exact fun k hk => (h1.foot_lt k hk).2
theorem QP.lt : ∀ k, QFoot q bh hl mb k → B ≤ k ∧ k < w.heap.size := by
  rintro k (rfl | hk | rfl)
  · exact ⟨h.base, block_lt h.blk⟩
  · exact h.heap.foot_lt (cmpQ q tb lv mv T) k hk
  · exact ⟨h.mbase, h.map.lt⟩
theorem QP.keep {w' : World} (hk : ∀ k, QFoot q bh hl mb k ∨ Sym.Foot tb lv mv k → w'.heap[k]? = w.heap[k]?) : QP B w' q tb lv mv T bh hl mb l pu pk K s := by
  have hq := (hk q (.inl (.inl rfl))).trans h.blk
  exact ⟨h.base, hq, hinq h.heap (fun k e => hk k (.inl (.inr (.inl e)))) (h.heap.inv.mk hq (fun k e => hk k (.inr e))) h.heap.far, h.map.keep (hk mb (.inl (.inr (.inr rfl)))), h.mbase, h.mfar, h.qfar⟩
/-- the queue's own block has turned -/
theorem QP.stat {w' : World} {s' : Sts} (hq : w'.heap[q]? = some (.cells (qcells tb bh mb s') 100 (0, 0))) (hk : ∀ k, k ≠ q → w'.heap[k]? = w.heap[k]?) : QP B w' q tb lv mv T bh hl mb l pu pk K s' :=
  ⟨h.base, hq, hinq h.heap (fun k e => hk k (fun e2 => QP.qh h (e2 ▸ e))) (h.heap.inv.mk hq (fun k e => hk k (fun e2 => h.qfar (e2 ▸ e)))) h.heap.far, h.map.keep (hk mb (fun e => QP.qm h e.symm)), h.mbase, h.mfar, h.qfar⟩
theorem QP.below {w' : World} (hb : Below w.heap.size w w') : QP B w' q tb lv mv T bh hl mb l pu pk K s :=
  QP.keep h fun k hk => hb.block k (by
    rcases hk with hk | hk
    · exact (QP.lt h k hk).2
    · exact QP.symlt h k hk)
/-- the map has turned -/
theorem QP.known {w' : World} {K' : List (PK × Int)} (hm : PM w' mb K') (hg : w.grownBy w' (some mb)) : QP B w' q tb lv mv T bh hl mb l pu pk K' s := by
  have hne : ∀ k, k < w.heap.size → k ≠ mb → w'.heap[k]? = w.heap[k]? := fun k hk e => hg.block k hk (by simpa using e)
  have hq := (hne q (block_lt h.blk) (QP.qm h)).trans h.blk
  exact ⟨h.base, hq, hinq h.heap (fun k e => hne k (h.heap.foot_lt (cmpQ q tb lv mv T) k e).2 (fun e2 => QP.mh h (e2 ▸ e))) (h.heap.inv.mk hq (fun k e => hne k (QP.symlt h k e) (fun e2 => h.mfar (e2 ▸ e)))) h.heap.far, hm, h.mbase, h.mfar, h.qfar⟩
/-- the heap has turned -/
theorem QP.turned {w' : World} {hl' : Value} {l' : List It} {pu' pk' : Int} (h2 : HeapT (qp q) FB (IQ q tb lv mv T) (GQ q tb lv mv) B w' bh hl' l' pu' pk') (hu : Upd (HFoot bh hl) (HFoot bh hl') w w') : QP B w' q tb lv mv T bh hl' mb l' pu' pk' K s :=
  ⟨h.base, (hu.block q (block_lt h.blk) (QP.qh h)).trans h.blk, h2, h.map.keep (hu.block mb h.map.lt (QP.mh h)), h.mbase, h.mfar, h.qfar⟩
theorem QP.full {L : List It} (hf : HeapFrom (betB T) l 0) (hp : l.Perm L) (hpu : pu ≤ s.pushes) (hs : L.length ≤ 1000 ∧ K.length ≤ 1000) (hn : 0 ≤ s.pushes ∧ s.pushes ≤ 1000 ∧ 0 ≤ s.pops ∧ s.pops ≤ 1000 ∧ 0 ≤ s.peak ∧ s.peak ≤ 1000 ∧ 0 ≤ s.rebuilds ∧ s.rebuilds ≤ 1000) : QueT B w q tb lv mv T bh hl mb L K s :=
  ⟨h.base, h.blk, ⟨l, pu, pk, h.heap, hf, hp, hpu⟩, h.map, h.mbase, h.mfar, h.qfar, hs, hn⟩
end
theorem QueT.parts {B : Nat} {w : World} {q tb : Nat} {lv mv : Value} {T : List J} {bh : Nat} {hl : Value} {mb : Nat} {L : List It} {K : List (PK × Int)} {s : Sts} (h : QueT B w q tb lv mv T bh hl mb L K s) :
    ∃ l pu pk, QP B w q tb lv mv T bh hl mb l pu pk K s ∧ HeapFrom (betB T) l 0 ∧ l.Perm L ∧ pu ≤ s.pushes := by
  obtain ⟨l, pu, pk, h1, h2, h3, h4⟩ := h.heap
  exact ⟨l, pu, pk, ⟨h.base, h.blk, h1, h.map, h.mbase, h.mfar, h.qfar⟩, h2, h3, h4⟩
theorem set_stat {w : World} {q tb bh mb : Nat} {s s' : Sts} (h : w.heap[q]? = some (.cells (qcells tb bh mb s) 100 (0, 0))) (i : Nat) (v : Value) (e : (qcells tb bh mb s).setIfInBounds i v = qcells tb bh mb s') :
    (w.setCell ⟨q, i, none⟩ v).heap[q]? = some (.cells (qcells tb bh mb s') 100 (0, 0)) := by rw [set_at h, e]


theorem set_stat1 {w : World} {q tb bh bh' mb : Nat} {s : Sts} (h : w.heap[q]? = some (.cells (qcells tb bh mb s) 100 (0, 0))) :
    (w.setCell ⟨q, 1, none⟩ (.pointer (some ⟨bh', 0, none⟩))).heap[q]? = some (.cells (qcells tb bh' mb s) 100 (0, 0)) := by rw [set_at h]; rfl
set_option maxHeartbeats 3200000 in
set_option maxRecDepth 100000 in
/-- the queue is built anew of what is known -/
theorem build_any {B : Nat} {w : World} {q tb : Nat} {lv mv : Value} {T : List J} {bh : Nat} {hl : Value} {mb : Nat} {l : List It} {pu pk : Int} {K : List (PK × Int)} {s : Sts} (h : QP B w q tb lv mv T bh hl mb l pu pk K s) (hs : K.length ≤ 1000) (hr : 0 ≤ s.rebuilds ∧ s.rebuilds ≤ 1000) :
    Calls Try.prog 56 #[qp q] w fun e w' => e = .returned (.tuple #[]) ∧ ∃ bh' hl' l', QP B w' q tb lv mv T bh' hl' mb l' 0 (K.length : Int) K { s with rebuilds := s.rebuilds + 1 } ∧ HeapFrom (betB T) l' 0 ∧ l'.Perm K ∧ Upd (QFoot q bh hl mb) (QFoot q bh' hl' mb) w w' := by
  obtain ⟨i0, hi, hz0, hzA, hz2⟩ := info_parts Heap3.infoI
  have hmf : ∀ (fn : Fn) (first cap : Array Value) (w : World), (Instr.makeFunc fn first cap).run Try.prog w = .ok (.func fn first cap) w := fun _ _ _ _ => rfl
  have c2 := cell_at h.blk 2
  simp only [qcells, List.getElem?_toArray, List.getElem?_cons_zero, List.getElem?_cons_succ] at c2
  have hm := h.map
  have H := Lib.hid h
  have hqlt := block_lt h.blk
  have hmlt := h.map.lt
  clear h
  unfold qp
  go_enter Try.func56, Try.ntmps56
  go_wp2_with (at_range; refine wp_range rfl _ rfl rfl hm ?_; intro w0 hrg0 hg0 hs0)
  go_frame
  have hb0 : Below w.heap.size w w0 := ⟨hg0.os, hg0.tape, hg0.output, hg0.size, fun k hk => hg0.block k hk (by simp)⟩
  go_loopw [2] (fun v2 wr => ∃ (acc rest : List (PK × Int)) (cnt : Nat) (ov : Value), ov = v2 ∧ RG wr mb w.heap.size K acc rest cnt ∧ wr.ownsRow w.heap.size 48 3 ov acc.length (acc.flatMap Heap3.enc) ∧ Below w.heap.size w wr) (fun _ wr => wr.rangeLeft mb w.heap.size)
  case atStart => exact ⟨[], K, K.length, _, rfl, hrg0, World.ownsRow_nil _ _ _ _, hb0⟩
  case round =>
    obtain ⟨acc, rest, cnt, ov, rfl, hrg, hrow, hbw⟩ := hrel
    have hpm := hrg.perm
    have hal := hrg.al
    have hll : acc.length + rest.length = K.length := by have := hpm.length_eq; simpa using this
    have HPM := Lib.hid hpm
    have HAL := Lib.hid hal
    clear hpm hal hrg0 hm c2
    go_wp2_with (at_next; refine wp_next rfl _ rfl rfl hrg ?_ ?_)
    · intro hnil
      subst hnil
      have hperm : acc.Perm K := by simpa using HPM.out
      have HPERM := Lib.hid hperm
      have hsrc := Lib.hid (Src.of_own (cap := 0) (A := none) (e := 48) (B := w.heap.size) (World.ownsRow_nil wr w.heap.size 48 3))
      obtain ⟨A, cap, rfl⟩ : ∃ A cap, ov = .slice A acc.length cap := by
        rcases hrow.2 with ⟨rfl, h0⟩ | ⟨g, cap, cur, rfl, _⟩
        · exact ⟨none, 0, by rw [h0]⟩
        · exact ⟨_, _, rfl⟩
      have hq1 := QP.below H.out hbw
      have HQ1 := Lib.hid hq1
      have hsr := Src.of_own hrow
      have HSR := Lib.hid hsr
      clear hperm hq1 hsr hrow hrg
      go_wp2_with fail
      refine (Heap3.of_any (cmpQ q tb lv mv T) A cap acc wr HSR.out (by omega) HQ1.out.heap.inv).mono ?_
      rintro e w2 ⟨rfl, l', lv', p1, p2, p3, b2⟩
      have hqP := QP.below HQ1.out b2
      have hU2 := Upd.of_below (F := QFoot q bh hl mb) (hbw.trans (b2.mono hbw.size))
      have c1 := cell_at hqP.blk 1
      have f1 := frozen_at hqP.blk 1
      have c8 := cell_at hqP.blk 8
      have f8 := frozen_at hqP.blk 8
      simp only [qcells, List.getElem?_toArray, List.getElem?_cons_zero, List.getElem?_cons_succ] at c1 c8
      have HQP := Lib.hid hqP
      have P1 := Lib.hid (p1.trans HPERM.out)
      have P2 := Lib.hid p2
      have P3 := Lib.hid p3
      have hbq : wr.heap.size ≠ q := by have := hbw.size; omega
      have hgeo : w.heap.size ≤ wr.heap.size := hbw.size
      have hBq : B ≤ q := hqP.base
      have hal2 : acc.length = K.length := by simpa using hll
      clear hqP p1 p2 p3 b2
      go_wp2_with fail
      have hq3 := set_stat1 HQP.out.blk (bh' := wr.heap.size)
      have h3 : QP B (w2.setCell ⟨q, 1, none⟩ (.pointer (some ⟨wr.heap.size, 0, none⟩))) q tb lv mv T wr.heap.size lv' mb l' 0 (K.length : Int) K s := by
        have hk : ∀ k, k ≠ q → (w2.setCell ⟨q, 1, none⟩ (.pointer (some ⟨wr.heap.size, 0, none⟩))).heap[k]? = w2.heap[k]? := fun k hk => set_blk_eq hk
        have hsym : ∀ k, Sym.Foot tb lv mv k → k ≠ q := fun k hf e => HQP.out.qfar (e ▸ hf)
        have hf : ∀ k, HFoot wr.heap.size lv' k → wr.heap.size ≤ k := by
          intro k hf
          exact (P3.out.foot_lt (cmpQ q tb lv mv T) k hf).1
        refine ⟨hBq, hq3, ?_, HQP.out.map.keep (hk mb (fun e => QP.qm HQP.out e.symm)), HQP.out.mbase, HQP.out.mfar, HQP.out.qfar⟩
        rw [← hal2]
        exact hinq (hrebase P3.out (by omega)) (fun k e => hk k (fun e2 => by have := hf k e; omega)) (HQP.out.heap.inv.mk hq3 (fun k hk2 => hk k (hsym k hk2))) P3.out.far
      have U3 := hU2.trans (Upd.set (p := ⟨q, 1, none⟩) (u := .pointer (some ⟨wr.heap.size, 0, none⟩)) (F := QFoot q bh hl mb) (.inl rfl))
      have h4 := QP.stat h3 (w' := (w2.setCell ⟨q, 1, none⟩ (.pointer (some ⟨wr.heap.size, 0, none⟩))).setCell ⟨q, 8, none⟩ (.int .i64 (s.rebuilds + 1))) (s' := { s with rebuilds := s.rebuilds + 1 }) (set_stat h3.blk 8 _ rfl) (fun k hk => set_blk_eq hk)
      have U4 := U3.trans (Upd.set (p := ⟨q, 8, none⟩) (u := .int .i64 (s.rebuilds + 1)) (F := QFoot q bh hl mb) (.inl rfl))
      go_end0
      refine ⟨rfl, wr.heap.size, lv', l', h4, P2.out, P1.out, U4.foot ?_⟩
      rintro k (rfl | hk | rfl)
      · exact .inl (.inl rfl)
      · right
        have := (P3.out.foot_lt (cmpQ q tb lv mv T) k hk).1
        omega
      · exact .inl (.inr (.inr rfl))
    · intro x1 x2 c rest2 w1 cnt1 hx hc hmem hrg1 hlt hg1 hs1 hen
      have hb1 : Below w.heap.size w w1 := hbw.grown hg1 hbw.size (fun k hk => by cases hk; exact Nat.le_refl _)
      have hrow1 : w1.ownsRow w.heap.size 48 3 ov acc.length (acc.flatMap Heap3.enc) := own_keep hrow (fun k hk => hg1.block k (hrow.lt k hk).2 (fun e => by
        cases e
        obtain ⟨_, _, _, e2⟩ := hrg.iter
        have := own_cells hrow hk e2
        cases this))
      unfold vP at hen
      unfold vP
      have hlr : acc.length < 1000 := by
        have : rest ≠ [] := fun e => by rw [e] at hmem; cases hmem
        have := List.length_pos_iff.2 this
        omega
      have hz1 : w.heap.size ≤ wr.heap.size := hbw.size
      have hnw : ((w1.alloc (.cells #[.int .i64 x1, .int .i64 x2] 41))).heap.size = wr.heap.size + 1 := by simp [hs1]
      have HNW := Lib.hid hnw
      clear hnw
      go_wp2_with (at_builtin; refine wpList_append_own_at _ rfl _ _ 58 rfl w.heap.size 48 i0 _ 3 24 Try.underlying58 hi hz0 hzA hz2 rfl (by decide) _ _ _ rfl ((hrow1.alloc _).alloc _) ⟨wr.heap.size + 1, 0, none⟩ 1 1 [.int .i64 x1, .int .i64 x2, .int .i64 c] rfl rfl (news_alloc HNW.out) (by simp [Value.oneCell']) (by unfold maxLen; omega) (by omega) (by simp; omega) ?_; intro v' w2 hown2 hgrow2 _ hat2)
      have hb2 : Below w.heap.size w w2 := ((hb1.alloc hb1.size _).alloc (by simp; have := hb1.size; omega) _).grown hgrow2 (by simp; have := hb1.size; omega) (fun k hk => (hrow1.lt k hk).1)
      have hne : ∀ k, k < wr.heap.size → (∃ o : Obj, wr.heap[k]? = some o ∧ o.isCells = false) → w2.heap[k]? = w1.heap[k]? := fun k hk ho => by
        rw [hgrow2.block k (by simp; omega) (fun e => ?_)]
        · rw [Below.heap_alloc _ _ _ (by simp; omega), Below.heap_alloc _ _ _ (by omega)]
        · obtain ⟨o, ho1, ho2⟩ := ho
          have := own_cells hrow e.symm ho1
          rw [ho2] at this; cases this
      obtain ⟨es, cl, hmap⟩ := hrg.pm.map
      obtain ⟨sn, se, c0, hit⟩ := hrg.iter
      have hrg2 := hrg1.kept (hne mb (block_lt hmap) ⟨_, hmap, rfl⟩) (hne _ (block_lt hit) ⟨_, hit, rfl⟩)
      have hm1 := hrg2.cnt
      have hm0 := hrg.cnt
      go_roundw
      case rel => exact ⟨acc ++ [((x1, x2), c)], rest2, _, _, rfl, hrg2, by simpa [Heap3.enc] using hown2, hb2⟩
      case measure => rw [hm1, hm0]; exact hlt
end Go.Proofs.Ythpdamkpefgmaaa.LazyPut
