/- Layer 15: New, Len, Known, Stats, Put, walked. -/
import Derived.Test.YthpdamkpefgmaaaLazyParts
import Derived.StillTailTactics
namespace Go.Proofs.Ythpdamkpefgmaaa.LazyPut
open Go.RowKit Go.Proofs.YthpdamkpefgmaaaW.PrintWords Go.Proofs.YthpdamkpefgmaaaW.PrintLast Go.Proofs.YthpdamkpefgmaaaW.PrintMore Base Foot Src ExtTail SymPure Sym PairW BetOrd HeapPure Heap3 PMap LazyQ
attribute [local go_sem] max2_int min2_int max_two min_two
set_option linter.unusedVariables false
set_option linter.unusedSimpArgs false
attribute [local go_sem ↓] Go.wp_at_zero Go.wp_at_succ

theorem buildQ (a : Option Addr) (m : Option Nat) (w : World) : (Instr.build 100 #[(0, .pointer a), (2, .map m)]).run Try.prog w = .ok (.agg #[.pointer a, .pointer none, .map m, .int .i64 0, .int .i64 0, .int .i64 0, .int .i64 0, .int .i64 0, .int .i64 0]) w := run_build w _ _ _ (by kernel_rfl)
theorem buildI0 (w : World) : (Instr.build 48 #[]).run Try.prog w = .ok (.agg #[.int .i64 0, .int .i64 0, .int .i64 0]) w := run_build w _ _ _ (by kernel_rfl)
theorem buildS0 (w : World) : (Instr.build 36 #[]).run Try.prog w = .ok (.agg #[.int .i64 0, .int .i64 0, .int .i64 0, .int .i64 0, .int .i64 0, .int .i64 0]) w := run_build w _ _ _ (by kernel_rfl)
attribute [-go_sem] Instr.build
attribute [local go_sem high] buildQ buildI buildI0 buildS0

set_option maxHeartbeats 800000 in
set_option maxRecDepth 100000 in
theorem new_any {Bt tb : Nat} {lv mv : Value} {T : List J} {w : World} (h : SymT Bt w tb lv mv T) :
    Calls Try.prog 12 #[.pointer (some ⟨tb, 0, none⟩)] w fun e w' => ∃ q bh mb, e = .returned (qp q) ∧ QueT w.heap.size w' q tb lv mv T bh (.slice none 0 0) mb [] [] Sts.zero ∧ Below w.heap.size w w' := by
  have hmf : ∀ (fn : Fn) (first cap : Array Value) (w : World), (Instr.makeFunc fn first cap).run Try.prog w = .ok (.func fn first cap) w := fun _ _ _ _ => rfl
  have hmm := @run_makeMap Try.prog
  have b2 : Below w.heap.size w ((w.alloc (.map #[] 0)).alloc (.cells #[.pointer (some ⟨tb, 0, none⟩), .pointer none, .map (some w.heap.size), .int .i64 0, .int .i64 0, .int .i64 0, .int .i64 0, .int .i64 0, .int .i64 0] 100)) := ((Below.refl _ _).alloc (Nat.le_refl _) _).alloc (by simp) _
  have e1 : ((w.alloc (.map #[] 0)).alloc (.cells #[.pointer (some ⟨tb, 0, none⟩), .pointer none, .map (some w.heap.size), .int .i64 0, .int .i64 0, .int .i64 0, .int .i64 0, .int .i64 0, .int .i64 0] 100)).heap[w.heap.size + 1]? = some (.cells #[.pointer (some ⟨tb, 0, none⟩), .pointer none, .map (some w.heap.size), .int .i64 0, .int .i64 0, .int .i64 0, .int .i64 0, .int .i64 0, .int .i64 0] 100 (0, 0)) := by
    have := heap_alloc_new (w.alloc (.map #[] 0)) (.cells #[.pointer (some ⟨tb, 0, none⟩), .pointer none, .map (some w.heap.size), .int .i64 0, .int .i64 0, .int .i64 0, .int .i64 0, .int .i64 0, .int .i64 0] 100)
    simpa using this
  have hp := (PM.made w).below ((Below.refl _ _).alloc (Nat.le_refl _) (.cells #[.pointer (some ⟨tb, 0, none⟩), .pointer none, .map (some w.heap.size), .int .i64 0, .int .i64 0, .int .i64 0, .int .i64 0, .int .i64 0, .int .i64 0] 100))
  have h2 := h.below b2
  have hlt := h.foot_lt
  have hz2 : ((w.alloc (.map #[] 0)).alloc (.cells #[.pointer (some ⟨tb, 0, none⟩), .pointer none, .map (some w.heap.size), .int .i64 0, .int .i64 0, .int .i64 0, .int .i64 0, .int .i64 0, .int .i64 0] 100)).heap.size = w.heap.size + 2 := by simp
  go_enter Try.func12, Try.ntmps12
  go_wp2_with fail
  generalize (w.alloc (.map #[] 0)).alloc (.cells #[.pointer (some ⟨tb, 0, none⟩), .pointer none, .map (some w.heap.size), .int .i64 0, .int .i64 0, .int .i64 0, .int .i64 0, .int .i64 0, .int .i64 0] 100) = w2 at *
  have HZ2 := Lib.hid hz2
  have hz2l : w.heap.size + 1 < w2.heap.size := by omega
  clear hz2
  have hI : IQ (w.heap.size + 1) tb lv mv T w2 := ⟨⟨_, _, _, _, _, _, _, _, e1⟩, _, h2⟩
  refine (Heap3.new_any (cmpQ (w.heap.size + 1) tb lv mv T) w2 hI).mono ?_
  rintro e w3 ⟨rfl, hT, b3⟩
  have hq3 := (b3.block _ (block_lt e1)).trans e1
  have f1 := frozen_at hq3 1
  have c1 := cell_at hq3 1
  simp only [List.getElem?_toArray, List.getElem?_cons_zero, List.getElem?_cons_succ] at c1
  have hz3 := b3.size
  have HP := Lib.hid (hp.below b3)
  have HS := Lib.hid (h2.below b3)
  have HT := Lib.hid hT
  clear hT hp
  go_wp2_with fail
  go_ret
  have hqb : w2.heap.size ≠ w.heap.size + 1 := by omega
  have e4 : (w3.setCell ⟨w.heap.size + 1, 1, none⟩ (.pointer (some ⟨w2.heap.size, 0, none⟩))).heap[w.heap.size + 1]? = some (.cells (qcells tb w2.heap.size w.heap.size Sts.zero) 100 (0, 0)) := by rw [set_at hq3]; rfl
  have nf : ∀ k, Sym.Foot tb lv mv k → k < w.heap.size := fun k hk => (hlt k hk).2
  have hS4 : SymT Bt (w3.setCell ⟨w.heap.size + 1, 1, none⟩ (.pointer (some ⟨w2.heap.size, 0, none⟩))) tb lv mv T := HS.out.keep (fun k hk => set_blk_eq (by have := nf k hk; show k ≠ w.heap.size + 1; omega))
  have hfoot : ∀ k, HFoot w2.heap.size (.slice none 0 0) k → k = w2.heap.size := by
    rintro k (rfl | h)
    · rfl
    · cases h
  refine ⟨w.heap.size + 1, w2.heap.size, w.heap.size, rfl, ⟨by omega, e4, ⟨[], 0, 0, (hinq (hrebase HT.out (B' := w.heap.size) (by have := HZ2.out; omega)) (fun k hk => set_blk_eq (by rw [hfoot k hk]; exact hqb)) ⟨⟨_, _, _, _, _, _, _, _, e4⟩, _, hS4⟩ (fun k hk hf => ?_)), fun j x y _ _ hx => by simp at hx, List.Perm.refl _, by simp [Sts.zero]⟩, HP.out.keep (set_blk_eq (by show w.heap.size ≠ w.heap.size + 1; omega)), Nat.le_refl _, fun hf => by have := nf _ hf; omega, fun hf => by have := nf _ hf; omega, by simp, by simp [Sts.zero]⟩, (b2.trans (b3.mono b2.size)).setCell (by show w.heap.size ≤ w.heap.size + 1; omega) _⟩
  have e5 := hfoot k hf
  rcases hk with e6 | hk
  · omega
  · have := nf k hk; omega

section
variable {B : Nat} {w : World} {q tb : Nat} {lv mv : Value} {T : List J} {bh : Nat} {hl : Value} {mb : Nat} {L : List It} {K : List (PK × Int)} {s : Sts} (h : QueT B w q tb lv mv T bh hl mb L K s)
include h
theorem QueT.inv : IQ q tb lv mv T w := by obtain ⟨l, pu, pk, h1, _⟩ := h.heap; exact h1.inv
set_option maxHeartbeats 400000 in
theorem qlen_any : Calls Try.prog 22 #[qp q] w fun e w' => e = .returned (.int .i64 (L.length : Int)) ∧ w = w' := by
  obtain ⟨l, pu, pk, h1, h2, h3, h4⟩ := h.heap
  have c1 := cell_at h.blk 1
  simp only [qcells, List.getElem?_toArray, List.getElem?_cons_zero, List.getElem?_cons_succ] at c1
  have HL := Lib.hid h3.length_eq
  unfold qp
  go_enter Try.func22, Try.ntmps22
  go_wp2_with fail
  refine (Heap3.len_any h1).mono ?_
  rintro e w1 ⟨rfl, rfl⟩
  go_wp2_with fail
  go_ret
  exact ⟨by rw [HL.out]; rfl, rfl⟩
set_option maxHeartbeats 400000 in
theorem known_any : Calls Try.prog 23 #[qp q] w fun e w' => e = .returned (.int .i64 (K.length : Int)) ∧ w = w' := by
  have c2 := cell_at h.blk 2
  simp only [qcells, List.getElem?_toArray, List.getElem?_cons_zero, List.getElem?_cons_succ] at c2
  have hm := h.map
  obtain ⟨D, hD, hR⟩ := hm
  have HS := Lib.hid hR.size
  unfold qp
  go_enter Try.func23, Try.ntmps23
  go_wp2_with (at_len; refine wpList_len_own _ rfl _ 97 rfl 41 3 Try.underlying97 _ mb _ D rfl hD ?_)
  go_ret
  exact ⟨by rw [HS.out]; rfl, rfl⟩
set_option maxHeartbeats 400000 in
set_option maxRecDepth 100000 in
theorem stats_any : Calls Try.prog 24 #[qp q] w fun e w' => e = .returned (.agg #[.int .i64 s.pos, .int .i64 s.rounds, .int .i64 s.pushes, .int .i64 s.pops, .int .i64 s.peak, .int .i64 s.rebuilds]) ∧ Below w.heap.size w w' := by
  have hq := alloc_blk (x := .cells #[.int .i64 0, .int .i64 0, .int .i64 0, .int .i64 0, .int .i64 0, .int .i64 0] 36) h.blk
  have hn := heap_alloc_new w (.cells #[.int .i64 0, .int .i64 0, .int .i64 0, .int .i64 0, .int .i64 0, .int .i64 0] 36)
  have b1 : Below w.heap.size w (w.alloc (.cells #[.int .i64 0, .int .i64 0, .int .i64 0, .int .i64 0, .int .i64 0, .int .i64 0] 36)) := (Below.refl _ _).alloc (Nat.le_refl _) _
  have x3 := cell_at hq 3
  have x4 := cell_at hq 4
  have x5 := cell_at hq 5
  have x6 := cell_at hq 6
  have x7 := cell_at hq 7
  have x8 := cell_at hq 8
  simp only [qcells, List.getElem?_toArray, List.getElem?_cons_zero, List.getElem?_cons_succ] at x3 x4 x5 x6 x7 x8
  unfold qp
  go_enter Try.func24, Try.ntmps24
  go_wp2_with fail
  exact bodyPost_ret (v := .agg #[.int .i64 s.pos, .int .i64 s.rounds, .int .i64 s.pushes, .int .i64 s.pops, .int .i64 s.peak, .int .i64 s.rebuilds]) (by simp [results, Try.results24, go_sem]) rfl ⟨rfl, (Below.refl _ _).alloc (Nat.le_refl _) _⟩
theorem QueT.qh : ¬ HFoot bh hl q := by obtain ⟨l, pu, pk, h1, _⟩ := h.heap; exact h1.far q (.inl rfl)
theorem QueT.mh : ¬ HFoot bh hl mb := by obtain ⟨l, pu, pk, h1, _⟩ := h.heap; exact hmapfar h1 h.map
theorem QueT.qm : q ≠ mb := by
  obtain ⟨es, cl, e⟩ := h.map.map
  intro e2
  have := h.blk
  rw [e2, e] at this; cases this
theorem QueT.symlt : ∀ k, Sym.Foot tb lv mv k → k < w.heap.size := by
  obtain ⟨_, B', h1⟩ := QueT.inv h
  exact fun k hk => (h1.foot_lt k hk).2
theorem QueT.lt : ∀ k, QFoot q bh hl mb k → B ≤ k ∧ k < w.heap.size := by
  obtain ⟨l, pu, pk, h1, _⟩ := h.heap
  rintro k (rfl | hk | rfl)
  · exact ⟨h.base, block_lt h.blk⟩
  · exact h1.foot_lt (cmpQ q tb lv mv T) k hk
  · exact ⟨h.mbase, h.map.lt⟩
theorem QueT.keep {w' : World} (hk : ∀ k, QFoot q bh hl mb k ∨ Sym.Foot tb lv mv k → w'.heap[k]? = w.heap[k]?) : QueT B w' q tb lv mv T bh hl mb L K s := by
  obtain ⟨l, pu, pk, h1, h2, h3, h4⟩ := h.heap
  have hq := (hk q (.inl (.inl rfl))).trans h.blk
  refine ⟨h.base, hq, ⟨l, pu, pk, hinq h1 (fun k e => hk k (.inl (.inr (.inl e)))) ((QueT.inv h).mk hq (fun k e => hk k (.inr e))) h1.far, h2, h3, h4⟩, h.map.keep (hk mb (.inl (.inr (.inr rfl)))), h.mbase, h.mfar, h.qfar, h.small, h.num⟩
theorem QueT.below {w' : World} (hb : Below w.heap.size w w') : QueT B w' q tb lv mv T bh hl mb L K s :=
  QueT.keep h fun k hk => hb.block k (by
    rcases hk with hk | hk
    · exact (QueT.lt h k hk).2
    · exact QueT.symlt h k hk)

/-- a count that is below 1: the pair isn't known any more -/
theorem put_end {w' : World} {p : PK} (hm : PM w' mb (dropL K p)) (hg : w.grownBy w' (some mb)) : QueT B w' q tb lv mv T bh hl mb L (dropL K p) s ∧ Upd (QFoot q bh hl mb) (QFoot q bh hl mb) w w' := by
  obtain ⟨l, pu, pk, h1, h2, h3, h4⟩ := h.heap
  have hne : ∀ k, k < w.heap.size → k ≠ mb → w'.heap[k]? = w.heap[k]? := fun k hk e => hg.block k hk (by simpa using e)
  have hq := (hne q (block_lt h.blk) (QueT.qm h)).trans h.blk
  have hlen : (dropL K p).length ≤ K.length := List.length_filter_le _ _
  have hs := h.small
  refine ⟨⟨h.base, hq, ⟨l, pu, pk, hinq h1 (fun k e => hne k (h1.foot_lt (cmpQ q tb lv mv T) k e).2 (fun e2 => QueT.mh h (e2 ▸ e))) ((QueT.inv h).mk hq (fun k e => hne k (QueT.symlt h k e) (fun e2 => h.mfar (e2 ▸ e)))) h1.far, h2, h3, h4⟩, hm, h.mbase, h.mfar, h.qfar, ⟨hs.1, by omega⟩, h.num⟩, Upd.grown hg (fun k e => by cases e; exact .inr (.inr rfl))⟩
set_option maxHeartbeats 800000 in
set_option maxRecDepth 100000 in
theorem put_low (p : PK) (hp : P64 p) (n : Int) (hn : n < 1) :
    Calls Try.prog 15 #[qp q, vP p, .int .i64 n] w fun e w' => e = .returned (.tuple #[]) ∧ QueT B w' q tb lv mv T bh hl mb L (dropL K p) s ∧ Upd (QFoot q bh hl mb) (QFoot q bh hl mb) w w' := by
  obtain ⟨p1, p2⟩ := p
  have hb : Below w.heap.size w (w.alloc (.cells #[.int .i64 p1, .int .i64 p2] 41)) := (Below.refl _ _).alloc (Nat.le_refl _) _
  have h1 := QueT.below h hb
  have c2 := cell_at h1.blk 2
  have x0 := cell_at (heap_alloc_new w (.cells #[.int .i64 p1, .int .i64 p2] 41)) 0
  have x1 := cell_at (heap_alloc_new w (.cells #[.int .i64 p1, .int .i64 p2] 41)) 1
  simp only [qcells, List.getElem?_toArray, List.getElem?_cons_zero, List.getElem?_cons_succ] at c2 x0 x1
  have HM := Lib.hid h1.map
  have H1 := Lib.hid h1
  clear h1
  unfold qp vP
  go_enter Try.func15, Try.ntmps15
  go_wp2_with fail
  generalize w.alloc (.cells #[.int .i64 p1, .int .i64 p2] 41) = w1 at *
  go_still_tail 5, (by kernel_rfl)
  change wpList _ _ _ _ _ w1.drew
  have hd : QueT B w1.drew q tb lv mv T bh hl mb L K s := QueT.keep H1.out (fun _ _ => rfl)
  have HD := Lib.hid hd
  have HB := Lib.hid (hb.drew)
  have HPM : PM w1.drew mb K := hd.map
  clear hd hb c2 x0 x1
  generalize w1.drew = w2 at *
  refine wp_drop rfl _ _ rfl rfl HPM (p := (p1, p2)) rfl hp ?_
  intro w3 hm hg
  obtain ⟨hq3, u3⟩ := put_end HD.out hm hg
  have HQ := Lib.hid hq3
  have HU := Lib.hid u3
  clear hq3 u3 hm hg HPM
  go_wp2_with fail
  refine bodyPost_ret (results_none rfl _ _ _) rfl ?_
  exact ⟨rfl, HQ.out, (Upd.of_below HB.out).trans HU.out⟩

set_option maxHeartbeats 3200000 in
set_option maxRecDepth 100000 in
/-- a count of 1 or more: an entry is pushed -/
theorem put_high (p : PK) (hp : P64 p) (n : Int) (hn : 1 ≤ n) (hn2 : In64 n) (hsm : L.length < 1000) (hsk : K.length < 1000) (hsp : s.pushes < 1000) (hsr : s.rebuilds < 1000) :
    Calls Try.prog 15 #[qp q, vP p, .int .i64 n] w fun e w' => e = .returned (.tuple #[]) ∧ ∃ bh' hl', QueT B w' q tb lv mv T bh' hl' mb (pushL L K p n) (putL K p n) (pushS L K s p n) ∧ Upd (QFoot q bh hl mb) (QFoot q bh' hl' mb) w w' := by
  obtain ⟨p1, p2⟩ := p
  have hnum := h.num
  have hb : Below w.heap.size w (w.alloc (.cells #[.int .i64 p1, .int .i64 p2] 41)) := (Below.refl _ _).alloc (Nat.le_refl _) _
  obtain ⟨l, pu, pk, h0, a2, a3, a4⟩ := QueT.parts h
  have h1 := QP.below h0 hb
  have c1 := cell_at h1.blk 1
  have x0 := cell_at (heap_alloc_new w (.cells #[.int .i64 p1, .int .i64 p2] 41)) 0
  have x1 := cell_at (heap_alloc_new w (.cells #[.int .i64 p1, .int .i64 p2] 41)) 1
  have x2 := heap_alloc_new w (.cells #[.int .i64 p1, .int .i64 p2] 41)
  simp only [qcells, List.getElem?_toArray, List.getElem?_cons_zero, List.getElem?_cons_succ] at c1 x0 x1
  have H1 := Lib.hid h1
  have HLT := Lib.hid (QueT.lt h)
  have A2 := Lib.hid a2
  have A3 := Lib.hid a3
  have hll := a3.length_eq
  have hl1 : l.length < 1000000 := by omega
  have HLL := Lib.hid hll
  clear h1 h h0 a2 a3 hll
  unfold qp vP
  go_enter Try.func15, Try.ntmps15
  go_wp2_with fail
  generalize w.alloc (.cells #[.int .i64 p1, .int .i64 p2] 41) = w1 at *
  go_still_tail 7, (by kernel_rfl)
  change wpList _ _ _ _ _ w1.drew
  have hd := QP.keep H1.out (w' := w1.drew) (fun _ _ => rfl)
  have HD := Lib.hid hd
  have HB := Lib.hid (hb.drew)
  have X2 := Lib.hid (show w1.drew.heap[w.heap.size]? = some (.cells #[.int .i64 p1, .int .i64 p2] 41 (0, 0)) from x2)
  clear hd hb c1 x0 x1 x2 H1
  generalize w1.drew = w2 at *
  go_wp2_with fail
  refine (Heap3.push_any (cmpQ q tb lv mv T) HD.out.heap A2.out ((p1, p2), n) hl1 (by omega)).mono ?_
  rintro e w3 ⟨rfl, l', hl', b1, b2, b3, b4⟩
  have h3 := QP.turned HD.out b3 b4
  have x3 := (b4.block _ (block_lt X2.out) (fun hf => by have := (HLT.out _ (.inr (.inl hf))).2; omega)).trans X2.out
  have hll2 : l'.length = L.length + 1 := by have := b1.length_eq; have := HLL.out; simp at *; omega
  have B1 := Lib.hid (b1.trans (A3.out.cons _))
  have B2 := Lib.hid b2
  have H3 := Lib.hid h3
  have U3 := Lib.hid ((Upd.of_below (F := QFoot q bh hl mb) HB.out).trans (b4.foot0 (G := QFoot q bh hl mb) (fun k hk => .inr (.inl hk))))
  have HLL2 := Lib.hid hll2
  have c2 := cell_at h3.blk 2
  have x0 := cell_at x3 0
  have x1 := cell_at x3 1
  simp only [qcells, List.getElem?_toArray, List.getElem?_cons_zero, List.getElem?_cons_succ] at c2 x0 x1
  clear b1 b2 b3 b4 x3 hll2 A2 X2 hl1 h3 A3 HB HD
  go_wp2_with fail
  go_still_tail 6, (by kernel_rfl)
  change wpList _ _ _ _ _ w3.drew
  refine wp_put rfl _ _ _ rfl rfl (PM.keep H3.out.map (w' := w3.drew) rfl) (by omega) (p := (p1, p2)) rfl rfl hp hn2 ?_
  intro w4 hm hg
  have h4 := QP.known (QP.keep H3.out (w' := w3.drew) (fun _ _ => rfl)) hm hg
  have H4 := Lib.hid h4
  have U4 := Lib.hid ((U3.out.drew).trans ((Upd.grown hg (F := fun k => HFoot bh hl' k ∨ QFoot q bh hl mb k) (fun k e => by cases e; exact .inr (.inr (.inr rfl))))))
  have y5 := cell_at h4.blk 5
  have f5 := frozen_at h4.blk 5
  simp only [qcells, List.getElem?_toArray, List.getElem?_cons_zero, List.getElem?_cons_succ] at y5
  clear c2 x0 x1 h4 hm hg H3 U3
  go_wp2_with fail
  have h5 := QP.stat H4.out (w' := w4.setCell ⟨q, 5, none⟩ (.int .i64 (s.pushes + 1))) (s' := { s with pushes := s.pushes + 1 }) (set_stat H4.out.blk 5 _ rfl) (fun k hk => set_blk_eq hk)
  have H5 := Lib.hid h5
  have U5 := Lib.hid (U4.out.trans (Upd.set (p := ⟨q, 5, none⟩) (u := .int .i64 (s.pushes + 1)) (.inr (.inl rfl))))
  clear h5 H4 U4 y5 f5
  generalize w4.setCell ⟨q, 5, none⟩ (.int .i64 (s.pushes + 1)) = w5 at *
  have hlen5 : Calls Try.prog 55 #[.pointer (some ⟨bh, 0, none⟩)] w5.drew fun e w'' => e = .returned (.int .i64 ((L.length : Int) + 1)) ∧ w'' = w5.drew :=
    (Heap3.len_any (QP.keep H5.out (w' := w5.drew) (fun _ _ => rfl)).heap).mono fun e w' hh => ⟨by rw [hh.1, HLL2.out]; rfl, hh.2.symm⟩
  have HLQ := Lib.hid hlen5
  have y1 := cell_at H5.out.blk 1
  have y7 := cell_at H5.out.blk 7
  simp only [qcells, List.getElem?_toArray, List.getElem?_cons_zero, List.getElem?_cons_succ] at y1 y7
  clear hlen5
  obtain ⟨M, hM⟩ : ∃ M, max s.peak ((L.length : Int) + 1) = M := ⟨_, rfl⟩
  have hif : (if s.peak < (L.length : Int) + 1 then (L.length : Int) + 1 else s.peak) = M := by rw [← hM]; split <;> omega
  have HM := Lib.hid hM
  have hM2 : 0 ≤ M ∧ M ≤ 1000 := by omega
  clear hM
  go_still_tail 15, (by kernel_rfl)
  still_call HLQ.out
  repeat still_step
  refine wpStill_nil ?_
  change wpList _ _ _ _ _ w5.drew
  have h6 := QP.keep H5.out (w' := w5.drew) (fun _ _ => rfl)
  have H6 := Lib.hid h6
  have U6 := Lib.hid U5.out.drew
  clear HLQ y1 y7 H5 U5 h6
  generalize w5.drew = w6 at *
  have f7 := frozen_at H6.out.blk 7
  have c7 := cell_at H6.out.blk 7
  have c1 := cell_at H6.out.blk 1
  simp only [qcells, List.getElem?_toArray, List.getElem?_cons_zero, List.getElem?_cons_succ] at c7 c1
  go_wp2_with fail
  have h7 := QP.stat H6.out (w' := w6.setCell ⟨q, 7, none⟩ (.int .i64 M)) (s' := { s with pushes := s.pushes + 1, peak := M }) (set_stat H6.out.blk 7 _ rfl) (fun k hk => set_blk_eq hk)
  have H7 := Lib.hid h7
  have U7 := Lib.hid (U6.out.trans (Upd.set (p := ⟨q, 7, none⟩) (u := .int .i64 M) (.inr (.inl rfl))))
  clear h7 H6 U6 c7 f7 c1
  generalize w6.setCell ⟨q, 7, none⟩ (.int .i64 M) = w7 at *
  refine (Heap3.len_any H7.out.heap).mono ?_
  rintro e w8 ⟨rfl, rfl⟩
  rw [HLL2.out, show ((L.length + 1 : Nat) : Int) = (L.length : Int) + 1 by omega]
  have hfull : pu + 1 ≤ s.pushes + 1 ∧ (((p1, p2), n) :: L).length ≤ 1000 ∧ (putL K (p1, p2) n).length ≤ 1000 := by
    have : (dropL K (p1, p2)).length ≤ K.length := List.length_filter_le _ _
    simp [putL]; omega
  have hnum2 : 0 ≤ s.pushes + 1 ∧ s.pushes + 1 ≤ 1000 ∧ 0 ≤ s.pops ∧ s.pops ≤ 1000 ∧ 0 ≤ M ∧ M ≤ 1000 ∧ 0 ≤ s.rebuilds ∧ s.rebuilds ≤ 1000 := ⟨by omega, by omega, hnum.2.2.1, hnum.2.2.2.1, hM2.1, hM2.2, hnum.2.2.2.2.2.2.1, hnum.2.2.2.2.2.2.2⟩
  have hU : Upd (QFoot q bh hl mb) (QFoot q bh hl' mb) w w7 := U7.out.foot (fun k hk => .inl (by
    rcases hk with h1 | h1 | h1
    · exact .inr (.inl h1)
    · exact .inl h1
    · exact .inr (.inr (.inr h1))))
  have HU := Lib.hid hU
  have HFU := Lib.hid hfull
  have HN2 := Lib.hid hnum2
  clear hU hfull hnum2
  by_cases h16 : L.length + 1 ≤ 16
  · have hg : decide (16 < (L.length : Int) + 1) = false := by simp; omega
    go_wp2_with fail
    go_end0
    refine ⟨rfl, bh, hl', ?_, HU.out⟩
    rw [pushL_no (.inl h16), pushS_no (.inl h16), HM.out]
    exact QP.full H7.out B2.out B1.out HFU.out.1 HFU.out.2 HN2.out
  · have hg : decide (16 < (L.length : Int) + 1) = true := by simp; omega
    have hkl : (putL K (p1, p2) n).length ≤ 1000 := HFU.out.2.2
    have hrun := fun ty => H7.out.map.len_run ty
    have c2 := cell_at H7.out.blk 2
    simp only [qcells, List.getElem?_toArray, List.getElem?_cons_zero, List.getElem?_cons_succ] at c2
    by_cases hk2 : L.length + 1 ≤ 2 * (putL K (p1, p2) n).length
    · have PL := Lib.hid (pushL_no (L := L) (K := K) (p := (p1, p2)) (n := n) (.inr hk2))
      have PS := Lib.hid (pushS_no (L := L) (K := K) (p := (p1, p2)) (n := n) (s := s) (.inr hk2))
      generalize hkn : (putL K (p1, p2) n).length = kn at *
      have HKN := Lib.hid hkn
      clear hkn
      have hg2 : decide (2 * (kn : Int) < (L.length : Int) + 1) = false := by simp; omega
      go_wp2_with fail
      go_end0
      refine ⟨rfl, bh, hl', ?_, HU.out⟩
      rw [PL.out, PS.out, HM.out]
      exact QP.full H7.out B2.out B1.out HFU.out.1 ⟨HFU.out.2.1, by rw [HKN.out]; exact HFU.out.2.2⟩ HN2.out
    · have PL := Lib.hid (pushL_yes (L := L) (K := K) (p := (p1, p2)) (n := n) (by omega) (by omega))
      have PS := Lib.hid (pushS_yes (L := L) (K := K) (p := (p1, p2)) (n := n) (s := s) (by omega) (by omega))
      have HB := Lib.hid (build_any H7.out hkl ⟨hnum.2.2.2.2.2.2.1, hnum.2.2.2.2.2.2.2⟩)
      generalize hkn : (putL K (p1, p2) n).length = kn at *
      have HKN := Lib.hid hkn
      clear hkn
      have hg2 : decide (2 * (kn : Int) < (L.length : Int) + 1) = true := by simp; omega
      go_wp2_with fail
      refine HB.out.mono ?_
      rintro e w9 ⟨rfl, bh2, hl2, l2, r1, r2, r3, r4⟩
      have R1 := Lib.hid r1
      have R2 := Lib.hid r2
      have R3 := Lib.hid r3
      have R4 := Lib.hid r4
      clear r1 r2 r3 r4
      go_wp2_with fail
      go_end0
      refine ⟨rfl, bh2, hl2, ?_, HU.out.trans R4.out⟩
      rw [PL.out, PS.out, HM.out]
      have h1 := HN2.out
      exact QP.full R1.out R2.out R3.out (by show (0 : Int) ≤ s.pushes + 1; omega) ⟨by rw [HKN.out]; exact hkl, by rw [HKN.out]; exact hkl⟩ ⟨h1.1, h1.2.1, h1.2.2.1, h1.2.2.2.1, h1.2.2.2.2.1, h1.2.2.2.2.2.1, by show 0 ≤ s.rebuilds + 1; omega, by show s.rebuilds + 1 ≤ 1000; omega⟩
end
end Go.Proofs.Ythpdamkpefgmaaa.LazyPut
