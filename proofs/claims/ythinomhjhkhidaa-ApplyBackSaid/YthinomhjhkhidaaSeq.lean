/- Layer 11: a word as a chain of cells in memory; the pair at a place, walked. -/
import Derived.Test.YthinomhjhkhidaaSeqPure
import Derived.Test.YthinomhjhkhidaaMEntry
import Derived.Test.YthinomhjhkhidaaMExt
import Derived.Test.YthinomhjhkhidaaWMore
import Derived.BigRegion
import Derived.Deep.RegionWith
import Derived.Deep.DrawnRows
namespace Go.Proofs.Ythinomhjhkhidaa.SeqM
open Go.RowKit Go.Maps Go.Proofs.YthinomhjhkhidaaW.PrintWords Go.Proofs.YthinomhjhkhidaaW.PrintLast Go.Proofs.YthinomhjhkhidaaW.PrintMore Base Foot ExtTail PMap SeqPure
set_option linter.unusedVariables false
set_option linter.unusedSimpArgs false
attribute [local go_sem ↓] Go.wp_at_zero Go.wp_at_succ

abbrev tS : TypeId := 126
abbrev tC : TypeId := 128
def encC (c : Cel) : List Value := [.int .i64 c.1, .int .i64 c.2.1, .int .i64 c.2.2]
theorem encC_len (c : Cel) : (encC c).length = 3 := rfl
def SFoot (b : Nat) (sv : Value) (k : Nat) : Prop := k = b ∨ sv.ownBlock = some k
structure SeqT (B : Nat) (w : World) (b : Nat) (sv : Value) (C : List Cel) (X : List Knot) : Prop where
  blk : w.heap[b]? = some (.cells #[sv, .int .i64 (nxe X (-1)), .int .i64 (X.length : Int)] tS (0, 0))
  row : w.ownsRow B tC 3 sv C.length (C.flatMap encC)
  seg : Seg C (-1) X (-1)
  idx : Idx X
  num : C.length ≤ 100000
  sym : ∀ x ∈ X, In64 x.2
section
variable {B : Nat} {w w' : World} {b : Nat} {sv : Value} {C : List Cel} {X : List Knot} (h : SeqT B w b sv C X)
include h
theorem SeqT.keep (hk : ∀ k, SFoot b sv k → w'.heap[k]? = w.heap[k]?) : SeqT B w' b sv C X :=
  ⟨(hk b (.inl rfl)).trans h.blk, own_keep h.row (fun k e => hk k (.inr e)), h.seg, h.idx, h.num, h.sym⟩
theorem SeqT.lt : ∀ k, SFoot b sv k → k < w.heap.size := by
  rintro k (rfl | hk)
  · exact block_lt h.blk
  · exact (h.row.lt k hk).2
theorem SeqT.below (hb : Below w.heap.size w w') : SeqT B w' b sv C X := h.keep fun k hk => hb.block k (h.lt k hk)
theorem SeqT.bne : ∀ k, sv.ownBlock = some k → k ≠ b := by
  rintro k hk rfl
  exact row_not_cells h.row h.blk (by decide) hk
theorem SeqT.at_ {i : Nat} {c : Cel} (hi : C[i]? = some c) : ∃ (g cap : Nat), sv = .slice (some ⟨g, 0, none⟩) C.length cap ∧ C.length ≤ cap ∧ i < C.length ∧ w.cell? ⟨g, i * 3, none⟩ = some (.int .i64 c.1) ∧ w.cell? ⟨g, i * 3 + 1, none⟩ = some (.int .i64 c.2.1) ∧ w.cell? ⟨g, i * 3 + 2, none⟩ = some (.int .i64 c.2.2) := by
  obtain ⟨g, cap, h1, h2, h3⟩ := own_get encC_len h.row (by omega) hi
  exact ⟨g, cap, h1, h2, (List.getElem?_eq_some_iff.1 hi).1, by simpa using h3 0 _ rfl, h3 1 _ rfl, h3 2 _ rfl⟩
end
theorem buildP (a b : Int) (w : World) : (Instr.build 94 #[(0, .int .i64 a), (1, .int .i64 b)]).run Try.prog w = .ok (.agg #[.int .i64 a, .int .i64 b]) w := run_build w _ _ _ (by kernel_rfl)
theorem buildP0 (w : World) : (Instr.build 94 #[]).run Try.prog w = .ok (.agg #[.int .i64 0, .int .i64 0]) w := run_build w _ _ _ (by kernel_rfl)

attribute [-go_sem] Instr.build
attribute [local go_sem high] buildP buildP0

set_option maxHeartbeats 800000 in
set_option maxRecDepth 100000 in
theorem pair_neg {B : Nat} {w : World} {b : Nat} {sv : Value} {C : List Cel} {X : List Knot} (h : SeqT B w b sv C X) (i : Int) (hi : i < 0) :
    Calls Try.prog 79 #[.pointer (some ⟨b, 0, none⟩), .int .i64 i] w fun e w' => e = .returned (.tuple #[vP (0, 0), .bool false]) ∧ Below w.heap.size w w' := by
  have hd : decide (i < 0) = true := by simpa using hi
  clear h
  go_enter Try.func79, Try.ntmps79
  go_wp2_with fail
  exact bodyPost_ret (v := .tuple #[.agg #[.int .i64 0, .int .i64 0], .bool false]) (by simp [results, Try.results79, go_sem]) rfl ⟨rfl, ((Below.refl _ _).alloc (Nat.le_refl _) _)⟩
set_option maxHeartbeats 1600000 in
set_option maxRecDepth 100000 in
theorem pair_last {B : Nat} {w : World} {b : Nat} {sv : Value} {C : List Cel} {X : List Knot} (h : SeqT B w b sv C X) {i : Nat} {s p : Int} (hi : C[i]? = some (s, p, -1)) :
    Calls Try.prog 79 #[.pointer (some ⟨b, 0, none⟩), .int .i64 i] w fun e w' => e = .returned (.tuple #[vP (0, 0), .bool false]) ∧ Below w.heap.size w w' := by
  have b0 : Below w.heap.size w (w.alloc (.cells #[.int .i64 0, .int .i64 0] 94)) := (Below.refl _ _).alloc (Nat.le_refl _) _
  have h0 := h.below b0
  obtain ⟨g, cap, rfl, hcap, hlt, y0, y1, y2⟩ := h0.at_ hi
  have c0 := cell_at h0.blk 0
  simp only [List.getElem?_toArray, List.getElem?_cons_zero, List.getElem?_cons_succ] at c0 y0 y1 y2
  have hnum := h.num
  have hd : decide ((i : Int) < 0) = false := by simp
  have hil : (i : Int) < (C.length : Int) := by omega
  clear h h0 hi b0
  go_enter Try.func79, Try.ntmps79
  go_wp2_with fail
  exact bodyPost_ret (v := .tuple #[.agg #[.int .i64 0, .int .i64 0], .bool false]) (by simp [results, Try.results79, go_sem]) rfl ⟨rfl, ((Below.refl _ _).alloc (Nat.le_refl _) _)⟩
set_option maxHeartbeats 1600000 in
set_option maxRecDepth 100000 in
theorem pair_some {B : Nat} {w : World} {b : Nat} {sv : Value} {C : List Cel} {X : List Knot} (h : SeqT B w b sv C X) {i j : Nat} {s p t p' n' : Int} (hi : C[i]? = some (s, p, (j : Int))) (hj : C[j]? = some (t, p', n')) :
    Calls Try.prog 79 #[.pointer (some ⟨b, 0, none⟩), .int .i64 i] w fun e w' => e = .returned (.tuple #[vP (s, t), .bool true]) ∧ Below w.heap.size w w' := by
  have b0 : Below w.heap.size w (w.alloc (.cells #[.int .i64 0, .int .i64 0] 94)) := (Below.refl _ _).alloc (Nat.le_refl _) _
  have x0 := heap_alloc_new w (.cells #[.int .i64 0, .int .i64 0] 94)
  have h0 := h.below b0
  obtain ⟨g, cap, rfl, hcap, hlt, y0, y1, y2⟩ := h0.at_ hi
  obtain ⟨g', cap', e, _, hlt', z0, z1, z2⟩ := h0.at_ hj
  cases e
  have c0 := cell_at h0.blk 0
  simp only [List.getElem?_toArray, List.getElem?_cons_zero, List.getElem?_cons_succ] at c0 y0 y1 y2 z0 z1 z2
  have hnum := h.num
  have hd : decide ((i : Int) < 0) = false := by simp
  have hd2 : decide ((j : Int) < 0) = false := by simp
  have hil : (i : Int) < (C.length : Int) := by omega
  have hjl : (j : Int) < (C.length : Int) := by omega
  have hi0 : (0 : Int) ≤ (i : Int) := by omega
  have hj0 : (0 : Int) ≤ (j : Int) := by omega
  clear h h0 hi hj
  go_enter Try.func79, Try.ntmps79
  go_wp2_with fail
  generalize w.alloc (.cells #[.int .i64 0, .int .i64 0] 94) = W0 at *
  have e0 := fun g => Ext.cell c0 g
  have e1 := fun g => Ext.cell y0 g
  have e3 := fun g => Ext.cell y2 g
  have e4 := fun g => Ext.cell z0 g
  refine wp_region_ext_tail 23 (by kernel_rfl) (by kernel_rfl) ?_
  simp only [List.take_succ_cons, List.take_zero, List.drop_succ_cons, List.drop_zero]
  repeat (quiet_step (fail))
  refine wpQuiet_nil ?_
  rintro w3 ⟨⟨_, b3⟩, rfl⟩
  have x3 := (b3.block _ (block_lt x0)).trans x0
  have q0 := cell_at x3 0
  have q1 := cell_at x3 1
  have f0 := frozen_at x3 0
  have f1 := frozen_at x3 1
  simp only [List.getElem?_toArray, List.getElem?_cons_zero, List.getElem?_cons_succ] at q0 q1
  have B03 := Lib.hid (b0.trans (b3.mono b0.size))
  have X3 := Lib.hid x3
  clear e0 e1 e3 e4 b0 b3 x0 x3 c0 y0 y1 y2 z0 z1 z2
  go_wp2_with fail
  exact bodyPost_ret (v := .tuple #[.agg #[.int .i64 s, .int .i64 t], .bool true]) (by simp [results, Try.results79, go_sem, cell_at (set_two X3.out), q0, q1]) rfl ⟨rfl, (B03.out.setCell (Nat.le_refl _) _).setCell (Nat.le_refl _) _⟩
end Go.Proofs.Ythinomhjhkhidaa.SeqM
