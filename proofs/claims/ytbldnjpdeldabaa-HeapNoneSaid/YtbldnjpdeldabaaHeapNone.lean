/- HeapNone: of a nil heap, and of one without an order, nothing is got. No condition. -/
import Derived.Test.YtbldnjpdeldabaaHeapB
import Derived.Test.YtbldnjpdeldabaaHeapA
import Derived.Lib.SmallJoins
namespace Go.Proofs.Ytbldnjpdeldabaa.HeapNone
open Go.RowKit Go.ChangeShapes Go.WideShapes Go.Deep Base Foot Src HeapPure Heap
set_option linter.unusedVariables false
attribute [local go_sem ↓] Go.wp_at_zero Go.wp_at_succ
set_option maxHeartbeats 1600000 in
set_option maxRecDepth 100000 in
theorem law_any (x : Heap.Item) (w : World) : Calls Try.prog 10 #[val x] w fun e w' => e = .returned (.bool true) ∧ Below w.heap.size w w' := by
  obtain ⟨xa, xb⟩ := x
  have e0 : ∀ w' : World, Below (w.alloc (.cells #[.int .i64 xa, .int .i64 xb] 66)).heap.size (w.alloc (.cells #[.int .i64 xa, .int .i64 xb] 66)) w' → w'.cell? ⟨w.heap.size, 0, none⟩ = some (.int .i64 xa) ∧ w'.cell? ⟨w.heap.size, 1, none⟩ = some (.int .i64 xb) := fun w' hb => ⟨local_at hb 0 _ rfl, local_at hb 1 _ rfl⟩
  have E0 := Lib.hid e0
  clear e0
  have b0 : Below w.heap.size w (w.alloc (.cells #[.int .i64 xa, .int .i64 xb] 66)) := (Below.refl _ _).alloc (Nat.le_refl _) _
  have hz : w.heap.size ≤ (w.alloc (.cells #[.int .i64 xa, .int .i64 xb] 66)).heap.size := b0.size
  unfold val
  go_enter Try.func10, Try.ntmps10
  go_wp2_with fail
  generalize w.alloc (.cells #[.int .i64 xa, .int .i64 xb] 66) = w0 at *
  refine (awake_any _).mono ?_
  rintro e w1 ⟨rfl, b1⟩
  obtain ⟨x0, x1⟩ := E0.out _ b1
  go_wp2_with fail
  refine (push_nil (xa, xb) _).mono ?_
  rintro e w2 ⟨rfl, b2⟩
  replace b2 := b1.trans (b2.mono b1.size)
  clear x0 x1 b1
  obtain ⟨x0, x1⟩ := E0.out _ b2
  go_wp2_with fail
  refine (of_bare _ _).mono ?_
  rintro e w3 ⟨rfl, h3, b3⟩
  have b3' := (b2.alloc b2.size (.cells #[.int .i64 xa, .int .i64 xb, .int .i64 xa, .int .i64 xb] 66)).trans (b3.mono (by simp; have := b2.size; omega))
  clear x0 x1 b2 b3
  obtain ⟨x0, x1⟩ := E0.out _ b3'
  generalize ((w2.alloc (.cells #[.int .i64 xa, .int .i64 xb, .int .i64 xa, .int .i64 xb] 66)).heap.size) = hb at *
  go_wp2_with fail
  refine (push_bare h3 (xa, xb)).mono ?_
  rintro e w4 ⟨rfl, b4⟩
  have h4 := h3.below b4
  have b4' := b3'.trans (b4.mono b3'.size)
  go_wp2_with fail
  refine (pop_dead _ _ (fun w' _ => dead_nil w')).mono ?_
  rintro e w5 ⟨rfl, b5⟩
  have h5 := h4.below b5
  have b5' := b4'.trans (b5.mono b4'.size)
  clear b3' b4 b4' b5 h3 h4 x0 x1
  unfold val
  go_wp2_with fail
  have a5 := (Below.refl w5.heap.size w5).alloc (Nat.le_refl _) (.cells #[.int .i64 0, .int .i64 0] 66)
  have h6 := h5.below a5
  refine (top_dead _ _ (fun w' hb => dead_bare (h6.below hb))).mono ?_
  rintro e w6 ⟨rfl, b6⟩
  have h7 := h6.below b6
  have p0 := local_at b6 0 _ rfl
  have p1 := local_at b6 1 _ rfl
  have b7 := (b5'.alloc b5'.size (.cells #[.int .i64 0, .int .i64 0] 66)).trans (b6.mono (by simp; have := b5'.size; omega))
  have hz6 : w5.heap.size < w6.heap.size := by have := b6.size; simp at this; omega
  clear a5 h5 h6 b5'
  unfold val
  go_wp2_with fail
  have a7 := (Below.refl w6.heap.size w6).alloc (Nat.le_refl _) (.cells #[.int .i64 0, .int .i64 0] 66)
  have h8 := h7.below a7
  refine (pop_dead _ _ (fun w' hb => dead_bare (h8.below hb))).mono ?_
  rintro e w7 ⟨rfl, b8⟩
  have h9 := h8.below b8
  have q0 := local_at b8 0 _ rfl
  have q1 := local_at b8 1 _ rfl
  have hz7 : w6.heap.size < w7.heap.size := by have := b8.size; simp at this; omega
  have g0 := (b8.cell (p := ⟨w5.heap.size, 0, none⟩) (by simp; omega)).trans ((World.cell?_alloc_lt w6 (.cells #[.int .i64 0, .int .i64 0] 66) ⟨w5.heap.size, 0, none⟩ hz6).trans p0)
  have g1 := (b8.cell (p := ⟨w5.heap.size, 1, none⟩) (by simp; omega)).trans ((World.cell?_alloc_lt w6 (.cells #[.int .i64 0, .int .i64 0] 66) ⟨w5.heap.size, 1, none⟩ hz6).trans p1)
  have b9 := (b7.alloc b7.size (.cells #[.int .i64 0, .int .i64 0] 66)).trans (b8.mono (by simp; have := b7.size; omega))
  have h10 := h9.below ((Below.refl w7.heap.size w7).alloc (Nat.le_refl _) (.cells #[.int .i64 0, .int .i64 0] 66))
  have G0 := (World.cell?_alloc_lt w7 (.cells #[.int .i64 0, .int .i64 0] 66) ⟨w5.heap.size, 0, none⟩ (Nat.lt_trans hz6 hz7)).trans g0
  have G1 := (World.cell?_alloc_lt w7 (.cells #[.int .i64 0, .int .i64 0] 66) ⟨w5.heap.size, 1, none⟩ (Nat.lt_trans hz6 hz7)).trans g1
  have Q0 := (World.cell?_alloc_lt w7 (.cells #[.int .i64 0, .int .i64 0] 66) ⟨w6.heap.size, 0, none⟩ hz7).trans q0
  have Q1 := (World.cell?_alloc_lt w7 (.cells #[.int .i64 0, .int .i64 0] 66) ⟨w6.heap.size, 1, none⟩ hz7).trans q1
  clear h7 h8 a7 b8 b7 b6 p0 p1 g0 g1 q0 q1
  unfold val
  go_wp2_with fail
  refine (len_nil _).mono ?_
  rintro e w8 ⟨rfl, rfl⟩
  go_wp2_with fail
  refine (pushes_nil _).mono ?_
  rintro e w8 ⟨rfl, rfl⟩
  go_wp2_with fail
  refine (peak_nil _).mono ?_
  rintro e w8 ⟨rfl, rfl⟩
  go_wp2_with fail
  refine (len_bare h10).mono ?_
  rintro e w8 ⟨rfl, rfl⟩
  go_wp2_with fail
  refine (pushes_bare h10).mono ?_
  rintro e w8 ⟨rfl, rfl⟩
  go_wp2_with fail
  refine (peak_bare h10).mono ?_
  rintro e w8 ⟨rfl, rfl⟩
  go_wp2_with fail
  go_ret
  exact ⟨rfl, (b0.trans (b9.mono hz)).alloc (Nat.le_trans hz b9.size) _⟩
section
variable {H : Type} {enc' : TypeId × Value → H} {w : World} {base : Nat} {spare : Nat → Bool} {held : Bool}
set_option maxRecDepth 100000 in
theorem agg_Item {r : Reach} {b0 : Nat} {v : Value} {d : DataW H} {p : List MemPlace} (hv : Value.okWide Try.prog w r b0 66 v) (h : DataW.Trod enc' Try.prog w base spare held 66 v d p) :
    ∃ x : Heap.Item, v = val x ∧ (In64 x.1 ∧ In64 x.2) := by
  obtain ⟨v0, v1, y0, y1, n, rfl, _, _, h0, h1⟩ := Joins.open_agg2 Try.underlying66 (by kernel_rfl) (by kernel_rfl) hv h
  obtain ⟨k0, e0, _, w0⟩ := DataW.trod_int Try.underlying3 h0
  obtain ⟨k1, e1, _, w1⟩ := DataW.trod_int Try.underlying3 h1
  cases e0
  cases e1
  exact ⟨(k0, k1), rfl, OpenArg.wf_in w0, OpenArg.wf_in w1⟩
end
theorem walk (W : World) (x : Heap.Item) (hx : In64 x.1 ∧ In64 x.2) : Calls Try.prog 10 #[val x] W fun e w' => e = .returned (.bool true) ∧ Below W.heap.size W w' := law_any x W
end Go.Proofs.Ytbldnjpdeldabaa.HeapNone
