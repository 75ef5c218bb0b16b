/- Layer 14: a nil heap, and one without an order. -/
import Derived.Test.YtbldnjpdeldabaaHeapL
namespace Go.Proofs.Ytbldnjpdeldabaa.Heap
open Go.RowKit Base Foot Src HeapPure
set_option linter.unusedVariables false
attribute [local go_sem ↓] Go.wp_at_zero Go.wp_at_succ
/-- a heap without an order, at block b -/
def Bare (w : World) (b : Nat) : Prop := w.heap[b]? = some (.cells #[.slice none 0 0, .nilFunc, .int .i64 0, .int .i64 0] 129 (0, 0))
theorem Bare.below {w w' : World} {b : Nat} (h : Bare w b) (hb : Below w.heap.size w w') : Bare w' b := (hb.block b (block_lt h)).trans h
set_option maxHeartbeats 400000 in
theorem dead_bare {w : World} {b : Nat} (h : Bare w b) : Calls Try.prog 79 #[.pointer (some ⟨b, 0, none⟩)] w fun e w' => e = .returned (.bool true) ∧ w = w' := by
  have c0 := cell_at h 1
  simp only [List.getElem?_toArray, List.getElem?_cons_zero, List.getElem?_cons_succ] at c0
  have hfe := nil_eq
  go_enter Try.func79, Try.ntmps79
  go_wp2
  go_ret
  exact ⟨rfl, rfl⟩
set_option maxHeartbeats 400000 in
theorem push_nil (x : Item) (w : World) : Calls Try.prog 44 #[.pointer none, val x] w fun e w' => e = .returned (.tuple #[]) ∧ Below w.heap.size w w' := by
  obtain ⟨xa, xb⟩ := x
  unfold val
  go_enter Try.func44, Try.ntmps44
  go_wp2_with fail
  refine (dead_nil _).mono ?_
  rintro e w1 ⟨rfl, rfl⟩
  go_wp2_with fail
  refine bodyPost_ret (results_none rfl _ _ _) rfl ?_
  exact ⟨rfl, (Below.refl _ _).alloc (Nat.le_refl _) _⟩
set_option maxHeartbeats 400000 in
theorem push_bare {w : World} {b : Nat} (h : Bare w b) (x : Item) : Calls Try.prog 44 #[.pointer (some ⟨b, 0, none⟩), val x] w fun e w' => e = .returned (.tuple #[]) ∧ Below w.heap.size w w' := by
  obtain ⟨xa, xb⟩ := x
  unfold val
  go_enter Try.func44, Try.ntmps44
  go_wp2_with fail
  refine (dead_bare (h.below ((Below.refl _ _).alloc (Nat.le_refl _) _))).mono ?_
  rintro e w1 ⟨rfl, rfl⟩
  go_wp2_with fail
  refine bodyPost_ret (results_none rfl _ _ _) rfl ?_
  exact ⟨rfl, (Below.refl _ _).alloc (Nat.le_refl _) _⟩
set_option maxHeartbeats 400000 in
set_option maxRecDepth 100000 in
theorem top_dead (p : Value) (w : World) (h : ∀ w', Below w.heap.size w w' → Calls Try.prog 79 #[p] w' fun e w'' => e = .returned (.bool true) ∧ w' = w'') :
    Calls Try.prog 43 #[p] w fun e w' => e = .returned (.tuple #[val (0, 0), .bool false]) ∧ Below w.heap.size w w' := by
  have H := Lib.hid h
  clear h
  go_enter Try.func43, Try.ntmps43
  go_wp2_with fail
  refine (H.out _ ((Below.refl _ _).alloc (Nat.le_refl _) _)).mono ?_
  rintro e w1 ⟨rfl, rfl⟩
  go_wp2_with fail
  refine bodyPost_ret (v := .tuple #[.agg #[.int .i64 0, .int .i64 0], .bool false]) (by simp [results, Try.results43, go_sem]) rfl ⟨rfl, ?_⟩
  exact (Below.refl _ _).alloc (Nat.le_refl _) _
set_option maxHeartbeats 800000 in
set_option maxRecDepth 100000 in
theorem pop_dead (p : Value) (w : World) (h : ∀ w', Below w.heap.size w w' → Calls Try.prog 79 #[p] w' fun e w'' => e = .returned (.bool true) ∧ w' = w'') :
    Calls Try.prog 46 #[p] w fun e w' => e = .returned (.tuple #[val (0, 0), .bool false]) ∧ Below w.heap.size w w' := by
  have H := Lib.hid h
  clear h
  go_enter Try.func46, Try.ntmps46
  go_wp2_with fail
  refine (top_dead _ _ (fun w' hb => H.out w' (((Below.refl w.heap.size w).alloc (Nat.le_refl _) (.cells #[.int .i64 0, .int .i64 0] 66)).trans (hb.mono (by simp))))).mono ?_
  rintro e w1 ⟨rfl, b1⟩
  have l0 := local_at b1
  have L0 := Lib.hid l0
  clear l0
  have z0 := L0.out 0 _ rfl
  have z1 := L0.out 1 _ rfl
  simp only [List.getElem_toArray, List.getElem_cons_zero, List.getElem_cons_succ] at z0 z1
  have hbb : Below w.heap.size w w1 := ((Below.refl w.heap.size w).alloc (Nat.le_refl _) (.cells #[.int .i64 0, .int .i64 0] 66)).trans (b1.mono (by simp))
  have hlw : w.heap.size < w1.heap.size := by have := b1.size; simp at this; omega
  have hfz : ∀ o, w1.frozen? ⟨w.heap.size, o, none⟩ = false := fun o => by
    rw [b1.frozen (p := ⟨w.heap.size, o, none⟩) (by simp)]
    exact frozen_at (heap_alloc_new w _) o
  unfold val
  go_wp2_with fail
  refine bodyPost_ret (v := .tuple #[.agg #[.int .i64 0, .int .i64 0], .bool false]) ?_ rfl ⟨rfl, ?_⟩
  · have e2 := alloc_blk (x := .cells #[.int .i64 0, .int .i64 0] 66) (set_two (x := .int .i64 0) (y := .int .i64 0)  (local_blk b1))
    have r0 := cell_at e2 0
    have r1 := cell_at e2 1
    simp only [List.getElem?_toArray, List.getElem?_cons_zero, List.getElem?_cons_succ] at r0 r1
    simp [results, Try.results46, go_sem, r0, r1]
  · exact ((hbb.setCell (by simp) _).setCell (by simp) _).alloc (by simp [World.setCell]; omega) _
set_option maxHeartbeats 400000 in
theorem new_bare (w : World) : Calls Try.prog 50 #[.nilFunc] w fun e w' => e = .returned (.pointer (some ⟨w.heap.size, 0, none⟩)) ∧ Bare w' w.heap.size ∧ Below w.heap.size w w' := by
  go_enter Try.func50, Try.ntmps50
  go_wp2
  go_ret
  exact ⟨rfl, heap_alloc_new _ _, (Below.refl _ _).alloc (Nat.le_refl _) _⟩
set_option maxHeartbeats 400000 in
theorem of_bare (s : Value) (w : World) : Calls Try.prog 49 #[.nilFunc, s] w fun e w' => e = .returned (.pointer (some ⟨w.heap.size, 0, none⟩)) ∧ Bare w' w.heap.size ∧ Below w.heap.size w w' := by
  have hfe := nil_eq
  go_enter Try.func49, Try.ntmps49
  go_wp2_with fail
  refine (new_bare w).mono ?_
  rintro e w1 ⟨rfl, h1, b1⟩
  go_wp2_with fail
  go_ret
  exact ⟨rfl, h1, b1⟩
set_option maxHeartbeats 400000 in
theorem len_bare {w : World} {b : Nat} (h : Bare w b) : Calls Try.prog 34 #[.pointer (some ⟨b, 0, none⟩)] w fun e w' => e = .returned (.int .i64 0) ∧ w = w' := by
  have c0 := cell_at h 0
  simp only [List.getElem?_toArray, List.getElem?_cons_zero] at c0
  go_enter Try.func34, Try.ntmps34
  go_wp2
  go_ret
  exact ⟨rfl, rfl⟩
set_option maxHeartbeats 400000 in
theorem pushes_bare {w : World} {b : Nat} (h : Bare w b) : Calls Try.prog 47 #[.pointer (some ⟨b, 0, none⟩)] w fun e w' => e = .returned (.int .i64 0) ∧ w = w' := by
  have c0 := cell_at h 2
  simp only [List.getElem?_toArray, List.getElem?_cons_zero, List.getElem?_cons_succ] at c0
  go_enter Try.func47, Try.ntmps47
  go_wp2
  go_ret
  exact ⟨rfl, rfl⟩
set_option maxHeartbeats 400000 in
theorem peak_bare {w : World} {b : Nat} (h : Bare w b) : Calls Try.prog 48 #[.pointer (some ⟨b, 0, none⟩)] w fun e w' => e = .returned (.int .i64 0) ∧ w = w' := by
  have c0 := cell_at h 3
  simp only [List.getElem?_toArray, List.getElem?_cons_zero, List.getElem?_cons_succ] at c0
  go_enter Try.func48, Try.ntmps48
  go_wp2
  go_ret
  exact ⟨rfl, rfl⟩
end Go.Proofs.Ytbldnjpdeldabaa.Heap
