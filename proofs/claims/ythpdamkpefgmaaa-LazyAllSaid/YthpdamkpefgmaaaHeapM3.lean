/- Layer 14: the heap's other calls, walked. -/
import Derived.Test.YthpdamkpefgmaaaHeapD3
namespace Go.Proofs.Ythpdamkpefgmaaa.Heap3
open Go.RowKit Base Foot HeapPure
set_option linter.unusedVariables false
attribute [local go_sem ↓] Go.wp_at_zero Go.wp_at_succ
set_option linter.unusedSectionVars false
theorem fn_eq (F : Nat) (f c : Array Value) (w : World) : (binOp .eql 102 (.func (.func F) f c) .nilFunc).run Try.prog w = .ok (.bool false) w := by kernel_rfl
theorem nil_eq (w : World) : (binOp .eql 102 .nilFunc .nilFunc).run Try.prog w = .ok (.bool true) w := by kernel_rfl
set_option maxHeartbeats 400000 in
theorem len_nil (w : World) : Calls Try.prog 55 #[.pointer none] w fun e w' => e = .returned (.int .i64 0) ∧ w = w' := by
  go_enter Try.func55, Try.ntmps55
  go_wp2
  go_ret
  exact ⟨rfl, rfl⟩
section
variable {fp : Value} {F : Nat} {I : World → Prop} {G : Nat → Prop} {B : Nat} {w : World} {b : Nat} {lv : Value} {l : List Item} {pu pk : Int} (h : HeapT fp F I G B w b lv l pu pk)
include h
theorem HeapT.slice : ∃ A cap, lv = .slice A l.length cap ∧ l.length ≤ cap ∧ (0 < l.length → ∃ g, A = some ⟨g, 0, none⟩) := by
  rcases h.row.2 with ⟨rfl, h0⟩ | ⟨g, cap, cur, rfl, _, _, hc, _⟩
  · exact ⟨none, 0, by rw [h0], by omega, fun h => by omega⟩
  · exact ⟨_, _, rfl, hc, fun _ => ⟨g, rfl⟩⟩
set_option maxHeartbeats 400000 in
theorem len_any : Calls Try.prog 55 #[.pointer (some ⟨b, 0, none⟩)] w fun e w' => e = .returned (.int .i64 (l.length : Int)) ∧ w = w' := by
  obtain ⟨A, cap, rfl, _⟩ := h.slice
  have c0 := cell_at h.blk 0
  simp only [List.getElem?_toArray, List.getElem?_cons_zero] at c0
  go_enter Try.func55, Try.ntmps55
  go_wp2
  go_ret
  exact ⟨rfl, rfl⟩
set_option maxHeartbeats 400000 in
theorem dead_any : Calls Try.prog 77 #[.pointer (some ⟨b, 0, none⟩)] w fun e w' => e = .returned (.bool false) ∧ w = w' := by
  have c0 := cell_at h.blk 1
  simp only [List.getElem?_toArray, List.getElem?_cons_zero, List.getElem?_cons_succ] at c0
  have hfe := fn_eq F #[fp] #[]
  go_enter Try.func77, Try.ntmps77
  go_wp2
  go_ret
  exact ⟨rfl, rfl⟩
end
set_option maxHeartbeats 400000 in
theorem dead_nil (w : World) : Calls Try.prog 77 #[.pointer none] w fun e w' => e = .returned (.bool true) ∧ w = w' := by
  go_enter Try.func77, Try.ntmps77
  go_wp2
  go_ret
  exact ⟨rfl, rfl⟩
section
variable {fp : Value} {F : Nat} {lt : Item → Item → Bool} {I : World → Prop} {G : Nat → Prop} (hC : Cmp fp F lt I G)
include hC
set_option maxHeartbeats 400000 in
theorem new_any (w : World) (hI : I w) : Calls Try.prog 52 #[.func (.func F) #[fp] #[]] w fun e w' => e = .returned (.pointer (some ⟨w.heap.size, 0, none⟩)) ∧ HeapT fp F I G w.heap.size w' w.heap.size (.slice none 0 0) [] 0 0 ∧ Below w.heap.size w w' := by
  have hG := fun k hk => hC.lt w k hI hk
  have hk := hC.keep w
  have HK := Lib.hid hk
  clear hk
  go_enter Try.func52, Try.ntmps52
  go_wp2
  go_ret
  refine ⟨rfl, ⟨Nat.le_refl _, heap_alloc_new _ _, World.ownsRow_nil _ _ _ _, by simp, by omega, HK.out _ hI (fun k hk => Below.heap_alloc _ _ _ (hG k hk)), fun k hk hf => ?_⟩, (Below.refl _ _).alloc (Nat.le_refl _) _⟩
  have := hG k hk
  rcases hf with rfl | h1
  · omega
  · cases h1
set_option maxHeartbeats 800000 in
set_option maxRecDepth 100000 in
theorem top_any {B : Nat} {w : World} {b : Nat} {lv : Value} {l : List Item} {pu pk : Int} (h : HeapT fp F I G B w b lv l pu pk) :
    Calls Try.prog 99 #[.pointer (some ⟨b, 0, none⟩)] w fun e w' => e = .returned (.tuple #[val (l.headD ((0, 0), 0)), .bool (!l.isEmpty)]) ∧ Below w.heap.size w w' := by
  have hal := h.below hC ((Below.refl _ _).alloc (Nat.le_refl _) (.cells #[.int .i64 0, .int .i64 0, .int .i64 0] 48))
  have HA := Lib.hid hal
  have hs := h.small
  obtain ⟨A, cap, rfl, hcap, hA⟩ := h.slice
  clear hal h
  match l, hA, hs, hcap, HA with
  | [], hA, hs, hcap, HA =>
    have c0 := cell_at HA.out.blk 0
    simp only [List.getElem?_toArray, List.getElem?_cons_zero] at c0
    go_enter Try.func99, Try.ntmps99
    go_wp2_with fail
    refine (dead_any HA.out).mono ?_
    rintro e w1 ⟨rfl, rfl⟩
    go_wp2_with fail
    refine bodyPost_ret (v := .tuple #[.agg #[.int .i64 0, .int .i64 0, .int .i64 0], .bool false]) (by simp [results, Try.results99, go_sem]) rfl ⟨rfl, ?_⟩
    exact (Below.refl _ _).alloc (Nat.le_refl _) _
  | r :: t, hA, hs, hcap, HA =>
    obtain ⟨g, rfl⟩ := hA (by simp)
    have c0 := cell_at HA.out.blk 0
    simp only [List.getElem?_toArray, List.getElem?_cons_zero] at c0
    obtain ⟨g1, cap1, e, _, hxj⟩ := own_get enc_len HA.out.row (by omega) (i := 0) (x := r) rfl
    cases e
    obtain ⟨⟨xa, xb⟩, xc⟩ := r
    have x0 := hxj 0 _ rfl
    have x1 := hxj 1 _ rfl
    have x2 := hxj 2 _ rfl
    simp only [Nat.zero_mul, Nat.zero_add] at x0 x1 x2
    clear hxj
    go_enter Try.func99, Try.ntmps99
    go_wp2_with fail
    refine (dead_any HA.out).mono ?_
    rintro e w1 ⟨rfl, rfl⟩
    go_wp2_with fail
    refine bodyPost_ret (v := .tuple #[.agg #[.int .i64 xa, .int .i64 xb, .int .i64 xc], .bool true]) (by simp [results, Try.results99, go_sem]) rfl ⟨rfl, ?_⟩
    exact (Below.refl _ _).alloc (Nat.le_refl _) _
end
end Go.Proofs.Ythpdamkpefgmaaa.Heap3
