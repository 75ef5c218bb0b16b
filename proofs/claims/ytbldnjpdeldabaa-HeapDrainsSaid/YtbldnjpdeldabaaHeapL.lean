/- Layer 14: the laws' own order and heap. -/
import Derived.Test.YtbldnjpdeldabaaHeapI
namespace Go.Proofs.Ytbldnjpdeldabaa.Heap
open Go.RowKit Base Foot Src HeapPure
set_option linter.unusedVariables false
attribute [local go_sem ↓] Go.wp_at_zero Go.wp_at_succ
def ltB (x y : Item) : Bool := decide (y.1 < x.1)
theorem ltB_ord : Ord ltB := ⟨fun a b h => by simp [ltB] at *; omega, fun a b c h1 h2 => by simp [ltB] at *; omega⟩
abbrev IT : World → Prop := fun _ => True
abbrev GF : Nat → Prop := fun _ => False
set_option maxHeartbeats 400000 in
theorem of1_any (x y : Item) (w : World) : Calls Try.prog 72 #[val x, val y] w fun e w' => e = .returned (.bool (ltB x y)) ∧ Below w.heap.size w w' := by
  obtain ⟨xa, xb⟩ := x
  obtain ⟨ya, yb⟩ := y
  unfold val
  go_enter Try.func72, Try.ntmps72
  go_wp2
  go_ret
  exact ⟨rfl, ((Below.refl _ _).alloc (Nat.le_refl _) _).alloc (by simp) _⟩
set_option maxHeartbeats 400000 in
theorem same1_any (x y : Item) (w : World) : Calls Try.prog 51 #[val x, val y] w fun e w' => e = .returned (.bool (ltB x y)) ∧ Below w.heap.size w w' := by
  obtain ⟨xa, xb⟩ := x
  obtain ⟨ya, yb⟩ := y
  unfold val
  go_enter Try.func51, Try.ntmps51
  go_wp2
  go_ret
  exact ⟨rfl, ((Below.refl _ _).alloc (Nat.le_refl _) _).alloc (by simp) _⟩
theorem cmp1 : Cmp 72 ltB IT GF := ⟨ltB_ord, enters_of Try.func72 (by kernel_rfl) rfl, fun w x y _ => of1_any x y w, fun _ _ _ _ => trivial, fun _ _ _ h => h.elim⟩
theorem cmp2 : Cmp 51 ltB IT GF := ⟨ltB_ord, enters_of Try.func51 (by kernel_rfl) rfl, fun w x y _ => same1_any x y w, fun _ _ _ _ => trivial, fun _ _ _ h => h.elim⟩
theorem HeapT.rebase {F : Nat} {I : World → Prop} {G : Nat → Prop} {B B' : Nat} {w : World} {b : Nat} {lv : Value} {l : List Item} {pu pk : Int} (h : HeapT F I G B w b lv l pu pk) (hB : B' ≤ B) : HeapT F I G B' w b lv l pu pk := by
  obtain ⟨q1, q2⟩ := h.row
  refine ⟨Nat.le_trans hB h.base, h.blk, ⟨q1, ?_⟩, h.small, h.num, h.inv, h.far⟩
  rcases q2 with q2 | ⟨g, cap, cur, e, hb, q⟩
  · exact .inl q2
  · exact .inr ⟨g, cap, cur, e, by omega, q⟩
set_option maxHeartbeats 800000 in
set_option maxRecDepth 100000 in
theorem lawof_any (A : Option Addr) (c : Nat) (l : List Item) (w : World) (h : Src w 2 A l.length (l.flatMap enc)) (hc : l.length ≤ 1000000) :
    Calls Try.prog 30 #[.slice A l.length c] w fun e w' => ∃ b, e = .returned (.pointer (some ⟨b, 0, none⟩)) ∧ ∃ l' lv', l'.Perm l ∧ HeapFrom ltB l' 0 ∧ HeapT 72 IT GF w.heap.size w' b lv' l' 0 (l.length : Int) ∧ Below w.heap.size w w' := by
  obtain ⟨i0, hi, hz0, hz1, hz2⟩ := info_parts infoI
  have h' := h.alloc (.cells #[] 66)
  have ho := own_empty w w.heap.size 66 2 (Nat.le_refl _)
  clear h
  go_enter Try.func30, Try.ntmps30
  go_wp2_with (first
    | (at_builtin; refine wpList_append_src _ rfl _ _ 56 rfl w.heap.size 66 i0 _ 2 16 Try.underlying56 hi hz0 hz1 hz2 rfl (by decide) _ _ _ (by rfl) ho _ _ _ _ (by rfl) h' (enc_one l) (by unfold maxLen; omega) (by omega) (by simp) ?_; intro v' w1 hown1 hgrow1 hat1))
  have b1 : Below w.heap.size w w1 := ((Below.refl _ _).alloc (Nat.le_refl _) _).grown hgrow1 (by simp) (fun k hk => by cases hk; exact Nat.le_refl _)
  simp only [Nat.zero_add, List.nil_append] at hown1
  obtain ⟨A2, cap2, rfl⟩ : ∃ A2 cap2, v' = .slice A2 l.length cap2 := by
    rcases hown1.2 with ⟨rfl, h0⟩ | ⟨g, cap, cur, rfl, _⟩
    · exact ⟨none, 0, by rw [h0]⟩
    · exact ⟨_, _, rfl⟩
  refine (of_any cmp1 A2 cap2 l w1 (Src.of_own hown1) hc trivial).mono ?_
  rintro e w2 ⟨rfl, l', lv', p1, p2, p3, b2⟩
  go_wp2_with fail
  go_ret
  exact ⟨_, rfl, l', lv', p1, p2, p3.rebase b1.size, b1.trans (b2.mono b1.size)⟩
end Go.Proofs.Ytbldnjpdeldabaa.Heap
