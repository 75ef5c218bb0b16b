/- Layer 14: Clone, Of, walked. -/
import Derived.Test.YthpdamkpefgmaaaHeapO3
import Derived.Test.YthpdamkpefgmaaaSrc
namespace Go.Proofs.Ythpdamkpefgmaaa.Heap3
open Go.RowKit Base Foot Src HeapPure
set_option linter.unusedVariables false
attribute [local go_sem ↓] Go.wp_at_zero Go.wp_at_succ
set_option linter.unusedSectionVars false
theorem enc_one (l : List Item) : ∀ u ∈ l.flatMap enc, u.oneCell' = true := by
  intro u hu
  obtain ⟨x, _, hx⟩ := List.mem_flatMap.1 hu
  simp [enc] at hx
  rcases hx with rfl | rfl | rfl <;> rfl
set_option maxHeartbeats 800000 in
set_option maxRecDepth 100000 in
theorem clone_any (A : Option Addr) (c : Nat) (l : List Item) (w : World) (h : Src w 3 A l.length (l.flatMap enc)) (hc : l.length ≤ 1000000) :
    Calls Try.prog 67 #[.slice A l.length c] w fun e w' => ∃ v, e = .returned v ∧ w'.ownsRow w.heap.size 48 3 v l.length (l.flatMap enc) ∧ Below w.heap.size w w' := by
  obtain ⟨i0, hi, hz0, hz1, hz2⟩ := info_parts infoI
  have hnn := fun (W : World) => Lib.run_eql_slice_nil (P := Try.prog) W 58 48 A l.length c 0 0 Try.underlying58
  cases A with
  | none =>
    have h0 : l = [] := by
      cases l with
      | nil => rfl
      | cons a t => obtain ⟨ad, e, _⟩ := h.2 (by simp); cases e
    subst h0
    simp only [List.length_nil] at hnn
    go_enter Try.func67, Try.ntmps67
    go_wp2
    go_ret
    exact ⟨_, rfl, World.ownsRow_nil _ _ _ _, Below.refl _ _⟩
  | some ad =>
    have h' := h.alloc (.cells #[] 48)
    have ho := own_empty w w.heap.size 48 3 (Nat.le_refl _)
    clear h
    go_enter Try.func67, Try.ntmps67
    go_wp2_with (first
      | (at_builtin; refine wpList_append_src _ rfl _ _ 58 rfl w.heap.size 48 i0 _ 3 24 Try.underlying58 hi hz0 hz1 hz2 rfl (by decide) _ _ _ (by rfl) ho _ _ _ _ (by rfl) h' (enc_one l) (by unfold maxLen; omega) (by omega) (by simp) ?_; intro v' w1 hown1 hgrow1 hat1))
    go_ret
    refine ⟨_, rfl, by simpa using hown1, ((Below.refl _ _).alloc (Nat.le_refl _) _).grown hgrow1 (by simp) (fun k hk => ?_)⟩
    cases hk
    exact Nat.le_refl _
section
variable {fp : Value} {F : Nat} {lt : Item → Item → Bool} {I : World → Prop} {G : Nat → Prop} (hC : Cmp fp F lt I G)
include hC
set_option maxHeartbeats 1600000 in
set_option maxRecDepth 100000 in
/-- a heap of items -/
theorem of_any (A : Option Addr) (c : Nat) (l : List Item) (w : World) (h : Src w 3 A l.length (l.flatMap enc)) (hc : l.length ≤ 1000000) (hI : I w) :
    Calls Try.prog 79 #[.func (.func F) #[fp] #[], .slice A l.length c] w fun e w' => e = .returned (.pointer (some ⟨w.heap.size, 0, none⟩)) ∧ ∃ l' lv', l'.Perm l ∧ HeapFrom lt l' 0 ∧ HeapT fp F I G w.heap.size w' w.heap.size lv' l' 0 (l.length : Int) ∧ Below w.heap.size w w' := by
  have hfe := fn_eq F #[fp] #[]
  go_enter Try.func79, Try.ntmps79
  go_wp2_with fail
  refine (new_any hC w hI).mono ?_
  rintro e w1 ⟨rfl, h1, b1⟩
  have hs1 := h.below b1
  have hlw : w.heap.size < w1.heap.size := block_lt h1.blk
  go_wp2_with fail
  refine (clone_any A c l w1 hs1 hc).mono ?_
  rintro e w2 ⟨v, rfl, ho, b2⟩
  have h2 := h1.below hC b2
  have b12 : Below w.heap.size w w2 := b1.trans (b2.mono b1.size)
  obtain ⟨A2, cap2, rfl, hA2⟩ : ∃ A2 cap2, v = .slice A2 l.length cap2 ∧ (0 < l.length → ∃ g, A2 = some ⟨g, 0, none⟩) := by
    rcases ho.2 with ⟨rfl, h0⟩ | ⟨g, cap, cur, rfl, _⟩
    · exact ⟨none, 0, by rw [h0], fun h => by omega⟩
    · exact ⟨_, _, rfl, fun _ => ⟨g, rfl⟩⟩
  have ho' : w2.ownsRow w.heap.size 48 3 (.slice A2 l.length cap2) l.length (l.flatMap enc) := by
    obtain ⟨q1, q2⟩ := ho
    refine ⟨q1, ?_⟩
    rcases q2 with q2 | ⟨g, cap, cur, e, hb, q⟩
    · exact .inl q2
    · exact .inr ⟨g, cap, cur, e, by omega, q⟩
  have hput := h1.put hC (w2 := w2) (lv' := .slice A2 l.length cap2) (l' := l) (Upd.of_below b2) (b2.block _ hlw) ho' (fun k hk => .inr (ho.lt k hk).1) hc
  obtain ⟨h3, u3⟩ := hput
  obtain ⟨h4, u4⟩ := h3.num3 hC (l.length : Int) (by omega)
  have hff := h1.foot_lt hC
  have hb4 : Below w.heap.size w ((w2.setCell ⟨w.heap.size, 0, none⟩ (.slice A2 l.length cap2)).setCell ⟨w.heap.size, 3, none⟩ (.int .i64 (l.length : Int))) :=
    (b12.setCell (Nat.le_refl _) _).setCell (Nat.le_refl _) _
  have H4 := Lib.hid h4
  generalize hrb : w.heap.size = B at *
  have HRB := Lib.hid hrb
  clear hrb
  have c0 := cell_at h2.blk 0
  have c3 := cell_at h2.blk 3
  have f0 := frozen_at h2.blk 0
  have f3 := frozen_at h2.blk 3
  simp only [List.getElem?_toArray, List.getElem?_cons_zero, List.getElem?_cons_succ] at c0 c3
  clear h3 u3 u4 h4 h1 h2
  have hhalf := heap_half (lt := lt) (l := l) (s := l.length / 2) (Nat.le_refl _)
  go_wp2_with fail
  go_loopw [6] (fun v6 wr => ∃ (k : Nat) (l' : List Item), k ≤ l.length / 2 ∧ v6 = .int .i64 ((k : Int) - 1) ∧ l'.Perm l ∧ Hid (HeapFrom lt l' k) ∧ HeapT fp F I G B wr B (.slice A2 l.length cap2) l' 0 (l.length : Int) ∧ Below B w wr) (fun i _ => ((intOf i) + 1).toNat)
  case atStart => exact ⟨l.length / 2, l, Nat.le_refl _, by congr 1, List.Perm.refl _, hhalf, H4.out, hb4⟩
  case round =>
    obtain ⟨k, l', hk, rfl, hP, hH, hT, hW⟩ := hrel
    have hlen := hP.length_eq
    cases k with
    | zero =>
      go_wp2_with fail
      go_ret
      exact ⟨by rw [HRB.out]; rfl, l', _, hP, hH, by rw [HRB.out]; exact hT, by rw [HRB.out]; exact hW⟩
    | succ j =>
      obtain ⟨g, rfl⟩ := hA2 (by omega)
      have HT := Lib.hid hT
      have hT2 := hT
      rw [← hlen] at hT2
      have HLEN := Lib.hid hlen
      have hj : j < l'.length := by omega
      have hdn := down_any hC hT2 j hj hH
      have HDN := Lib.hid hdn
      clear hlen hT2 hdn hT
      go_wp2_with fail
      refine HDN.out.mono ?_
      rintro e w5 ⟨rfl, l5, p1, p2, p3, p4⟩
      have hl5 : l5.length = l.length := p1.length_eq.trans HLEN.out
      rw [hl5, HLEN.out] at p3
      have P3 := Lib.hid p3
      clear hl5 p3
      have hgB := (HT.out.row.lt g rfl).1
      have hBz := Nat.le_of_lt (block_lt HT.out.blk)
      go_wp2_with fail
      go_roundw
      case rel => exact ⟨j, l5, by omega, by go_num, p1.trans hP, p2, P3.out, hW.grown p4 hBz (fun q hq => by cases hq; exact hgB)⟩
      case measure => simp [intOf]
end
end Go.Proofs.Ythpdamkpefgmaaa.Heap3
