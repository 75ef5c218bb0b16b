/- Layer 10: which pair is ahead, which item is better, walked. -/
import Derived.Test.YthpdamkpefgmaaaCmp
import Derived.Test.YthpdamkpefgmaaaSym2
import Derived.Test.YthpdamkpefgmaaaSymPure2
namespace Go.Proofs.Ythpdamkpefgmaaa.PairW
open Go.RowKit Go.Maps Go.WideMaps Base Foot ExtTail CmpW SymPure Sym
set_option linter.unusedVariables false
set_option linter.unusedSimpArgs false

def ordS (T : List J) (p q : Int × Int) : Int := orI (cmpS (textS T p.1) (textS T q.1)) (cmpS (textS T p.2) (textS T q.2))
def cmpIt (T : List J) (x y : (Int × Int) × Int) : Int := orI (cmpI y.2 x.2) (ordS T x.1 y.1)
def betB (T : List J) (x y : (Int × Int) × Int) : Bool := decide (cmpIt T x y < 0)

section
variable {B : Nat} {w : World} {b : Nat} {lv mv : Value} {T : List J} (h : SymT B w b lv mv T)
include h
set_option maxHeartbeats 400000 in
theorem ptext_any (id : Int) : Calls Try.prog 92 #[.pointer (some ⟨b, 0, none⟩), .int .i64 id] w fun e w' => e = .returned (.string (textS T id)) ∧ Below w.heap.size w w' := by
  go_enter Try.func92, Try.ntmps92
  go_wp2_with fail
  refine (text_all h id).mono ?_
  rintro e w1 ⟨rfl, b1⟩
  go_wp2_with fail
  go_ret
  exact ⟨rfl, b1⟩
set_option maxHeartbeats 1600000 in
set_option maxRecDepth 100000 in
theorem order_any (p q : Int × Int) :
    Calls Try.prog 70 #[.pointer (some ⟨b, 0, none⟩), .agg #[.int .i64 p.1, .int .i64 p.2], .agg #[.int .i64 q.1, .int .i64 q.2]] w fun e w' => e = .returned (.int .i64 (ordS T p q)) ∧ Below w.heap.size w w' := by
  obtain ⟨p1, p2⟩ := p
  obtain ⟨q1, q2⟩ := q
  have b2 : Below w.heap.size w ((w.alloc (.cells #[.int .i64 p1, .int .i64 p2] 41)).alloc (.cells #[.int .i64 q1, .int .i64 q2] 41)) := ((Below.refl _ _).alloc (Nat.le_refl _) _).alloc (by simp) _
  have e1 := alloc_blk (x := .cells #[.int .i64 q1, .int .i64 q2] 41) (heap_alloc_new w (.cells #[.int .i64 p1, .int .i64 p2] 41))
  have e2 : ((w.alloc (.cells #[.int .i64 p1, .int .i64 p2] 41)).alloc (.cells #[.int .i64 q1, .int .i64 q2] 41)).heap[w.heap.size + 1]? = some (.cells #[.int .i64 q1, .int .i64 q2] 41 (0, 0)) := by
    have := heap_alloc_new (w.alloc (.cells #[.int .i64 p1, .int .i64 p2] 41)) (.cells #[.int .i64 q1, .int .i64 q2] 41)
    simpa using this
  have h2 := h.below b2
  go_enter Try.func70, Try.ntmps70
  go_wp2_with fail
  generalize (w.alloc (.cells #[.int .i64 p1, .int .i64 p2] 41)).alloc (.cells #[.int .i64 q1, .int .i64 q2] 41) = w2 at *
  have c0 := fun g => Ext.cell (u := .int .i64 p1) (cell_at e1 0) g
  have c1 := fun g => Ext.cell (u := .int .i64 p2) (cell_at e1 1) g
  have c2 := fun g => Ext.cell (u := .int .i64 q1) (cell_at e2 0) g
  have c3 := fun g => Ext.cell (u := .int .i64 q2) (cell_at e2 1) g
  refine wp_region_ext_tail 18 (by kernel_rfl) (by kernel_rfl) ?_
  simp only [List.take_succ_cons, List.take_zero, List.drop_succ_cons, List.drop_zero]
  repeat (quiet_step (first
    | (go_at_call 92; exact ext_of (ptext_any (h2.below (Ext.below _)) _))
    | (go_at_call 91; exact ext_same (compare_s _ _ _))))
  refine wpQuiet_nil ?_
  rintro _ ⟨⟨w3, b3⟩, rfl⟩
  go_wp2_with fail
  refine (or_two (heap_alloc_new _ _)).mono ?_
  rintro e w4 ⟨rfl, rfl⟩
  go_wp2_with fail
  go_ret
  exact ⟨rfl, b2.trans ((b3.mono b2.size).alloc (Nat.le_trans b2.size b3.size) _)⟩
set_option maxHeartbeats 1600000 in
set_option maxRecDepth 100000 in
theorem compareIt_any (x y : (Int × Int) × Int) :
    Calls Try.prog 62 #[.pointer (some ⟨b, 0, none⟩), .agg #[.int .i64 x.1.1, .int .i64 x.1.2, .int .i64 x.2], .agg #[.int .i64 y.1.1, .int .i64 y.1.2, .int .i64 y.2]] w fun e w' => e = .returned (.int .i64 (cmpIt T x y)) ∧ Below w.heap.size w w' := by
  obtain ⟨⟨x1, x2⟩, xn⟩ := x
  obtain ⟨⟨y1, y2⟩, yn⟩ := y
  have b2 : Below w.heap.size w ((w.alloc (.cells #[.int .i64 x1, .int .i64 x2, .int .i64 xn] 48)).alloc (.cells #[.int .i64 y1, .int .i64 y2, .int .i64 yn] 48)) := ((Below.refl _ _).alloc (Nat.le_refl _) _).alloc (by simp) _
  have e1 := alloc_blk (x := .cells #[.int .i64 y1, .int .i64 y2, .int .i64 yn] 48) (heap_alloc_new w (.cells #[.int .i64 x1, .int .i64 x2, .int .i64 xn] 48))
  have e2 : ((w.alloc (.cells #[.int .i64 x1, .int .i64 x2, .int .i64 xn] 48)).alloc (.cells #[.int .i64 y1, .int .i64 y2, .int .i64 yn] 48)).heap[w.heap.size + 1]? = some (.cells #[.int .i64 y1, .int .i64 y2, .int .i64 yn] 48 (0, 0)) := by
    have := heap_alloc_new (w.alloc (.cells #[.int .i64 x1, .int .i64 x2, .int .i64 xn] 48)) (.cells #[.int .i64 y1, .int .i64 y2, .int .i64 yn] 48)
    simpa using this
  have h2 := h.below b2
  go_enter Try.func62, Try.ntmps62
  go_wp2_with fail
  generalize (w.alloc (.cells #[.int .i64 x1, .int .i64 x2, .int .i64 xn] 48)).alloc (.cells #[.int .i64 y1, .int .i64 y2, .int .i64 yn] 48) = w2 at *
  have c0 := fun g => Ext.cell (u := .int .i64 x1) (cell_at e1 0) g
  have c1 := fun g => Ext.cell (u := .int .i64 x2) (cell_at e1 1) g
  have c2 := fun g => Ext.cell (u := .int .i64 xn) (cell_at e1 2) g
  have d0 := fun g => Ext.cell (u := .int .i64 y1) (cell_at e2 0) g
  have d1 := fun g => Ext.cell (u := .int .i64 y2) (cell_at e2 1) g
  have d2 := fun g => Ext.cell (u := .int .i64 yn) (cell_at e2 2) g
  refine wp_region_ext_tail 11 (by kernel_rfl) (by kernel_rfl) ?_
  simp only [List.take_succ_cons, List.take_zero, List.drop_succ_cons, List.drop_zero]
  repeat (quiet_step (first
    | (go_at_call 70; exact ext_of (order_any (h2.below (Ext.below _)) (x1, x2) (y1, y2)))
    | (go_at_call 84; exact ext_same (compare_i _ _ _))))
  refine wpQuiet_nil ?_
  rintro _ ⟨⟨w3, b3⟩, rfl⟩
  go_wp2_with fail
  refine (or_two (heap_alloc_new _ _)).mono ?_
  rintro e w4 ⟨rfl, rfl⟩
  go_wp2_with fail
  go_ret
  exact ⟨rfl, b2.trans ((b3.mono b2.size).alloc (Nat.le_trans b2.size b3.size) _)⟩
set_option maxHeartbeats 800000 in
set_option maxRecDepth 100000 in
theorem better_any (x y : (Int × Int) × Int) :
    Calls Try.prog 26 #[.pointer (some ⟨b, 0, none⟩), .agg #[.int .i64 x.1.1, .int .i64 x.1.2, .int .i64 x.2], .agg #[.int .i64 y.1.1, .int .i64 y.1.2, .int .i64 y.2]] w fun e w' => e = .returned (.bool (betB T x y)) ∧ Below w.heap.size w w' := by
  obtain ⟨⟨x1, x2⟩, xn⟩ := x
  obtain ⟨⟨y1, y2⟩, yn⟩ := y
  have b2 : Below w.heap.size w ((w.alloc (.cells #[.int .i64 x1, .int .i64 x2, .int .i64 xn] 48)).alloc (.cells #[.int .i64 y1, .int .i64 y2, .int .i64 yn] 48)) := ((Below.refl _ _).alloc (Nat.le_refl _) _).alloc (by simp) _
  have e1 := alloc_blk (x := .cells #[.int .i64 y1, .int .i64 y2, .int .i64 yn] 48) (heap_alloc_new w (.cells #[.int .i64 x1, .int .i64 x2, .int .i64 xn] 48))
  have e2 : ((w.alloc (.cells #[.int .i64 x1, .int .i64 x2, .int .i64 xn] 48)).alloc (.cells #[.int .i64 y1, .int .i64 y2, .int .i64 yn] 48)).heap[w.heap.size + 1]? = some (.cells #[.int .i64 y1, .int .i64 y2, .int .i64 yn] 48 (0, 0)) := by
    have := heap_alloc_new (w.alloc (.cells #[.int .i64 x1, .int .i64 x2, .int .i64 xn] 48)) (.cells #[.int .i64 y1, .int .i64 y2, .int .i64 yn] 48)
    simpa using this
  have h2 := h.below b2
  go_enter Try.func26, Try.ntmps26
  go_wp2_with fail
  refine (compareIt_any h2 ((x1, x2), xn) ((y1, y2), yn)).mono ?_
  rintro e w3 ⟨rfl, b3⟩
  go_wp2_with fail
  go_ret
  exact ⟨rfl, b2.trans (b3.mono b2.size)⟩
end

/-! ### the order is one -/
theorem cmpI_swap (a b : Int) : cmpI b a = - cmpI a b := by unfold cmpI; split <;> split <;> (try split) <;> (try split) <;> omega
end Go.Proofs.Ythpdamkpefgmaaa.PairW
