/- gluepotref12: a pair's count is set, walked. -/
import Derived.Test.YthpdamkpefgmaaaRefCnt
import Derived.Test.YthpdamkpefgmaaaHeapPure
import Derived.BigRegion
namespace Go.Proofs.Ythpdamkpefgmaaa.RefCnt
open Go.RowKit Go.Maps Go.ChangeShapes Go.WideShapes Go.Deep Go.Proofs.YthpdamkpefgmaaaW.PrintWords Go.Proofs.YthpdamkpefgmaaaW.PrintLast Go.Proofs.YthpdamkpefgmaaaW.PrintMore Base Foot ExtTail PMap
set_option linter.unusedVariables false
set_option linter.unusedSimpArgs false
attribute [local go_sem ↓] Go.wp_at_zero Go.wp_at_succ
attribute [local go_sem high] eqP

theorem infoP : (Try.prog.info? 41).map (fun i => (i.zero, i.size, i.bytes)) = some (some (.agg #[.int .i64 0, .int .i64 0]), 2, 16) := by kernel_rfl
theorem infoN : (Try.prog.info? 3).map (fun i => (i.zero, i.size, i.bytes)) = some (some (.int .i64 0), 1, 8) := by kernel_rfl
def befB (a b : PK) : Bool := decide (a.1 < b.1) || (decide (a.1 = b.1) && decide (a.2 < b.2))
theorem before_any (w : World) (a b : PK) : Calls Try.prog 80 #[vP a, vP b] w fun e w' => e = .returned (.bool (befB a b)) ∧ Below w.heap.size w w' := by
  obtain ⟨a1, a2⟩ := a
  obtain ⟨b1, b2⟩ := b
  unfold vP
  have e1 := alloc_blk (x := .cells #[.int .i64 b1, .int .i64 b2] 41) (heap_alloc_new w (.cells #[.int .i64 a1, .int .i64 a2] 41))
  have e2 : ((w.alloc (.cells #[.int .i64 a1, .int .i64 a2] 41)).alloc (.cells #[.int .i64 b1, .int .i64 b2] 41)).heap[w.heap.size + 1]? = some (.cells #[.int .i64 b1, .int .i64 b2] 41 (0, 0)) := by
    have := heap_alloc_new (w.alloc (.cells #[.int .i64 a1, .int .i64 a2] 41)) (.cells #[.int .i64 b1, .int .i64 b2] 41)
    simpa using this
  have bb : Below w.heap.size w ((w.alloc (.cells #[.int .i64 a1, .int .i64 a2] 41)).alloc (.cells #[.int .i64 b1, .int .i64 b2] 41)) := ((Below.refl _ _).alloc (Nat.le_refl _) _).alloc (by simp) _
  have c0 := cell_at e1 0
  have c1 := cell_at e1 1
  have d0 := cell_at e2 0
  have d1 := cell_at e2 1
  simp only [List.getElem?_toArray, List.getElem?_cons_zero, List.getElem?_cons_succ] at c0 c1 d0 d1
  clear e1 e2
  go_enter Try.func80, Try.ntmps80
  by_cases h1 : a1 < b1
  · have hb : befB (a1, a2) (b1, b2) = true := by simp [befB, h1]
    have HB := Lib.hid hb
    clear hb
    go_wp2_with fail
    go_ret
    exact ⟨by rw [HB.out]; rfl, bb⟩
  · by_cases h2 : a1 = b1
    · subst h2
      have hb : befB (a1, a2) (a1, b2) = decide (a2 < b2) := by simp [befB]
      have HB := Lib.hid hb
      clear hb
      go_wp2_with fail
      go_ret
      exact ⟨by rw [HB.out]; rfl, bb⟩
    · have hb : befB (a1, a2) (b1, b2) = false := by simp [befB, h1, h2]
      have h3 : (a1 == b1) = false := by simpa using h2
      have HB := Lib.hid hb
      clear hb
      go_wp2_with fail
      go_ret
      exact ⟨by rw [HB.out]; rfl, bb⟩
theorem mul_one_any (a : Int) (h : 0 ≤ a ∧ a ≤ 9223372036854775807) (w : World) :
    Calls Try.prog 58 #[.int .i64 a, .int .i64 1] w fun e w' => e = .returned (.tuple #[.int .i64 a, .bool true]) ∧ w = w' := by
  have h1 : IntKind.i64.wrap (a * 1) = a := by rw [Int.mul_one]; exact IntWalk.i64_in _ (by omega)
  have h2 : Int.tdiv 9223372036854775807 1 = 9223372036854775807 := by decide
  go_enter Try.func58, Try.ntmps58
  go_wp2
  go_ret2
  exact ⟨rfl, rfl⟩
theorem add_zero_any (a : Int) (h : 0 ≤ a ∧ a ≤ 9223372036854775807) (w : World) :
    Calls Try.prog 59 #[.int .i64 0, .int .i64 a] w fun e w' => e = .returned (.tuple #[.int .i64 a, .bool true]) ∧ w = w' := by
  have h1 : IntKind.i64.wrap (0 + a) = a := by rw [Int.zero_add]; exact IntWalk.i64_in _ (by omega)
  go_enter Try.func59, Try.ntmps59
  go_wp2
  go_ret2
  exact ⟨rfl, rfl⟩
theorem take_drop_step {m : List (PK × Int)} {p : PK} {i : Nat} {x : PK × Int} (h : m[i]? = some x) : dropL (m.take (i + 1)) p = dropL (m.take i) p ++ (if x.1 = p then [] else [x]) := by
  obtain ⟨hi, e⟩ := List.getElem?_eq_some_iff.1 h
  rw [List.take_succ_eq_append_getElem hi, e]
  unfold dropL
  rw [List.filter_append]
  by_cases hp : x.1 = p
  · simp [hp]
  · simp [hp]
end Go.Proofs.Ythpdamkpefgmaaa.RefCnt
