/- gluepotref12: Add, once: a count is taken away, or set anew. -/
import Derived.Test.YthpdamkpefgmaaaRefCnt3
namespace Go.Proofs.Ythpdamkpefgmaaa.RefCnt
open Go.RowKit Go.Maps Go.ChangeShapes Go.WideShapes Go.Deep Go.Proofs.YthpdamkpefgmaaaW.PrintWords Go.Proofs.YthpdamkpefgmaaaW.PrintLast Go.Proofs.YthpdamkpefgmaaaW.PrintMore Base Foot ExtTail PMap
set_option linter.unusedVariables false
set_option linter.unusedSimpArgs false
attribute [local go_sem ↓] Go.wp_at_zero Go.wp_at_succ
attribute [local go_sem high] eqP

/-- what Add leaves -/
def Added (B : Nat) (w : World) (b o : Nat) (arr : Array Value) (t : TypeId) (pv nv : Value) (m : List (PK × Int)) (p : PK) (n : Int) (e : Ending) (w' : World) : Prop :=
  e = .returned (.int .i64 0) ∧ ∃ pv' nv' m', RC B w' b o ((arr.setIfInBounds o pv').setIfInBounds (o + 1) nv') t pv' nv' m' ∧ SetR m p n m' ∧ Upd (CFoot b pv nv) (CFoot b pv' nv') w w'

set_option maxHeartbeats 1600000 in
set_option maxRecDepth 100000 in
/-- a count that isn't below 0, where none was -/
theorem add_new {B : Nat} {w : World} {b o : Nat} {arr : Array Value} {t : TypeId} {pv nv : Value} {m : List (PK × Int)} (h : RC B w b o arr t pv nv m) (hB : B ≤ w.heap.size) (hsm : m.length < 1000) (p : PK) (n : Int) (hp : P64 p) (hn : In64 n) (h0 : 0 ≤ n) (hno : (PMap.look m p).getD 0 = 0) :
    Calls Try.prog 17 #[.pointer (some ⟨b, o, none⟩), vP p, .int .i64 n, .int .i64 1] w (Added B w b o arr t pv nv m p n) := by
  obtain ⟨p1, p2⟩ := p
  have b0 : Below w.heap.size w (w.alloc (.cells #[.int .i64 p1, .int .i64 p2] 41)) := (Below.refl _ _).alloc (Nat.le_refl _) _
  have x0 := heap_alloc_new w (.cells #[.int .i64 p1, .int .i64 p2] 41)
  have hg := get_any (h.below b0) (p1, p2)
  rw [hno] at hg
  have HG := Lib.hid hg
  have HH := Lib.hid h
  have HP64 := Lib.hid hp
  have HN64 := Lib.hid hn
  have hr : 0 ≤ n ∧ n ≤ 9223372036854775807 := ⟨h0, by unfold In64 at hn; omega⟩
  have hd0 := cell_at x0 0
  have hd1 := cell_at x0 1
  simp only [List.getElem?_toArray, List.getElem?_cons_zero, List.getElem?_cons_succ] at hd0 hd1
  clear h hp hn hg hno
  unfold vP
  go_enter Try.func17, Try.ntmps17
  go_wp2_with fail
  refine HG.out.mono ?_
  rintro e w1 ⟨rfl, b1⟩
  have hb1 := b0.trans (b1.mono b0.size)
  have x1 := (b1.block _ (block_lt x0)).trans x0
  have c0 := cell_at x1 0
  have c1 := cell_at x1 1
  simp only [List.getElem?_toArray, List.getElem?_cons_zero, List.getElem?_cons_succ] at c0 c1
  clear hd0 hd1
  generalize w.alloc (.cells #[.int .i64 p1, .int .i64 p2] 41) = w0 at *
  go_wp2_with fail
  refine (mul_one_any n hr _).mono ?_
  rintro e w2 ⟨rfl, rfl⟩
  go_wp2_with fail
  refine (add_zero_any n hr _).mono ?_
  rintro e w2 ⟨rfl, rfl⟩
  go_wp2_with fail
  refine (set_any (HH.out.below hb1) (Nat.le_trans hB hb1.size) hsm (p1, p2) n HP64.out HN64.out).mono ?_
  rintro e w3 ⟨rfl, pv', nv', m', r1, r2, r3⟩
  go_wp2_with fail
  go_ret
  exact ⟨rfl, pv', nv', m', r1, r2, (Upd.of_below hb1).trans r3⟩
set_option maxHeartbeats 1600000 in
set_option maxRecDepth 100000 in
/-- a count that is there is taken away -/
theorem add_off {B : Nat} {w : World} {b o : Nat} {arr : Array Value} {t : TypeId} {pv nv : Value} {m : List (PK × Int)} (h : RC B w b o arr t pv nv m) (hB : B ≤ w.heap.size) (hsm : m.length < 1000) (p : PK) (n : Int) (hp : P64 p) (h0 : 0 ≤ n ∧ n ≤ 9223372036854775807) (hno : (PMap.look m p).getD 0 = n) :
    Calls Try.prog 17 #[.pointer (some ⟨b, o, none⟩), vP p, .int .i64 (-n), .int .i64 1] w (Added B w b o arr t pv nv m p 0) := by
  by_cases hz : n = 0
  · rw [hz]
    rw [hz] at hno
    exact add_new h hB hsm p 0 hp (by unfold In64; omega) (by omega) hno
  · obtain ⟨p1, p2⟩ := p
    have b0 : Below w.heap.size w (w.alloc (.cells #[.int .i64 p1, .int .i64 p2] 41)) := (Below.refl _ _).alloc (Nat.le_refl _) _
    have x0 := heap_alloc_new w (.cells #[.int .i64 p1, .int .i64 p2] 41)
    have hg := get_any (h.below b0) (p1, p2)
    rw [hno] at hg
    have HG := Lib.hid hg
    have HH := Lib.hid h
    have HP64 := Lib.hid hp
    have hneg : ¬ (0 : Int) ≤ -n := by omega
    have hnn : IntKind.i64.wrap (-(-n)) = n := by rw [Int.neg_neg]; exact IntWalk.i64_in _ (by omega)
    have hsub : IntKind.i64.wrap (n - n) = 0 := by rw [Int.sub_self]; rfl
    have hd0 := cell_at x0 0
    have hd1 := cell_at x0 1
    simp only [List.getElem?_toArray, List.getElem?_cons_zero, List.getElem?_cons_succ] at hd0 hd1
    clear h hp hg hno
    unfold vP
    go_enter Try.func17, Try.ntmps17
    go_wp2_with fail
    refine HG.out.mono ?_
    rintro e w1 ⟨rfl, b1⟩
    have hb1 := b0.trans (b1.mono b0.size)
    have x1 := (b1.block _ (block_lt x0)).trans x0
    have c0 := cell_at x1 0
    have c1 := cell_at x1 1
    simp only [List.getElem?_toArray, List.getElem?_cons_zero, List.getElem?_cons_succ] at c0 c1
    clear hd0 hd1
    generalize w.alloc (.cells #[.int .i64 p1, .int .i64 p2] 41) = w0 at *
    go_wp2_with fail
    refine (mul_one_any n h0 _).mono ?_
    rintro e w2 ⟨rfl, rfl⟩
    go_wp2_with fail
    refine (set_any (HH.out.below hb1) (Nat.le_trans hB hb1.size) hsm (p1, p2) 0 HP64.out (by unfold In64; omega)).mono ?_
    rintro e w3 ⟨rfl, pv', nv', m', r1, r2, r3⟩
    go_wp2_with fail
    go_ret
    exact ⟨rfl, pv', nv', m', r1, r2, (Upd.of_below hb1).trans r3⟩
end Go.Proofs.Ythpdamkpefgmaaa.RefCnt
