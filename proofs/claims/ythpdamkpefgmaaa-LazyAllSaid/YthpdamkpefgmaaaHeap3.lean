/- Layer 14: the heap's calls, walked: a heap in memory reads as a list of items. -/
import Derived.Test.YthpdamkpefgmaaaHeapPure
import Derived.Test.YthpdamkpefgmaaaFoot
import Derived.Test.YthpdamkpefgmaaaKinds
import Derived.Deep.RegionHeld3
import Derived.Deep.RegionLaw
import Derived.Deep.AppendLies
import Derived.Deep.DrawnRows
import Derived.BigRegion
namespace Go.Proofs.Ythpdamkpefgmaaa.Heap3
open Go.RowKit Base Foot HeapPure
set_option linter.unusedVariables false
attribute [local go_sem ↓] Go.wp_at_zero Go.wp_at_succ

abbrev Item := (Int × Int) × Int
def enc (x : Item) : List Value := [.int .i64 x.1.1, .int .i64 x.1.2, .int .i64 x.2]
def val (x : Item) : Value := .agg #[.int .i64 x.1.1, .int .i64 x.1.2, .int .i64 x.2]
theorem enc_len (x : Item) : (enc x).length = 3 := rfl
def HFoot (b : Nat) (lv : Value) (k : Nat) : Prop := k = b ∨ lv.ownBlock = some k
/-- what the order needs of memory: it holds in w, and goes on holding while the blocks of G are as they were -/
structure Cmp (fp : Value) (F : Nat) (lt : Item → Item → Bool) (I : World → Prop) (G : Nat → Prop) : Prop where
  ord : Ord lt
  ent : ∀ args w, (callFunc F args).run Try.prog w = .ok (.enter F args) w
  call : ∀ w x y, I w → Calls Try.prog F #[fp, val x, val y] w fun e w' => e = .returned (.bool (lt x y)) ∧ Below w.heap.size w w'
  keep : ∀ w w', I w → (∀ k, G k → w'.heap[k]? = w.heap[k]?) → I w'
  lt : ∀ w k, I w → G k → k < w.heap.size
/-- a heap at block b with items l, all of whose blocks lie from B on -/
structure HeapT (fp : Value) (F : Nat) (I : World → Prop) (G : Nat → Prop) (B : Nat) (w : World) (b : Nat) (lv : Value) (l : List Item) (pu pk : Int) : Prop where
  base : B ≤ b
  blk : w.heap[b]? = some (.cells #[lv, .func (.func F) #[fp] #[], .int .i64 pu, .int .i64 pk] 135 (0, 0))
  row : w.ownsRow B 48 3 lv l.length (l.flatMap enc)
  small : l.length ≤ 1000000
  num : 0 ≤ pu ∧ pu ≤ 1000000 ∧ 0 ≤ pk ∧ pk ≤ 1000000
  inv : I w
  far : ∀ k, G k → ¬ HFoot b lv k

set_option linter.unusedSectionVars false
section
variable {fp : Value} {F : Nat} {lt : Item → Item → Bool} {I : World → Prop} {G : Nat → Prop} (hC : Cmp fp F lt I G)
include hC
theorem HeapT.keep {B : Nat} {w w' : World} {b : Nat} {lv : Value} {l : List Item} {pu pk : Int} (h : HeapT fp F I G B w b lv l pu pk) (hk : ∀ k, HFoot b lv k ∨ G k → w'.heap[k]? = w.heap[k]?) : HeapT fp F I G B w' b lv l pu pk :=
  ⟨h.base, (hk b (.inl (.inl rfl))).trans h.blk, own_keep h.row (fun k e => hk k (.inl (.inr e))), h.small, h.num, hC.keep _ _ h.inv (fun k e => hk k (.inr e)), h.far⟩
theorem HeapT.foot_lt {B : Nat} {w : World} {b : Nat} {lv : Value} {l : List Item} {pu pk : Int} (h : HeapT fp F I G B w b lv l pu pk) : ∀ k, HFoot b lv k → B ≤ k ∧ k < w.heap.size := by
  rintro k (rfl | h1)
  · exact ⟨h.base, block_lt h.blk⟩
  · exact h.row.lt k h1
theorem HeapT.below {B : Nat} {w w' : World} {b : Nat} {lv : Value} {l : List Item} {pu pk : Int} (h : HeapT fp F I G B w b lv l pu pk) (hb : Below w.heap.size w w') : HeapT fp F I G B w' b lv l pu pk :=
  h.keep hC fun k hk => hb.block k (by
    rcases hk with h1 | h1
    · exact (h.foot_lt hC k h1).2
    · exact hC.lt _ k h.inv h1)

/-- two items of the row, exchanged -/
theorem own_swap {B : Nat} {w : World} {g cap : Nat} {l : List Item} {i p : Nat} {x y : Item} (h : w.ownsRow B 48 3 (.slice (some ⟨g, 0, none⟩) l.length cap) l.length (l.flatMap enc)) (hx : l[i]? = some x) (hy : l[p]? = some y) :
    ((((((w.setCell ⟨g, i * 3, none⟩ (.int .i64 y.1.1)).setCell ⟨g, i * 3 + 1, none⟩ (.int .i64 y.1.2)).setCell ⟨g, i * 3 + 2, none⟩ (.int .i64 y.2)).setCell ⟨g, p * 3, none⟩ (.int .i64 x.1.1)).setCell ⟨g, p * 3 + 1, none⟩ (.int .i64 x.1.2)).setCell ⟨g, p * 3 + 2, none⟩ (.int .i64 x.2)).ownsRow B 48 3 (.slice (some ⟨g, 0, none⟩) (swap l i p x y).length cap) (swap l i p x y).length ((swap l i p x y).flatMap enc) := by
  rw [swap_len]
  have h2 := (((((((h.stored (i * 3) (.int .i64 y.1.1)).1.stored (i * 3 + 1) (.int .i64 y.1.2)).1).stored (i * 3 + 2) (.int .i64 y.2)).1.stored (p * 3) (.int .i64 x.1.1)).1.stored (p * 3 + 1) (.int .i64 x.1.2)).1.stored (p * 3 + 2) (.int .i64 x.2)).1
  have e : (((((((l.flatMap enc).set (i * 3) (.int .i64 y.1.1)).set (i * 3 + 1) (.int .i64 y.1.2)).set (i * 3 + 2) (.int .i64 y.2)).set (p * 3) (.int .i64 x.1.1)).set (p * 3 + 1) (.int .i64 x.1.2)).set (p * 3 + 2) (.int .i64 x.2)) = (swap l i p x y).flatMap enc := by
    have hset : ∀ (l : List Item) (i : Nat) (x : Item), (((l.flatMap enc).set (i * 3) (.int .i64 x.1.1)).set (i * 3 + 1) (.int .i64 x.1.2)).set (i * 3 + 2) (.int .i64 x.2) = (l.set i x).flatMap enc := by
      intro l
      induction l with
      | nil => intro i x; simp
      | cons a t ih =>
        intro i x
        cases i with
        | zero => simp [enc]
        | succ i =>
          have := ih i x
          simp only [List.flatMap_cons, List.set_cons_succ, enc]
          rw [show (i + 1) * 3 = i * 3 + 1 + 1 + 1 by omega]
          simpa using this
    rw [hset, hset]
    rfl
  rw [← e]
  exact h2

theorem own_set {B : Nat} {w : World} {g cap : Nat} {l : List Item} {i : Nat} {y : Item} (h : w.ownsRow B 48 3 (.slice (some ⟨g, 0, none⟩) l.length cap) l.length (l.flatMap enc)) :
    (((w.setCell ⟨g, i * 3, none⟩ (.int .i64 y.1.1)).setCell ⟨g, i * 3 + 1, none⟩ (.int .i64 y.1.2)).setCell ⟨g, i * 3 + 2, none⟩ (.int .i64 y.2)).ownsRow B 48 3 (.slice (some ⟨g, 0, none⟩) (l.set i y).length cap) (l.set i y).length ((l.set i y).flatMap enc) := by
  have h2 := (((h.stored (i * 3) (.int .i64 y.1.1)).1.stored (i * 3 + 1) (.int .i64 y.1.2)).1.stored (i * 3 + 2) (.int .i64 y.2)).1
  have hset : ∀ (l : List Item) (i : Nat) (x : Item), (((l.flatMap enc).set (i * 3) (.int .i64 x.1.1)).set (i * 3 + 1) (.int .i64 x.1.2)).set (i * 3 + 2) (.int .i64 x.2) = (l.set i x).flatMap enc := by
    intro l
    induction l with
    | nil => intro i x; simp
    | cons a t ih =>
      intro i x
      cases i with
      | zero => simp [enc]
      | succ i =>
        have := ih i x
        simp only [List.flatMap_cons, List.set_cons_succ, enc]
        rw [show (i + 1) * 3 = i * 3 + 1 + 1 + 1 by omega]
        simpa using this
  rw [hset] at h2
  simpa using h2

theorem drew_heap (W : World) (k : Nat) : W.drew.heap[k]? = W.heap[k]? := rfl
theorem gset {w w' : World} {g : Nat} {p : Addr} {v : Value} (h : w.grownBy w' (some g)) (hp : p.block = g) : w.grownBy (w'.setCell p v) (some g) :=
  ⟨h.os, h.tape, h.output, by simpa [World.setCell] using h.size, fun k hk hne => (set_blk_eq (by rintro rfl; exact hne (by rw [hp]))).trans (h.block k hk hne)⟩
theorem heap_swap0 {B : Nat} {w W : World} {b g cap : Nat} {l : List Item} {pu pk : Int} {i p : Nat} {x y : Item} (h : HeapT fp F I G B w b (.slice (some ⟨g, 0, none⟩) l.length cap) l pu pk) (hg : w.grownBy W (some g))
    (hrow : W.ownsRow B 48 3 (.slice (some ⟨g, 0, none⟩) (swap l i p x y).length cap) (swap l i p x y).length ((swap l i p x y).flatMap enc)) :
    HeapT fp F I G B W b (.slice (some ⟨g, 0, none⟩) (swap l i p x y).length cap) (swap l i p x y) pu pk := by
  have hbg : b ≠ g := fun e => by subst e; exact row_not_cells h.row h.blk (by decide) rfl
  have far : ∀ k, k < w.heap.size → k ≠ g → W.heap[k]? = w.heap[k]? := fun k hl hk => hg.block k hl (by simpa using hk)
  refine ⟨h.base, ?_, hrow, by rw [swap_len]; exact h.small, h.num, hC.keep _ _ h.inv (fun k hk => far k (hC.lt _ k h.inv hk) (fun e => h.far k hk (.inr (by rw [e]; rfl)))), fun k hk hf => h.far k hk ?_⟩
  · rw [far b (block_lt h.blk) hbg, h.blk]
    simp only [swap_len]
  · rcases hf with h1 | h1
    · exact .inl h1
    · exact .inr h1
theorem heap_swap {B : Nat} {w : World} {b g cap : Nat} {l : List Item} {pu pk : Int} {i p : Nat} {x y : Item} (h : HeapT fp F I G B w b (.slice (some ⟨g, 0, none⟩) l.length cap) l pu pk) (hx : l[i]? = some x) (hy : l[p]? = some y) :
    HeapT fp F I G B ((((((w.setCell ⟨g, i * 3, none⟩ (.int .i64 y.1.1)).setCell ⟨g, i * 3 + 1, none⟩ (.int .i64 y.1.2)).setCell ⟨g, i * 3 + 2, none⟩ (.int .i64 y.2)).setCell ⟨g, p * 3, none⟩ (.int .i64 x.1.1)).setCell ⟨g, p * 3 + 1, none⟩ (.int .i64 x.1.2)).setCell ⟨g, p * 3 + 2, none⟩ (.int .i64 x.2)) b (.slice (some ⟨g, 0, none⟩) (swap l i p x y).length cap) (swap l i p x y) pu pk ∧
      w.grownBy ((((((w.setCell ⟨g, i * 3, none⟩ (.int .i64 y.1.1)).setCell ⟨g, i * 3 + 1, none⟩ (.int .i64 y.1.2)).setCell ⟨g, i * 3 + 2, none⟩ (.int .i64 y.2)).setCell ⟨g, p * 3, none⟩ (.int .i64 x.1.1)).setCell ⟨g, p * 3 + 1, none⟩ (.int .i64 x.1.2)).setCell ⟨g, p * 3 + 2, none⟩ (.int .i64 x.2)) (some g) := by
  have hg : w.grownBy ((((((w.setCell ⟨g, i * 3, none⟩ (.int .i64 y.1.1)).setCell ⟨g, i * 3 + 1, none⟩ (.int .i64 y.1.2)).setCell ⟨g, i * 3 + 2, none⟩ (.int .i64 y.2)).setCell ⟨g, p * 3, none⟩ (.int .i64 x.1.1)).setCell ⟨g, p * 3 + 1, none⟩ (.int .i64 x.1.2)).setCell ⟨g, p * 3 + 2, none⟩ (.int .i64 x.2)) (some g) := gset hC (gset hC (gset hC (gset hC (gset hC (gset hC (World.grownBy.refl _ _) rfl) rfl) rfl) rfl) rfl) rfl
  exact ⟨heap_swap0 hC h hg (own_swap hC h.row hx hy), hg⟩

set_option maxHeartbeats 3200000 in
set_option maxRecDepth 100000 in
theorem up_any {B : Nat} {w : World} {b g cap : Nat} {l : List Item} {pu pk : Int} (h : HeapT fp F I G B w b (.slice (some ⟨g, 0, none⟩) l.length cap) l pu pk) (i : Nat) (hi : i < l.length) (hu : UpInv lt l i) :
    Calls Try.prog 78 #[.pointer (some ⟨b, 0, none⟩), .int .i64 (i : Int)] w fun e w' => e = .returned (.tuple #[]) ∧ ∃ l', l'.Perm l ∧ HeapFrom lt l' 0 ∧ HeapT fp F I G B w' b (.slice (some ⟨g, 0, none⟩) l'.length cap) l' pu pk ∧ w.grownBy w' (some g) := by
  go_enter Try.func78, Try.ntmps78
  go_wp2_with fail
  go_loopw [1] (fun v1 wr => ∃ (k : Nat) (l' : List Item), k < l'.length ∧ v1 = .int .i64 (k : Int) ∧ l'.Perm l ∧ Hid (UpInv lt l' k) ∧ HeapT fp F I G B wr b (.slice (some ⟨g, 0, none⟩) l'.length cap) l' pu pk ∧ w.grownBy wr (some g)) (fun i _ => (intOf i).toNat)
  case atStart => exact ⟨i, l, hi, rfl, List.Perm.refl _, hu, h, World.grownBy.refl _ _⟩
  case round =>
    obtain ⟨k, l', hk, rfl, hP, hU, hH, hW⟩ := hrel
    have hs := hH.small
    by_cases h0 : 0 < k
    · have hpk : (k - 1) / 2 < l'.length := by omega
      have hx := List.getElem?_eq_getElem hk
      have hy := List.getElem?_eq_getElem hpk
      generalize l'[k] = x at hx
      generalize l'[(k - 1) / 2] = y at hy
      obtain ⟨g1, cap1, e, hcap, hxj⟩ := own_get enc_len hH.row (by omega) hx
      cases e
      obtain ⟨g1, cap1, e, _, hyj⟩ := own_get enc_len hH.row (by omega) hy
      cases e
      have x0 := hxj 0 _ rfl
      have x1 := hxj 1 _ rfl
      have x2 := hxj 2 _ rfl
      have y0 := hyj 0 _ rfl
      have y1 := hyj 1 _ rfl
      have y2 := hyj 2 _ rfl
      rw [Nat.add_zero] at x0 y0
      have c0 := cell_at hH.blk 0
      have c1 := cell_at hH.blk 1
      simp only [List.getElem?_toArray, List.getElem?_cons_zero, List.getElem?_cons_succ] at c0 c1
      have hp0 : (0 : Int) ≤ (((k - 1) / 2 : Nat) : Int) := by omega
      have hp1 : (((k - 1) / 2 : Nat) : Int) < (l'.length : Int) := by omega
      have hdiv : ((k : Int) - 1) / 2 = (((k - 1) / 2 : Nat) : Int) := by omega
      have HX := Lib.hid hx
      have HY := Lib.hid hy
      have HC := Lib.hid hC
      clear hx hy hxj hyj
      generalize hpp : (k - 1) / 2 = p at *
      have HPP := Lib.hid (show par k = p from hpp)
      clear hpp
      have hcall := hC.call
      have HCC := Lib.hid hcall
      clear hcall
      have hent := hC.ent
      have hI : I wr.drew := hC.keep _ _ hH.inv (fun _ _ => rfl)
      have hF := fun q hq => (hH.foot_lt hC q hq).2
      have lb := hF b (.inl rfl)
      have lg := hF g (.inr rfl)
      have HH := Lib.hid hH
      clear hC hH
      obtain ⟨⟨xa, xb⟩, xc⟩ := x
      obtain ⟨⟨ya, yb⟩, yc⟩ := y
      have HCALL := Lib.hid (HCC.out wr.drew ((xa, xb), xc) ((ya, yb), yc) hI)
      clear hI HCC
      unfold val at HCALL
      simp only at x0 x1 x2 y0 y1 y2
      go_wp2_with fail
      go_region_held3 (fun w' => w'.cell? ⟨b, 0, none⟩ = some (.slice (some ⟨g, 0, none⟩) l'.length cap) ∧ w'.cell? ⟨b, 1, none⟩ = some (.func (.func F) #[fp] #[]) ∧ w'.cell? ⟨g, k * 3, none⟩ = some (.int .i64 xa) ∧ w'.cell? ⟨g, k * 3 + 1, none⟩ = some (.int .i64 xb) ∧ w'.cell? ⟨g, k * 3 + 2, none⟩ = some (.int .i64 xc) ∧ w'.cell? ⟨g, p * 3, none⟩ = some (.int .i64 ya) ∧ w'.cell? ⟨g, p * 3 + 1, none⟩ = some (.int .i64 yb) ∧ w'.cell? ⟨g, p * 3 + 2, none⟩ = some (.int .i64 yc))
        (first | exact ⟨c0, c1, x0, x1, x2, y0, y1, y2⟩ | exact ⟨d0, d1, d2, d3, d6, d4, d5, d7⟩)
        (first | (refine HCALL.out.mono ?_; rintro e w1 ⟨rfl, b1⟩
                  have d0 := (b1.cell (p := ⟨b, 0, none⟩) lb).trans c0
                  have d1 := (b1.cell (p := ⟨b, 1, none⟩) lb).trans c1
                  have d2 := (b1.cell (p := ⟨g, k * 3, none⟩) lg).trans x0
                  have d3 := (b1.cell (p := ⟨g, k * 3 + 1, none⟩) lg).trans x1
                  have d4 := (b1.cell (p := ⟨g, p * 3, none⟩) lg).trans y0
                  have d5 := (b1.cell (p := ⟨g, p * 3 + 1, none⟩) lg).trans y1
                  have d6 := (b1.cell (p := ⟨g, k * 3 + 2, none⟩) lg).trans x2
                  have d7 := (b1.cell (p := ⟨g, p * 3 + 2, none⟩) lg).trans y2))
      have hb1 : Below wr.heap.size wr w1 := ⟨b1.os, b1.tape, b1.output, b1.size, b1.block⟩
      have h1 := HH.out.below HC.out hb1
      have hg1 : w.grownBy w1 (some g) := hW.trans (grown_below hb1)
      clear b1 hb1
      cases hlt : lt ((xa, xb), xc) ((ya, yb), yc)
      · have HL := Lib.hid hlt
        clear hlt
        go_wp2_with fail
        refine bodyPost_ret (results_none rfl _ _ _) rfl ?_
        exact ⟨rfl, l', hP, up_stop hU HX.out (by rw [HPP.out]; exact HY.out) HL.out, h1, hg1⟩
      · have HL := Lib.hid hlt
        clear hlt
        have fr := fun o => h1.row.frozenAt o
        have f0 := fr (k * 3)
        have f1 := fr (k * 3 + 1)
        have f4 := fr (k * 3 + 2)
        have f2 := fr (p * 3)
        have f3 := fr (p * 3 + 1)
        have f5 := fr (p * 3 + 2)
        clear fr
        have hpk2 : p < k := by omega
        have n1 : ¬ p * 3 = k * 3 := by omega
        have n2 : ¬ p * 3 = k * 3 + 1 := by omega
        have n3 : ¬ p * 3 = k * 3 + 2 := by omega
        have n4 : ¬ p * 3 + 1 = k * 3 := by omega
        have n5 : ¬ p * 3 + 1 = k * 3 + 1 := by omega
        have n6 : ¬ p * 3 + 1 = k * 3 + 2 := by omega
        have n7 : ¬ p * 3 + 2 = k * 3 := by omega
        have n8 : ¬ p * 3 + 2 = k * 3 + 1 := by omega
        have n9 : ¬ p * 3 + 2 = k * 3 + 2 := by omega
        have H1 := Lib.hid h1
        clear h1
        go_wp2_with fail
        go_region
        go_wp2_with fail
        have hsw := heap_swap HC.out H1.out HX.out HY.out
        dsimp only at hsw
        have hU2 := up_step HC.out.ord hU h0 HX.out (by rw [HPP.out]; exact HY.out) HL.out
        rw [HPP.out] at hU2
        go_roundw
        case rel => exact ⟨p, _, by rw [swap_len]; exact hpk, rfl, (swap_perm HX.out HY.out).trans hP, hU2, HeapT.keep HC.out hsw.1 (fun k _ => drew_heap HC.out _ k), hg1.trans (grown_drew hsw.2)⟩
        case measure => simp [intOf]; omega
    · obtain rfl : k = 0 := by omega
      go_wp2_with fail
      go_end0
      exact ⟨rfl, l', hP, up_stop0 hU, hH, hW⟩
end
end Go.Proofs.Ythpdamkpefgmaaa.Heap3
