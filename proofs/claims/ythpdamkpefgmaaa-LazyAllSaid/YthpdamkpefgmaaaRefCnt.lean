/- gluepotref12: counts as a list of pairs that rises, in memory; Get, walked. -/
import Derived.Test.YthpdamkpefgmaaaPMap
import Derived.Test.YthpdamkpefgmaaaExtTail
import Derived.Test.YthpdamkpefgmaaaWEqStruct
import Derived.Test.YthpdamkpefgmaaaWMore
import Derived.Test.YthpdamkpefgmaaaWLast
import Derived.Deep.RegionHeld3
import Derived.Deep.RegionLaw
import Derived.Deep.AppendLies
import Derived.Deep.DrawnRows
namespace Go.Proofs.Ythpdamkpefgmaaa.RefCnt
open Go.RowKit Go.Maps Go.Proofs.YthpdamkpefgmaaaW.PrintWords Go.Proofs.YthpdamkpefgmaaaW.PrintLast Go.Proofs.YthpdamkpefgmaaaW.PrintMore Base Foot ExtTail PMap
set_option linter.unusedVariables false
set_option linter.unusedSimpArgs false
attribute [local go_sem ↓] Go.wp_at_zero Go.wp_at_succ

theorem eqP (d : Nat) (w : World) (x0 y0 x1 y1 : Int) :
    (Op.equalIn (d + 2) 41 (.agg #[.int .i64 x0, .int .i64 x1]) (.agg #[.int .i64 y0, .int .i64 y1])).run Try.prog w = .ok (x0 == y0 && (x1 == y1)) w := by
  refine eqA_of Try.underlying41 (by kernel_rfl) ?_
  refine eqf_cons (by rfl) (by go_simp; rfl) (by go_simp; rfl) (by go_simp) ?_
  exact eqf_last (by rfl) (by go_simp; rfl) (by go_simp; rfl) (by go_simp)
attribute [local go_sem high] eqP

def encK (x : PK × Int) : List Value := [.int .i64 x.1.1, .int .i64 x.1.2]
def encN (x : PK × Int) : List Value := [.int .i64 x.2]
theorem encK_len (x : PK × Int) : (encK x).length = 2 := rfl
theorem encN_len (x : PK × Int) : (encN x).length = 1 := rfl
/-- counts at an address: the pairs, how often they are there -/
structure RC (B : Nat) (w : World) (b o : Nat) (arr : Array Value) (t : TypeId) (pv nv : Value) (m : List (PK × Int)) : Prop where
  blk : w.heap[b]? = some (.cells arr t (0, 0))
  ap : arr[o]? = some pv
  an : arr[o + 1]? = some nv
  tp : t ≠ 41
  tn : t ≠ 3
  rp : w.ownsRow B 41 2 pv m.length (m.flatMap encK)
  rn : w.ownsRow B 3 1 nv m.length (m.flatMap encN)
  small : m.length ≤ 1000
  al : Al m
  nd : Nd m
def CFoot (b : Nat) (pv nv : Value) (k : Nat) : Prop := k = b ∨ pv.ownBlock = some k ∨ nv.ownBlock = some k
section
variable {B : Nat} {w w' : World} {b o : Nat} {arr : Array Value} {t : TypeId} {pv nv : Value} {m : List (PK × Int)} (h : RC B w b o arr t pv nv m)
include h
theorem RC.cp : w.cell? ⟨b, o, none⟩ = some pv := (cell_at h.blk o).trans h.ap
theorem RC.cn : w.cell? ⟨b, o + 1, none⟩ = some nv := (cell_at h.blk (o + 1)).trans h.an
theorem RC.keep (hk : ∀ k, CFoot b pv nv k → w'.heap[k]? = w.heap[k]?) : RC B w' b o arr t pv nv m :=
  ⟨(hk b (.inl rfl)).trans h.blk, h.ap, h.an, h.tp, h.tn, own_keep h.rp (fun k e => hk k (.inr (.inl e))), own_keep h.rn (fun k e => hk k (.inr (.inr e))), h.small, h.al, h.nd⟩
theorem RC.lt : ∀ k, CFoot b pv nv k → k < w.heap.size := by
  rintro k (rfl | hk | hk)
  · exact block_lt h.blk
  · exact (h.rp.lt k hk).2
  · exact (h.rn.lt k hk).2
theorem RC.below (hb : Below w.heap.size w w') : RC B w' b o arr t pv nv m := h.keep fun k hk => hb.block k (h.lt k hk)
theorem RC.ps : ∃ A cap, pv = .slice A m.length cap := by
  rcases h.rp.2 with ⟨rfl, h0⟩ | ⟨g, cap, cur, rfl, _⟩
  · exact ⟨none, 0, by rw [h0]⟩
  · exact ⟨_, _, rfl⟩
theorem RC.ns : ∃ A cap, nv = .slice A m.length cap := by
  rcases h.rn.2 with ⟨rfl, h0⟩ | ⟨g, cap, cur, rfl, _⟩
  · exact ⟨none, 0, by rw [h0]⟩
  · exact ⟨_, _, rfl⟩
end
theorem look_first : ∀ {m : List (PK × Int)} {k : Nat} {x : PK × Int} {p : PK}, m[k]? = some x → (∀ j < k, ∀ y, m[j]? = some y → y.1 ≠ p) → x.1 = p → PMap.look m p = some x.2
  | [], _, _, _, hx, _, _ => by simp at hx
  | a :: t, 0, x, p, hx, _, e => by
    simp at hx
    subst hx
    rw [look_cons, if_pos e]
  | a :: t, k + 1, x, p, hx, hn, e => by
    rw [look_cons, if_neg (hn 0 (by omega) a rfl)]
    exact look_first (k := k) (by simpa using hx) (fun j hj y hy => hn (j + 1) (by omega) y (by simpa using hy)) e
theorem look_no : ∀ {m : List (PK × Int)} {p : PK}, (∀ j < m.length, ∀ y, m[j]? = some y → y.1 ≠ p) → PMap.look m p = none
  | [], _, _ => rfl
  | a :: t, p, hn => by
    rw [look_cons, if_neg (hn 0 (by simp) a rfl)]
    exact look_no (fun j hj y hy => hn (j + 1) (by simp; omega) y (by simpa using hy))

set_option maxHeartbeats 1600000 in
set_option maxRecDepth 100000 in
theorem get_any {B : Nat} {w : World} {b o : Nat} {arr : Array Value} {t : TypeId} {pv nv : Value} {m : List (PK × Int)} (h : RC B w b o arr t pv nv m) (p : PK) :
    Calls Try.prog 18 #[.pointer (some ⟨b, o, none⟩), vP p] w fun e w' => e = .returned (.int .i64 ((PMap.look m p).getD 0)) ∧ Below w.heap.size w w' := by
  obtain ⟨p1, p2⟩ := p
  have b0 : Below w.heap.size w (w.alloc (.cells #[.int .i64 p1, .int .i64 p2] 41)) := (Below.refl _ _).alloc (Nat.le_refl _) _
  have x0 := heap_alloc_new w (.cells #[.int .i64 p1, .int .i64 p2] 41)
  have h0 := h.below b0
  obtain ⟨A, cap, rfl⟩ := h.ps
  obtain ⟨A2, cap2, rfl⟩ := h.ns
  have hs := h.small
  have H0 := Lib.hid h0
  clear h h0
  unfold vP
  go_enter Try.func18, Try.ntmps18
  go_wp2_with fail
  generalize w.alloc (.cells #[.int .i64 p1, .int .i64 p2] 41) = w0 at *
  go_loopw [5] (fun v5 wr => ∃ k : Nat, k ≤ m.length ∧ v5 = .int .i64 (k : Int) ∧ Hid (∀ j < k, ∀ y, m[j]? = some y → y.1 ≠ (p1, p2)) ∧ Below w0.heap.size w0 wr) (fun i _ => m.length - (intOf i).toNat)
  case atStart => exact ⟨0, by omega, rfl, fun j hj => by omega, Below.refl _ _⟩
  case round =>
    obtain ⟨k, hk, rfl, hno, hbw⟩ := hrel
    have h1 := H0.out.below hbw
    have cp := h1.cp
    have cn := h1.cn
    have x1 := (hbw.block _ (block_lt x0)).trans x0
    have d0 := cell_at x1 0
    have d1 := cell_at x1 1
    simp only [List.getElem?_toArray, List.getElem?_cons_zero, List.getElem?_cons_succ] at d0 d1
    by_cases hlt : k < m.length
    · have hx := List.getElem?_eq_getElem hlt
      generalize m[k] = x at hx
      obtain ⟨⟨xa, xb⟩, xn⟩ := x
      obtain ⟨ad, c2, e, _, hx0, hx1⟩ := own_at encK_len h1.rp (by omega) hx
      cases e
      obtain ⟨ad2, c3, e, _, hy0, _⟩ := own_at encN_len h1.rn (by omega) hx
      cases e
      have y0 := hx0 _ rfl
      have y1 := hx1 1 _ rfl
      have z0 := hy0 _ rfl
      rw [Nat.mul_one] at z0
      have HX := Lib.hid hx
      have H1 := Lib.hid h1
      clear hx hx0 hx1 hy0 h1
      have k1 : (0 : Int) ≤ (k : Int) := by omega
      have k2 : (k : Int) < (m.length : Int) := by omega
      by_cases he : (xa, xb) = (p1, p2)
      · have e1 : (xa == p1) = true := by simp at he; simp [he.1]
        have e2 : (xb == p2) = true := by simp at he; simp [he.2]
        have hb : (xa == p1 && (xb == p2)) = true := by rw [e1, e2]; rfl
        have HE := Lib.hid he
        clear he
        go_wp2_with fail
        go_quiet (fail)
        go_wp2_with fail
        go_ret
        rw [look_first HX.out hno.out HE.out]
        exact ⟨rfl, (b0.trans (hbw.mono b0.size)).trans (bdrew _ _ _)⟩
      · have hb : (xa == p1 && (xb == p2)) = false := by
          cases hc : (xa == p1 && (xb == p2)) with
          | false => rfl
          | true => simp at hc; exact absurd (by rw [hc.1, hc.2]) he
        have HE := Lib.hid he
        clear he
        go_wp2_with fail
        go_quiet (fail)
        go_wp2_with fail
        go_roundw
        case rel =>
          refine ⟨k + 1, by omega, by go_num, fun j hj y hy => ?_, hbw.trans (bdrew _ _ _)⟩
          by_cases hjk : j = k
          · subst hjk
            have := HX.out.symm.trans hy
            simp at this
            rw [← this]
            exact HE.out
          · exact hno.out j (by omega) y hy
        case measure => simp [intOf]; omega
    · obtain rfl : k = m.length := by omega
      go_wp2_with fail
      go_ret
      rw [look_no hno.out]
      exact ⟨rfl, b0.trans (hbw.mono b0.size)⟩
end Go.Proofs.Ythpdamkpefgmaaa.RefCnt
