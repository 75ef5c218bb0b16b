/- gluepotref12: counts as a list of pairs that rises, in memory; Get, walked. gluepotref12: a pair's count is set, walked. gluepotref12: a pair's count is set, walked. gluepotref12: Add, once: a count is taken away, or set anew. -/
import Derived.Test.YtaecngdabgnamaaMMap
import Derived.Test.YtaecngdabgnamaaMExt
import Derived.Test.YtaecngdabgnamaaWEqStruct
import Derived.Test.YtaecngdabgnamaaWMore
import Derived.Test.YtaecngdabgnamaaWLast
import Derived.Deep.RegionHeld3
import Derived.Deep.RegionLaw
import Derived.Deep.AppendLies
import Derived.Deep.DrawnRows
import Derived.Test.YtaecngdabgnamaaSeqPure
import Derived.BigRegion
import Derived.Deep.CutRange
namespace Go.Proofs.Ytaecngdabgnamaa.RefCnt
open Go.RowKit Go.Maps Go.Proofs.YtaecngdabgnamaaW.PrintWords Go.Proofs.YtaecngdabgnamaaW.PrintLast Go.Proofs.YtaecngdabgnamaaW.PrintMore Base Foot ExtTail PMap
set_option linter.unusedVariables false
set_option linter.unusedSimpArgs false
attribute [local go_sem ↓] Go.wp_at_zero Go.wp_at_succ

theorem eqP (d : Nat) (w : World) (x0 y0 x1 y1 : Int) :
    (Op.equalIn (d + 2) 23 (.agg #[.int .i64 x0, .int .i64 x1]) (.agg #[.int .i64 y0, .int .i64 y1])).run Try.prog w = .ok (x0 == y0 && (x1 == y1)) w := by
  refine eqA_of Try.underlying23 (by kernel_rfl) ?_
  refine eqf_cons (by rfl) (by go_simp; rfl) (by go_simp; rfl) (by go_simp) ?_
  exact eqf_last (by rfl) (by go_simp; rfl) (by go_simp; rfl) (by go_simp)
attribute [local go_sem high] eqP

def encK (x : PK × Int) : List Value := [.int .i64 x.1.1, .int .i64 x.1.2]
def encN (x : PK × Int) : List Value := [.int .i64 x.2]
theorem encK_len (x : PK × Int) : (encK x).length = 2 := rfl
theorem encN_len (x : PK × Int) : (encN x).length = 1 := rfl
/-- counts at an address: the pairs, how often they are there -/
structure RC (B : Nat) (w : World) (b o : Nat) (arr : Array Value) (t : TypeId) (pv nv : Value) (m : List (PK × Int)) : Prop where
  blk : w.heap[b]? = some (.cells arr t (0, 0))
  ap : arr[o]? = some pv
  an : arr[o + 1]? = some nv
  tp : t ≠ 23
  tn : t ≠ 3
  rp : w.ownsRow B 23 2 pv m.length (m.flatMap encK)
  rn : w.ownsRow B 3 1 nv m.length (m.flatMap encN)
  small : m.length ≤ 1000
  al : Al m
  nd : Nd m
def CFoot (b : Nat) (pv nv : Value) (k : Nat) : Prop := k = b ∨ pv.ownBlock = some k ∨ nv.ownBlock = some k
section
variable {B : Nat} {w w' : World} {b o : Nat} {arr : Array Value} {t : TypeId} {pv nv : Value} {m : List (PK × Int)} (h : RC B w b o arr t pv nv m)
include h
theorem RC.cp : w.cell? ⟨b, o, none⟩ = some pv := (cell_at h.blk o).trans h.ap
theorem RC.cn : w.cell? ⟨b, o + 1, none⟩ = some nv := (cell_at h.blk (o + 1)).trans h.an
theorem RC.keep (hk : ∀ k, CFoot b pv nv k → w'.heap[k]? = w.heap[k]?) : RC B w' b o arr t pv nv m :=
  ⟨(hk b (.inl rfl)).trans h.blk, h.ap, h.an, h.tp, h.tn, own_keep h.rp (fun k e => hk k (.inr (.inl e))), own_keep h.rn (fun k e => hk k (.inr (.inr e))), h.small, h.al, h.nd⟩
theorem RC.lt : ∀ k, CFoot b pv nv k → k < w.heap.size := by
  rintro k (rfl | hk | hk)
  · exact block_lt h.blk
  · exact (h.rp.lt k hk).2
  · exact (h.rn.lt k hk).2
theorem RC.below (hb : Below w.heap.size w w') : RC B w' b o arr t pv nv m := h.keep fun k hk => hb.block k (h.lt k hk)
theorem RC.ps : ∃ A cap, pv = .slice A m.length cap := by
  rcases h.rp.2 with ⟨rfl, h0⟩ | ⟨g, cap, cur, rfl, _⟩
  · exact ⟨none, 0, by rw [h0]⟩
  · exact ⟨_, _, rfl⟩
theorem RC.ns : ∃ A cap, nv = .slice A m.length cap := by
  rcases h.rn.2 with ⟨rfl, h0⟩ | ⟨g, cap, cur, rfl, _⟩
  · exact ⟨none, 0, by rw [h0]⟩
  · exact ⟨_, _, rfl⟩
end
theorem look_first : ∀ {m : List (PK × Int)} {k : Nat} {x : PK × Int} {p : PK}, m[k]? = some x → (∀ j < k, ∀ y, m[j]? = some y → y.1 ≠ p) → x.1 = p → PMap.look m p = some x.2
  | [], _, _, _, hx, _, _ => by simp at hx
  | a :: t, 0, x, p, hx, _, e => by
    simp at hx
    subst hx
    rw [look_cons, if_pos e]
  | a :: t, k + 1, x, p, hx, hn, e => by
    rw [look_cons, if_neg (hn 0 (by omega) a rfl)]
    exact look_first (k := k) (by simpa using hx) (fun j hj y hy => hn (j + 1) (by omega) y (by simpa using hy)) e
theorem look_no : ∀ {m : List (PK × Int)} {p : PK}, (∀ j < m.length, ∀ y, m[j]? = some y → y.1 ≠ p) → PMap.look m p = none
  | [], _, _ => rfl
  | a :: t, p, hn => by
    rw [look_cons, if_neg (hn 0 (by simp) a rfl)]
    exact look_no (fun j hj y hy => hn (j + 1) (by simp; omega) y (by simpa using hy))

set_option maxHeartbeats 1600000 in
set_option maxRecDepth 100000 in
theorem get_any {B : Nat} {w : World} {b o : Nat} {arr : Array Value} {t : TypeId} {pv nv : Value} {m : List (PK × Int)} (h : RC B w b o arr t pv nv m) (p : PK) :
    Calls Try.prog 26 #[.pointer (some ⟨b, o, none⟩), vP p] w fun e w' => e = .returned (.int .i64 ((PMap.look m p).getD 0)) ∧ Below w.heap.size w w' := by
  obtain ⟨p1, p2⟩ := p
  have b0 : Below w.heap.size w (w.alloc (.cells #[.int .i64 p1, .int .i64 p2] 23)) := (Below.refl _ _).alloc (Nat.le_refl _) _
  have x0 := heap_alloc_new w (.cells #[.int .i64 p1, .int .i64 p2] 23)
  have h0 := h.below b0
  obtain ⟨A, cap, rfl⟩ := h.ps
  obtain ⟨A2, cap2, rfl⟩ := h.ns
  have hs := h.small
  have H0 := Lib.hid h0
  clear h h0
  unfold vP
  go_enter Try.func26, Try.ntmps26
  go_wp2_with fail
  generalize w.alloc (.cells #[.int .i64 p1, .int .i64 p2] 23) = w0 at *
  go_loopw [5] (fun v5 wr => ∃ k : Nat, k ≤ m.length ∧ v5 = .int .i64 (k : Int) ∧ Hid (∀ j < k, ∀ y, m[j]? = some y → y.1 ≠ (p1, p2)) ∧ Below w0.heap.size w0 wr) (fun i _ => m.length - (intOf i).toNat)
  case atStart => exact ⟨0, by omega, rfl, fun j hj => by omega, Below.refl _ _⟩
  case round =>
    obtain ⟨k, hk, rfl, hno, hbw⟩ := hrel
    have h1 := H0.out.below hbw
    have cp := h1.cp
    have cn := h1.cn
    have x1 := (hbw.block _ (block_lt x0)).trans x0
    have d0 := cell_at x1 0
    have d1 := cell_at x1 1
    simp only [List.getElem?_toArray, List.getElem?_cons_zero, List.getElem?_cons_succ] at d0 d1
    by_cases hlt : k < m.length
    · have hx := List.getElem?_eq_getElem hlt
      generalize m[k] = x at hx
      obtain ⟨⟨xa, xb⟩, xn⟩ := x
      obtain ⟨ad, c2, e, _, hx0, hx1⟩ := own_at encK_len h1.rp (by omega) hx
      cases e
      obtain ⟨ad2, c3, e, _, hy0, _⟩ := own_at encN_len h1.rn (by omega) hx
      cases e
      have y0 := hx0 _ rfl
      have y1 := hx1 1 _ rfl
      have z0 := hy0 _ rfl
      rw [Nat.mul_one] at z0
      have HX := Lib.hid hx
      have H1 := Lib.hid h1
      clear hx hx0 hx1 hy0 h1
      have k1 : (0 : Int) ≤ (k : Int) := by omega
      have k2 : (k : Int) < (m.length : Int) := by omega
      by_cases he : (xa, xb) = (p1, p2)
      · have e1 : (xa == p1) = true := by simp at he; simp [he.1]
        have e2 : (xb == p2) = true := by simp at he; simp [he.2]
        have hb : (xa == p1 && (xb == p2)) = true := by rw [e1, e2]; rfl
        have HE := Lib.hid he
        clear he
        go_wp2_with fail
        go_quiet (fail)
        go_wp2_with fail
        go_ret
        rw [look_first HX.out hno.out HE.out]
        exact ⟨rfl, (b0.trans (hbw.mono b0.size)).trans (bdrew _ _ _)⟩
      · have hb : (xa == p1 && (xb == p2)) = false := by
          cases hc : (xa == p1 && (xb == p2)) with
          | false => rfl
          | true => simp at hc; exact absurd (by rw [hc.1, hc.2]) he
        have HE := Lib.hid he
        clear he
        go_wp2_with fail
        go_quiet (fail)
        go_wp2_with fail
        go_roundw
        case rel =>
          refine ⟨k + 1, by omega, by go_num, fun j hj y hy => ?_, hbw.trans (bdrew _ _ _)⟩
          by_cases hjk : j = k
          · subst hjk
            have := HX.out.symm.trans hy
            simp at this
            rw [← this]
            exact HE.out
          · exact hno.out j (by omega) y hy
        case measure => simp [intOf]; omega
    · obtain rfl : k = m.length := by omega
      go_wp2_with fail
      go_ret
      rw [look_no hno.out]
      exact ⟨rfl, b0.trans (hbw.mono b0.size)⟩
end Go.Proofs.Ytaecngdabgnamaa.RefCnt

namespace Go.Proofs.Ytaecngdabgnamaa.RefCnt
open Go.RowKit Go.Maps Go.ChangeShapes Go.WideShapes Go.Deep Go.Proofs.YtaecngdabgnamaaW.PrintWords Go.Proofs.YtaecngdabgnamaaW.PrintLast Go.Proofs.YtaecngdabgnamaaW.PrintMore Base Foot ExtTail PMap
set_option linter.unusedVariables false
set_option linter.unusedSimpArgs false
attribute [local go_sem ↓] Go.wp_at_zero Go.wp_at_succ
attribute [local go_sem high] eqP

theorem infoP : (Try.prog.info? 23).map (fun i => (i.zero, i.size, i.bytes)) = some (some (.agg #[.int .i64 0, .int .i64 0]), 2, 16) := by kernel_rfl
theorem infoN : (Try.prog.info? 3).map (fun i => (i.zero, i.size, i.bytes)) = some (some (.int .i64 0), 1, 8) := by kernel_rfl
def befB (a b : PK) : Bool := decide (a.1 < b.1) || (decide (a.1 = b.1) && decide (a.2 < b.2))
theorem before_any (w : World) (a b : PK) : Calls Try.prog 68 #[vP a, vP b] w fun e w' => e = .returned (.bool (befB a b)) ∧ Below w.heap.size w w' := by
  obtain ⟨a1, a2⟩ := a
  obtain ⟨b1, b2⟩ := b
  unfold vP
  have e1 := alloc_blk (x := .cells #[.int .i64 b1, .int .i64 b2] 23) (heap_alloc_new w (.cells #[.int .i64 a1, .int .i64 a2] 23))
  have e2 : ((w.alloc (.cells #[.int .i64 a1, .int .i64 a2] 23)).alloc (.cells #[.int .i64 b1, .int .i64 b2] 23)).heap[w.heap.size + 1]? = some (.cells #[.int .i64 b1, .int .i64 b2] 23 (0, 0)) := by
    have := heap_alloc_new (w.alloc (.cells #[.int .i64 a1, .int .i64 a2] 23)) (.cells #[.int .i64 b1, .int .i64 b2] 23)
    simpa using this
  have bb : Below w.heap.size w ((w.alloc (.cells #[.int .i64 a1, .int .i64 a2] 23)).alloc (.cells #[.int .i64 b1, .int .i64 b2] 23)) := ((Below.refl _ _).alloc (Nat.le_refl _) _).alloc (by simp) _
  have c0 := cell_at e1 0
  have c1 := cell_at e1 1
  have d0 := cell_at e2 0
  have d1 := cell_at e2 1
  simp only [List.getElem?_toArray, List.getElem?_cons_zero, List.getElem?_cons_succ] at c0 c1 d0 d1
  clear e1 e2
  go_enter Try.func68, Try.ntmps68
  by_cases h1 : a1 < b1
  · have hb : befB (a1, a2) (b1, b2) = true := by simp [befB, h1]
    have HB := Lib.hid hb
    clear hb
    go_wp2_with fail
    go_ret
    exact ⟨by rw [HB.out]; rfl, bb⟩
  · by_cases h2 : a1 = b1
    · subst h2
      have hb : befB (a1, a2) (a1, b2) = decide (a2 < b2) := by simp [befB]
      have HB := Lib.hid hb
      clear hb
      go_wp2_with fail
      go_ret
      exact ⟨by rw [HB.out]; rfl, bb⟩
    · have hb : befB (a1, a2) (b1, b2) = false := by simp [befB, h1, h2]
      have h3 : (a1 == b1) = false := by simpa using h2
      have HB := Lib.hid hb
      clear hb
      go_wp2_with fail
      go_ret
      exact ⟨by rw [HB.out]; rfl, bb⟩
theorem mul_one_any (a : Int) (h : 0 ≤ a ∧ a ≤ 9223372036854775807) (w : World) :
    Calls Try.prog 45 #[.int .i64 a, .int .i64 1] w fun e w' => e = .returned (.tuple #[.int .i64 a, .bool true]) ∧ w = w' := by
  have h1 : IntKind.i64.wrap (a * 1) = a := by rw [Int.mul_one]; exact IntWalk.i64_in _ (by omega)
  have h2 : Int.tdiv 9223372036854775807 1 = 9223372036854775807 := by decide
  go_enter Try.func45, Try.ntmps45
  go_wp2
  go_ret2
  exact ⟨rfl, rfl⟩
theorem add_zero_any (a : Int) (h : 0 ≤ a ∧ a ≤ 9223372036854775807) (w : World) :
    Calls Try.prog 46 #[.int .i64 0, .int .i64 a] w fun e w' => e = .returned (.tuple #[.int .i64 a, .bool true]) ∧ w = w' := by
  have h1 : IntKind.i64.wrap (0 + a) = a := by rw [Int.zero_add]; exact IntWalk.i64_in _ (by omega)
  go_enter Try.func46, Try.ntmps46
  go_wp2
  go_ret2
  exact ⟨rfl, rfl⟩
theorem take_drop_step {m : List (PK × Int)} {p : PK} {i : Nat} {x : PK × Int} (h : m[i]? = some x) : dropL (m.take (i + 1)) p = dropL (m.take i) p ++ (if x.1 = p then [] else [x]) := by
  obtain ⟨hi, e⟩ := List.getElem?_eq_some_iff.1 h
  rw [List.take_succ_eq_append_getElem hi, e]
  unfold dropL
  rw [List.filter_append]
  by_cases hp : x.1 = p
  · simp [hp]
  · simp [hp]
end Go.Proofs.Ytaecngdabgnamaa.RefCnt

namespace Go.Proofs.Ytaecngdabgnamaa.RefCnt
open Go.RowKit Go.Maps Go.ChangeShapes Go.WideShapes Go.Deep Go.Proofs.YtaecngdabgnamaaW.PrintWords Go.Proofs.YtaecngdabgnamaaW.PrintLast Go.Proofs.YtaecngdabgnamaaW.PrintMore Base Foot ExtTail PMap
set_option linter.unusedVariables false
set_option linter.unusedSimpArgs false
attribute [local go_sem ↓] Go.wp_at_zero Go.wp_at_succ
attribute [local go_sem high] eqP

def insL (d : Bool) (p : PK) (n : Int) : List (PK × Int) := if d = true ∧ n ≠ 0 then [(p, n)] else []
theorem ins_no (p : PK) (n : Int) : insL false p n = [] := by simp [insL]
theorem ins_yes (p : PK) (n : Int) (h : n ≠ 0) : insL true p n = [(p, n)] := by simp [insL, h]
theorem ins_len (d : Bool) (p : PK) (n : Int) : (insL d p n).length ≤ 1 := by unfold insL; split <;> simp
theorem drop_le (m : List (PK × Int)) (p : PK) : (dropL m p).length ≤ m.length := List.length_filter_le _ _
structure SetI (m : List (PK × Int)) (p : PK) (n : Int) (i : Nat) (d : Bool) (L : List (PK × Int)) : Prop where
  perm : L.Perm (insL d p n ++ dropL (m.take i) p)
  zero : n = 0 → d = true
  top : m.length < i → d = true
  low : d = false → ∀ j x, j < i → m[j]? = some x → SeqPure.befP x.1 p
  high : SeqPure.Rise m → d = true → n ≠ 0 → ∀ j x, i ≤ j → m[j]? = some x → x.1 = p ∨ SeqPure.befP p x.1
  ri : SeqPure.Rise m → SeqPure.Rise L
theorem rise_get {m : List (PK × Int)} (h : SeqPure.Rise m) {i j : Nat} {x y : PK × Int} (hx : m[i]? = some x) (hy : m[j]? = some y) (hij : i < j) : SeqPure.befP x.1 y.1 := by
  obtain ⟨hi, rfl⟩ := List.getElem?_eq_some_iff.1 hx
  obtain ⟨hj, rfl⟩ := List.getElem?_eq_some_iff.1 hy
  exact (List.pairwise_iff_getElem.1 h) i j hi hj hij
theorem drop_get {m : List (PK × Int)} {p : PK} {i : Nat} {y : PK × Int} (h : y ∈ dropL (m.take i) p) : ∃ j, j < i ∧ m[j]? = some y := by
  have := (List.mem_filter.1 h).1
  obtain ⟨j, hj, e⟩ := List.getElem_of_mem this
  rw [List.length_take] at hj
  exact ⟨j, by omega, by rw [List.getElem_take] at e; rw [List.getElem?_eq_getElem (by omega), e]⟩
theorem SetI.len {m : List (PK × Int)} {p : PK} {n : Int} {i : Nat} {d : Bool} {L : List (PK × Int)} (h : SetI m p n i d L) : L.length ≤ m.length + 1 := by
  have h1 := h.perm.length_eq
  have h2 := ins_len d p n
  have h3 := drop_le (m.take i) p
  rw [List.length_append] at h1
  rw [List.length_take] at h3
  omega
theorem SetI.put {m : List (PK × Int)} {p : PK} {n : Int} {i : Nat} {L : List (PK × Int)} (h : SetI m p n i false L) (hb : ∀ x, m[i]? = some x → ¬ SeqPure.befP x.1 p) : SetI m p n i true (L ++ [(p, n)]) := by
  have hn : n ≠ 0 := fun h0 => by have := h.zero h0; cases this
  have hp := h.perm
  rw [ins_no, List.nil_append] at hp
  refine ⟨?_, fun _ => rfl, fun _ => rfl, (fun h => by cases h), fun hm _ _ j x hj hx => ?_, fun hm => ?_⟩
  · rw [ins_yes _ _ hn]
    exact (hp.append_right [(p, n)]).trans (List.perm_append_comm)
  · have key : ∀ y, m[i]? = some y → y.1 = p ∨ SeqPure.befP p y.1 := fun y hy => by
      by_cases e : y.1 = p
      · exact .inl e
      · exact .inr ((SeqPure.befP.tri e).resolve_left (hb y hy))
    rcases Nat.lt_or_eq_of_le hj with h1 | rfl
    · have hil : i < m.length := by have := (List.getElem?_eq_some_iff.1 hx).1; omega
      have hy := List.getElem?_eq_getElem hil
      have h2 := rise_get hm hy hx h1
      rcases key _ hy with e | e
      · rw [e] at h2; exact .inr h2
      · exact .inr (e.trans h2)
    · exact key x hx
  · refine List.pairwise_append.2 ⟨h.ri hm, List.pairwise_singleton _ _, fun y hy z hz => ?_⟩
    rw [List.mem_singleton.1 hz]
    obtain ⟨j, hj, hy2⟩ := drop_get (hp.mem_iff.1 hy)
    exact h.low rfl j y hj hy2
theorem SetI.over {m : List (PK × Int)} {p : PK} {n : Int} {L : List (PK × Int)} (h : SetI m p n m.length true L) : SetI m p n (m.length + 1) true L := by
  refine ⟨?_, fun _ => rfl, fun _ => rfl, (fun h => by cases h), fun hm _ _ j x hj hx => ?_, h.ri⟩
  · have := h.perm
    rw [List.take_of_length_le (Nat.le_refl _)] at this
    rw [List.take_of_length_le (Nat.le_succ _)]
    exact this
  · have := (List.getElem?_eq_some_iff.1 hx).1
    omega
theorem SetI.skip {m : List (PK × Int)} {p : PK} {n : Int} {i : Nat} {d : Bool} {L : List (PK × Int)} {x : PK × Int} (h : SetI m p n i d L) (hx : m[i]? = some x) (e : x.1 = p) (hq : d = false → SeqPure.befP x.1 p) : SetI m p n (i + 1) d L := by
  refine ⟨?_, h.zero, fun hh => by have := (List.getElem?_eq_some_iff.1 hx).1; omega, fun h0 => ?_, fun hm h0 h1 j y hj hy => h.high hm h0 h1 j y (by omega) hy, h.ri⟩
  · rw [take_drop_step hx, if_pos e, List.append_nil]
    exact h.perm
  · have := hq h0
    rw [e] at this
    exact absurd this (SeqPure.befP.irrefl p)
theorem SetI.more {m : List (PK × Int)} {p : PK} {n : Int} {i : Nat} {d : Bool} {L : List (PK × Int)} {x : PK × Int} (h : SetI m p n i d L) (hx : m[i]? = some x) (e : x.1 ≠ p) (hq : d = false → SeqPure.befP x.1 p) : SetI m p n (i + 1) d (L ++ [x]) := by
  refine ⟨?_, h.zero, fun hh => by have := (List.getElem?_eq_some_iff.1 hx).1; omega, fun h0 j y hj hy => ?_, fun hm h0 h1 j y hj hy => h.high hm h0 h1 j y (by omega) hy, fun hm => ?_⟩
  · rw [take_drop_step hx, if_neg e, ← List.append_assoc]
    exact h.perm.append_right _
  · rcases Nat.lt_or_eq_of_le (Nat.le_of_lt_succ hj) with h1 | rfl
    · exact h.low h0 j y h1 hy
    · rw [hx] at hy; cases hy; exact hq h0
  · refine List.pairwise_append.2 ⟨h.ri hm, List.pairwise_singleton _ _, fun y hy z hz => ?_⟩
    rw [List.mem_singleton.1 hz]
    rcases List.mem_append.1 (h.perm.mem_iff.1 hy) with h1 | h1
    · unfold insL at h1
      split at h1
      · rename_i h2
        rw [List.mem_singleton.1 h1]
        exact (h.high hm h2.1 h2.2 i x (Nat.le_refl _) hx).resolve_left e
      · cases h1
    · obtain ⟨j, hj, hy2⟩ := drop_get h1
      exact rise_get hm hy2 hx hj
def SetR (m : List (PK × Int)) (p : PK) (n : Int) (m' : List (PK × Int)) : Prop := m'.Perm (if n = 0 then dropL m p else putL m p n) ∧ (SeqPure.Rise m → SeqPure.Rise m')
theorem SetI.done {m : List (PK × Int)} {p : PK} {n : Int} {L : List (PK × Int)} {d : Bool} {i : Nat} (h : SetI m p n i d L) (hi : m.length < i) : SetR m p n L := by
  refine ⟨?_, h.ri⟩
  have h1 := h.perm
  rw [h.top hi, List.take_of_length_le (by omega)] at h1
  by_cases h0 : n = 0
  · rw [if_pos h0]
    simpa [insL, h0] using h1
  · rw [if_neg h0]
    rw [ins_yes _ _ h0] at h1
    exact h1
theorem befB_iff {a b : PK} : befB a b = true ↔ SeqPure.befP a b := by unfold befB SeqPure.befP; simp
theorem perm_nd {m m' : List (PK × Int)} (hp : m'.Perm m) (h : Nd m) : Nd m' := by
  unfold Nd at *
  exact ((hp.map _).nodup_iff).2 h
theorem perm_al {m m' : List (PK × Int)} (hp : m'.Perm m) (h : Al m) : Al m' := fun x hx => h x (hp.mem_iff.1 hx)
theorem flat_one (f : PK × Int → List Value) (L : List (PK × Int)) (x : PK × Int) : L.flatMap f ++ f x = (L ++ [x]).flatMap f := by simp
theorem row_more {w : World} {B : Nat} {e : TypeId} {sz : Nat} {v : Value} {L : List (PK × Int)} {f : PK × Int → List Value} {x : PK × Int} {ys : List Value} (h : w.ownsRow B e sz v (L.length + 1) (L.flatMap f ++ ys)) (e1 : ys = f x) : w.ownsRow B e sz v (L ++ [x]).length ((L ++ [x]).flatMap f) := by
  subst e1
  rw [flat_one] at h
  rw [List.length_append, List.length_singleton]
  exact h

/-- the row of the other kind, behind an append -/
theorem n_keep {w w5 wa : World} {D : Nat} {e e' : TypeId} {sz sz' n n' : Nat} {v v' : Value} {xs xs' : List Value} (hN : w.ownsRow D e sz v n xs) (hP : w.ownsRow D e' sz' v' n' xs') (hne : e' ≠ e) (hb : Below w.heap.size w wa) (hg : wa.grownBy w5 v'.ownBlock) : w5.ownsRow D e sz v n xs :=
  own_keep hN fun k ek => by
    have hl := (hN.lt k ek).2
    rw [hg.block k (Nat.lt_of_lt_of_le hl hb.size) (fun h => own_not_own hP hN hne h.symm ek)]
    exact hb.block k hl
theorem b_grow {D : Nat} {w0 w wa w5 : World} {ob : Option Nat} (h : Below D w0 w) (hD : D ≤ w.heap.size) (hb : Below w.heap.size w wa) (hg : wa.grownBy w5 ob) (hr : ∀ k, ob = some k → D ≤ k) : Below D w0 w5 :=
  (h.trans (hb.mono hD)).grown hg (Nat.le_trans hD hb.size) hr
theorem b_one (w : World) (o : Obj) : Below w.heap.size w (w.alloc o) := (Below.refl _ _).alloc (Nat.le_refl _) o
theorem b_two (w : World) (o o' : Obj) : Below w.heap.size w ((w.alloc o).alloc o') := (b_one w o).alloc (by simp) o'
theorem news_in {w : World} {b : Nat} {cs : Array Value} {t : TypeId} {fz : Nat × Nat} (h : w.heap[b]? = some (.cells cs t fz)) : ∀ j u, cs.toList[j]? = some u → w.cell? ((⟨b, 0, none⟩ : Addr).add j) = some u := by
  intro j u hu
  rw [addr_add, Nat.zero_add, cell_at h]
  simpa using hu

structure SetW (B bx : Nat) (w0 W : World) (b o : Nat) (arr : Array Value) (t : TypeId) (pv nv : Value) (m : List (PK × Int)) (p1 p2 : Int) (ov mv : Value) (L : List (PK × Int)) : Prop where
  hP : W.ownsRow w0.heap.size 23 2 ov L.length (L.flatMap encK)
  hN : W.ownsRow w0.heap.size 3 1 mv L.length (L.flatMap encN)
  hbw : Below w0.heap.size w0 W
  h1 : RC B W b o arr t pv nv m
  x1 : W.heap[bx]? = some (.cells #[.int .i64 p1, .int .i64 p2] 23)
theorem SetW.drewN {B bx : Nat} {w0 W : World} {b o : Nat} {arr : Array Value} {t : TypeId} {pv nv : Value} {m : List (PK × Int)} {p1 p2 : Int} {ov mv : Value} {L : List (PK × Int)} (h : SetW B bx w0 W b o arr t pv nv m p1 p2 ov mv L) (n : Nat) : SetW B bx w0 (W.drewN n) b o arr t pv nv m p1 p2 ov mv L :=
  ⟨h.hP, h.hN, h.hbw.trans (bdrew _ _ _), h.h1.below (bdrew _ _ _), h.x1⟩
theorem SetW.below {B bx : Nat} {w0 W W' : World} {b o : Nat} {arr : Array Value} {t : TypeId} {pv nv : Value} {m : List (PK × Int)} {p1 p2 : Int} {ov mv : Value} {L : List (PK × Int)} (h : SetW B bx w0 W b o arr t pv nv m p1 p2 ov mv L) (hb : Below W.heap.size W W') : SetW B bx w0 W' b o arr t pv nv m p1 p2 ov mv L :=
  ⟨own_keep h.hP (fun k e => hb.block k (h.hP.lt k e).2), own_keep h.hN (fun k e => hb.block k (h.hN.lt k e).2), h.hbw.trans (hb.mono h.hbw.size), h.h1.below hb, (hb.block _ (block_lt h.x1)).trans h.x1⟩
theorem own_sl {w : World} {D n : Nat} {e : TypeId} {sz : Nat} {v : Value} {xs : List Value} (h : w.ownsRow D e sz v n xs) : ∃ A c, v = .slice A n c := by
  rcases h.2 with ⟨rfl, h0⟩ | ⟨g, cap, cur, rfl, _⟩
  · exact ⟨none, 0, by rw [h0]⟩
  · exact ⟨_, _, rfl⟩

set_option hygiene false in
macro "set_facts" : tactic => `(tactic| (
  obtain ⟨hP, hN, hbw, h1, x1⟩ := hW
  have cp := h1.cp
  have cn := h1.cn
  have f0 := frozen_at h1.blk o
  have f1 := frozen_at h1.blk (o + 1)
  have d0 := cell_at x1 0
  have d1 := cell_at x1 1
  simp only [List.getElem?_toArray, List.getElem?_cons_zero, List.getElem?_cons_succ] at d0 d1
  have hll := HS.out.len
  have hz : w0.heap.size ≤ wr.heap.size := hbw.size
  have H1 := Lib.hid h1
  clear h1))
set_option hygiene false in
macro "set_draw" : tactic => `(tactic| (
  have hW := SetW.drewN (b := b) (o := o) (ov := .slice Ao L.length co) (mv := .slice An L.length cn0) ⟨hP, hN, hbw, H1.out, x1⟩ nq
  clear hP hN hbw x1 cp cn f0 f1 d0 d1 H1 hz
  generalize wr.drewN nq = wr at *
  set_facts))
set_option hygiene false in
macro "set_elt" : tactic => `(tactic| (
  obtain ⟨ad, c2, e, _, y0, y1⟩ := own_at encK_len H1.out.rp (by omega) HX.out
  cases e
  obtain ⟨ad2, c3, e, _, z0, _⟩ := own_at encN_len H1.out.rn (by omega) HX.out
  cases e
  have y0 := y0 _ rfl
  have y1 := y1 1 _ rfl
  have z0 := z0 _ rfl
  rw [Nat.mul_one] at z0))
set_option hygiene false in
macro "set_ins" : tactic => `(tactic| (
  go_wp2_with (first
    | (at_builtin; refine wpList_append_own_at _ rfl _ _ 44 rfl w0.heap.size 23 iP _ 2 16 Try.underlying44 hiP zP0 zP1 zP2 rfl (by decide) _ _ _ rfl (hP.alloc _) ⟨wr.heap.size, 0, none⟩ 1 1 [.int .i64 p1, .int .i64 p2] rfl rfl (news_alloc rfl) (by simp [Value.oneCell']) (by unfold maxLen; omega) (by omega) (by simp; omega) ?_; intro ov2 w2 hP2 hg2 _ hat2; have hN2 := n_keep hN hP (by decide) (b_one _ _) hg2; have hb2 : Below w0.heap.size w0 w2 := b_grow hbw hbw.size (b_one _ _) hg2 (fun k hk => (hP.lt k hk).1); have hs2 := hb2.size)
    | (at_builtin; refine wpList_append_own_at _ rfl _ _ 33 rfl w0.heap.size 3 iN _ 1 8 Try.underlying33 hiN zN0 zN1 zN2 rfl (by decide) _ _ _ rfl (hN2.alloc _) ⟨w2.heap.size, 0, none⟩ 1 1 [.int .i64 n] rfl rfl (news_alloc rfl) (by simp [Value.oneCell']) (by unfold maxLen; omega) (by omega) (by simp; omega) ?_; intro mv2 w3 hN3 hg3 _ hat3; have hP3 := n_keep hP2 hN2 (by decide) (b_one _ _) hg3; have hb3 : Below w0.heap.size w0 w3 := b_grow hb2 hb2.size (b_one _ _) hg3 (fun k hk => (hN2.lt k hk).1)))
  have hl3 : ∀ k, k < w0.heap.size → w3.heap[k]? = wr.heap[k]? := fun k hk => (hb3.block k hk).trans (hbw.block k hk).symm
  have hd0 : w.heap.size < w0.heap.size := block_lt x0
  have hW := SetW.mk (L := L ++ [((p1, p2), n)]) (row_more hP3 rfl) (row_more hN3 rfl) hb3 (H0.out.below hb3) ((hl3 _ hd0).trans x1)
  clear hl3 hd0
  have HS := Lib.hid (HS.out.put HNB.out)
  clear hP hN hP2 hN2 hP3 hN3 hg2 hg3 hat2 hat3 hb2 hb3 hs2 hbw x1 cp cn f0 f1 d0 d1 H1 hll hz
  generalize L ++ [((p1, p2), n)] = L at *
  generalize w3 = wr at *
  obtain ⟨Ao, co, rfl⟩ := own_sl hW.hP
  obtain ⟨An, cn0, rfl⟩ := own_sl hW.hN
  set_facts))

theorem news_fst {w : World} {o : Obj} {cs : Array Value} {t : TypeId} : ∀ j u, cs.toList[j]? = some u → ((w.alloc (.cells cs t)).alloc o).drew.cell? ((⟨w.heap.size, 0, none⟩ : Addr).add j) = some u :=
  news_in (w := ((w.alloc (.cells cs t)).alloc o).drew) (fz := (0, 0)) (alloc_blk (heap_alloc_new w _))
theorem news_snd {w : World} {o : Obj} {cs : Array Value} {t : TypeId} : ∀ j u, cs.toList[j]? = some u → ((w.alloc o).alloc (.cells cs t)).drew.cell? ((⟨w.heap.size + 1, 0, none⟩ : Addr).add j) = some u := by
  have h : ((w.alloc o).alloc (.cells cs t)).heap[w.heap.size + 1]? = some (.cells cs t (0, 0)) := by
    have := heap_alloc_new (w.alloc o) (.cells cs t)
    simpa using this
  exact news_in (w := ((w.alloc o).alloc (.cells cs t)).drew) (fz := (0, 0)) h
theorem news_two {w w5 : World} {o : Obj} {cs : Array Value} {t : TypeId} {ob : Option Nat} (hg : ((w.alloc o).alloc (.cells cs t)).drew.grownBy w5 ob) (hr : ∀ k, ob = some k → k < w.heap.size) : ∀ j u, cs.toList[j]? = some u → w5.cell? ((⟨w.heap.size + 1, 0, none⟩ : Addr).add j) = some u := by
  have h : ((w.alloc o).alloc (.cells cs t)).heap[w.heap.size + 1]? = some (.cells cs t (0, 0)) := by
    have := heap_alloc_new (w.alloc o) (.cells cs t)
    simpa using this
  exact news_in (grown_blk hg (w := ((w.alloc o).alloc (.cells cs t)).drew) h (fun e => by have := hr _ e.symm; omega))
theorem news_one {w w5 : World} {o : Obj} {cs : Array Value} {t : TypeId} {ob : Option Nat} (hg : ((w.alloc (.cells cs t)).alloc o).drew.grownBy w5 ob) (hr : ∀ k, ob = some k → k < w.heap.size) : ∀ j u, cs.toList[j]? = some u → w5.cell? ((⟨w.heap.size, 0, none⟩ : Addr).add j) = some u := by
  have h : ((w.alloc (.cells cs t)).alloc o).heap[w.heap.size]? = some (.cells cs t (0, 0)) := alloc_blk (heap_alloc_new w _)
  exact news_in (grown_blk hg (w := ((w.alloc (.cells cs t)).alloc o).drew) h (fun e => by have := hr _ e.symm; omega))

theorem row_base {w : World} {B B' : Nat} {e : TypeId} {sz n : Nat} {v : Value} {xs : List Value} (h : w.ownsRow B e sz v n xs) (hB : B' ≤ B) : w.ownsRow B' e sz v n xs := by
  obtain ⟨q1, q2⟩ := h
  refine ⟨q1, ?_⟩
  rcases q2 with q2 | ⟨g, cap, cur, e, hb, q⟩
  · exact .inl q2
  · exact .inr ⟨g, cap, cur, e, by omega, q⟩
/-- the end: the two new rows are laid into the block -/
theorem set_last {B : Nat} {w w0 wr : World} {b o : Nat} {arr : Array Value} {t : TypeId} {pv nv ov mv : Value} {m L : List (PK × Int)} {p : PK} {n : Int} {i : Nat} {d : Bool} (h0 : RC B w b o arr t pv nv m) (hB : B ≤ w.heap.size) (hb0 : Below w.heap.size w w0)
    (hP : wr.ownsRow w0.heap.size 23 2 ov L.length (L.flatMap encK)) (hN : wr.ownsRow w0.heap.size 3 1 mv L.length (L.flatMap encN)) (hbw : Below w0.heap.size w0 wr) (hS : SetI m p n i d L) (hi : m.length < i) (hsm : m.length < 1000) (hp : P64 p) (hn : In64 n) :
    RC B ((wr.setCell ⟨b, o, none⟩ ov).setCell ⟨b, o + 1, none⟩ mv) b o ((arr.setIfInBounds o ov).setIfInBounds (o + 1) mv) t ov mv L ∧ SetR m p n L ∧ Upd (CFoot b pv nv) (CFoot b ov mv) w ((wr.setCell ⟨b, o, none⟩ ov).setCell ⟨b, o + 1, none⟩ mv) := by
  have hr := hS.done hi
  have hlb := block_lt h0.blk
  have hsz := hb0.size
  have h1 : wr.heap[b]? = some (.cells arr t (0, 0)) := ((hbw.block b (by omega)).trans (hb0.block b hlb)).trans h0.blk
  have oa := (Array.getElem?_eq_some_iff.1 h0.ap).1
  have ob := (Array.getElem?_eq_some_iff.1 h0.an).1
  have hk : ∀ k, k ≠ b → ((wr.setCell ⟨b, o, none⟩ ov).setCell ⟨b, o + 1, none⟩ mv).heap[k]? = wr.heap[k]? := fun k hk => (set_blk_eq hk).trans (set_blk_eq hk)
  have hr2 := hr.1
  refine ⟨⟨set_at (set_at h1 o ov) (o + 1) mv, by simp [oa], by simp [ob], h0.tp, h0.tn, own_keep (row_base hP (by omega)) (fun k e => hk k (by have := (hP.lt k e).1; omega)), own_keep (row_base hN (by omega)) (fun k e => hk k (by have := (hN.lt k e).1; omega)), ?_, ?_, ?_⟩, hr, ?_⟩
  · have := hS.len
    omega
  · refine perm_al hr2 ?_
    split
    · exact h0.al.drop p
    · exact h0.al.put hp hn
  · refine perm_nd hr2 ?_
    split
    · exact h0.nd.drop p
    · exact h0.nd.put p n
  · have hu : Upd (CFoot b pv nv) (CFoot b pv nv) w wr := Upd.of_below (hb0.trans (hbw.mono hsz))
    refine ((hu.trans (Upd.set (p := ⟨b, o, none⟩) (.inl rfl))).trans (Upd.set (p := ⟨b, o + 1, none⟩) (.inl rfl))).foot ?_
    rintro k (rfl | h1 | h1)
    · exact .inl (.inl rfl)
    · exact .inr (by have := (hP.lt k h1).1; omega)
    · exact .inr (by have := (hN.lt k h1).1; omega)

set_option hygiene false in
macro "set_tail" : tactic => `(tactic| (
  set_elt
  by_cases he : (xa, xb) = (p1, p2)
  · have e1 : (xa == p1) = true := by simp at he; simp [he.1]
    have e2 : (xb == p2) = true := by simp at he; simp [he.2]
    have hb : (xa == p1 && (xb == p2)) = true := by rw [e1, e2]; rfl
    have HE := Lib.hid he
    clear he
    go_wp2_with fail
    go_quiet (fail)
    go_wp2_with fail
    go_roundw
    case rel => exact ⟨i + 1, L, _, _, _, by omega, rfl, rfl, rfl, by go_num, ⟨hP, hN, hbw.trans (bdrew _ _ _), H1.out.below (bdrew _ _ _), x1⟩, Lib.hid (HS.out.skip HX.out HE.out (fun h => befB_iff.1 (HBB.out.trans (HQ.out h))))⟩
    case measure => simp [intOf] <;> omega
  · have hb : (xa == p1 && (xb == p2)) = false := by
      cases hc : (xa == p1 && (xb == p2)) with
      | false => rfl
      | true => simp at hc; exact absurd (by rw [hc.1, hc.2]) he
    have HE := Lib.hid he
    clear he
    go_wp2_with fail
    go_quiet (fail)
    clear y0 y1 z0
    set_draw
    set_elt
    go_wp2_with fail
    obtain ⟨_, _, e, _, zq, _⟩ := own_at encN_len H0.out.rn (by omega) HX.out
    cases e
    have hkn := World.block_lt_of_cell? w0 _ (zq _ rfl)
    rw [Nat.mul_one] at hkn
    clear zq
    have cnA : ∀ O, (wr.alloc O).cell? ⟨b, o + 1, none⟩ = some (.slice (some ad2) m.length cap2) := fun O => ((b_one wr O).cell (World.block_lt_of_cell? wr _ cn)).trans cn
    have cpA : ∀ O, (wr.alloc O).cell? ⟨b, o, none⟩ = some (.slice (some ad) m.length cap) := fun O => ((b_one wr O).cell (World.block_lt_of_cell? wr _ cp)).trans cp
    have yA0 : ∀ O, (wr.alloc O).cell? (ad.add (i * 2)) = some (.int .i64 xa) := fun O => ((b_one wr O).cell (World.block_lt_of_cell? wr _ y0)).trans y0
    have yA1 : ∀ O, (wr.alloc O).cell? ⟨(ad.add (i * 2)).block, (ad.add (i * 2)).off + 1, none⟩ = some (.int .i64 xb) := fun O => ((b_one wr O).cell (World.block_lt_of_cell? wr _ y1)).trans y1
    have zA : ∀ O, (wr.alloc O).cell? (ad2.add i) = some (.int .i64 xn) := fun O => ((b_one wr O).cell (World.block_lt_of_cell? wr _ z0)).trans z0
    go_region_law (first
      | (refine step_append_lies _ (by rfl) _ _ _ (by rfl) w0.heap.size 3 iN _ 1 8 Try.underlying33 hiN zN0 zN1 zN2 rfl (by omega) _ L.length _ (by rfl) (by exact hN2.alloc _) ⟨w2.heap.size, 0, none⟩ 1 1 [.int .i64 xn] (by rfl) (by rfl) (by exact news_alloc rfl) (by simp [Value.oneCell']) (by omega) (by unfold maxLen; omega) (by omega) (by first | omega | (simp; omega)) (w2.heap.size + 1) (by first | rfl | simp) ?_; intro q3 k3 w3 hN3 hg3 hat3 hlt3; have hP3 := n_keep hP2 hN2 (by decide) (b_one _ _) hg3; have hb3 : Below w0.heap.size w0 w3 := b_grow hb2 hb2.size (b_one _ _) hg3 (fun k hk => (hN2.lt k hk).1))
      | (refine step_append_lies _ (by rfl) _ _ _ (by rfl) w0.heap.size 3 iN _ 1 8 Try.underlying33 hiN zN0 zN1 zN2 rfl (by omega) _ L.length _ (by rfl) (by exact hN2) ⟨wr.heap.size + 1, 0, none⟩ 1 1 [.int .i64 xn] (by rfl) (by rfl) (by exact NW) (by simp [Value.oneCell']) (by omega) (by unfold maxLen; omega) (by omega) (by first | omega | (simp; omega)) (w2.heap.size) (by first | rfl | simp) ?_; intro q3 k3 w3 hN3 hg3 hat3 hlt3; have hP3 := n_keep hP2 hN2 (by decide) (Below.refl _ _) hg3; have hb3 : Below w0.heap.size w0 w3 := b_grow hb2 hb2.size (Below.refl _ _) hg3 (fun k hk => (hN2.lt k hk).1))
      | (refine step_append_lies _ (by rfl) _ _ _ (by rfl) w0.heap.size 3 iN _ 1 8 Try.underlying33 hiN zN0 zN1 zN2 rfl (by omega) _ L.length _ (by rfl) (by exact hN2) ⟨wr.heap.size, 0, none⟩ 1 1 [.int .i64 xn] (by rfl) (by rfl) (by exact NW) (by simp [Value.oneCell']) (by omega) (by unfold maxLen; omega) (by omega) (by first | omega | (simp; omega)) (w2.heap.size) (by first | rfl | simp) ?_; intro q3 k3 w3 hN3 hg3 hat3 hlt3; have hP3 := n_keep hP2 hN2 (by decide) (Below.refl _ _) hg3; have hb3 : Below w0.heap.size w0 w3 := b_grow hb2 hb2.size (Below.refl _ _) hg3 (fun k hk => (hN2.lt k hk).1))
      | (refine step_append_lies _ (by rfl) _ _ _ (by rfl) w0.heap.size 23 iP _ 2 16 Try.underlying44 hiP zP0 zP1 zP2 rfl (by omega) _ L.length _ (by rfl) (by exact (hP.alloc _).drew) ⟨wr.heap.size, 0, none⟩ 1 1 [.int .i64 xa, .int .i64 xb] (by rfl) (by rfl) (by exact news_alloc rfl) (by simp [Value.oneCell']) (by omega) (by unfold maxLen; omega) (by omega) (by simp; omega) (wr.heap.size + 1) (by simp) ?_; intro q2 k2 w2 hP2 hg2 hat2 hlt2; have hN2 := n_keep hN hP (by decide) ((b_one _ _).drew) hg2; have hb2 : Below w0.heap.size w0 w2 := b_grow hbw hbw.size ((b_one _ _).drew) hg2 (fun k hk => (hP.lt k hk).1); have hs2 := hb2.size; have cn2 := (H0.out.below hb2).cn; have z2 := ((hb2.cell (p := ad2.add i) hkn).trans (hbw.cell (p := ad2.add i) hkn).symm).trans z0)
      | (refine step_append_lies _ (by rfl) _ _ _ (by rfl) w0.heap.size 23 iP _ 2 16 Try.underlying44 hiP zP0 zP1 zP2 rfl (by omega) _ L.length _ (by rfl) (by exact ((hP.alloc _).alloc _).drew) ⟨wr.heap.size, 0, none⟩ 1 1 [.int .i64 xa, .int .i64 xb] (by rfl) (by rfl) (by exact news_fst) (by simp [Value.oneCell']) (by omega) (by unfold maxLen; omega) (by omega) (by simp; omega) (wr.heap.size + 2) (by simp) ?_; intro q2 k2 w2 hP2 hg2 hat2 hlt2; have hN2 := n_keep hN hP (by decide) ((b_two _ _ _).drew) hg2; have hb2 : Below w0.heap.size w0 w2 := b_grow hbw hbw.size ((b_two _ _ _).drew) hg2 (fun k hk => (hP.lt k hk).1); have hs2 := hb2.size; have cn2 := (H0.out.below hb2).cn; have z2 := ((hb2.cell (p := ad2.add i) hkn).trans (hbw.cell (p := ad2.add i) hkn).symm).trans z0; have NW := news_two hg2 (fun k hk => (hP.lt k hk).2))
      | (refine step_append_lies _ (by rfl) _ _ _ (by rfl) w0.heap.size 23 iP _ 2 16 Try.underlying44 hiP zP0 zP1 zP2 rfl (by omega) _ L.length _ (by rfl) (by exact ((hP.alloc _).alloc _).drew) ⟨wr.heap.size + 1, 0, none⟩ 1 1 [.int .i64 xa, .int .i64 xb] (by rfl) (by rfl) (by exact news_snd) (by simp [Value.oneCell']) (by omega) (by unfold maxLen; omega) (by omega) (by simp; omega) (wr.heap.size + 2) (by simp) ?_; intro q2 k2 w2 hP2 hg2 hat2 hlt2; have hN2 := n_keep hN hP (by decide) ((b_two _ _ _).drew) hg2; have hb2 : Below w0.heap.size w0 w2 := b_grow hbw hbw.size ((b_two _ _ _).drew) hg2 (fun k hk => (hP.lt k hk).1); have hs2 := hb2.size; have cn2 := (H0.out.below hb2).cn; have z2 := ((hb2.cell (p := ad2.add i) hkn).trans (hbw.cell (p := ad2.add i) hkn).symm).trans z0; have NW := news_one hg2 (fun k hk => (hP.lt k hk).2)))
    all_goals
      go_wp2_with fail
      go_roundw
      case rel => exact ⟨i + 1, L ++ [((xa, xb), xn)], _, _, _, by omega, rfl, rfl, rfl, by go_num, ⟨row_more hP3 rfl, row_more hN3 rfl, hb3, H0.out.below hb3, (hb3.block _ (block_lt x0)).trans x0⟩, Lib.hid (HS.out.more HX.out HE.out (fun h => befB_iff.1 (HBB.out.trans (HQ.out h))))⟩
      case measure => simp [intOf] <;> omega))

set_option maxHeartbeats 16000000 in
set_option maxRecDepth 100000 in
theorem set_any {B : Nat} {w : World} {b o : Nat} {arr : Array Value} {t : TypeId} {pv nv : Value} {m : List (PK × Int)} (h : RC B w b o arr t pv nv m) (hB : B ≤ w.heap.size) (hsm : m.length < 1000) (p : PK) (n : Int) (hp : P64 p) (hn : In64 n) :
    Calls Try.prog 47 #[.pointer (some ⟨b, o, none⟩), vP p, .int .i64 n] w fun e w' => e = .returned (.tuple #[]) ∧ ∃ pv' nv' m', RC B w' b o ((arr.setIfInBounds o pv').setIfInBounds (o + 1) nv') t pv' nv' m' ∧ SetR m p n m' ∧ Upd (CFoot b pv nv) (CFoot b pv' nv') w w' := by
  obtain ⟨p1, p2⟩ := p
  obtain ⟨iP, hiP, zP0, zP1, zP2⟩ := info_parts infoP
  obtain ⟨iN, hiN, zN0, zN1, zN2⟩ := info_parts infoN
  have b0 : Below w.heap.size w (w.alloc (.cells #[.int .i64 p1, .int .i64 p2] 23)) := (Below.refl _ _).alloc (Nat.le_refl _) _
  have x0 := heap_alloc_new w (.cells #[.int .i64 p1, .int .i64 p2] 23)
  have h0 := h.below b0
  obtain ⟨A, cap, rfl⟩ := h.ps
  obtain ⟨A2, cap2, rfl⟩ := h.ns
  have HH := Lib.hid h
  have H0 := Lib.hid h0
  have HP64 := Lib.hid hp
  have HN64 := Lib.hid hn
  clear h h0 hp hn
  unfold vP
  go_enter Try.func47, Try.ntmps47
  go_wp2_with fail
  have hge : w.heap.size ≤ (w.alloc (.cells #[.int .i64 p1, .int .i64 p2] 23)).heap.size := b0.size
  generalize w.alloc (.cells #[.int .i64 p1, .int .i64 p2] 23) = w0 at *
  go_loopw [6, 7, 8, 9] (fun v6 v7 v8 v9 wr => ∃ (i : Nat) (L : List (PK × Int)) (d : Bool) (ov mv : Value), i ≤ m.length + 1 ∧ ov = v6 ∧ mv = v7 ∧ v8 = .bool d ∧ v9 = .int .i64 (i : Int) ∧ SetW B w.heap.size w0 wr b o arr t (.slice A m.length cap) (.slice A2 m.length cap2) m p1 p2 ov mv L ∧ Hid (SetI m (p1, p2) n i d L)) (fun _ _ _ i _ => m.length + 2 - (intOf i).toNat)
  case atStart =>
    refine ⟨0, [], n == 0, _, _, by omega, rfl, rfl, rfl, rfl, ⟨World.ownsRow_nil _ _ _ _, World.ownsRow_nil _ _ _ _, Below.refl _ _, H0.out, x0⟩, Lib.hid ⟨?_, fun h0 => by simpa using h0, fun hh => by omega, fun _ j x hj => by omega, fun _ h0 h1 => absurd (by simpa using h0) h1, fun _ => List.Pairwise.nil⟩⟩
    · by_cases h0 : n = 0
      · simp [insL, dropL, h0]
      · simp [insL, dropL, h0]
  case round =>
    obtain ⟨i, L, d, ov, mv, hi, rfl, rfl, rfl, rfl, hW, HS⟩ := hrel
    obtain ⟨Ao, co, rfl⟩ := own_sl hW.hP
    obtain ⟨An, cn0, rfl⟩ := own_sl hW.hN
    set_facts
    by_cases hend : i = m.length + 1
    · have hgt : (m.length : Int) < (i : Int) := by omega
      have HEND := Lib.hid hend
      clear hend
      go_wp2_with fail
      go_end0
      exact ⟨rfl, _, _, _, set_last HH.out hB b0 hP hN hbw HS.out (by omega) hsm HP64.out HN64.out⟩
    · have hle : (i : Int) ≤ (m.length : Int) := by omega
      clear hend
      by_cases hlm : i = m.length
      · subst hlm
        have hnlt : ¬ (m.length : Int) < (m.length : Int) := by omega
        by_cases hd : d = true
        · subst hd
          go_wp2_with fail
          go_quiet (fail)
          go_wp2_with fail
          go_quiet (fail)
          go_wp2_with fail
          go_roundw
          case rel => exact ⟨m.length + 1, L, true, _, _, by omega, rfl, rfl, rfl, by go_num, ⟨hP, hN, hbw.trans (bdrew _ _ _), H1.out.below (bdrew _ _ _), x1⟩, Lib.hid (HS.out.over)⟩
          case measure => simp [intOf] <;> omega
        · obtain rfl : d = false := by simpa using hd
          clear hd
          go_wp2_with fail
          go_quiet (fail)
          have hnb : ∀ (x : PK × Int), m[m.length]? = some x → ¬ SeqPure.befP x.1 (p1, p2) := by
            intro x hx
            have := (List.getElem?_eq_some_iff.1 hx).1
            omega
          have HNB := Lib.hid hnb
          clear hnb
          set_draw
          set_ins
          go_quiet (fail)
          go_wp2_with fail
          go_roundw
          case rel => exact ⟨m.length + 1, L, true, _, _, by omega, rfl, rfl, rfl, by go_num, ⟨hP, hN, hbw.trans (bdrew _ _ _), H1.out.below (bdrew _ _ _), x1⟩, Lib.hid (HS.out.over)⟩
          case measure => simp [intOf] <;> omega
      · have hlt : i < m.length := by omega
        clear hlm
        have hx := List.getElem?_eq_getElem hlt
        generalize m[i] = x at hx
        obtain ⟨⟨xa, xb⟩, xn⟩ := x
        have HX := Lib.hid hx
        clear hx
        have hne : ((i : Int) == (m.length : Int)) = false := by simp; omega
        have klt : (i : Int) < (m.length : Int) := by omega
        set_elt
        have hcall := fun W => before_any W (xa, xb) (p1, p2)
        obtain ⟨bb, hbb⟩ : ∃ bb, befB (xa, xb) (p1, p2) = bb := ⟨_, rfl⟩
        rw [hbb] at hcall
        have HBB := Lib.hid hbb
        clear hbb
        go_upto_region 7 with fail
        go_cut [43] from 12 to 89 (fun v43 wx => ∃ b43 : Bool, v43 = .bool b43 ∧ Hid ((b43 = true → d = false ∧ bb = false) ∧ (b43 = false → d = true ∨ bb = true)) ∧ SetW B w.heap.size w0 wx b o arr t (.slice (some ad) m.length cap) (.slice (some ad2) m.length cap2) m p1 p2 (.slice Ao L.length co) (.slice An L.length cn0) L)
        case first =>
          by_cases hd : d = true
          · subst hd
            go_wp2_with fail
            go_quiet (fail)
            go_wp2_with fail
            go_meet
            exact ⟨false, rfl, Lib.hid ⟨by simp, by simp⟩, SetW.drewN ⟨hP, hN, hbw, H1.out, x1⟩ _⟩
          · obtain rfl : d = false := by simpa using hd
            clear hd
            go_wp2_with fail
            have gcp := fun g => Ext.cell (u := .slice (some ad) m.length cap) cp g
            have g0 := fun g => Ext.cell (u := .int .i64 xa) y0 g
            have g1 := fun g => Ext.cell (u := .int .i64 xb) y1 g
            have g2 := fun g => Ext.cell (u := .int .i64 p1) d0 g
            have g3 := fun g => Ext.cell (u := .int .i64 p2) d1 g
            refine wp_region_ext (by kernel_rfl) (by kernel_rfl) ?_
            repeat (quiet_step (first
              | (go_at_call 68; exact ext_of (hcall _))))
            refine wpQuiet_nil ?_
            rintro w3 ⟨⟨_, b3⟩, rfl⟩
            go_wp2_with fail
            go_meet
            exact ⟨!bb, rfl, Lib.hid (by cases bb <;> simp), SetW.below ⟨hP, hN, hbw, H1.out, x1⟩ b3⟩
        case rest =>
          clear hP hN hbw x1 cp cn f0 f1 d0 d1 H1 hz y0 y1 z0
          obtain ⟨b43, rfl, HB, hW⟩ := hcut
          generalize wc = wr at *
          set_facts
          go_upto_if 43 with fail
          go_cut [6, 7, 8] from 12 to 89 (fun v6 v7 v8 wx => ∃ (L' : List (PK × Int)) (d' : Bool) (ov mv : Value), ov = v6 ∧ mv = v7 ∧ v8 = .bool d' ∧ SetW B w.heap.size w0 wx b o arr t (.slice (some ad) m.length cap) (.slice (some ad2) m.length cap2) m p1 p2 ov mv L' ∧ Hid (SetI m (p1, p2) n i d' L') ∧ Hid (d' = false → bb = true))
          case first =>
            cases b43
            · go_wp2_with fail
              go_meet
              exact ⟨L, d, _, _, rfl, rfl, rfl, ⟨hP, hN, hbw, H1.out, x1⟩, HS, Lib.hid (fun h0 => (HB.out.2 (by simp)).resolve_left (by rw [h0]; simp))⟩
            · obtain ⟨rfl, hbf⟩ := HB.out.1 (by simp)
              have hnb : ∀ (x : PK × Int), m[i]? = some x → ¬ SeqPure.befP x.1 (p1, p2) := by
                intro x hx hb
                have e := HX.out.symm.trans hx
                cases e
                have h9 := befB_iff.2 hb
                rw [HBB.out, hbf] at h9
                cases h9
              have HNB := Lib.hid hnb
              clear hnb hbf
              set_ins
              go_meet
              exact ⟨L, true, _, _, rfl, rfl, rfl, ⟨hP, hN, hbw, H1.out, x1⟩, HS, Lib.hid (fun h0 => nomatch h0)⟩
          case rest =>
            clear hP hN hbw x1 cp cn f0 f1 d0 d1 H1 hz HS hll HB
            obtain ⟨L, d, ov, mv, rfl, rfl, rfl, hW, HS, HQ⟩ := hcut
            obtain ⟨Ao, co, rfl⟩ := own_sl hW.hP
            obtain ⟨An, cn0, rfl⟩ := own_sl hW.hN
            generalize wc = wr at *
            set_facts
            set_tail
end Go.Proofs.Ytaecngdabgnamaa.RefCnt

namespace Go.Proofs.Ytaecngdabgnamaa.RefCnt
open Go.RowKit Go.Maps Go.ChangeShapes Go.WideShapes Go.Deep Go.Proofs.YtaecngdabgnamaaW.PrintWords Go.Proofs.YtaecngdabgnamaaW.PrintLast Go.Proofs.YtaecngdabgnamaaW.PrintMore Base Foot ExtTail PMap
set_option linter.unusedVariables false
set_option linter.unusedSimpArgs false
attribute [local go_sem ↓] Go.wp_at_zero Go.wp_at_succ
attribute [local go_sem high] eqP

/-- what Add leaves -/
def Added (B : Nat) (w : World) (b o : Nat) (arr : Array Value) (t : TypeId) (pv nv : Value) (m : List (PK × Int)) (p : PK) (n : Int) (e : Ending) (w' : World) : Prop :=
  e = .returned (.int .i64 0) ∧ ∃ pv' nv' m', RC B w' b o ((arr.setIfInBounds o pv').setIfInBounds (o + 1) nv') t pv' nv' m' ∧ SetR m p n m' ∧ Upd (CFoot b pv nv) (CFoot b pv' nv') w w'

set_option maxHeartbeats 1600000 in
set_option maxRecDepth 100000 in
/-- a count that isn't below 0, where none was -/
theorem add_new {B : Nat} {w : World} {b o : Nat} {arr : Array Value} {t : TypeId} {pv nv : Value} {m : List (PK × Int)} (h : RC B w b o arr t pv nv m) (hB : B ≤ w.heap.size) (hsm : m.length < 1000) (p : PK) (n : Int) (hp : P64 p) (hn : In64 n) (h0 : 0 ≤ n) (hno : (PMap.look m p).getD 0 = 0) :
    Calls Try.prog 24 #[.pointer (some ⟨b, o, none⟩), vP p, .int .i64 n, .int .i64 1] w (Added B w b o arr t pv nv m p n) := by
  obtain ⟨p1, p2⟩ := p
  have b0 : Below w.heap.size w (w.alloc (.cells #[.int .i64 p1, .int .i64 p2] 23)) := (Below.refl _ _).alloc (Nat.le_refl _) _
  have x0 := heap_alloc_new w (.cells #[.int .i64 p1, .int .i64 p2] 23)
  have hg := get_any (h.below b0) (p1, p2)
  rw [hno] at hg
  have HG := Lib.hid hg
  have HH := Lib.hid h
  have HP64 := Lib.hid hp
  have HN64 := Lib.hid hn
  have hr : 0 ≤ n ∧ n ≤ 9223372036854775807 := ⟨h0, by unfold In64 at hn; omega⟩
  have hd0 := cell_at x0 0
  have hd1 := cell_at x0 1
  simp only [List.getElem?_toArray, List.getElem?_cons_zero, List.getElem?_cons_succ] at hd0 hd1
  clear h hp hn hg hno
  unfold vP
  go_enter Try.func24, Try.ntmps24
  go_wp2_with fail
  refine HG.out.mono ?_
  rintro e w1 ⟨rfl, b1⟩
  have hb1 := b0.trans (b1.mono b0.size)
  have x1 := (b1.block _ (block_lt x0)).trans x0
  have c0 := cell_at x1 0
  have c1 := cell_at x1 1
  simp only [List.getElem?_toArray, List.getElem?_cons_zero, List.getElem?_cons_succ] at c0 c1
  clear hd0 hd1
  generalize w.alloc (.cells #[.int .i64 p1, .int .i64 p2] 23) = w0 at *
  go_wp2_with fail
  refine (mul_one_any n hr _).mono ?_
  rintro e w2 ⟨rfl, rfl⟩
  go_wp2_with fail
  refine (add_zero_any n hr _).mono ?_
  rintro e w2 ⟨rfl, rfl⟩
  go_wp2_with fail
  refine (set_any (HH.out.below hb1) (Nat.le_trans hB hb1.size) hsm (p1, p2) n HP64.out HN64.out).mono ?_
  rintro e w3 ⟨rfl, pv', nv', m', r1, r2, r3⟩
  go_wp2_with fail
  go_ret
  exact ⟨rfl, pv', nv', m', r1, r2, (Upd.of_below hb1).trans r3⟩
set_option maxHeartbeats 1600000 in
set_option maxRecDepth 100000 in
/-- a count that is there is taken away -/
theorem add_off {B : Nat} {w : World} {b o : Nat} {arr : Array Value} {t : TypeId} {pv nv : Value} {m : List (PK × Int)} (h : RC B w b o arr t pv nv m) (hB : B ≤ w.heap.size) (hsm : m.length < 1000) (p : PK) (n : Int) (hp : P64 p) (h0 : 0 ≤ n ∧ n ≤ 9223372036854775807) (hno : (PMap.look m p).getD 0 = n) :
    Calls Try.prog 24 #[.pointer (some ⟨b, o, none⟩), vP p, .int .i64 (-n), .int .i64 1] w (Added B w b o arr t pv nv m p 0) := by
  by_cases hz : n = 0
  · rw [hz]
    rw [hz] at hno
    exact add_new h hB hsm p 0 hp (by unfold In64; omega) (by omega) hno
  · obtain ⟨p1, p2⟩ := p
    have b0 : Below w.heap.size w (w.alloc (.cells #[.int .i64 p1, .int .i64 p2] 23)) := (Below.refl _ _).alloc (Nat.le_refl _) _
    have x0 := heap_alloc_new w (.cells #[.int .i64 p1, .int .i64 p2] 23)
    have hg := get_any (h.below b0) (p1, p2)
    rw [hno] at hg
    have HG := Lib.hid hg
    have HH := Lib.hid h
    have HP64 := Lib.hid hp
    have hneg : ¬ (0 : Int) ≤ -n := by omega
    have hnn : IntKind.i64.wrap (-(-n)) = n := by rw [Int.neg_neg]; exact IntWalk.i64_in _ (by omega)
    have hsub : IntKind.i64.wrap (n - n) = 0 := by rw [Int.sub_self]; rfl
    have hd0 := cell_at x0 0
    have hd1 := cell_at x0 1
    simp only [List.getElem?_toArray, List.getElem?_cons_zero, List.getElem?_cons_succ] at hd0 hd1
    clear h hp hg hno
    unfold vP
    go_enter Try.func24, Try.ntmps24
    go_wp2_with fail
    refine HG.out.mono ?_
    rintro e w1 ⟨rfl, b1⟩
    have hb1 := b0.trans (b1.mono b0.size)
    have x1 := (b1.block _ (block_lt x0)).trans x0
    have c0 := cell_at x1 0
    have c1 := cell_at x1 1
    simp only [List.getElem?_toArray, List.getElem?_cons_zero, List.getElem?_cons_succ] at c0 c1
    clear hd0 hd1
    generalize w.alloc (.cells #[.int .i64 p1, .int .i64 p2] 23) = w0 at *
    go_wp2_with fail
    refine (mul_one_any n h0 _).mono ?_
    rintro e w2 ⟨rfl, rfl⟩
    go_wp2_with fail
    refine (set_any (HH.out.below hb1) (Nat.le_trans hB hb1.size) hsm (p1, p2) 0 HP64.out (by unfold In64; omega)).mono ?_
    rintro e w3 ⟨rfl, pv', nv', m', r1, r2, r3⟩
    go_wp2_with fail
    go_ret
    exact ⟨rfl, pv', nv', m', r1, r2, (Upd.of_below hb1).trans r3⟩
end Go.Proofs.Ytaecngdabgnamaa.RefCnt
