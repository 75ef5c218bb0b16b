/- Layer 14: the reference's heap, a list, walked. -/
import Derived.Test.YtbldnjpdeldabaaHeapA
import Derived.Test.YtbldnjpdeldabaaKindsItem
import Derived.Test.YtbldnjpdeldabaaWEqStruct
namespace Go.Proofs.Ytbldnjpdeldabaa.RefHeap
open Go.RowKit Go.Proofs.YtbldnjpdeldabaaW.PrintWords Go.Proofs.YtbldnjpdeldabaaW.PrintLast Go.Proofs.YtbldnjpdeldabaaW.PrintMore Base Foot Src HeapPure Heap
set_option linter.unusedVariables false
set_option linter.unusedSimpArgs false
attribute [local go_sem ↓] Go.wp_at_zero Go.wp_at_succ
attribute [local go_sem] max2_int min2_int max_two min_two

/-- the reference's heap at block b -/
structure RH (B : Nat) (w : World) (b : Nat) (lv : Value) (l : List Heap.Item) (pu pk : Int) : Prop where
  base : B ≤ b
  blk : w.heap[b]? = some (.cells #[lv, .int .i64 pu, .int .i64 pk] 61 (0, 0))
  row : w.ownsRow B 66 2 lv l.length (l.flatMap enc)
  small : l.length ≤ 1000000
  num : 0 ≤ pu ∧ pu ≤ 1000000 ∧ 0 ≤ pk ∧ pk ≤ 1000000
theorem RH.keep {B : Nat} {w w' : World} {b : Nat} {lv : Value} {l : List Heap.Item} {pu pk : Int} (h : RH B w b lv l pu pk) (hk : ∀ k, HFoot b lv k → w'.heap[k]? = w.heap[k]?) : RH B w' b lv l pu pk :=
  ⟨h.base, (hk b (.inl rfl)).trans h.blk, own_keep h.row (fun k e => hk k (.inr e)), h.small, h.num⟩
theorem RH.foot_lt {B : Nat} {w : World} {b : Nat} {lv : Value} {l : List Heap.Item} {pu pk : Int} (h : RH B w b lv l pu pk) : ∀ k, HFoot b lv k → B ≤ k ∧ k < w.heap.size := by
  rintro k (rfl | h1)
  · exact ⟨h.base, block_lt h.blk⟩
  · exact h.row.lt k h1
theorem RH.below {B : Nat} {w w' : World} {b : Nat} {lv : Value} {l : List Heap.Item} {pu pk : Int} (h : RH B w b lv l pu pk) (hb : Below w.heap.size w w') : RH B w' b lv l pu pk :=
  h.keep fun k hk => hb.block k (h.foot_lt k hk).2
theorem RH.slice {B : Nat} {w : World} {b : Nat} {lv : Value} {l : List Heap.Item} {pu pk : Int} (h : RH B w b lv l pu pk) : ∃ A cap, lv = .slice A l.length cap ∧ l.length ≤ cap ∧ (0 < l.length → ∃ g, A = some ⟨g, 0, none⟩) := by
  rcases h.row.2 with ⟨rfl, h0⟩ | ⟨g, cap, cur, rfl, _, _, hc, _⟩
  · exact ⟨none, 0, by rw [h0], by omega, fun h => by omega⟩
  · exact ⟨_, _, rfl, hc, fun _ => ⟨g, rfl⟩⟩
/-- the row, another one in its place -/
theorem RH.put {B : Nat} {w w2 : World} {b : Nat} {lv lv' : Value} {l l' : List Heap.Item} {pu pk : Int} (h : RH B w b lv l pu pk) (hu : Upd (HFoot b lv) (HFoot b lv) w w2) (hb : w2.heap[b]? = w.heap[b]?)
    (hrow : w2.ownsRow B 66 2 lv' l'.length (l'.flatMap enc)) (hat : ∀ k, lv'.ownBlock = some k → lv.ownBlock = some k ∨ w.heap.size ≤ k) (hs : l'.length ≤ 1000000) :
    RH B (w2.setCell ⟨b, 0, none⟩ lv') b lv' l' pu pk ∧ Upd (HFoot b lv) (HFoot b lv') w (w2.setCell ⟨b, 0, none⟩ lv') := by
  have hb2 := hb.trans h.blk
  have hne : ∀ k, lv'.ownBlock = some k → k ≠ b := fun k hk e => by subst e; exact row_not_cells hrow hb2 (by decide) hk
  refine ⟨⟨h.base, by rw [set_at hb2]; rfl, own_keep hrow (fun k hk => set_blk_eq (hne k hk)), hs, h.num⟩, (hu.trans (Upd.set (p := ⟨b, 0, none⟩) (.inl rfl))).foot ?_⟩
  rintro k (h1 | h1)
  · exact .inl (.inl h1)
  · rcases hat k h1 with h2 | h2
    · exact .inl (.inr h2)
    · exact .inr h2
theorem RH.num1 {B : Nat} {w : World} {b : Nat} {lv : Value} {l : List Heap.Item} {pu pk : Int} (h : RH B w b lv l pu pk) (n : Int) (hn : 0 ≤ n ∧ n ≤ 1000000) :
    RH B (w.setCell ⟨b, 1, none⟩ (.int .i64 n)) b lv l n pk ∧ Upd (HFoot b lv) (HFoot b lv) w (w.setCell ⟨b, 1, none⟩ (.int .i64 n)) := by
  have hne : ∀ k, lv.ownBlock = some k → k ≠ b := fun k hk e => by subst e; exact row_not_cells h.row h.blk (by decide) hk
  have hnum := h.num
  exact ⟨⟨h.base, by rw [set_at h.blk]; rfl, own_keep h.row (fun k hk => set_blk_eq (hne k hk)), h.small, ⟨hn.1, hn.2, hnum.2.2.1, hnum.2.2.2⟩⟩, Upd.set (.inl rfl)⟩
theorem RH.num2 {B : Nat} {w : World} {b : Nat} {lv : Value} {l : List Heap.Item} {pu pk : Int} (h : RH B w b lv l pu pk) (n : Int) (hn : 0 ≤ n ∧ n ≤ 1000000) :
    RH B (w.setCell ⟨b, 2, none⟩ (.int .i64 n)) b lv l pu n ∧ Upd (HFoot b lv) (HFoot b lv) w (w.setCell ⟨b, 2, none⟩ (.int .i64 n)) := by
  have hne : ∀ k, lv.ownBlock = some k → k ≠ b := fun k hk e => by subst e; exact row_not_cells h.row h.blk (by decide) hk
  have hnum := h.num
  exact ⟨⟨h.base, by rw [set_at h.blk]; rfl, own_keep h.row (fun k hk => set_blk_eq (hne k hk)), h.small, ⟨hnum.1, hnum.2.1, hn.1, hn.2⟩⟩, Upd.set (.inl rfl)⟩

/-- the greatest number -/
def IsMax (m : Int) (l : List Heap.Item) : Prop := (∀ y ∈ l, y.1 ≤ m) ∧ ∃ y ∈ l, y.1 = m
theorem IsMax.snoc {m : Int} {l : List Heap.Item} (h : IsMax m l) (x : Heap.Item) : IsMax (max m x.1) (l ++ [x]) := by
  obtain ⟨h1, y, hy, e⟩ := h
  refine ⟨fun z hz => ?_, ?_⟩
  · rcases List.mem_append.1 hz with h | h
    · have := h1 z h; omega
    · rw [List.mem_singleton.1 h]; omega
  · by_cases hx : m ≤ x.1
    · exact ⟨x, by simp, by omega⟩
    · exact ⟨y, by simp [hy], by omega⟩
theorem IsMax.uniq {m m' : Int} {l : List Heap.Item} (h : IsMax m l) (h' : IsMax m' l) : m = m' := by
  obtain ⟨h1, y, hy, e⟩ := h
  obtain ⟨h1', y', hy', e'⟩ := h'
  have := h1 y' hy'
  have := h1' y hy
  omega
theorem IsMax.perm {m : Int} {l l' : List Heap.Item} (h : IsMax m l) (hp : l.Perm l') : IsMax m l' := by
  obtain ⟨h1, y, hy, e⟩ := h
  exact ⟨fun z hz => h1 z (hp.mem_iff.2 hz), y, hp.mem_iff.1 hy, e⟩
theorem root_max {r : Heap.Item} {t : List Heap.Item} (h : HeapFrom ltB (r :: t) 0) : IsMax r.1 (r :: t) :=
  ⟨fun y hy => by have := heap_root_mem ltB_ord h rfl hy; simpa [ltB] using this, r, by simp, rfl⟩

set_option maxHeartbeats 800000 in
set_option maxRecDepth 100000 in
theorem most_none {B : Nat} {w : World} {b : Nat} {lv : Value} {pu pk : Int} (h : RH B w b lv [] pu pk) :
    Calls Try.prog 32 #[.pointer (some ⟨b, 0, none⟩)] w fun e w' => e = .returned (.tuple #[.int .i64 0, .bool false]) ∧ w = w' := by
  obtain ⟨A, cap, rfl, _, _⟩ := h.slice
  have c0 := cell_at h.blk 0
  simp only [List.getElem?_toArray, List.getElem?_cons_zero, List.length_nil] at c0
  go_enter Try.func32, Try.ntmps32
  go_wp2
  go_ret2
  exact ⟨rfl, rfl⟩
set_option maxHeartbeats 1600000 in
set_option maxRecDepth 100000 in
theorem most_some {B : Nat} {w : World} {b : Nat} {lv : Value} {l : List Heap.Item} {pu pk : Int} (h : RH B w b lv l pu pk) (hl : 0 < l.length) :
    Calls Try.prog 32 #[.pointer (some ⟨b, 0, none⟩)] w fun e w' => ∃ m, IsMax m l ∧ e = .returned (.tuple #[.int .i64 m, .bool true]) ∧ w = w' := by
  obtain ⟨A, cap, rfl, hcap, hA⟩ := h.slice
  obtain ⟨g, rfl⟩ := hA hl
  have c0 := cell_at h.blk 0
  simp only [List.getElem?_toArray, List.getElem?_cons_zero] at c0
  have hs := h.small
  have hx := List.getElem?_eq_getElem hl
  have htk : l.take 1 = [l[0]] := by cases l with
    | nil => simp at hl
    | cons a t => rfl
  generalize l[0] = x at hx htk
  obtain ⟨g1, cap1, e, _, hxj⟩ := own_get enc_len h.row (by decide) hx
  cases e
  have x0 := hxj 0 _ rfl
  simp only [Nat.zero_mul, Nat.zero_add] at x0
  have HTK := Lib.hid htk
  have H := Lib.hid h
  clear hx hxj htk h
  have hl0 : ((l.length : Int) == 0) = false := beq_eq_false_iff_ne.2 (by omega)
  go_enter Try.func32, Try.ntmps32
  go_wp2_with fail
  go_loop [4, 5] (fun v4 v5 => ∃ (k : Nat) (m : Int), 1 ≤ k ∧ k ≤ l.length ∧ v5 = .int .i64 (k : Int) ∧ v4 = .int .i64 m ∧ Hid (IsMax m (l.take k))) (fun _ i => l.length - (intOf i).toNat)
  case atStart => exact ⟨1, x.1, by omega, by omega, rfl, rfl, by rw [HTK.out]; exact ⟨by simp, x, by simp, rfl⟩⟩
  case round =>
    obtain ⟨k, m, hk1, hk, rfl, rfl, hM⟩ := hrel
    by_cases hlt : k < l.length
    · have hy := List.getElem?_eq_getElem hlt
      have htk : l.take (k + 1) = l.take k ++ [l[k]] := List.take_succ_eq_append_getElem hlt
      generalize l[k] = y at hy htk
      obtain ⟨g1, cap1, e, _, hyj⟩ := own_get enc_len H.out.row (by omega) hy
      cases e
      have y0 := hyj 0 _ rfl
      rw [Nat.add_zero] at y0
      have hM2 : Hid (IsMax (max m y.1) (l.take (k + 1))) := by rw [htk]; exact hM.snoc y
      clear hy hyj htk
      have k0 : (0 : Int) ≤ (k : Int) := by omega
      have k1 : (k : Int) < (l.length : Int) := by omega
      generalize y.1 = ya at *
      have hmm : (if m < ya then ya else m) = max m ya := by by_cases h : m < ya <;> simp [h] <;> omega
      have HMM := Lib.hid hmm
      clear hmm
      go_wp2_with fail
      go_round
      case rel => exact ⟨k + 1, _, by omega, by omega, by go_num, rfl, by rw [HMM.out]; exact hM2⟩
      case measure => simp [intOf]; omega
    · obtain rfl : k = l.length := by omega
      rw [List.take_length] at hM
      go_wp2_with fail
      go_ret2
      exact ⟨m, hM, rfl, rfl⟩
end Go.Proofs.Ytbldnjpdeldabaa.RefHeap
