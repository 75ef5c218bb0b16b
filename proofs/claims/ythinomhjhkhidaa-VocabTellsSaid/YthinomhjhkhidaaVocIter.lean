/- Layer 21: slices.Values at texts, for every loop body; the sorted keys of a map; Texts. -/
import Derived.Test.YthinomhjhkhidaaVocRead
import Derived.Test.YthinomhjhkhidaaShelfS
import Derived.RangeFuncBox
import Derived.RangeFuncLeaves
import Derived.RangeFuncNested
import Derived.RangeFuncKeeps
import Derived.Shelf.Abstract
import Derived.OwnWalkIn
import Derived.TacticsInMore
import Derived.LoopNIn
import Derived.LoopIn
import Derived.Maps.AppendAt
namespace Go.Proofs.Ythinomhjhkhidaa.Voc
open Go.RowKit Go.Maps Go.Sort Go.Shelf Go.Proofs.YthinomhjhkhidaaW.PrintWords Go.Proofs.YthinomhjhkhidaaW.PrintLast Go.Proofs.YthinomhjhkhidaaW.PrintMore Base Foot ExtTail SymPure Kinds FilePure FileJoin SMap
set_option linter.unusedVariables false
set_option linter.unusedSimpArgs false
attribute [local go_sem] Oper.semAt_some

abbrev FV1 : Nat := 67
def upto {α : Type} (f : Nat → α) (k : Nat) : List α := (List.range k).map f
theorem upto_succ {α : Type} (f : Nat → α) (k : Nat) : upto f (k + 1) = upto f k ++ [f k] := by simp [upto, List.range_succ]
theorem upto_length {α : Type} (f : Nat → α) (k : Nat) : (upto f k).length = k := by simp [upto]
abbrev atB (zs : List ByteArray) (j : Nat) : ByteArray := zs[j]?.getD ByteArray.empty
theorem upto_take (zs : List ByteArray) {k : Nat} (hk : k ≤ zs.length) : upto (atB zs) k = zs.take k := by
  apply List.ext_getElem
  · simp [upto, hk]
  · intro i h1 h2
    have : i < zs.length := by simp [upto] at h1; omega
    simp [upto, atB, this]
theorem upto_all (zs : List ByteArray) : upto (atB zs) zs.length = zs := by rw [upto_take zs (Nat.le_refl _), List.take_length]
/-- a round keeps the slice's block -/
def KB (bo : Option Nat) (W W' : World) : Prop := ∀ k, bo = some k → W'.heap[k]? = W.heap[k]?
theorem KB.cell {b o : Nat} {W W' : World} (h : KB (some b) W W') : W'.cell? ⟨b, o, none⟩ = W.cell? ⟨b, o, none⟩ := by
  have := h b rfl
  unfold World.cell?
  rw [this]
theorem kb_t {bo : Option Nat} {A B C : World} (h : KB bo A B) (g : KB bo B C) : KB bo A C := fun k e => (g k e).trans (h k e)
theorem kb_b {bo : Option Nat} {w : World} (hb : ∀ k, bo = some k → k < w.heap.size) (W : World) (l : Nat) (o o' : Obj) (hl : w.heap.size ≤ l) : KB bo W (W.putObj l o') := fun k e => World.putObj_heap_other (by have := hb k e; omega)
set_option maxRecDepth 100000 in
set_option maxHeartbeats 2000000 in
theorem values1_in (F : Fence) (n : Nat) (h7 : F.fn FV1) (hro : F.round = none) (hn : 1 ≤ n) (l Bs b off len cap : Nat) (zs : List ByteArray) (hreach : len * 16 ≤ 140737488351232) (J Jx : List ByteArray → World → Prop)
    (hY : ∀ pre x W, J pre W → pre.length < len → YieldAt F (n - 1) Try.prog l #[.string x] W fun e W' =>
      (e = .returned (.bool true) ∧ J (pre ++ [x]) W' ∧ KB (some b) W W') ∨ (e = .returned (.bool false) ∧ Jx (pre ++ [x]) W'))
    (W : World) (hBs : W.cell? ⟨Bs, 0, none⟩ = some (.slice (some ⟨b, off, none⟩) len cap)) (hc : ∀ j, j < len → W.cell? ⟨b, off + j, none⟩ = some (.string (zs[j]?.getD ByteArray.empty))) (h0 : J [] W) :
    CallsIn F n Try.prog FV1 #[.func (.yield l) #[] #[], .pointer (some ⟨Bs, 0, none⟩)] W fun e W' => (∃ v, e = .returned v) ∧
      ((∃ ys, ys = upto (atB zs) len ∧ J ys W') ∨ (∃ pre, (∃ k, k ≤ len ∧ pre = upto (atB zs) k) ∧ Jx pre W')) := by
  refine callsIn_of_wp Try.func67 rfl h7 ?_ hro
  simp only [Try.ntmps67, List.size_toArray, List.length_cons, List.length_nil, Nat.reduceAdd, Nat.reduceSub, Array.replicate_succ, Array.replicate_zero, List.push_toArray, List.append_toArray, List.nil_append, List.cons_append]
  gi_wp2
  gi_loopw [7] (fun i wr => ∃ k : Nat, k ≤ len ∧ i = .int .i64 k ∧ J (upto (atB zs) k) wr ∧ KB (some b) W wr)
    (fun i _ => len - (intOf i).toNat)
  case atStart => exact ⟨0, Nat.zero_le _, rfl, h0, fun _ _ => rfl⟩
  case round =>
    obtain ⟨k, hk, rfl, hJs, hnx⟩ := hrel
    have hcx : k < len → wr.cell? ⟨b, off + k, none⟩ = some (.string (zs[k]?.getD ByteArray.empty)) := fun h => hnx.cell.trans (hc k h)
    by_cases hlt : k < len
    · obtain ⟨fn, tmps, assign, body, hy, hR⟩ := hY _ (zs[k]?.getD ByteArray.empty) wr hJs (by rw [upto_length]; exact hlt)
      have hcx' := hcx hlt
      gi_wp2
      refine hR.mono ?_
      rintro e W3 (⟨rfl, hJ3, hk3⟩ | ⟨rfl, hJx3⟩)
      · gi_wp2
        go_roundw
        case rel => exact ⟨k + 1, by omega, by simp, by rw [upto_succ]; exact hJ3, kb_t hnx hk3⟩
        case measure => simp [intOf]; omega
      · gi_wp2
        refine bodyPost_ret (results_none rfl _ _ _) rfl ?_
        exact ⟨⟨_, rfl⟩, .inr ⟨_, ⟨k + 1, by omega, (upto_succ _ _).symm⟩, hJx3⟩⟩
    · obtain rfl : k = len := by omega
      gi_wp2
      go_end0
      exact ⟨⟨_, rfl⟩, .inl ⟨_, rfl, hJs⟩⟩
/-- the slice value sv holds the texts zs; or it is nil and there are none -/
def Strs (W : World) (sv : Value) (zs : List ByteArray) : Prop :=
  (sv = .slice none 0 0 ∧ zs = []) ∨ ∃ b off cap, sv = .slice (some ⟨b, off, none⟩) zs.length cap ∧ b < W.heap.size ∧ ∀ j, j < zs.length → W.cell? ⟨b, off + j, none⟩ = some (.string (zs[j]?.getD ByteArray.empty))
theorem Strs.below {A B : World} (h : Below A.heap.size A B) {sv : Value} {zs : List ByteArray} : Strs A sv zs → Strs B sv zs
  | .inl e => .inl e
  | .inr ⟨b, off, cap, e, hb, hc⟩ => .inr ⟨b, off, cap, e, Nat.lt_of_lt_of_le hb h.size, fun j hj => (h.cell (p := ⟨b, off + j, none⟩) hb).trans (hc j hj)⟩
set_option maxRecDepth 100000 in
set_option maxHeartbeats 1000000 in
theorem values1_nil_in (F : Fence) (n : Nat) (h7 : F.fn FV1) (hro : F.round = none) (l Bs : Nat) (J : List ByteArray → World → Prop) (W : World) (hBs : W.cell? ⟨Bs, 0, none⟩ = some (.slice none 0 0)) (h0 : J [] W) :
    CallsIn F n Try.prog FV1 #[.func (.yield l) #[] #[], .pointer (some ⟨Bs, 0, none⟩)] W fun e W' => (∃ v, e = .returned v) ∧ J [] W' := by
  refine callsIn_of_wp Try.func67 rfl h7 ?_ hro
  simp only [Try.ntmps67, List.size_toArray, List.length_cons, List.length_nil, Nat.reduceAdd, Nat.reduceSub, Array.replicate_succ, Array.replicate_zero, List.push_toArray, List.append_toArray, List.nil_append, List.cons_append]
  gi_wp2
  gi_loopw [7] (fun i wr => i = .int .i64 0 ∧ J [] wr) (fun _ _ => 0)
  case atStart => exact ⟨rfl, h0⟩
  case round =>
    obtain ⟨rfl, hJs⟩ := hrel
    gi_wp2
    go_end0
    exact ⟨⟨_, rfl⟩, hJs⟩
theorem values_stops (F : Fence) (n : Nat) (h7 : F.fn FV1) (hro : F.round = none) (hn : 1 ≤ n) (Bs : Nat) (sv : Value) (zs : List ByteArray) (hreach : zs.length * 16 ≤ 140737488351232) (w : World) (hBs : Bs < w.heap.size)
    (hc : w.cell? ⟨Bs, 0, none⟩ = some sv) (hI : Strs w sv zs) :
    SeqStopsK F n Try.prog FV1 #[.pointer (some ⟨Bs, 0, none⟩)] (fun x : ByteArray => #[Value.string x]) (KB sv.ownBlock) (fun ys => ys = zs) (fun pre => pre <+: zs) zs.length w := fun l J Jx W hW _ _ hY h0 => by
  have hc' := (hW.cell (p := ⟨Bs, 0, none⟩) hBs).trans hc
  rcases hI.below hW with ⟨rfl, rfl⟩ | ⟨b, off, cap, rfl, hb, hcs⟩
  · exact (values1_nil_in F n h7 hro l Bs J W hc' h0).mono fun e W' ⟨he, hj⟩ => ⟨he, .inl ⟨_, rfl, hj⟩⟩
  · refine (values1_in F n h7 hro hn l Bs b off zs.length cap zs hreach J Jx hY W hc' hcs h0).mono ?_
    rintro e W' ⟨he, ⟨ys, rfl, hj⟩ | ⟨pre, ⟨k, hk, rfl⟩, hj⟩⟩
    · exact ⟨he, .inl ⟨_, upto_all zs, hj⟩⟩
    · exact ⟨he, .inr ⟨_, by rw [upto_take zs hk]; exact List.take_prefix _ _, hj⟩⟩
theorem Strs.lt {W : World} {sv : Value} {zs : List ByteArray} (h : Strs W sv zs) : ∀ k, sv.ownBlock = some k → k < W.heap.size := fun k e => by
  rcases h with ⟨rfl, _⟩ | ⟨b, off, cap, rfl, hb, _⟩
  · cases e
  · cases e; exact hb
/-! ### the map's keys, sorted -/
abbrev tSM : TypeId := 73
abbrev FSK : Nat := 70
theorem sortsS (m : Nat) : AnyZ.SortsIn Try.prog Try.sortedS_ren Fence.wide m :=
  ⟨fun blk off cap ss W hH hblk hsz => callsIn_wide.2 (AnyM.slices_Sort_string Try.sortS blk off cap ss W hH hblk hsz), fun p cap W => callsIn_wide.2 (AnyM.slices_Sort_string_none Try.sortS p cap W)⟩
theorem keysS_any (mb : Option Nat) (W : World) : Calls Try.prog 47 #[.map mb] W fun e w' => e = .returned (.func (.func FSK) #[] #[.pointer (some ⟨W.heap.size, 0, none⟩)]) ∧ w' = W.alloc (.cells #[.map mb] tSM) :=
  (callsIn_wide (n := 5)).1 (AnyZ.keys_in Try.keysS Fence.wide 5 trivial rfl mb W)
def Sorted (m : List Wd) (ks : List (List UInt8)) : Prop := ks.Perm (m.map fun x => x.1.data.toList) ∧ ks.Pairwise fun a b => a ≤ b
set_option maxHeartbeats 1000000 in
theorem sortedS_any {w : World} {mb : Nat} {m : List Wd} (h : PM w mb m) (hl : m.length ≤ 900000) :
    Calls Try.prog 46 #[.func (.func FSK) #[] #[.pointer (some ⟨w.heap.size, 0, none⟩)]] (w.alloc (.cells #[.map (some mb)] tSM)) fun e w' => ∃ (v : Value) (ks : List (List UInt8)), e = .returned v ∧ Sorted m ks ∧
      w'.ownsRow (w.heap.size + 1) 9 1 v ks.length (ks.map encStr) ∧ Below (w.alloc (.cells #[.map (some mb)] tSM)).heap.size (w.alloc (.cells #[.map (some mb)] tSM)) w' := by
  have hsrt : ∀ ss : List (List UInt8), (ss.mergeSort fun x y => decide (x ≤ y)).Pairwise fun a b => a ≤ b := fun ss => by
    refine (List.pairwise_mergeSort (le := fun x y : List UInt8 => decide (x ≤ y)) (fun a b c h1 h2 => ?_) (fun a b => ?_) ss).imp (fun h => by simpa using h)
    · simp only [decide_eq_true_eq] at *; exact List.le_trans h1 h2
    · simp only [Bool.or_eq_true, decide_eq_true_eq]; exact List.le_total a b
  refine (callsIn_wide (n := 5)).1 ?_
  obtain ⟨D, hown, hr⟩ := h
  have hbl := hown.lt
  have hsz := hr.size
  have hseq : SeqGives Fence.wide 2 Try.prog FSK #[.pointer (some ⟨w.heap.size, 0, none⟩)] encStr (fun ss => ss.Perm (strKeys D)) (Maps.size D) (w.alloc (.cells #[.map (some mb)] tSM)) :=
    AnyZ.keys_gives (ρ := Try.keysS_ren) { Try.keysS with } Fence.wide _ trivial rfl (by omega) w.heap.size mb m.length D _ (by simp) (by simp) (by
      obtain ⟨es, clock, hb, Ft, hs, hD⟩ := hown
      exact ⟨es, clock, (Below.heap_alloc _ _ mb hbl).trans hb, Ft, hs, hD⟩)
  refine (AnyZ.sorted_in Try.sortedS Fence.wide 5 trivial trivial trivial trivial rfl (by omega) (sortsS _) (enters_of Try.func69 (by kernel_rfl) rfl) FSK #[.pointer (some ⟨w.heap.size, 0, none⟩)] trivial (enters_of Try.func70 (by kernel_rfl) rfl) _ _ (by rw [hsz]; unfold maxLen; omega) (by rw [hsz]; omega) _ hseq).mono ?_
  rintro e w' ⟨v, ss, rfl, hS, hrow, _, hb⟩
  refine ⟨v, ss.mergeSort (fun x y => decide (x ≤ y)), rfl, ⟨(List.mergeSort_perm ss _).trans (hS.trans (keys_perm hown hr).symm), hsrt ss⟩, ?_, hb⟩
  rw [List.length_mergeSort]
  have h9 : w'.ownsRow (w.alloc (.cells #[.map (some mb)] tSM)).heap.size 9 1 v ss.length ((ss.mergeSort (fun x y => decide (x ≤ y))).map encStr) := hrow
  simpa using h9
/-! ### Texts -/
attribute [local go_sem ↓] Go.wp_at_zero Go.wp_at_succ
abbrev FN1 : Nat := 44
set_option maxHeartbeats 800000 in
theorem values_any (a : Option Addr) (len cap : Nat) (w : World) :
    Calls Try.prog 45 #[.slice a len cap] w fun e w' => e = .returned (.func (.func FV1) #[] #[.pointer (some ⟨w.heap.size, 0, none⟩)]) ∧ w' = w.alloc (.cells #[.slice a len cap] 37) := by
  go_enter Try.func45, Try.ntmps45
  go_wp2_with fail
  go_ret
  exact ⟨rfl, rfl⟩
set_option maxHeartbeats 800000 in
theorem texts_nil (w : World) : Calls Try.prog 23 #[.pointer none] w fun e w' => e = .returned (.func (.func FN1) #[] #[]) ∧ w' = w := by
  go_enter Try.func23, Try.ntmps23
  go_wp2_with fail
  go_ret
  exact ⟨rfl, rfl⟩
/-- the texts of keys -/
def kTx (ks : List (List UInt8)) : List ByteArray := ks.map fun k => ⟨k.toArray⟩
theorem strs_of {W : World} {B : Nat} {v : Value} {ks : List (List UInt8)} (h : W.ownsRow B 9 1 v ks.length (ks.map encStr)) : Strs W v (kTx ks) := by
  have hl : (kTx ks).length = ks.length := by simp [kTx]
  rcases h.2 with ⟨rfl, h0⟩ | ⟨g, cap, cur, rfl, hb, hg, hc, hm, hs, ht⟩
  · refine .inl ⟨rfl, ?_⟩
    have : ks = [] := List.eq_nil_of_length_eq_zero h0
    rw [this]; rfl
  · refine .inr ⟨g, 0, cap, by rw [hl], block_lt hg, fun j hj => ?_⟩
    rw [hl] at hj
    have h1 : cur.toList[j]? = some (.string ⟨ks[j].toArray⟩) := by
      have e1 : (List.take (ks.length * 1) cur.toList)[j]? = (ks.map encStr)[j]? := by rw [ht]
      rw [List.getElem?_take_of_lt (by omega), List.getElem?_map, List.getElem?_eq_getElem hj] at e1
      exact e1
    have h2 : (kTx ks)[j]?.getD ByteArray.empty = ⟨ks[j].toArray⟩ := by simp [kTx, hj]
    rw [cell_at hg, h2, Nat.zero_add, ← Array.getElem?_toList]
    exact h1
set_option maxHeartbeats 1600000 in
theorem texts_any {w : World} {b md mu : Nat} {D U : List Wd} {k : Int} (h : VT w b md mu D U k) (hl : D.length ≤ 900000) :
    Calls Try.prog 23 #[.pointer (some ⟨b, 0, none⟩)] w fun e w' => ∃ (bx : Nat) (v : Value) (ks : List (List UInt8)), e = .returned (.func (.func FV1) #[] #[.pointer (some ⟨bx, 0, none⟩)]) ∧ Sorted D ks ∧
      bx < w'.heap.size ∧ w'.cell? ⟨bx, 0, none⟩ = some v ∧ Strs w' v (kTx ks) ∧ (∀ k, v.ownBlock = some k → w.heap.size ≤ k) ∧ Below w.heap.size w w' := by
  have c0 := cell_at h.blk 0
  simp only [List.getElem?_toArray, List.getElem?_cons_zero] at c0
  have hk := keysS_any (some md) w
  have hs := sortedS_any h.pd hl
  clear h
  go_enter Try.func23, Try.ntmps23
  go_wp2_with fail
  refine hk.mono ?_
  rintro e w1 ⟨rfl, rfl⟩
  go_wp2_with fail
  refine hs.mono ?_
  rintro e w2 ⟨v, ks, rfl, hS, hrow, hb⟩
  obtain ⟨A3, c3, rfl⟩ := slcT hrow
  have hv := values_any A3 ks.length c3 w2
  clear hs hk
  go_wp2_with fail
  refine hv.mono ?_
  rintro e w3 ⟨rfl, rfl⟩
  go_wp2_with fail
  go_ret
  have hb0 := ((Below.refl _ w).alloc (Nat.le_refl _) (.cells #[.map (some md)] tSM)).trans (hb.mono (by simp))
  refine ⟨w2.heap.size, _, ks, rfl, hS, by simp, cell_at (heap_alloc_new w2 _) 0, (strs_of hrow).below ((Below.refl _ _).alloc (Nat.le_refl _) _), fun k e => ?_, hb0.alloc hb0.size _⟩
  have := (hrow.lt k e).1
  omega
end Go.Proofs.Ythinomhjhkhidaa.Voc
